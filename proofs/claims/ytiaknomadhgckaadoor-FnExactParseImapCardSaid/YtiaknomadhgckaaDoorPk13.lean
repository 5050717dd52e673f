/- Two operations that are ready at once. The specification's ParseImap: what it rests on. The specification's ParseImap. -/
import Derived.Test.YtiaknomadhgckaaDoorPk9
import Derived.Test.YtiaknomadhgckaaDoorPk12
import Derived.Test.YtiaknomadhgckaaDoorPk11
namespace Go.Proofs.YtiaknomadhgckaaDoor.Mem
open Go.RowKit
set_option linter.unusedVariables false
section
variable {P : Program} {md : Region.Mode} {ops : Array Oper} {T : World → Prop} {L : List Nat} {Q : Exit → Act → World → Prop} {o : Oper} {a : Act} {w : World} {v : Value}
theorem reg_step2 {i j : Nat} {d d' : Option Nat} {op op' : Op} {ty ty' : TypeId} {pos pos' : String} {af af' : Array Edge} {fuel : Nat} {ls : Array Bool} (hi : ops[i]? = some ⟨d, op, ty, pos, af, none⟩) (hj : ops[j]? = some ⟨d', op', ty', pos', af', none⟩) (hr : Region.ready md ops ls = [i, j])
    (h1 : ∀ K : Act → World → Prop, Shut (∀ a w, (i ∉ L → T w) → RegR P md ops Q L T fuel (ls.setIfInBounds i true) a w → K a w) → Oper.wp P ⟨d, op, ty, pos, af, none⟩ a w K Q)
    (h2 : ∀ K : Act → World → Prop, Shut (∀ a w, (j ∉ L → T w) → RegR P md ops Q L T fuel (ls.setIfInBounds j true) a w → K a w) → Oper.wp P ⟨d', op', ty', pos', af', none⟩ a w K Q) : RegR P md ops Q L T (fuel + 1) ls a w := by
  refine ⟨fun h0 => absurd (hr.symm.trans h0) (by simp), ?_⟩
  rw [hr]
  intro x hx
  rcases List.mem_cons.1 hx with rfl | hx
  · refine wpOp_step hi fun K' hK => ?_
    rw [if_pos (by simp [Region.wanted])]
    exact h1 K' fun a w h1 h2 => hK a w ⟨h1, h2⟩
  · obtain rfl := List.mem_singleton.1 hx
    refine wpOp_step hj fun K' hK => ?_
    rw [if_pos (by simp [Region.wanted])]
    exact h2 K' fun a w h1 h2 => hK a w ⟨h1, h2⟩
end
end Go.Proofs.YtiaknomadhgckaaDoor.Mem

namespace Go.Proofs.YtiaknomadhgckaaDoor
open Go.RowKit Mem
set_option linter.unusedVariables false
set_option linter.unusedSimpArgs false
def setU (x : CmdT) : CmdT := (x.1, x.2.1, x.2.2.1, decide (x.1 ≠ 0), x.2.2.2.2)
theorem fetch_U (t r : Bytes) : setU (fetchC t false r) = fetchC t true r := by
  unfold fetchC
  split
  · rfl
  · rfl
theorem store_U (t r : Bytes) : setU (storeC t false r) = storeC t true r := by
  unfold storeC
  split
  · rfl
  · rfl
theorem fetch_lo (v : Bytes) : loL v = [102, 101, 116, 99, 104] ↔ upL v = [70, 69, 84, 67, 72] := lo_is v _ _ (by decide) (by decide)
theorem store_lo (v : Bytes) : loL v = [115, 116, 111, 114, 101] ↔ upL v = [83, 84, 79, 82, 69] := lo_is v _ _ (by decide) (by decide)
theorem fetch_nil (t : Bytes) (u : Bool) : fetchC t u [] = badC t := by unfold fetchC; exact if_neg (fun h => h.2 (by decide))
theorem store_nil (t : Bytes) (u : Bool) : storeC t u [] = badC t := by unfold storeC; exact if_neg (fun h => h.2.1 (by decide))
theorem verb_U (t v r : Bytes) (b : Bool) (hb : b = false → r = []) : verbC t true (upL v) b r = setU (onSetL t (loL v) r) := by
  unfold verbC onSetL
  simp only [fetch_lo, store_lo]
  split
  · cases b
    · rw [hb rfl, fetch_nil]; rfl
    · rw [fetch_U]; rfl
  split
  · cases b
    · rw [hb rfl, store_nil]; rfl
    · rw [store_U]; rfl
  · exact if_neg (fun h => by cases h.2)
theorem verb_on (t v r : Bytes) : verbC t false (upL v) true r = onSetL t (loL v) r := by
  unfold verbC onSetL
  simp only [fetch_lo, store_lo]
  split
  · rfl
  split
  · rfl
  · exact if_neg (fun h => by cases h.1)
theorem verb_no (t v r : Bytes) : verbC t false (upL v) false r = if loL v = [110, 111, 111, 112] then kindC t 1 else if loL v = [108, 111, 103, 111, 117, 116] then kindC t 2 else if loL v = [101, 120, 112, 117, 110, 103, 101] then kindC t 11 else badC t := by
  unfold verbC plainK
  simp only [lo_is v [78, 79, 79, 80] [110, 111, 111, 112] (by decide) (by decide), lo_is v [76, 79, 71, 79, 85, 84] [108, 111, 103, 111, 117, 116] (by decide) (by decide), lo_is v [69, 88, 80, 85, 78, 71, 69] [101, 120, 112, 117, 110, 103, 101] (by decide) (by decide)]
  by_cases h1 : upL v = [70, 69, 84, 67, 72]
  · rw [h1]; rfl
  by_cases h2 : upL v = [83, 84, 79, 82, 69]
  · rw [h2]; rfl
  rw [if_neg h1, if_neg h2, if_pos (by trivial)]
  unfold kindC badC
  repeat' split
  all_goals rfl
theorem rest_spec (t rest : Bytes) : restC t rest = if (cutL 32 rest).2.2 = false then (if loL (cutL 32 rest).1 = [110, 111, 111, 112] then kindC t 1 else if loL (cutL 32 rest).1 = [108, 111, 103, 111, 117, 116] then kindC t 2 else if loL (cutL 32 rest).1 = [101, 120, 112, 117, 110, 103, 101] then kindC t 11 else badC t)
    else if loL (cutL 32 rest).1 = [117, 105, 100] then setU (onSetL t (loL (cutL 32 (cutL 32 rest).2.1).1) (cutL 32 (cutL 32 rest).2.1).2.1) else onSetL t (loL (cutL 32 rest).1) (cutL 32 rest).2.1 := by
  have hu : loL (cutL 32 rest).1 = [117, 105, 100] ↔ upL (cutL 32 rest).1 = uidU := lo_is _ _ _ (by decide) (by decide)
  unfold restC
  cases hb : (cutL 32 rest).2.2
  · rw [if_neg (fun h => by cases h.2), if_pos rfl, verb_no]
  · rw [if_neg (c := true = false) (fun h => by cases h)]
    by_cases h : upL (cutL 32 rest).1 = uidU
    · rw [if_pos ⟨h, rfl⟩, if_pos (hu.2 h), verb_U _ _ _ _ (fun h => by rw [cutL_no 32 _ h])]
    · rw [if_neg (fun hh => h hh.1), if_neg (fun hh => h (hu.1 hh)), verb_on]
theorem app_spec (t rest body : Bytes) : appC t rest body = if loL (cutL 32 rest).1 = [97, 112, 112, 101, 110, 100] ∧ (cutL 32 rest).2.2 = true then appT t (cutL 32 rest).2.1 body else badC t := by
  have hu : loL (cutL 32 rest).1 = [97, 112, 112, 101, 110, 100] ↔ upL (cutL 32 rest).1 = appU := lo_is _ _ _ (by decide) (by decide)
  unfold appC
  simp only [hu]
theorem own_uid {W : World} {lo hi : Nat} {v : Value} {x : CmdT} (h : OwV true dCmd W lo hi v x) (b : Bool) : ∃ A4 q4 A8 q8, v = .agg #[.int .i64 x.1, .string ⟨(x.2.1).toArray⟩, .int .u32 x.2.2.1, .bool x.2.2.2.1, .slice A4 x.2.2.2.2.1.length q4, .int .i64 x.2.2.2.2.2.1, .int .i64 x.2.2.2.2.2.2.1, .int .u32 x.2.2.2.2.2.2.2.1, .slice A8 x.2.2.2.2.2.2.2.2.length q8] ∧
    OwV true dCmd W lo hi (.agg #[.int .i64 x.1, .string ⟨(x.2.1).toArray⟩, .int .u32 x.2.2.1, .bool b, .slice A4 x.2.2.2.2.1.length q4, .int .i64 x.2.2.2.2.2.1, .int .i64 x.2.2.2.2.2.2.1, .int .u32 x.2.2.2.2.2.2.2.1, .slice A8 x.2.2.2.2.2.2.2.2.length q8]) (x.1, x.2.1, x.2.2.1, b, x.2.2.2.2) := by
  obtain ⟨A4, q4, A8, q8, hv⟩ := cellsCmd h.rd
  obtain ⟨cs, F, rfl, hM, hF⟩ := h
  have hcs : cs.toArray = _ := Value.agg.inj hv
  have hcl : cs = [.int .i64 x.1, .string ⟨(x.2.1).toArray⟩, .int .u32 x.2.2.1, .bool x.2.2.2.1, .slice A4 x.2.2.2.2.1.length q4, .int .i64 x.2.2.2.2.2.1, .int .i64 x.2.2.2.2.2.2.1, .int .u32 x.2.2.2.2.2.2.2.1, .slice A8 x.2.2.2.2.2.2.2.2.length q8] := by
    have := congrArg Array.toList hcs
    simpa using this
  refine ⟨A4, q4, A8, q8, hv, ?_⟩
  obtain ⟨v', G, hg, hb, -, hput⟩ := fldCmd3.M hM
  obtain ⟨F', hM', hF'⟩ := hput W (.bool b) b [] (fun _ _ _ => rfl) ⟨rfl, rfl⟩ (by simp)
  refine ⟨_, F', ?_, hM', fun k hk => ?_⟩
  · rw [hcl]; rfl
  · rcases hF' k hk with hk | hk
    · exact hF k hk
    · cases hk
theorem ret_ow {w w6 W : World} {lo hi R : Nat} {v : Value} {x : CmdT} (ho : OwV true dCmd w6 lo hi v x) (hlo : w.heap.size ≤ lo) (hhi : hi ≤ w6.heap.size) (hm : Mod (fun k => k = R) w6 W) (hR : R < lo) (hN : New w W) : RetV true dCmd w x (.returned v) W := by
  obtain ⟨cs, F, rfl, hM, hF⟩ := ho
  exact ⟨_, rfl, ⟨cs, F, rfl, dCmd.M_mod hM (fun k hk => hm.block k (dCmd.M_lt hM k hk) (fun h => by have := (hF k hk).1; omega)), fun k hk => ⟨Nat.le_trans hlo (hF k hk).1, Nat.lt_of_lt_of_le (hF k hk).2 (Nat.le_trans hhi hm.size)⟩⟩, hN⟩
theorem ret_kind {w W : World} {t : Bytes} {k : Int} (hk : IntKind.i64.wrap k = k) (ht : t.length ≤ 9223372036854775807) (hm : New w W) : RetV true dCmd w (kindC t k) (.returned (.agg #[.int .i64 k, .string ⟨t.toArray⟩, .int .u32 0, .bool false, .slice none 0 0, .int .i64 0, .int .i64 0, .int .u32 0, .slice none 0 0])) W :=
  ⟨_, rfl, ⟨_, _, rfl, mCmd (x := kindC t k) (F4 := []) (F8 := []) hk ht (show IntKind.u32.wrap 0 = 0 by decide) (show IntKind.i64.wrap 0 = 0 by decide) (show IntKind.i64.wrap 0 = 0 by decide) (show IntKind.u32.wrap 0 = 0 by decide) (Own.nil _ _ _) (Own.nil _ _ _) (by simp), by simp⟩, hm⟩
theorem ret_app {w W : World} {t body : Bytes} {fl : Int} {A : Option Addr} {c : Nat} {F : List Nat} (hf : IntKind.u32.wrap fl = fl) (ht : t.length ≤ 9223372036854775807) (ho : Own Ty.byte 5 W F (.slice A body.length c) body) (hF : ∀ k, k ∈ F → w.heap.size ≤ k) (hm : New w W) : RetV true dCmd w (12, t, 0, false, [], 0, 0, fl, body) (.returned (.agg #[.int .i64 12, .string ⟨t.toArray⟩, .int .u32 0, .bool false, .slice none 0 0, .int .i64 0, .int .i64 0, .int .u32 fl, .slice A body.length c])) W :=
  ⟨_, rfl, ⟨_, _, rfl, mCmd (x := (12, t, 0, false, [], 0, 0, fl, body)) (F4 := []) (F8 := F) (show IntKind.i64.wrap 12 = 12 by decide) ht (show IntKind.u32.wrap 0 = 0 by decide) (show IntKind.i64.wrap 0 = 0 by decide) (show IntKind.i64.wrap 0 = 0 by decide) hf (Own.nil _ _ _) ho (by simp), fun k hk => by simp at hk; exact ⟨hF k hk, ho.lt k hk⟩⟩, hm⟩
theorem exec_allocCmd {o : Oper} {a : Act} {w : World} (ho : o.op = .alloc 38) : (execOp a.eval o).run Tryd.prog w = .ok (.value (.pointer (some ⟨w.heap.size, 0, none⟩))) (w.alloc (.cells #[.int .i64 0, .string ⟨#[]⟩, .int .u32 0, .bool false, .slice none 0 0, .int .i64 0, .int .i64 0, .int .u32 0, .slice none 0 0] 38)) := by
  unfold execOp
  rw [ho]
  go_simp
theorem ldCmdB {w : World} {g : Nat} {t : Bytes} (h : Blk w g 38 [.int .i64 0, .string ⟨t.toArray⟩, .int .u32 0, .bool false, .slice none 0 0, .int .i64 0, .int .i64 0, .int .u32 0, .slice none 0 0]) : (Instr.loadAt 38 (.pointer (some ⟨g, 0, none⟩))).run Tryd.prog w = .ok (.agg #[.int .i64 0, .string ⟨t.toArray⟩, .int .u32 0, .bool false, .slice none 0 0, .int .i64 0, .int .i64 0, .int .u32 0, .slice none 0 0]) w := by
  have q0 : w.cell? ⟨g, 0, none⟩ = some (.int .i64 0) := h.cell 0
  have q1 : w.cell? ⟨g, 1, none⟩ = some (.string ⟨t.toArray⟩) := h.cell 1
  have q2 : w.cell? ⟨g, 2, none⟩ = some (.int .u32 0) := h.cell 2
  have q3 : w.cell? ⟨g, 3, none⟩ = some (.bool false) := h.cell 3
  have q4 : w.cell? ⟨g, 4, none⟩ = some (.slice none 0 0) := h.cell 4
  have q5 : w.cell? ⟨g, 5, none⟩ = some (.int .i64 0) := h.cell 5
  have q6 : w.cell? ⟨g, 6, none⟩ = some (.int .i64 0) := h.cell 6
  have q7 : w.cell? ⟨g, 7, none⟩ = some (.int .u32 0) := h.cell 7
  have q8 : w.cell? ⟨g, 8, none⟩ = some (.slice none 0 0) := h.cell 8
  go_simp
set_option maxHeartbeats 2000000 in
theorem stCmd {w : World} {g : Nat} {b0 b1 b2 b3 b4 b5 b6 b7 b8 : Value} (h : Blk w g 38 [b0, b1, b2, b3, b4, b5, b6, b7, b8]) (k : Int) (t : ByteArray) (n2 : Int) (u : Bool) (A4 : Option Addr) (n4 c4 : Nat) (n5 n6 n7 : Int) (A8 : Option Addr) (n8 c8 : Nat) :
    (Instr.storeAt 38 (.pointer (some ⟨g, 0, none⟩)) (.agg #[.int .i64 k, .string t, .int .u32 n2, .bool u, .slice A4 n4 c4, .int .i64 n5, .int .i64 n6, .int .u32 n7, .slice A8 n8 c8])).run Tryd.prog w = .ok () (set9 w g (.int .i64 k) (.string t) (.int .u32 n2) (.bool u) (.slice A4 n4 c4) (.int .i64 n5) (.int .i64 n6) (.int .u32 n7) (.slice A8 n8 c8)) := by
  unfold set9
  have q0 : w.cell? ⟨g, 0, none⟩ = some b0 := h.cell 0
  have q1 : w.cell? ⟨g, 1, none⟩ = some b1 := h.cell 1
  have q2 : w.cell? ⟨g, 2, none⟩ = some b2 := h.cell 2
  have q3 : w.cell? ⟨g, 3, none⟩ = some b3 := h.cell 3
  have q4 : w.cell? ⟨g, 4, none⟩ = some b4 := h.cell 4
  have q5 : w.cell? ⟨g, 5, none⟩ = some b5 := h.cell 5
  have q6 : w.cell? ⟨g, 6, none⟩ = some b6 := h.cell 6
  have q7 : w.cell? ⟨g, 7, none⟩ = some b7 := h.cell 7
  have q8 : w.cell? ⟨g, 8, none⟩ = some b8 := h.cell 8
  have f0 : ∀ j, w.frozen? ⟨g, j, none⟩ = false := fun j => h.frozen j
  go_simp
set_option maxHeartbeats 2000000 in
set_option maxRecDepth 100000 in
theorem l1BytesU_calls {A : Option Addr} {c : Nat} {xs : Bytes} {B : Nat → Prop} {w : World} (h : Row Ty.byte w B A xs.length xs) (hB : ∀ k, B k → k < w.heap.size) (hl : xs.length ≤ 1048576) : Calls Tryd.prog 38 #[.slice A xs.length c] w (RetOwn Ty.byte 5 w xs) := by
  have HR := Sec.mk h
  have HB := Sec.mk hB
  clear h hB
  go_enter Tryd.func38, Tryd.ntmps38
  go_wp2_with (first
    | (refine wpList_mk _ rfl (.tmp 5) _ rfl Ty.byte 5 Tryd.underlying32 elt_byte 0 (fun _ => ⟨rfl, rfl⟩) xs.length rfl (by omega) ?_; intro w1 ho1; have HO1 := Sec.mk ho1; clear ho1)
    | (refine wpList_copyAll _ rfl (.tmp 7) (.tmp 8) _ _ rfl Tryd.underlying32 elt_byte rfl flat_byte rfl rfl HO1.out (HO1.out.read HR.out HB.out) ?_; intro w2 ho2; have HO2 := Sec.mk ho2; clear ho2))
  go_wp2
  go_ret
  exact HO2.out.ret
end Go.Proofs.YtiaknomadhgckaaDoor

namespace Go.Proofs.YtiaknomadhgckaaDoor
open Go.RowKit Mem
set_option linter.unusedVariables false
set_option linter.unusedSimpArgs false
set_option maxHeartbeats 16000000 in
set_option maxRecDepth 100000 in
theorem parseImapS_v {w : World} {vu : Value} {u : UnitT} (hu : RdV true dUnit w vu u) (hl : u.1.length ≤ 1048576) (hbl : u.2.1.length ≤ 1048576) :
    Calls Tryd.prog 11 #[vu] w (RetV true dCmd w (imapL u)) := by
  obtain ⟨v0, v1, rfl, k0, k1⟩ := rdUnit hu
  obtain ⟨A0, c0, rfl, -, r0⟩ := k0.slice
  obtain ⟨A1, c1, rfl, -, r1⟩ := k1.slice
  have HD : Sec (imapL u = if u.2.2.2 = true ∨ 300 < u.1.length ∨ (cutL 32 u.1).2.2 = false ∨ tagB (cutL 32 u.1).1 = false then noC else if u.2.2.1 = true then appC (cutL 32 u.1).1 (cutL 32 u.1).2.1 u.2.1 else restC (cutL 32 u.1).1 (cutL 32 u.1).2.1) := ⟨rfl⟩
  have HCU := Sec.mk (fun w => l4Cut_calls u.1 (by omega) 32 w)
  simp only [Cut3] at HCU
  have hle := cut_le u.1
  have hnw : New w (((w.alloc (.cells #[.slice A0 u.1.length c0, .slice A1 u.2.1.length c1, .bool u.2.2.1, .bool u.2.2.2] 40)).alloc (.cells #[.int .i64 0, .string ⟨#[]⟩, .int .u32 0, .bool false, .slice none 0 0, .int .i64 0, .int .i64 0, .int .u32 0, .slice none 0 0] 38)).alloc (.cells #[.int .i64 0, .string ⟨#[42]⟩, .int .u32 0, .bool false, .slice none 0 0, .int .i64 0, .int .i64 0, .int .u32 0, .slice none 0 0] 38)) := (((Mod.refl _ _).alloc _).alloc _).alloc _
  have hcv := (r0.mod (B' := (· < w.heap.size)) (w' := (((w.alloc (.cells #[.slice A0 u.1.length c0, .slice A1 u.2.1.length c1, .bool u.2.2.1, .bool u.2.2.2] 40)).alloc (.cells #[.int .i64 0, .string ⟨#[]⟩, .int .u32 0, .bool false, .slice none 0 0, .int .i64 0, .int .i64 0, .int .u32 0, .slice none 0 0] 38)).alloc (.cells #[.int .i64 0, .string ⟨#[42]⟩, .int .u32 0, .bool false, .slice none 0 0, .int .i64 0, .int .i64 0, .int .u32 0, .slice none 0 0] 38))) (fun _ h => h) (fun k hk => hnw.block k hk id)).conv (P := Tryd.prog) Tryd.underlying32 Tryd.underlying5 Tryd.underlying9 c0
  have HBU := Sec.mk (((Blk.new w 40 [.slice A0 u.1.length c0, .slice A1 u.2.1.length c1, .bool u.2.2.1, .bool u.2.2.2]).alloc (.cells #[.int .i64 0, .string ⟨#[]⟩, .int .u32 0, .bool false, .slice none 0 0, .int .i64 0, .int .i64 0, .int .u32 0, .slice none 0 0] 38)).alloc (.cells #[.int .i64 0, .string ⟨#[42]⟩, .int .u32 0, .bool false, .slice none 0 0, .int .i64 0, .int .i64 0, .int .u32 0, .slice none 0 0] 38))
  have HBR : Sec (Blk (((w.alloc (.cells #[.slice A0 u.1.length c0, .slice A1 u.2.1.length c1, .bool u.2.2.1, .bool u.2.2.2] 40)).alloc (.cells #[.int .i64 0, .string ⟨#[]⟩, .int .u32 0, .bool false, .slice none 0 0, .int .i64 0, .int .i64 0, .int .u32 0, .slice none 0 0] 38)).alloc (.cells #[.int .i64 0, .string ⟨#[42]⟩, .int .u32 0, .bool false, .slice none 0 0, .int .i64 0, .int .i64 0, .int .u32 0, .slice none 0 0] 38)) (w.heap.size + 1) 38 [.int .i64 0, .string ⟨#[]⟩, .int .u32 0, .bool false, .slice none 0 0, .int .i64 0, .int .i64 0, .int .u32 0, .slice none 0 0]) := ⟨by have := (Blk.new (w.alloc (.cells #[.slice A0 u.1.length c0, .slice A1 u.2.1.length c1, .bool u.2.2.1, .bool u.2.2.2] 40)) 38 [.int .i64 0, .string ⟨#[]⟩, .int .u32 0, .bool false, .slice none 0 0, .int .i64 0, .int .i64 0, .int .u32 0, .slice none 0 0]).alloc (.cells #[.int .i64 0, .string ⟨#[42]⟩, .int .u32 0, .bool false, .slice none 0 0, .int .i64 0, .int .i64 0, .int .u32 0, .slice none 0 0] 38); simpa using this⟩
  have HBN : Sec (Blk (((w.alloc (.cells #[.slice A0 u.1.length c0, .slice A1 u.2.1.length c1, .bool u.2.2.1, .bool u.2.2.2] 40)).alloc (.cells #[.int .i64 0, .string ⟨#[]⟩, .int .u32 0, .bool false, .slice none 0 0, .int .i64 0, .int .i64 0, .int .u32 0, .slice none 0 0] 38)).alloc (.cells #[.int .i64 0, .string ⟨#[42]⟩, .int .u32 0, .bool false, .slice none 0 0, .int .i64 0, .int .i64 0, .int .u32 0, .slice none 0 0] 38)) (w.heap.size + 1 + 1) 38 [.int .i64 0, .string ⟨#[42]⟩, .int .u32 0, .bool false, .slice none 0 0, .int .i64 0, .int .i64 0, .int .u32 0, .slice none 0 0]) := ⟨by have := Blk.new ((w.alloc (.cells #[.slice A0 u.1.length c0, .slice A1 u.2.1.length c1, .bool u.2.2.1, .bool u.2.2.2] 40)).alloc (.cells #[.int .i64 0, .string ⟨#[]⟩, .int .u32 0, .bool false, .slice none 0 0, .int .i64 0, .int .i64 0, .int .u32 0, .slice none 0 0] 38)) 38 [.int .i64 0, .string ⟨#[42]⟩, .int .u32 0, .bool false, .slice none 0 0, .int .i64 0, .int .i64 0, .int .u32 0, .slice none 0 0]; simpa using this⟩
  have HNW := Sec.mk hnw
  have HRB : Sec (∀ W, New w W → Row Ty.byte W (· < w.heap.size) A1 u.2.1.length u.2.1) := ⟨fun W h => r1.mod (fun _ hk => hk) (fun k hk => h.block k hk id)⟩
  clear hu k0 k1 r0 r1 hnw
  have HAP := Sec.mk (app_spec (cutL 32 u.1).1 (cutL 32 u.1).2.1 u.2.1)
  have HRS := Sec.mk (rest_spec (cutL 32 u.1).1 (cutL 32 u.1).2.1)
  generalize (cutL 32 u.1).1 = tag at *
  generalize (cutL 32 u.1).2.1 = rest at *
  generalize (cutL 32 u.1).2.2 = cok at *
  have HTG := Sec.mk (fun w => l6Tag_calls tag (by omega) w)
  have HC2 := Sec.mk (fun w => l4Cut_calls rest (by omega) 32 w)
  simp only [Cut3] at HC2
  have hle2 := cut_le rest
  generalize (cutL 32 rest).1 = verb at *
  generalize (cutL 32 rest).2.1 = more at *
  generalize (cutL 32 rest).2.2 = has2 at *
  have HLW := Sec.mk (fun w => lower_calls verb (by omega) w)
  generalize loL verb = lv at *
  have HC3 := Sec.mk (fun w => l4Cut_calls more (by omega) 32 w)
  simp only [Cut3] at HC3
  have hle3 := cut_le more
  generalize (cutL 32 more).1 = v2 at *
  generalize (cutL 32 more).2.1 = r2 at *
  generalize (cutL 32 more).2.2 = b3 at *
  have HL2 := Sec.mk (fun w => lower_calls v2 (by omega) w)
  generalize loL v2 = lv2 at *
  obtain ⟨line, body, has, bd⟩ := u
  simp only at HD HCU hle hcv HBU HBR HBN HNW HRB HAP hl hbl ⊢
  go_enter Tryd.func11, Tryd.ntmps11
  go_upto_region 2 with (fail)
  generalize (((w.alloc (.cells #[.slice A0 line.length c0, .slice A1 body.length c1, .bool has, .bool bd] 40)).alloc (.cells #[.int .i64 0, .string ⟨#[]⟩, .int .u32 0, .bool false, .slice none 0 0, .int .i64 0, .int .i64 0, .int .u32 0, .slice none 0 0] 38)).alloc (.cells #[.int .i64 0, .string ⟨#[42]⟩, .int .u32 0, .bool false, .slice none 0 0, .int .i64 0, .int .i64 0, .int .u32 0, .slice none 0 0] 38)) = wA at *
  obtain ⟨U, hU⟩ : ∃ U, U = w.heap.size := ⟨_, rfl⟩
  obtain ⟨R, hR⟩ : ∃ R, R = w.heap.size + 1 := ⟨_, rfl⟩
  obtain ⟨N, hN⟩ : ∃ N, N = w.heap.size + 1 + 1 := ⟨_, rfl⟩
  have HUZ := Sec.mk hU
  have hRW : w.heap.size ≤ U ∧ w.heap.size ≤ R ∧ w.heap.size ≤ N ∧ U < R ∧ R < N := by omega
  rw [← hN] at HBN ⊢
  rw [← hR] at HBR ⊢
  rw [← hU] at HBU ⊢
  clear hU hR hN
  have u0 : wA.cell? ⟨U, 0, none⟩ = some (.slice A0 line.length c0) := HBU.out.cell 0
  have u3 : wA.cell? ⟨U, 3, none⟩ = some (.bool bd) := HBU.out.cell 3
  have HNO : Sec (bd = true ∨ 300 < line.length ∨ cok = false ∨ tagB tag = false → imapL (line, body, has, bd) = badC [42]) := ⟨fun h => by rw [HD.out, if_pos h]; rfl⟩
  cases bd
  rotate_left
  · have HE := Sec.mk (HNO.out (Or.inl rfl))
    clear HD HNO HTG HAP HRS HC2 HLW HC3 HL2 HRB HCU hcv
    have p0 : wA.cell? ⟨N, 0, none⟩ = some (.int .i64 0) := HBN.out.cell 0
    have p1 : wA.cell? ⟨N, 1, none⟩ = some (.string ⟨#[42]⟩) := HBN.out.cell 1
    have p2 : wA.cell? ⟨N, 2, none⟩ = some (.int .u32 0) := HBN.out.cell 2
    have p3 : wA.cell? ⟨N, 3, none⟩ = some (.bool false) := HBN.out.cell 3
    have p4 : wA.cell? ⟨N, 4, none⟩ = some (.slice none 0 0) := HBN.out.cell 4
    have p5 : wA.cell? ⟨N, 5, none⟩ = some (.int .i64 0) := HBN.out.cell 5
    have p6 : wA.cell? ⟨N, 6, none⟩ = some (.int .i64 0) := HBN.out.cell 6
    have p7 : wA.cell? ⟨N, 7, none⟩ = some (.int .u32 0) := HBN.out.cell 7
    have p8 : wA.cell? ⟨N, 8, none⟩ = some (.slice none 0 0) := HBN.out.cell 8
    have q0 : wA.cell? ⟨R, 0, none⟩ = some (.int .i64 0) := HBR.out.cell 0
    have q1 : wA.cell? ⟨R, 1, none⟩ = some (.string ⟨#[]⟩) := HBR.out.cell 1
    have q2 : wA.cell? ⟨R, 2, none⟩ = some (.int .u32 0) := HBR.out.cell 2
    have q3 : wA.cell? ⟨R, 3, none⟩ = some (.bool false) := HBR.out.cell 3
    have q4 : wA.cell? ⟨R, 4, none⟩ = some (.slice none 0 0) := HBR.out.cell 4
    have q5 : wA.cell? ⟨R, 5, none⟩ = some (.int .i64 0) := HBR.out.cell 5
    have q6 : wA.cell? ⟨R, 6, none⟩ = some (.int .i64 0) := HBR.out.cell 6
    have q7 : wA.cell? ⟨R, 7, none⟩ = some (.int .u32 0) := HBR.out.cell 7
    have q8 : wA.cell? ⟨R, 8, none⟩ = some (.slice none 0 0) := HBR.out.cell 8
    have qf : ∀ j, wA.frozen? ⟨R, j, none⟩ = false := fun j => HBR.out.frozen j
    have HF9 := Sec.mk (set9_blk HBR.out (.int .i64 0) (.string ⟨#[42]⟩) (.int .u32 0) (.bool false) (.slice none 0 0) (.int .i64 0) (.int .i64 0) (.int .u32 0) (.slice none 0 0))
    have HM9 : Sec (New w (set9 wA R (.int .i64 0) (.string ⟨#[42]⟩) (.int .u32 0) (.bool false) (.slice none 0 0) (.int .i64 0) (.int .i64 0) (.int .u32 0) (.slice none 0 0))) := ⟨HNW.out.trans (set9_mod _ _ _ _ _ _ _ _ _ _ _) (fun i hi hl => by omega)⟩
    go_wp2
    refine bodyPost_ret (results_blk rfl rfl HF9.out Tryd.underlying38 (by kernel_rfl)) rfl ?_
    rw [HE.out]
    exact ret_half (t := [42]) (by decide) HM9.out
  by_cases h300 : 300 < line.length
  · have h3i : (300 : Int) < (line.length : Int) := by omega
    have HE := Sec.mk (HNO.out (Or.inr (Or.inl h300)))
    clear HD HNO HTG HAP HRS HC2 HLW HC3 HL2 HRB HCU hcv h300
    have p0 : wA.cell? ⟨N, 0, none⟩ = some (.int .i64 0) := HBN.out.cell 0
    have p1 : wA.cell? ⟨N, 1, none⟩ = some (.string ⟨#[42]⟩) := HBN.out.cell 1
    have p2 : wA.cell? ⟨N, 2, none⟩ = some (.int .u32 0) := HBN.out.cell 2
    have p3 : wA.cell? ⟨N, 3, none⟩ = some (.bool false) := HBN.out.cell 3
    have p4 : wA.cell? ⟨N, 4, none⟩ = some (.slice none 0 0) := HBN.out.cell 4
    have p5 : wA.cell? ⟨N, 5, none⟩ = some (.int .i64 0) := HBN.out.cell 5
    have p6 : wA.cell? ⟨N, 6, none⟩ = some (.int .i64 0) := HBN.out.cell 6
    have p7 : wA.cell? ⟨N, 7, none⟩ = some (.int .u32 0) := HBN.out.cell 7
    have p8 : wA.cell? ⟨N, 8, none⟩ = some (.slice none 0 0) := HBN.out.cell 8
    have q0 : wA.cell? ⟨R, 0, none⟩ = some (.int .i64 0) := HBR.out.cell 0
    have q1 : wA.cell? ⟨R, 1, none⟩ = some (.string ⟨#[]⟩) := HBR.out.cell 1
    have q2 : wA.cell? ⟨R, 2, none⟩ = some (.int .u32 0) := HBR.out.cell 2
    have q3 : wA.cell? ⟨R, 3, none⟩ = some (.bool false) := HBR.out.cell 3
    have q4 : wA.cell? ⟨R, 4, none⟩ = some (.slice none 0 0) := HBR.out.cell 4
    have q5 : wA.cell? ⟨R, 5, none⟩ = some (.int .i64 0) := HBR.out.cell 5
    have q6 : wA.cell? ⟨R, 6, none⟩ = some (.int .i64 0) := HBR.out.cell 6
    have q7 : wA.cell? ⟨R, 7, none⟩ = some (.int .u32 0) := HBR.out.cell 7
    have q8 : wA.cell? ⟨R, 8, none⟩ = some (.slice none 0 0) := HBR.out.cell 8
    have qf : ∀ j, wA.frozen? ⟨R, j, none⟩ = false := fun j => HBR.out.frozen j
    have HF9 := Sec.mk (set9_blk HBR.out (.int .i64 0) (.string ⟨#[42]⟩) (.int .u32 0) (.bool false) (.slice none 0 0) (.int .i64 0) (.int .i64 0) (.int .u32 0) (.slice none 0 0))
    have HM9 : Sec (New w (set9 wA R (.int .i64 0) (.string ⟨#[42]⟩) (.int .u32 0) (.bool false) (.slice none 0 0) (.int .i64 0) (.int .i64 0) (.int .u32 0) (.slice none 0 0))) := ⟨HNW.out.trans (set9_mod _ _ _ _ _ _ _ _ _ _ _) (fun i hi hl => by omega)⟩
    go_wp2
    refine bodyPost_ret (results_blk rfl rfl HF9.out Tryd.underlying38 (by kernel_rfl)) rfl ?_
    rw [HE.out]
    exact ret_half (t := [42]) (by decide) HM9.out
  have h3i : ¬ (300 : Int) < (line.length : Int) := by omega
  go_wp2_with fail
  refine (HCU.out _).mono ?_
  rintro e w1 ⟨rfl, hm1⟩
  have HBU1 := Sec.mk (HBU.out.mod hm1 id)
  have HBR1 := Sec.mk (HBR.out.mod hm1 id)
  have HBN1 := Sec.mk (HBN.out.mod hm1 id)
  have HN1 : Sec (New w w1) := ⟨HNW.out.transN hm1⟩
  clear hm1 hcv u0 u3 HBU HBR HBN HNW HCU h3i
  cases cok
  · have HE := Sec.mk (HNO.out (Or.inr (Or.inr (Or.inl rfl))))
    clear HD HNO HTG HAP HRS HC2 HLW HC3 HL2 HRB h300
    have p0 : w1.cell? ⟨N, 0, none⟩ = some (.int .i64 0) := HBN1.out.cell 0
    have p1 : w1.cell? ⟨N, 1, none⟩ = some (.string ⟨#[42]⟩) := HBN1.out.cell 1
    have p2 : w1.cell? ⟨N, 2, none⟩ = some (.int .u32 0) := HBN1.out.cell 2
    have p3 : w1.cell? ⟨N, 3, none⟩ = some (.bool false) := HBN1.out.cell 3
    have p4 : w1.cell? ⟨N, 4, none⟩ = some (.slice none 0 0) := HBN1.out.cell 4
    have p5 : w1.cell? ⟨N, 5, none⟩ = some (.int .i64 0) := HBN1.out.cell 5
    have p6 : w1.cell? ⟨N, 6, none⟩ = some (.int .i64 0) := HBN1.out.cell 6
    have p7 : w1.cell? ⟨N, 7, none⟩ = some (.int .u32 0) := HBN1.out.cell 7
    have p8 : w1.cell? ⟨N, 8, none⟩ = some (.slice none 0 0) := HBN1.out.cell 8
    have q0 : w1.cell? ⟨R, 0, none⟩ = some (.int .i64 0) := HBR1.out.cell 0
    have q1 : w1.cell? ⟨R, 1, none⟩ = some (.string ⟨#[]⟩) := HBR1.out.cell 1
    have q2 : w1.cell? ⟨R, 2, none⟩ = some (.int .u32 0) := HBR1.out.cell 2
    have q3 : w1.cell? ⟨R, 3, none⟩ = some (.bool false) := HBR1.out.cell 3
    have q4 : w1.cell? ⟨R, 4, none⟩ = some (.slice none 0 0) := HBR1.out.cell 4
    have q5 : w1.cell? ⟨R, 5, none⟩ = some (.int .i64 0) := HBR1.out.cell 5
    have q6 : w1.cell? ⟨R, 6, none⟩ = some (.int .i64 0) := HBR1.out.cell 6
    have q7 : w1.cell? ⟨R, 7, none⟩ = some (.int .u32 0) := HBR1.out.cell 7
    have q8 : w1.cell? ⟨R, 8, none⟩ = some (.slice none 0 0) := HBR1.out.cell 8
    have qf : ∀ j, w1.frozen? ⟨R, j, none⟩ = false := fun j => HBR1.out.frozen j
    have HF9 := Sec.mk (set9_blk HBR1.out (.int .i64 0) (.string ⟨#[42]⟩) (.int .u32 0) (.bool false) (.slice none 0 0) (.int .i64 0) (.int .i64 0) (.int .u32 0) (.slice none 0 0))
    have HM9 : Sec (New w (set9 w1 R (.int .i64 0) (.string ⟨#[42]⟩) (.int .u32 0) (.bool false) (.slice none 0 0) (.int .i64 0) (.int .i64 0) (.int .u32 0) (.slice none 0 0))) := ⟨HN1.out.trans (set9_mod _ _ _ _ _ _ _ _ _ _ _) (fun i hi hl => by omega)⟩
    go_wp2
    refine bodyPost_ret (results_blk rfl rfl HF9.out Tryd.underlying38 (by kernel_rfl)) rfl ?_
    rw [HE.out]
    exact ret_half (t := [42]) (by decide) HM9.out
  go_wp2_with fail
  refine (HTG.out _).mono ?_
  rintro e w2 ⟨rfl, hm2⟩
  have HBU2 := Sec.mk (HBU1.out.mod hm2 id)
  have HBR2 := Sec.mk (HBR1.out.mod hm2 id)
  have HBN2 := Sec.mk (HBN1.out.mod hm2 id)
  have HN2 : Sec (New w w2) := ⟨HN1.out.transN hm2⟩
  clear hm2 HBU1 HBR1 HBN1 HN1
  cases htb : tagB tag
  · have HE := Sec.mk (HNO.out (Or.inr (Or.inr (Or.inr htb))))
    clear HD HNO HTG HAP HRS HC2 HLW HC3 HL2 HRB h300 htb
    have p0 : w2.cell? ⟨N, 0, none⟩ = some (.int .i64 0) := HBN2.out.cell 0
    have p1 : w2.cell? ⟨N, 1, none⟩ = some (.string ⟨#[42]⟩) := HBN2.out.cell 1
    have p2 : w2.cell? ⟨N, 2, none⟩ = some (.int .u32 0) := HBN2.out.cell 2
    have p3 : w2.cell? ⟨N, 3, none⟩ = some (.bool false) := HBN2.out.cell 3
    have p4 : w2.cell? ⟨N, 4, none⟩ = some (.slice none 0 0) := HBN2.out.cell 4
    have p5 : w2.cell? ⟨N, 5, none⟩ = some (.int .i64 0) := HBN2.out.cell 5
    have p6 : w2.cell? ⟨N, 6, none⟩ = some (.int .i64 0) := HBN2.out.cell 6
    have p7 : w2.cell? ⟨N, 7, none⟩ = some (.int .u32 0) := HBN2.out.cell 7
    have p8 : w2.cell? ⟨N, 8, none⟩ = some (.slice none 0 0) := HBN2.out.cell 8
    have q0 : w2.cell? ⟨R, 0, none⟩ = some (.int .i64 0) := HBR2.out.cell 0
    have q1 : w2.cell? ⟨R, 1, none⟩ = some (.string ⟨#[]⟩) := HBR2.out.cell 1
    have q2 : w2.cell? ⟨R, 2, none⟩ = some (.int .u32 0) := HBR2.out.cell 2
    have q3 : w2.cell? ⟨R, 3, none⟩ = some (.bool false) := HBR2.out.cell 3
    have q4 : w2.cell? ⟨R, 4, none⟩ = some (.slice none 0 0) := HBR2.out.cell 4
    have q5 : w2.cell? ⟨R, 5, none⟩ = some (.int .i64 0) := HBR2.out.cell 5
    have q6 : w2.cell? ⟨R, 6, none⟩ = some (.int .i64 0) := HBR2.out.cell 6
    have q7 : w2.cell? ⟨R, 7, none⟩ = some (.int .u32 0) := HBR2.out.cell 7
    have q8 : w2.cell? ⟨R, 8, none⟩ = some (.slice none 0 0) := HBR2.out.cell 8
    have qf : ∀ j, w2.frozen? ⟨R, j, none⟩ = false := fun j => HBR2.out.frozen j
    have HF9 := Sec.mk (set9_blk HBR2.out (.int .i64 0) (.string ⟨#[42]⟩) (.int .u32 0) (.bool false) (.slice none 0 0) (.int .i64 0) (.int .i64 0) (.int .u32 0) (.slice none 0 0))
    have HM9 : Sec (New w (set9 w2 R (.int .i64 0) (.string ⟨#[42]⟩) (.int .u32 0) (.bool false) (.slice none 0 0) (.int .i64 0) (.int .i64 0) (.int .u32 0) (.slice none 0 0))) := ⟨HN2.out.trans (set9_mod _ _ _ _ _ _ _ _ _ _ _) (fun i hi hl => by omega)⟩
    go_wp2
    refine bodyPost_ret (results_blk rfl rfl HF9.out Tryd.underlying38 (by kernel_rfl)) rfl ?_
    rw [HE.out]
    exact ret_half (t := [42]) (by decide) HM9.out
  have HE : Sec (imapL (line, body, has, false) = if has = true then appC tag rest body else restC tag rest) := ⟨by rw [HD.out, if_neg (fun h => h.elim (fun h => by cases h) (fun h => h.elim h300 (fun h => h.elim (fun h => by cases h) (fun h => by rw [htb] at h; cases h))))]⟩
  clear HD HNO h300 htb HTG HBN2
  have hna : New w2 (w2.alloc (.cells #[.int .i64 0, .string ⟨tag.toArray⟩, .int .u32 0, .bool false, .slice none 0 0, .int .i64 0, .int .i64 0, .int .u32 0, .slice none 0 0] 38)) := (Mod.refl _ _).alloc _
  have HB3 := Sec.mk (Blk.new w2 38 [.int .i64 0, .string ⟨tag.toArray⟩, .int .u32 0, .bool false, .slice none 0 0, .int .i64 0, .int .i64 0, .int .u32 0, .slice none 0 0])
  have HBU3 := Sec.mk (HBU2.out.mod hna id)
  have HBR3 := Sec.mk (HBR2.out.mod hna id)
  have HN3 : Sec (New w (w2.alloc (.cells #[.int .i64 0, .string ⟨tag.toArray⟩, .int .u32 0, .bool false, .slice none 0 0, .int .i64 0, .int .i64 0, .int .u32 0, .slice none 0 0] 38))) := ⟨HN2.out.transN hna⟩
  have hRB : R < w2.heap.size := HBR2.out.lt
  have hUB : U < w2.heap.size := HBU2.out.lt
  clear hna HBU2 HBR2 HN2
  go_upto_region 8 with (fail)
  generalize w2.alloc (.cells #[.int .i64 0, .string ⟨tag.toArray⟩, .int .u32 0, .bool false, .slice none 0 0, .int .i64 0, .int .i64 0, .int .u32 0, .slice none 0 0] 38) = w3 at *
  generalize w2.heap.size = B at *
  go_wp2_with fail
  refine (HC2.out _).mono ?_
  rintro e w4 ⟨rfl, hm4⟩
  go_wp2_with fail
  refine (HLW.out _).mono ?_
  rintro e w5 ⟨rfl, hm5⟩
  have hm := hm4.transN hm5
  have HB5 := Sec.mk (HB3.out.mod hm id)
  have HU5 := Sec.mk (HBU3.out.mod hm id)
  have HR5 := Sec.mk (HBR3.out.mod hm id)
  have HN5 : Sec (New w w5) := ⟨HN3.out.transN hm⟩
  clear hm hm4 hm5 HB3 HBU3 HBR3 HN3 HC2 HLW
  have hBl := HB5.out.lt
  have u2 : w5.cell? ⟨U, 2, none⟩ = some (.bool has) := HU5.out.cell 2
  cases has
  rotate_left
  · have HE2 : Sec (imapL (line, body, true, false) = appC tag rest body) := ⟨by rw [HE.out, if_pos rfl]⟩
    clear HE HRS HC3 HL2
    by_cases hap : lv = [97, 112, 112, 101, 110, 100]
    rotate_left
    · have HE3 : Sec (imapL (line, body, true, false) = badC tag) := ⟨by rw [HE2.out, HAP.out, if_neg (fun h => hap h.1)]⟩
      have x1 : (lv != [97, 112, 112, 101, 110, 100]) = true := by simpa using hap
      have x2 : (lv == [97, 112, 112, 101, 110, 100]) = false := by simpa using hap
      clear hap HAP HE2 HRB
      have p0 : w5.cell? ⟨B, 0, none⟩ = some (.int .i64 0) := HB5.out.cell 0
      have p1 : w5.cell? ⟨B, 1, none⟩ = some (.string ⟨tag.toArray⟩) := HB5.out.cell 1
      have p2 : w5.cell? ⟨B, 2, none⟩ = some (.int .u32 0) := HB5.out.cell 2
      have p3 : w5.cell? ⟨B, 3, none⟩ = some (.bool false) := HB5.out.cell 3
      have p4 : w5.cell? ⟨B, 4, none⟩ = some (.slice none 0 0) := HB5.out.cell 4
      have p5 : w5.cell? ⟨B, 5, none⟩ = some (.int .i64 0) := HB5.out.cell 5
      have p6 : w5.cell? ⟨B, 6, none⟩ = some (.int .i64 0) := HB5.out.cell 6
      have p7 : w5.cell? ⟨B, 7, none⟩ = some (.int .u32 0) := HB5.out.cell 7
      have p8 : w5.cell? ⟨B, 8, none⟩ = some (.slice none 0 0) := HB5.out.cell 8
      have q0 : w5.cell? ⟨R, 0, none⟩ = some (.int .i64 0) := HR5.out.cell 0
      have q1 : w5.cell? ⟨R, 1, none⟩ = some (.string ⟨#[]⟩) := HR5.out.cell 1
      have q2 : w5.cell? ⟨R, 2, none⟩ = some (.int .u32 0) := HR5.out.cell 2
      have q3 : w5.cell? ⟨R, 3, none⟩ = some (.bool false) := HR5.out.cell 3
      have q4 : w5.cell? ⟨R, 4, none⟩ = some (.slice none 0 0) := HR5.out.cell 4
      have q5 : w5.cell? ⟨R, 5, none⟩ = some (.int .i64 0) := HR5.out.cell 5
      have q6 : w5.cell? ⟨R, 6, none⟩ = some (.int .i64 0) := HR5.out.cell 6
      have q7 : w5.cell? ⟨R, 7, none⟩ = some (.int .u32 0) := HR5.out.cell 7
      have q8 : w5.cell? ⟨R, 8, none⟩ = some (.slice none 0 0) := HR5.out.cell 8
      have qf : ∀ j, w5.frozen? ⟨R, j, none⟩ = false := fun j => HR5.out.frozen j
      have HF9 := Sec.mk (set9_blk HR5.out (.int .i64 0) (.string ⟨tag.toArray⟩) (.int .u32 0) (.bool false) (.slice none 0 0) (.int .i64 0) (.int .i64 0) (.int .u32 0) (.slice none 0 0))
      have HM9 : Sec (New w (set9 w5 R (.int .i64 0) (.string ⟨tag.toArray⟩) (.int .u32 0) (.bool false) (.slice none 0 0) (.int .i64 0) (.int .i64 0) (.int .u32 0) (.slice none 0 0))) := ⟨HN5.out.trans (set9_mod _ _ _ _ _ _ _ _ _ _ _) (fun i hi hl => by omega)⟩
      go_wp2
      refine bodyPost_ret (results_blk rfl rfl HF9.out Tryd.underlying38 (by kernel_rfl)) rfl ?_
      rw [HE3.out]
      exact ret_half (t := tag) (by omega) HM9.out
    have x1 : (lv != [97, 112, 112, 101, 110, 100]) = false := by simpa using hap
    have x2 : (lv == [97, 112, 112, 101, 110, 100]) = true := by simpa using hap
    cases has2
    · have HE3 : Sec (imapL (line, body, true, false) = badC tag) := ⟨by rw [HE2.out, HAP.out, if_neg (fun h => by cases h.2)]⟩
      clear hap HAP HE2 HRB
      have p0 : w5.cell? ⟨B, 0, none⟩ = some (.int .i64 0) := HB5.out.cell 0
      have p1 : w5.cell? ⟨B, 1, none⟩ = some (.string ⟨tag.toArray⟩) := HB5.out.cell 1
      have p2 : w5.cell? ⟨B, 2, none⟩ = some (.int .u32 0) := HB5.out.cell 2
      have p3 : w5.cell? ⟨B, 3, none⟩ = some (.bool false) := HB5.out.cell 3
      have p4 : w5.cell? ⟨B, 4, none⟩ = some (.slice none 0 0) := HB5.out.cell 4
      have p5 : w5.cell? ⟨B, 5, none⟩ = some (.int .i64 0) := HB5.out.cell 5
      have p6 : w5.cell? ⟨B, 6, none⟩ = some (.int .i64 0) := HB5.out.cell 6
      have p7 : w5.cell? ⟨B, 7, none⟩ = some (.int .u32 0) := HB5.out.cell 7
      have p8 : w5.cell? ⟨B, 8, none⟩ = some (.slice none 0 0) := HB5.out.cell 8
      have q0 : w5.cell? ⟨R, 0, none⟩ = some (.int .i64 0) := HR5.out.cell 0
      have q1 : w5.cell? ⟨R, 1, none⟩ = some (.string ⟨#[]⟩) := HR5.out.cell 1
      have q2 : w5.cell? ⟨R, 2, none⟩ = some (.int .u32 0) := HR5.out.cell 2
      have q3 : w5.cell? ⟨R, 3, none⟩ = some (.bool false) := HR5.out.cell 3
      have q4 : w5.cell? ⟨R, 4, none⟩ = some (.slice none 0 0) := HR5.out.cell 4
      have q5 : w5.cell? ⟨R, 5, none⟩ = some (.int .i64 0) := HR5.out.cell 5
      have q6 : w5.cell? ⟨R, 6, none⟩ = some (.int .i64 0) := HR5.out.cell 6
      have q7 : w5.cell? ⟨R, 7, none⟩ = some (.int .u32 0) := HR5.out.cell 7
      have q8 : w5.cell? ⟨R, 8, none⟩ = some (.slice none 0 0) := HR5.out.cell 8
      have qf : ∀ j, w5.frozen? ⟨R, j, none⟩ = false := fun j => HR5.out.frozen j
      have HF9 := Sec.mk (set9_blk HR5.out (.int .i64 0) (.string ⟨tag.toArray⟩) (.int .u32 0) (.bool false) (.slice none 0 0) (.int .i64 0) (.int .i64 0) (.int .u32 0) (.slice none 0 0))
      have HM9 : Sec (New w (set9 w5 R (.int .i64 0) (.string ⟨tag.toArray⟩) (.int .u32 0) (.bool false) (.slice none 0 0) (.int .i64 0) (.int .i64 0) (.int .u32 0) (.slice none 0 0))) := ⟨HN5.out.trans (set9_mod _ _ _ _ _ _ _ _ _ _ _) (fun i hi hl => by omega)⟩
      go_wp2
      refine bodyPost_ret (results_blk rfl rfl HF9.out Tryd.underlying38 (by kernel_rfl)) rfl ?_
      rw [HE3.out]
      exact ret_half (t := tag) (by omega) HM9.out
    have HE3 : Sec (imapL (line, body, true, false) = appT tag more body) := ⟨by rw [HE2.out, HAP.out, if_pos ⟨hap, rfl⟩]⟩
    clear hap HAP HE2
    have u1 : w5.cell? ⟨U, 1, none⟩ = some (.slice A1 body.length c1) := HU5.out.cell 1
    go_wp2_with fail
    refine (l1BytesU_calls (HRB.out _ HN5.out) (fun k hk => Nat.lt_of_lt_of_le hk HN5.out.size) (by omega)).mono ?_
    rintro e w6 ⟨A2, c2, F2, rfl, ho2, hF2, hm6⟩
    have HB6 := Sec.mk (HB5.out.mod hm6 id)
    have HR6 := Sec.mk (HR5.out.mod hm6 id)
    have HN6 : Sec (New w w6) := ⟨HN5.out.transN hm6⟩
    have hs6 := hm6.size
    have hs5 := HN5.out.size
    have hma : New w6 (w6.alloc (.cells #[.int .i64 12, .string ⟨tag.toArray⟩, .int .u32 0, .bool false, .slice none 0 0, .int .i64 0, .int .i64 0, .int .u32 0, .slice A2 body.length c2] 38)) := (Mod.refl _ _).alloc _
    have HO7 := Sec.mk (Blk.new w6 38 [.int .i64 12, .string ⟨tag.toArray⟩, .int .u32 0, .bool false, .slice none 0 0, .int .i64 0, .int .i64 0, .int .u32 0, .slice A2 body.length c2])
    have HB7 := Sec.mk (HB6.out.mod hma id)
    have HR7 := Sec.mk (HR6.out.mod hma id)
    have HN7 : Sec (New w (w6.alloc (.cells #[.int .i64 12, .string ⟨tag.toArray⟩, .int .u32 0, .bool false, .slice none 0 0, .int .i64 0, .int .i64 0, .int .u32 0, .slice A2 body.length c2] 38))) := ⟨HN6.out.transN hma⟩
    have HW7 : Sec (Own Ty.byte 5 (w6.alloc (.cells #[.int .i64 12, .string ⟨tag.toArray⟩, .int .u32 0, .bool false, .slice none 0 0, .int .i64 0, .int .i64 0, .int .u32 0, .slice A2 body.length c2] 38)) F2 (.slice A2 body.length c2) body) := ⟨ho2.new hma⟩
    have HF7 : Sec (∀ k, k ∈ F2 → w5.heap.size ≤ k ∧ k < w6.heap.size) := ⟨fun k hk => ⟨hF2 k hk, ho2.lt k hk⟩⟩
    clear ho2 hF2 hm6 hma HB6 HR6 HN6 HB5 HR5 u1 u2 HU5 HRB x1 x2
    go_upto_region 14 with (fail)
    generalize w6.alloc (.cells #[.int .i64 12, .string ⟨tag.toArray⟩, .int .u32 0, .bool false, .slice none 0 0, .int .i64 0, .int .i64 0, .int .u32 0, .slice A2 body.length c2] 38) = w7 at *
    obtain ⟨O, hO⟩ : ∃ O, O = w6.heap.size := ⟨_, rfl⟩
    rw [← hO] at HO7 HF7 ⊢
    have hOR : B < O ∧ R < O ∧ w.heap.size ≤ O := by have := HB7.out.lt; omega
    clear hO
    have HEE : Sec (appT tag more body = if more = [] then (12, tag, 0, false, [], 0, 0, 0, body) else if more[more.length - 1]? = some 32 ∧ (ReadListL (more.take (more.length - 1))).1 = true then (12, tag, 0, false, [], 0, 0, (ReadListL (more.take (more.length - 1))).2, body) else badC tag) := ⟨rfl⟩
    by_cases hm0 : more = []
    · have HE4 : Sec (imapL (line, body, true, false) = (12, tag, 0, false, [], 0, 0, 0, body)) := ⟨by rw [HE3.out, HEE.out, if_pos hm0]⟩
      clear HEE HE3
      subst hm0
      have p0 : w7.cell? ⟨O, 0, none⟩ = some (.int .i64 12) := HO7.out.cell 0
      have p1 : w7.cell? ⟨O, 1, none⟩ = some (.string ⟨tag.toArray⟩) := HO7.out.cell 1
      have p2 : w7.cell? ⟨O, 2, none⟩ = some (.int .u32 0) := HO7.out.cell 2
      have p3 : w7.cell? ⟨O, 3, none⟩ = some (.bool false) := HO7.out.cell 3
      have p4 : w7.cell? ⟨O, 4, none⟩ = some (.slice none 0 0) := HO7.out.cell 4
      have p5 : w7.cell? ⟨O, 5, none⟩ = some (.int .i64 0) := HO7.out.cell 5
      have p6 : w7.cell? ⟨O, 6, none⟩ = some (.int .i64 0) := HO7.out.cell 6
      have p7 : w7.cell? ⟨O, 7, none⟩ = some (.int .u32 0) := HO7.out.cell 7
      have p8 : w7.cell? ⟨O, 8, none⟩ = some (.slice A2 body.length c2) := HO7.out.cell 8
      have q0 : w7.cell? ⟨R, 0, none⟩ = some (.int .i64 0) := HR7.out.cell 0
      have q1 : w7.cell? ⟨R, 1, none⟩ = some (.string ⟨#[]⟩) := HR7.out.cell 1
      have q2 : w7.cell? ⟨R, 2, none⟩ = some (.int .u32 0) := HR7.out.cell 2
      have q3 : w7.cell? ⟨R, 3, none⟩ = some (.bool false) := HR7.out.cell 3
      have q4 : w7.cell? ⟨R, 4, none⟩ = some (.slice none 0 0) := HR7.out.cell 4
      have q5 : w7.cell? ⟨R, 5, none⟩ = some (.int .i64 0) := HR7.out.cell 5
      have q6 : w7.cell? ⟨R, 6, none⟩ = some (.int .i64 0) := HR7.out.cell 6
      have q7 : w7.cell? ⟨R, 7, none⟩ = some (.int .u32 0) := HR7.out.cell 7
      have q8 : w7.cell? ⟨R, 8, none⟩ = some (.slice none 0 0) := HR7.out.cell 8
      have qf : ∀ j, w7.frozen? ⟨R, j, none⟩ = false := fun j => HR7.out.frozen j
      have HF9 := Sec.mk (set9_blk HR7.out (.int .i64 12) (.string ⟨tag.toArray⟩) (.int .u32 0) (.bool false) (.slice none 0 0) (.int .i64 0) (.int .i64 0) (.int .u32 0) (.slice A2 body.length c2))
      have HM9 : Sec (New w (set9 w7 R (.int .i64 12) (.string ⟨tag.toArray⟩) (.int .u32 0) (.bool false) (.slice none 0 0) (.int .i64 0) (.int .i64 0) (.int .u32 0) (.slice A2 body.length c2))) := ⟨HN7.out.trans (set9_mod _ _ _ _ _ _ _ _ _ _ _) (fun i hi hl => by omega)⟩
      go_wp2
      refine bodyPost_ret (results_blk rfl rfl HF9.out Tryd.underlying38 (by kernel_rfl)) rfl ?_
      rw [HE4.out]
      exact ret_app (t := tag) (by decide) (by omega) (HW7.out.keep (set9_mod _ _ _ _ _ _ _ _ _ _ _) (fun k hk => by have := HF7.out k hk; omega)) (fun k hk => by have := HF7.out k hk; omega) HM9.out
    obtain ⟨k, hk⟩ : ∃ k, more.length = k + 1 := ⟨more.length - 1, by have := List.length_pos_iff.2 hm0; omega⟩
    have hme : more.isEmpty = false := by cases more with | nil => exact absurd rfl hm0 | cons _ _ => rfl
    have hmx : (more == []) = false := by simpa using hm0
    have hki : (more.length : Int) - 1 = (k : Int) := by omega
    have hkl : k < more.length := by omega
    have hkl2 : (k : Int) ≤ (more.length : Int) := by omega
    have hsz : (⟨more.toArray⟩ : ByteArray).size = more.length := by simp [ByteArray.size]
    have HEX : Sec (imapL (line, body, true, false) = if more[k] = 32 ∧ (ReadListL (more.take k)).1 = true then (12, tag, 0, false, [], 0, 0, (ReadListL (more.take k)).2, body) else badC tag) := ⟨by rw [HE3.out, HEE.out, if_neg hm0, show more.length - 1 = k by omega]; simp only [List.getElem?_eq_getElem hkl, Option.some.injEq]⟩
    have hst : (⟨more.toArray⟩ : ByteArray).extract 0 k = ⟨(more.take k).toArray⟩ := by rw [ba_ext more 0 k, List.drop_zero]
    have hix := strIdx_run more k hkl
    have HRL := Sec.mk (fun w => readListSpec_calls (more.take k) (by rw [List.length_take]; omega) w)
    have HFW := Sec.mk (listL_wrap (more.take k))
    have hbi : (more[k] = 32 ∧ ((more[k].toNat : Int) = 32)) ∨ (¬ more[k] = 32 ∧ ¬ ((more[k].toNat : Int) = 32)) := by
      by_cases h : more[k] = 32
      · exact .inl ⟨h, by rw [h]; rfl⟩
      · exact .inr ⟨h, fun hh => h (UInt8.toNat_inj.1 (by have h3 : (32 : UInt8).toNat = 32 := rfl; omega))⟩
    have HBI := Sec.mk hbi
    clear hbi HE3 HEE
    obtain ⟨tk, htk⟩ : ∃ tk, tk = more.take k := ⟨_, rfl⟩
    rw [← htk] at hst HRL HFW HEX
    clear htk
    generalize ReadListL tk = fl at *
    obtain ⟨fok, fv⟩ := fl
    simp only at HEX HFW
    obtain ⟨mb, hmb⟩ : ∃ mb, mb = more[k] := ⟨_, rfl⟩
    rw [← hmb] at hix HEX HBI
    clear hmb
    go_wp2_with fail
    refine (HRL.out _).mono ?_
    rintro e w8 ⟨rfl, hm8⟩
    unfold FlagsV
    have hma : New w8 (w8.alloc (.cells #[.bool fok, .int .u32 fv] 75)) := (Mod.refl _ _).alloc _
    have HBF := Sec.mk (Blk.new w8 75 [.bool fok, .int .u32 fv])
    have hm9 := hm8.transN hma
    have HO9 := Sec.mk (HO7.out.mod hm9 id)
    have HB9 := Sec.mk (HB7.out.mod hm9 id)
    have HR9 := Sec.mk (HR7.out.mod hm9 id)
    have HN9 : Sec (New w (w8.alloc (.cells #[.bool fok, .int .u32 fv] 75))) := ⟨HN7.out.transN hm9⟩
    have HW9 := Sec.mk (HW7.out.new hm9)
    have hOf : O < w8.heap.size := by have := HO7.out.lt; have := hm8.size; omega
    clear hm8 hma hm9 HO7 HB7 HR7 HN7 HW7 HRL hst hm0 hme hmx
    go_upto_region 17 with (fail)
    generalize w8.alloc (.cells #[.bool fok, .int .u32 fv] 75) = w9 at *
    generalize w8.heap.size = f at *
    have f0 : w9.cell? ⟨f, 0, none⟩ = some (.bool fok) := HBF.out.cell 0
    have f1 : w9.cell? ⟨f, 1, none⟩ = some (.int .u32 fv) := HBF.out.cell 1
    rcases HBI.out with hb | hb
    rotate_left
    · have HE4 : Sec (imapL (line, body, true, false) = badC tag) := ⟨by rw [HEX.out, if_neg (fun h => hb.1 h.1)]⟩
      have hb2 := hb.2
      clear hb HEX HBI
      have p0 : w9.cell? ⟨B, 0, none⟩ = some (.int .i64 0) := HB9.out.cell 0
      have p1 : w9.cell? ⟨B, 1, none⟩ = some (.string ⟨tag.toArray⟩) := HB9.out.cell 1
      have p2 : w9.cell? ⟨B, 2, none⟩ = some (.int .u32 0) := HB9.out.cell 2
      have p3 : w9.cell? ⟨B, 3, none⟩ = some (.bool false) := HB9.out.cell 3
      have p4 : w9.cell? ⟨B, 4, none⟩ = some (.slice none 0 0) := HB9.out.cell 4
      have p5 : w9.cell? ⟨B, 5, none⟩ = some (.int .i64 0) := HB9.out.cell 5
      have p6 : w9.cell? ⟨B, 6, none⟩ = some (.int .i64 0) := HB9.out.cell 6
      have p7 : w9.cell? ⟨B, 7, none⟩ = some (.int .u32 0) := HB9.out.cell 7
      have p8 : w9.cell? ⟨B, 8, none⟩ = some (.slice none 0 0) := HB9.out.cell 8
      have q0 : w9.cell? ⟨R, 0, none⟩ = some (.int .i64 0) := HR9.out.cell 0
      have q1 : w9.cell? ⟨R, 1, none⟩ = some (.string ⟨#[]⟩) := HR9.out.cell 1
      have q2 : w9.cell? ⟨R, 2, none⟩ = some (.int .u32 0) := HR9.out.cell 2
      have q3 : w9.cell? ⟨R, 3, none⟩ = some (.bool false) := HR9.out.cell 3
      have q4 : w9.cell? ⟨R, 4, none⟩ = some (.slice none 0 0) := HR9.out.cell 4
      have q5 : w9.cell? ⟨R, 5, none⟩ = some (.int .i64 0) := HR9.out.cell 5
      have q6 : w9.cell? ⟨R, 6, none⟩ = some (.int .i64 0) := HR9.out.cell 6
      have q7 : w9.cell? ⟨R, 7, none⟩ = some (.int .u32 0) := HR9.out.cell 7
      have q8 : w9.cell? ⟨R, 8, none⟩ = some (.slice none 0 0) := HR9.out.cell 8
      have qf : ∀ j, w9.frozen? ⟨R, j, none⟩ = false := fun j => HR9.out.frozen j
      have HF9 := Sec.mk (set9_blk HR9.out (.int .i64 0) (.string ⟨tag.toArray⟩) (.int .u32 0) (.bool false) (.slice none 0 0) (.int .i64 0) (.int .i64 0) (.int .u32 0) (.slice none 0 0))
      have HM9 : Sec (New w (set9 w9 R (.int .i64 0) (.string ⟨tag.toArray⟩) (.int .u32 0) (.bool false) (.slice none 0 0) (.int .i64 0) (.int .i64 0) (.int .u32 0) (.slice none 0 0))) := ⟨HN9.out.trans (set9_mod _ _ _ _ _ _ _ _ _ _ _) (fun i hi hl => by omega)⟩
      go_wp2
      refine bodyPost_ret (results_blk rfl rfl HF9.out Tryd.underlying38 (by kernel_rfl)) rfl ?_
      rw [HE4.out]
      exact ret_half (t := tag) (by omega) HM9.out
    have hb2 := hb.2
    cases fok
    · have HE4 : Sec (imapL (line, body, true, false) = badC tag) := ⟨by rw [HEX.out, if_neg (fun h => by cases h.2)]⟩
      clear hb HEX HBI
      have p0 : w9.cell? ⟨B, 0, none⟩ = some (.int .i64 0) := HB9.out.cell 0
      have p1 : w9.cell? ⟨B, 1, none⟩ = some (.string ⟨tag.toArray⟩) := HB9.out.cell 1
      have p2 : w9.cell? ⟨B, 2, none⟩ = some (.int .u32 0) := HB9.out.cell 2
      have p3 : w9.cell? ⟨B, 3, none⟩ = some (.bool false) := HB9.out.cell 3
      have p4 : w9.cell? ⟨B, 4, none⟩ = some (.slice none 0 0) := HB9.out.cell 4
      have p5 : w9.cell? ⟨B, 5, none⟩ = some (.int .i64 0) := HB9.out.cell 5
      have p6 : w9.cell? ⟨B, 6, none⟩ = some (.int .i64 0) := HB9.out.cell 6
      have p7 : w9.cell? ⟨B, 7, none⟩ = some (.int .u32 0) := HB9.out.cell 7
      have p8 : w9.cell? ⟨B, 8, none⟩ = some (.slice none 0 0) := HB9.out.cell 8
      have q0 : w9.cell? ⟨R, 0, none⟩ = some (.int .i64 0) := HR9.out.cell 0
      have q1 : w9.cell? ⟨R, 1, none⟩ = some (.string ⟨#[]⟩) := HR9.out.cell 1
      have q2 : w9.cell? ⟨R, 2, none⟩ = some (.int .u32 0) := HR9.out.cell 2
      have q3 : w9.cell? ⟨R, 3, none⟩ = some (.bool false) := HR9.out.cell 3
      have q4 : w9.cell? ⟨R, 4, none⟩ = some (.slice none 0 0) := HR9.out.cell 4
      have q5 : w9.cell? ⟨R, 5, none⟩ = some (.int .i64 0) := HR9.out.cell 5
      have q6 : w9.cell? ⟨R, 6, none⟩ = some (.int .i64 0) := HR9.out.cell 6
      have q7 : w9.cell? ⟨R, 7, none⟩ = some (.int .u32 0) := HR9.out.cell 7
      have q8 : w9.cell? ⟨R, 8, none⟩ = some (.slice none 0 0) := HR9.out.cell 8
      have qf : ∀ j, w9.frozen? ⟨R, j, none⟩ = false := fun j => HR9.out.frozen j
      have HF9 := Sec.mk (set9_blk HR9.out (.int .i64 0) (.string ⟨tag.toArray⟩) (.int .u32 0) (.bool false) (.slice none 0 0) (.int .i64 0) (.int .i64 0) (.int .u32 0) (.slice none 0 0))
      have HM9 : Sec (New w (set9 w9 R (.int .i64 0) (.string ⟨tag.toArray⟩) (.int .u32 0) (.bool false) (.slice none 0 0) (.int .i64 0) (.int .i64 0) (.int .u32 0) (.slice none 0 0))) := ⟨HN9.out.trans (set9_mod _ _ _ _ _ _ _ _ _ _ _) (fun i hi hl => by omega)⟩
      go_wp2
      refine bodyPost_ret (results_blk rfl rfl HF9.out Tryd.underlying38 (by kernel_rfl)) rfl ?_
      rw [HE4.out]
      exact ret_half (t := tag) (by omega) HM9.out
    have HE4 : Sec (imapL (line, body, true, false) = (12, tag, 0, false, [], 0, 0, fv, body)) := ⟨by rw [HEX.out, if_pos ⟨hb.1, by trivial⟩]⟩
    clear hb HEX HBI
    have o7 : w9.cell? ⟨O, 7, none⟩ = some (.int .u32 0) := HO9.out.cell 7
    have of_ : w9.frozen? ⟨O, 7, none⟩ = false := HO9.out.frozen 7
    go_upto_region 20 with (fail)
    have hmS := (Mod.refl (fun k => k = O) w9).setCell (p := ⟨O, 7, none⟩) (fun _ => rfl) (.int .u32 fv)
    have HOS := Sec.mk (HO9.out.set_ 7 (.int .u32 fv))
    simp only [List.set_cons_zero, List.set_cons_succ] at HOS
    have HRS := Sec.mk (HR9.out.mod hmS (by omega))
    have HNS : Sec (New w (w9.setCell ⟨O, 7, none⟩ (.int .u32 fv))) := ⟨HN9.out.trans hmS (fun i hi hl => by omega)⟩
    have HWS := Sec.mk (HW9.out.keep hmS (fun k hk => by have := HF7.out k hk; omega))
    clear hmS o7 of_ f0 f1 HO9 HR9 HN9 HW9 hix hb2
    generalize w9.setCell ⟨O, 7, none⟩ (.int .u32 fv) = w10 at *
    have p0 : w10.cell? ⟨O, 0, none⟩ = some (.int .i64 12) := HOS.out.cell 0
    have p1 : w10.cell? ⟨O, 1, none⟩ = some (.string ⟨tag.toArray⟩) := HOS.out.cell 1
    have p2 : w10.cell? ⟨O, 2, none⟩ = some (.int .u32 0) := HOS.out.cell 2
    have p3 : w10.cell? ⟨O, 3, none⟩ = some (.bool false) := HOS.out.cell 3
    have p4 : w10.cell? ⟨O, 4, none⟩ = some (.slice none 0 0) := HOS.out.cell 4
    have p5 : w10.cell? ⟨O, 5, none⟩ = some (.int .i64 0) := HOS.out.cell 5
    have p6 : w10.cell? ⟨O, 6, none⟩ = some (.int .i64 0) := HOS.out.cell 6
    have p7 : w10.cell? ⟨O, 7, none⟩ = some (.int .u32 fv) := HOS.out.cell 7
    have p8 : w10.cell? ⟨O, 8, none⟩ = some (.slice A2 body.length c2) := HOS.out.cell 8
    have q0 : w10.cell? ⟨R, 0, none⟩ = some (.int .i64 0) := HRS.out.cell 0
    have q1 : w10.cell? ⟨R, 1, none⟩ = some (.string ⟨#[]⟩) := HRS.out.cell 1
    have q2 : w10.cell? ⟨R, 2, none⟩ = some (.int .u32 0) := HRS.out.cell 2
    have q3 : w10.cell? ⟨R, 3, none⟩ = some (.bool false) := HRS.out.cell 3
    have q4 : w10.cell? ⟨R, 4, none⟩ = some (.slice none 0 0) := HRS.out.cell 4
    have q5 : w10.cell? ⟨R, 5, none⟩ = some (.int .i64 0) := HRS.out.cell 5
    have q6 : w10.cell? ⟨R, 6, none⟩ = some (.int .i64 0) := HRS.out.cell 6
    have q7 : w10.cell? ⟨R, 7, none⟩ = some (.int .u32 0) := HRS.out.cell 7
    have q8 : w10.cell? ⟨R, 8, none⟩ = some (.slice none 0 0) := HRS.out.cell 8
    have qf : ∀ j, w10.frozen? ⟨R, j, none⟩ = false := fun j => HRS.out.frozen j
    have HF9 := Sec.mk (set9_blk HRS.out (.int .i64 12) (.string ⟨tag.toArray⟩) (.int .u32 0) (.bool false) (.slice none 0 0) (.int .i64 0) (.int .i64 0) (.int .u32 fv) (.slice A2 body.length c2))
    have HM9 : Sec (New w (set9 w10 R (.int .i64 12) (.string ⟨tag.toArray⟩) (.int .u32 0) (.bool false) (.slice none 0 0) (.int .i64 0) (.int .i64 0) (.int .u32 fv) (.slice A2 body.length c2))) := ⟨HNS.out.trans (set9_mod _ _ _ _ _ _ _ _ _ _ _) (fun i hi hl => by omega)⟩
    go_wp2
    refine bodyPost_ret (results_blk rfl rfl HF9.out Tryd.underlying38 (by kernel_rfl)) rfl ?_
    rw [HE4.out]
    exact ret_app (t := tag) HFW.out (by omega) (HWS.out.keep (set9_mod _ _ _ _ _ _ _ _ _ _ _) (fun k hk => by have := HF7.out k hk; omega)) (fun k hk => by have := HF7.out k hk; omega) HM9.out
  have HE2 := Sec.mk (HE.out.trans ((if_neg (by simp)).trans HRS.out))
  clear HE HRS HAP HRB HU5
  cases has2
  · have HE3 := Sec.mk (HE2.out.trans (if_pos rfl))
    clear HE2 HC3 HL2
    by_cases h1 : lv = [110, 111, 111, 112]
    · have HE4 := Sec.mk (HE3.out.trans ((if_pos h1)))
      have y1 : (lv == [110, 111, 111, 112]) = true := by simpa using h1
      clear HE3  h1
      have q0 : w5.cell? ⟨R, 0, none⟩ = some (.int .i64 0) := HR5.out.cell 0
      have q1 : w5.cell? ⟨R, 1, none⟩ = some (.string ⟨#[]⟩) := HR5.out.cell 1
      have q2 : w5.cell? ⟨R, 2, none⟩ = some (.int .u32 0) := HR5.out.cell 2
      have q3 : w5.cell? ⟨R, 3, none⟩ = some (.bool false) := HR5.out.cell 3
      have q4 : w5.cell? ⟨R, 4, none⟩ = some (.slice none 0 0) := HR5.out.cell 4
      have q5 : w5.cell? ⟨R, 5, none⟩ = some (.int .i64 0) := HR5.out.cell 5
      have q6 : w5.cell? ⟨R, 6, none⟩ = some (.int .i64 0) := HR5.out.cell 6
      have q7 : w5.cell? ⟨R, 7, none⟩ = some (.int .u32 0) := HR5.out.cell 7
      have q8 : w5.cell? ⟨R, 8, none⟩ = some (.slice none 0 0) := HR5.out.cell 8
      have qf : ∀ j, w5.frozen? ⟨R, j, none⟩ = false := fun j => HR5.out.frozen j
      have HF9 := Sec.mk (set9_blk HR5.out (.int .i64 1) (.string ⟨tag.toArray⟩) (.int .u32 0) (.bool false) (.slice none 0 0) (.int .i64 0) (.int .i64 0) (.int .u32 0) (.slice none 0 0))
      have HM9 : Sec (New w (set9 w5 R (.int .i64 1) (.string ⟨tag.toArray⟩) (.int .u32 0) (.bool false) (.slice none 0 0) (.int .i64 0) (.int .i64 0) (.int .u32 0) (.slice none 0 0))) := ⟨HN5.out.trans (set9_mod _ _ _ _ _ _ _ _ _ _ _) (fun i hi hl => by omega)⟩
      go_wp2
      refine bodyPost_ret (results_blk rfl rfl HF9.out Tryd.underlying38 (by kernel_rfl)) rfl ?_
      rw [HE4.out]
      exact ret_kind (t := tag) (by decide) (by omega) HM9.out
    have y1 : (lv == [110, 111, 111, 112]) = false := by simpa using h1
    by_cases h2 : lv = [108, 111, 103, 111, 117, 116]
    · have HE4 := Sec.mk (HE3.out.trans ((if_neg h1).trans ((if_pos h2))))
      have y2 : (lv == [108, 111, 103, 111, 117, 116]) = true := by simpa using h2
      clear HE3 h1 h2
      have q0 : w5.cell? ⟨R, 0, none⟩ = some (.int .i64 0) := HR5.out.cell 0
      have q1 : w5.cell? ⟨R, 1, none⟩ = some (.string ⟨#[]⟩) := HR5.out.cell 1
      have q2 : w5.cell? ⟨R, 2, none⟩ = some (.int .u32 0) := HR5.out.cell 2
      have q3 : w5.cell? ⟨R, 3, none⟩ = some (.bool false) := HR5.out.cell 3
      have q4 : w5.cell? ⟨R, 4, none⟩ = some (.slice none 0 0) := HR5.out.cell 4
      have q5 : w5.cell? ⟨R, 5, none⟩ = some (.int .i64 0) := HR5.out.cell 5
      have q6 : w5.cell? ⟨R, 6, none⟩ = some (.int .i64 0) := HR5.out.cell 6
      have q7 : w5.cell? ⟨R, 7, none⟩ = some (.int .u32 0) := HR5.out.cell 7
      have q8 : w5.cell? ⟨R, 8, none⟩ = some (.slice none 0 0) := HR5.out.cell 8
      have qf : ∀ j, w5.frozen? ⟨R, j, none⟩ = false := fun j => HR5.out.frozen j
      have HF9 := Sec.mk (set9_blk HR5.out (.int .i64 2) (.string ⟨tag.toArray⟩) (.int .u32 0) (.bool false) (.slice none 0 0) (.int .i64 0) (.int .i64 0) (.int .u32 0) (.slice none 0 0))
      have HM9 : Sec (New w (set9 w5 R (.int .i64 2) (.string ⟨tag.toArray⟩) (.int .u32 0) (.bool false) (.slice none 0 0) (.int .i64 0) (.int .i64 0) (.int .u32 0) (.slice none 0 0))) := ⟨HN5.out.trans (set9_mod _ _ _ _ _ _ _ _ _ _ _) (fun i hi hl => by omega)⟩
      go_wp2
      refine bodyPost_ret (results_blk rfl rfl HF9.out Tryd.underlying38 (by kernel_rfl)) rfl ?_
      rw [HE4.out]
      exact ret_kind (t := tag) (by decide) (by omega) HM9.out
    have y2 : (lv == [108, 111, 103, 111, 117, 116]) = false := by simpa using h2
    by_cases h11 : lv = [101, 120, 112, 117, 110, 103, 101]
    · have HE4 := Sec.mk (HE3.out.trans ((if_neg h1).trans ((if_neg h2).trans ((if_pos h11)))))
      have y11 : (lv == [101, 120, 112, 117, 110, 103, 101]) = true := by simpa using h11
      clear HE3 h1 h2 h11
      have q0 : w5.cell? ⟨R, 0, none⟩ = some (.int .i64 0) := HR5.out.cell 0
      have q1 : w5.cell? ⟨R, 1, none⟩ = some (.string ⟨#[]⟩) := HR5.out.cell 1
      have q2 : w5.cell? ⟨R, 2, none⟩ = some (.int .u32 0) := HR5.out.cell 2
      have q3 : w5.cell? ⟨R, 3, none⟩ = some (.bool false) := HR5.out.cell 3
      have q4 : w5.cell? ⟨R, 4, none⟩ = some (.slice none 0 0) := HR5.out.cell 4
      have q5 : w5.cell? ⟨R, 5, none⟩ = some (.int .i64 0) := HR5.out.cell 5
      have q6 : w5.cell? ⟨R, 6, none⟩ = some (.int .i64 0) := HR5.out.cell 6
      have q7 : w5.cell? ⟨R, 7, none⟩ = some (.int .u32 0) := HR5.out.cell 7
      have q8 : w5.cell? ⟨R, 8, none⟩ = some (.slice none 0 0) := HR5.out.cell 8
      have qf : ∀ j, w5.frozen? ⟨R, j, none⟩ = false := fun j => HR5.out.frozen j
      have HF9 := Sec.mk (set9_blk HR5.out (.int .i64 11) (.string ⟨tag.toArray⟩) (.int .u32 0) (.bool false) (.slice none 0 0) (.int .i64 0) (.int .i64 0) (.int .u32 0) (.slice none 0 0))
      have HM9 : Sec (New w (set9 w5 R (.int .i64 11) (.string ⟨tag.toArray⟩) (.int .u32 0) (.bool false) (.slice none 0 0) (.int .i64 0) (.int .i64 0) (.int .u32 0) (.slice none 0 0))) := ⟨HN5.out.trans (set9_mod _ _ _ _ _ _ _ _ _ _ _) (fun i hi hl => by omega)⟩
      go_wp2
      refine bodyPost_ret (results_blk rfl rfl HF9.out Tryd.underlying38 (by kernel_rfl)) rfl ?_
      rw [HE4.out]
      exact ret_kind (t := tag) (by decide) (by omega) HM9.out
    have y11 : (lv == [101, 120, 112, 117, 110, 103, 101]) = false := by simpa using h11
    have HE4 := Sec.mk (HE3.out.trans ((if_neg h1).trans ((if_neg h2).trans (if_neg h11))))
    clear HE3 h1 h2 h11
    have p0 : w5.cell? ⟨B, 0, none⟩ = some (.int .i64 0) := HB5.out.cell 0
    have p1 : w5.cell? ⟨B, 1, none⟩ = some (.string ⟨tag.toArray⟩) := HB5.out.cell 1
    have p2 : w5.cell? ⟨B, 2, none⟩ = some (.int .u32 0) := HB5.out.cell 2
    have p3 : w5.cell? ⟨B, 3, none⟩ = some (.bool false) := HB5.out.cell 3
    have p4 : w5.cell? ⟨B, 4, none⟩ = some (.slice none 0 0) := HB5.out.cell 4
    have p5 : w5.cell? ⟨B, 5, none⟩ = some (.int .i64 0) := HB5.out.cell 5
    have p6 : w5.cell? ⟨B, 6, none⟩ = some (.int .i64 0) := HB5.out.cell 6
    have p7 : w5.cell? ⟨B, 7, none⟩ = some (.int .u32 0) := HB5.out.cell 7
    have p8 : w5.cell? ⟨B, 8, none⟩ = some (.slice none 0 0) := HB5.out.cell 8
    have q0 : w5.cell? ⟨R, 0, none⟩ = some (.int .i64 0) := HR5.out.cell 0
    have q1 : w5.cell? ⟨R, 1, none⟩ = some (.string ⟨#[]⟩) := HR5.out.cell 1
    have q2 : w5.cell? ⟨R, 2, none⟩ = some (.int .u32 0) := HR5.out.cell 2
    have q3 : w5.cell? ⟨R, 3, none⟩ = some (.bool false) := HR5.out.cell 3
    have q4 : w5.cell? ⟨R, 4, none⟩ = some (.slice none 0 0) := HR5.out.cell 4
    have q5 : w5.cell? ⟨R, 5, none⟩ = some (.int .i64 0) := HR5.out.cell 5
    have q6 : w5.cell? ⟨R, 6, none⟩ = some (.int .i64 0) := HR5.out.cell 6
    have q7 : w5.cell? ⟨R, 7, none⟩ = some (.int .u32 0) := HR5.out.cell 7
    have q8 : w5.cell? ⟨R, 8, none⟩ = some (.slice none 0 0) := HR5.out.cell 8
    have qf : ∀ j, w5.frozen? ⟨R, j, none⟩ = false := fun j => HR5.out.frozen j
    have HF9 := Sec.mk (set9_blk HR5.out (.int .i64 0) (.string ⟨tag.toArray⟩) (.int .u32 0) (.bool false) (.slice none 0 0) (.int .i64 0) (.int .i64 0) (.int .u32 0) (.slice none 0 0))
    have HM9 : Sec (New w (set9 w5 R (.int .i64 0) (.string ⟨tag.toArray⟩) (.int .u32 0) (.bool false) (.slice none 0 0) (.int .i64 0) (.int .i64 0) (.int .u32 0) (.slice none 0 0))) := ⟨HN5.out.trans (set9_mod _ _ _ _ _ _ _ _ _ _ _) (fun i hi hl => by omega)⟩
    go_wp2
    refine bodyPost_ret (results_blk rfl rfl HF9.out Tryd.underlying38 (by kernel_rfl)) rfl ?_
    rw [HE4.out]
    exact ret_half (t := tag) (by omega) HM9.out
  have HE3 := Sec.mk (HE2.out.trans (if_neg (fun h => by cases h)))
  clear HE2
  by_cases hui : lv = [117, 105, 100]
  rotate_left
  · have HE4 := Sec.mk (HE3.out.trans (if_neg hui))
    have x1 : (lv == [117, 105, 100]) = false := by simpa using hui
    clear hui HE3 HC3 HL2
    have HON := Sec.mk (fun w => l6OnSet_calls tag lv more (by omega) (by omega) w)
    generalize onSetL tag lv more = x at *
    have p0 : w5.cell? ⟨B, 0, none⟩ = some (.int .i64 0) := HB5.out.cell 0
    have p1 : w5.cell? ⟨B, 1, none⟩ = some (.string ⟨tag.toArray⟩) := HB5.out.cell 1
    have p2 : w5.cell? ⟨B, 2, none⟩ = some (.int .u32 0) := HB5.out.cell 2
    have p3 : w5.cell? ⟨B, 3, none⟩ = some (.bool false) := HB5.out.cell 3
    have p4 : w5.cell? ⟨B, 4, none⟩ = some (.slice none 0 0) := HB5.out.cell 4
    have p5 : w5.cell? ⟨B, 5, none⟩ = some (.int .i64 0) := HB5.out.cell 5
    have p6 : w5.cell? ⟨B, 6, none⟩ = some (.int .i64 0) := HB5.out.cell 6
    have p7 : w5.cell? ⟨B, 7, none⟩ = some (.int .u32 0) := HB5.out.cell 7
    have p8 : w5.cell? ⟨B, 8, none⟩ = some (.slice none 0 0) := HB5.out.cell 8
    go_wp2_with fail
    refine (HON.out _).mono ?_
    rintro e w6 ⟨v, rfl, ho, hm6⟩
    obtain ⟨A4, e4, A8, e8, rfl⟩ := cellsCmd ho.rd
    have HOW := Sec.mk ho
    have HR6 := Sec.mk (HR5.out.mod hm6 id)
    have HN6 : Sec (New w w6) := ⟨HN5.out.transN hm6⟩
    have hR5 := HR5.out.lt
    have hs6 := hm6.size
    clear ho hm6 HON HR5 HB5 p0 p1 p2 p3 p4 p5 p6 p7 p8
    have q0 : w6.cell? ⟨R, 0, none⟩ = some (.int .i64 0) := HR6.out.cell 0
    have q1 : w6.cell? ⟨R, 1, none⟩ = some (.string ⟨#[]⟩) := HR6.out.cell 1
    have q2 : w6.cell? ⟨R, 2, none⟩ = some (.int .u32 0) := HR6.out.cell 2
    have q3 : w6.cell? ⟨R, 3, none⟩ = some (.bool false) := HR6.out.cell 3
    have q4 : w6.cell? ⟨R, 4, none⟩ = some (.slice none 0 0) := HR6.out.cell 4
    have q5 : w6.cell? ⟨R, 5, none⟩ = some (.int .i64 0) := HR6.out.cell 5
    have q6 : w6.cell? ⟨R, 6, none⟩ = some (.int .i64 0) := HR6.out.cell 6
    have q7 : w6.cell? ⟨R, 7, none⟩ = some (.int .u32 0) := HR6.out.cell 7
    have q8 : w6.cell? ⟨R, 8, none⟩ = some (.slice none 0 0) := HR6.out.cell 8
    have qf : ∀ j, w6.frozen? ⟨R, j, none⟩ = false := fun j => HR6.out.frozen j
    have HF9 := Sec.mk (set9_blk HR6.out (.int .i64 x.1) (.string ⟨(x.2.1).toArray⟩) (.int .u32 x.2.2.1) (.bool x.2.2.2.1) (.slice A4 x.2.2.2.2.1.length e4) (.int .i64 x.2.2.2.2.2.1) (.int .i64 x.2.2.2.2.2.2.1) (.int .u32 x.2.2.2.2.2.2.2.1) (.slice A8 x.2.2.2.2.2.2.2.2.length e8))
    have HM9 : Sec (New w (set9 w6 R (.int .i64 x.1) (.string ⟨(x.2.1).toArray⟩) (.int .u32 x.2.2.1) (.bool x.2.2.2.1) (.slice A4 x.2.2.2.2.1.length e4) (.int .i64 x.2.2.2.2.2.1) (.int .i64 x.2.2.2.2.2.2.1) (.int .u32 x.2.2.2.2.2.2.2.1) (.slice A8 x.2.2.2.2.2.2.2.2.length e8))) := ⟨HN6.out.trans (set9_mod _ _ _ _ _ _ _ _ _ _ _) (fun i hi hl => by omega)⟩
    go_wp2
    refine bodyPost_ret (results_blk rfl rfl HF9.out Tryd.underlying38 (by kernel_rfl)) rfl ?_
    rw [HE4.out]
    exact ret_ow HOW.out HN5.out.size (Nat.le_refl _) (set9_mod _ _ _ _ _ _ _ _ _ _ _) hR5 HM9.out
  have HE4 := Sec.mk (HE3.out.trans (if_pos hui))
  have x1 : (lv == [117, 105, 100]) = true := by simpa using hui
  clear hui HE3
  have HON := Sec.mk (fun w => l6OnSet_calls tag lv2 r2 (by omega) (by omega) w)
  generalize onSetL tag lv2 r2 = x at *
  go_wp2_with fail
  refine (HC3.out _).mono ?_
  rintro e w6 ⟨rfl, hm6⟩
  have HB6 := Sec.mk (HB5.out.mod hm6 id)
  have HR6 := Sec.mk (HR5.out.mod hm6 id)
  have HN6 : Sec (New w w6) := ⟨HN5.out.transN hm6⟩
  clear hm6 HB5 HR5 HN5 HC3 u2 x1
  have hR6 := HR6.out.lt
  have hs6 := HN6.out.size
  go_upto_region 32 with (fail)
  have HSS : Sec (New w6 w6.drew) := ⟨(Mod.refl _ _).drew⟩
  refine reg_start [6] (fun W => Sec (New w6 W)) (by kernel_rfl) ?_
  refine reg_take (.agg #[.int .i64 0, .string ⟨tag.toArray⟩, .int .u32 0, .bool false, .slice none 0 0, .int .i64 0, .int .i64 0, .int .u32 0, .slice none 0 0]) (i := 0) (n := 116) HSS rfl (by kernel_rfl) (by kernel_rfl) (by kernel_rfl) (by kernel_rfl) (fun _ _ _ h => h) (fun W hW => exec_load rfl rfl (ldCmdB (HB6.out.mod hW.out id))) ?_
  simp only [Act.put, List.setIfInBounds_toArray, List.set_cons_zero, List.set_cons_succ]
  refine reg_take (.string ⟨v2.toArray⟩) (i := 1) (n := 117) HSS rfl (by kernel_rfl) (by kernel_rfl) (by kernel_rfl) (by kernel_rfl) (fun _ _ _ h => h) (fun W hW => exec_move rfl rfl) ?_
  simp only [Act.put, List.setIfInBounds_toArray, List.set_cons_zero, List.set_cons_succ]
  refine reg_take (.string ⟨r2.toArray⟩) (i := 3) (n := 119) HSS rfl (by kernel_rfl) (by kernel_rfl) (by kernel_rfl) (by kernel_rfl) (fun _ _ _ h => h) (fun W hW => exec_move rfl rfl) ?_
  simp only [Act.put, List.setIfInBounds_toArray, List.set_cons_zero, List.set_cons_succ]
  generalize w6.drew = w7 at *
  refine reg_step2 (i := 2) (j := 5) rfl rfl (by kernel_rfl) (fun K hK => ?_) (fun K hK => ?_)
  · have hs7 := HSS.out.size
    refine wp_call (n := 118) (vals := [.string ⟨v2.toArray⟩]) rfl rfl rfl (by kernel_rfl) (HL2.out w7) ?_
    rintro e w8 ⟨rfl, hmL⟩
    have HSS : Sec (New w6 w8) := ⟨HSS.out.transN hmL⟩
    refine ⟨_, rfl, hK.out _ _ (fun _ => HSS) ?_⟩
    clear hmL
    clear hK K
    simp only [Act.put, List.setIfInBounds_toArray, List.set_cons_zero, List.set_cons_succ]
    have hs8 := HSS.out.size
    refine reg_step2 (i := 4) (j := 5) rfl rfl (by kernel_rfl) (fun K hK => ?_) (fun K hK => ?_)
    · refine wp_call (n := 120) (vals := [.agg #[.int .i64 0, .string ⟨tag.toArray⟩, .int .u32 0, .bool false, .slice none 0 0, .int .i64 0, .int .i64 0, .int .u32 0, .slice none 0 0], .string ⟨lv2.toArray⟩, .string ⟨r2.toArray⟩]) rfl rfl rfl (by kernel_rfl) (HON.out w8) ?_
      rintro e w9 ⟨v, rfl, ho, hmN⟩
      obtain ⟨A4, e4, A8, e8, rfl, ho2⟩ := own_uid ho (decide (x.1 ≠ 0))
      have HOW := Sec.mk ho2
      have hsN := hmN.size
      obtain ⟨lo, hlo_⟩ : ∃ lo, lo = w8.heap.size := ⟨_, rfl⟩
      obtain ⟨hi, hhi_⟩ : ∃ hi, hi = w9.heap.size := ⟨_, rfl⟩
      rw [← hlo_, ← hhi_] at HOW
      have hlo : w.heap.size ≤ lo := by omega
      have hRlo : R < lo := by omega
      have hhi0 : hi ≤ w9.heap.size := by omega
      have HSS : Sec (New w6 w9) := ⟨HSS.out.transN hmN⟩
      refine ⟨_, rfl, hK.out _ _ (fun _ => HSS) ?_⟩
      clear hmN ho ho2
      clear hK K
      simp only [Act.put, List.setIfInBounds_toArray, List.set_cons_zero, List.set_cons_succ]
      refine reg_step (i := 5) rfl (by kernel_rfl) (fun K hK => ?_)
      have hma : New w9 (w9.alloc (.cells #[.int .i64 0, .string ⟨#[]⟩, .int .u32 0, .bool false, .slice none 0 0, .int .i64 0, .int .i64 0, .int .u32 0, .slice none 0 0] 38)) := (Mod.refl _ _).alloc _
      have HZ := Sec.mk (Blk.new w9 38 [.int .i64 0, .string ⟨#[]⟩, .int .u32 0, .bool false, .slice none 0 0, .int .i64 0, .int .i64 0, .int .u32 0, .slice none 0 0])
      have HSS : Sec (New w6 (w9.alloc (.cells #[.int .i64 0, .string ⟨#[]⟩, .int .u32 0, .bool false, .slice none 0 0, .int .i64 0, .int .i64 0, .int .u32 0, .slice none 0 0] 38))) := ⟨HSS.out.transN hma⟩
      have HOW := Sec.mk (HOW.out.step hma)
      obtain ⟨O, hO⟩ : ∃ O, O = w9.heap.size := ⟨_, rfl⟩
      have hOF : O < lo ∨ hi ≤ O := by omega
      have hOR : R < O ∧ w.heap.size ≤ O := by omega
      have hhi0 : hi ≤ (w9.alloc (.cells #[.int .i64 0, .string ⟨#[]⟩, .int .u32 0, .bool false, .slice none 0 0, .int .i64 0, .int .i64 0, .int .u32 0, .slice none 0 0] 38)).heap.size := Nat.le_trans hhi0 hma.size
      refine wp_valw (n := 16) (v := .pointer (some ⟨w9.heap.size, 0, none⟩)) (w' := w9.alloc (.cells #[.int .i64 0, .string ⟨#[]⟩, .int .u32 0, .bool false, .slice none 0 0, .int .i64 0, .int .i64 0, .int .u32 0, .slice none 0 0] 38)) (exec_allocCmd rfl) rfl ?_
      refine hK.out _ _ (fun _ => HSS) ?_
      clear hma
      clear hK K
      simp only [Act.put, List.setIfInBounds_toArray, List.set_cons_zero, List.set_cons_succ]
      generalize w9.alloc (.cells #[.int .i64 0, .string ⟨#[]⟩, .int .u32 0, .bool false, .slice none 0 0, .int .i64 0, .int .i64 0, .int .u32 0, .slice none 0 0] 38) = w10 at *
      rw [← hO] at HZ ⊢
      clear hlo_ hhi_ hO
      refine reg_step (i := 6) rfl (by kernel_rfl) (fun K hK => ?_)
      refine wp_store rfl rfl rfl rfl (stCmd HZ.out _ _ _ _ _ _ _ _ _ _ _ _ _) (hK.out _ _ (fun h => absurd (List.mem_singleton.2 rfl) h) ?_)
      clear hK K
      refine reg_done (by kernel_rfl) ?_ _
      have hmS := set9_mod w10 O (.int .i64 x.1) (.string ⟨(x.2.1).toArray⟩) (.int .u32 x.2.2.1) (.bool x.2.2.2.1) (.slice A4 x.2.2.2.2.1.length e4) (.int .i64 x.2.2.2.2.2.1) (.int .i64 x.2.2.2.2.2.2.1) (.int .u32 x.2.2.2.2.2.2.2.1) (.slice A8 x.2.2.2.2.2.2.2.2.length e8)
      have HZ9 := Sec.mk (set9_blk HZ.out (.int .i64 x.1) (.string ⟨(x.2.1).toArray⟩) (.int .u32 x.2.2.1) (.bool x.2.2.2.1) (.slice A4 x.2.2.2.2.1.length e4) (.int .i64 x.2.2.2.2.2.1) (.int .i64 x.2.2.2.2.2.2.1) (.int .u32 x.2.2.2.2.2.2.2.1) (.slice A8 x.2.2.2.2.2.2.2.2.length e8))
      have HOW9 := Sec.mk (HOW.out.keep hmS (fun k h1 h2 => by omega))
      have HR9 := Sec.mk ((HR6.out.mod HSS.out id).mod hmS (by omega))
      have HN9 : Sec (New w (set9 w10 O (.int .i64 x.1) (.string ⟨(x.2.1).toArray⟩) (.int .u32 x.2.2.1) (.bool x.2.2.2.1) (.slice A4 x.2.2.2.2.1.length e4) (.int .i64 x.2.2.2.2.2.1) (.int .i64 x.2.2.2.2.2.2.1) (.int .u32 x.2.2.2.2.2.2.2.1) (.slice A8 x.2.2.2.2.2.2.2.2.length e8))) := ⟨(HN6.out.transN HSS.out).trans hmS (fun i hi hl => by omega)⟩
      have hhi : hi ≤ (set9 w10 O (.int .i64 x.1) (.string ⟨(x.2.1).toArray⟩) (.int .u32 x.2.2.1) (.bool x.2.2.2.1) (.slice A4 x.2.2.2.2.1.length e4) (.int .i64 x.2.2.2.2.2.1) (.int .i64 x.2.2.2.2.2.2.1) (.int .u32 x.2.2.2.2.2.2.2.1) (.slice A8 x.2.2.2.2.2.2.2.2.length e8)).heap.size := Nat.le_trans hhi0 hmS.size
      clear hmS HZ HOW HSS HON HL2 HB6
      generalize set9 w10 O (.int .i64 x.1) (.string ⟨(x.2.1).toArray⟩) (.int .u32 x.2.2.1) (.bool x.2.2.2.1) (.slice A4 x.2.2.2.2.1.length e4) (.int .i64 x.2.2.2.2.2.1) (.int .i64 x.2.2.2.2.2.2.1) (.int .u32 x.2.2.2.2.2.2.2.1) (.slice A8 x.2.2.2.2.2.2.2.2.length e8) = wS at *
      have HXE : Sec (setU x = (x.1, x.2.1, x.2.2.1, decide (x.1 ≠ 0), x.2.2.2.2)) := ⟨rfl⟩
      have o0 : wS.cell? ⟨O, 0, none⟩ = some (.int .i64 x.1) := HZ9.out.cell 0
      have o1 : wS.cell? ⟨O, 1, none⟩ = some (.string ⟨(x.2.1).toArray⟩) := HZ9.out.cell 1
      have o2 : wS.cell? ⟨O, 2, none⟩ = some (.int .u32 x.2.2.1) := HZ9.out.cell 2
      have o3 : wS.cell? ⟨O, 3, none⟩ = some (.bool x.2.2.2.1) := HZ9.out.cell 3
      have o4 : wS.cell? ⟨O, 4, none⟩ = some (.slice A4 x.2.2.2.2.1.length e4) := HZ9.out.cell 4
      have o5 : wS.cell? ⟨O, 5, none⟩ = some (.int .i64 x.2.2.2.2.2.1) := HZ9.out.cell 5
      have o6 : wS.cell? ⟨O, 6, none⟩ = some (.int .i64 x.2.2.2.2.2.2.1) := HZ9.out.cell 6
      have o7 : wS.cell? ⟨O, 7, none⟩ = some (.int .u32 x.2.2.2.2.2.2.2.1) := HZ9.out.cell 7
      have o8 : wS.cell? ⟨O, 8, none⟩ = some (.slice A8 x.2.2.2.2.2.2.2.2.length e8) := HZ9.out.cell 8
      have of : ∀ j, wS.frozen? ⟨O, j, none⟩ = false := fun j => HZ9.out.frozen j
      have hdz : decide (x.1 ≠ 0) = !decide (x.1 = 0) := by simp
      obtain ⟨dz, hdz2⟩ : ∃ dz, dz = decide (x.1 ≠ 0) := ⟨_, rfl⟩
      rw [← hdz2] at HOW9 HXE
      have HDZ := Sec.mk hdz2
      clear hdz hdz2
      by_cases hx0 : x.1 = 0
      · have hd : dz = false := by rw [HDZ.out]; simp [hx0]
        subst hd
        clear HDZ
        go_upto_region 34 with (fail)
        have hmT := (Mod.refl (fun k => k = O) wS).setCell (p := ⟨O, 3, none⟩) (fun _ => rfl) (.bool false)
        have HZT := Sec.mk (HZ9.out.set_ 3 (.bool false))
        simp only [List.set_cons_zero, List.set_cons_succ] at HZT
        have HOWT := Sec.mk (HOW9.out.keep hmT (fun k h1 h2 => by omega))
        have HRT := Sec.mk (HR9.out.mod hmT (by omega))
        have HNT : Sec (New w (wS.setCell ⟨O, 3, none⟩ (.bool false))) := ⟨HN9.out.trans hmT (fun i hi hl => by omega)⟩
        have hhT := Nat.le_trans hhi hmT.size
        clear hx0 hmT HZ9 HOW9 HR9 HN9 o0 o1 o2 o3 o4 o5 o6 o7 o8 of
        generalize wS.setCell ⟨O, 3, none⟩ (.bool false) = wT at *
        have p0 : wT.cell? ⟨O, 0, none⟩ = some (.int .i64 x.1) := HZT.out.cell 0
        have p1 : wT.cell? ⟨O, 1, none⟩ = some (.string ⟨(x.2.1).toArray⟩) := HZT.out.cell 1
        have p2 : wT.cell? ⟨O, 2, none⟩ = some (.int .u32 x.2.2.1) := HZT.out.cell 2
        have p3 : wT.cell? ⟨O, 3, none⟩ = some (.bool false) := HZT.out.cell 3
        have p4 : wT.cell? ⟨O, 4, none⟩ = some (.slice A4 x.2.2.2.2.1.length e4) := HZT.out.cell 4
        have p5 : wT.cell? ⟨O, 5, none⟩ = some (.int .i64 x.2.2.2.2.2.1) := HZT.out.cell 5
        have p6 : wT.cell? ⟨O, 6, none⟩ = some (.int .i64 x.2.2.2.2.2.2.1) := HZT.out.cell 6
        have p7 : wT.cell? ⟨O, 7, none⟩ = some (.int .u32 x.2.2.2.2.2.2.2.1) := HZT.out.cell 7
        have p8 : wT.cell? ⟨O, 8, none⟩ = some (.slice A8 x.2.2.2.2.2.2.2.2.length e8) := HZT.out.cell 8
        have q0 : wT.cell? ⟨R, 0, none⟩ = some (.int .i64 0) := HRT.out.cell 0
        have q1 : wT.cell? ⟨R, 1, none⟩ = some (.string ⟨#[]⟩) := HRT.out.cell 1
        have q2 : wT.cell? ⟨R, 2, none⟩ = some (.int .u32 0) := HRT.out.cell 2
        have q3 : wT.cell? ⟨R, 3, none⟩ = some (.bool false) := HRT.out.cell 3
        have q4 : wT.cell? ⟨R, 4, none⟩ = some (.slice none 0 0) := HRT.out.cell 4
        have q5 : wT.cell? ⟨R, 5, none⟩ = some (.int .i64 0) := HRT.out.cell 5
        have q6 : wT.cell? ⟨R, 6, none⟩ = some (.int .i64 0) := HRT.out.cell 6
        have q7 : wT.cell? ⟨R, 7, none⟩ = some (.int .u32 0) := HRT.out.cell 7
        have q8 : wT.cell? ⟨R, 8, none⟩ = some (.slice none 0 0) := HRT.out.cell 8
        have qf : ∀ j, wT.frozen? ⟨R, j, none⟩ = false := fun j => HRT.out.frozen j
        have HF9 := Sec.mk (set9_blk HRT.out (.int .i64 x.1) (.string ⟨(x.2.1).toArray⟩) (.int .u32 x.2.2.1) (.bool false) (.slice A4 x.2.2.2.2.1.length e4) (.int .i64 x.2.2.2.2.2.1) (.int .i64 x.2.2.2.2.2.2.1) (.int .u32 x.2.2.2.2.2.2.2.1) (.slice A8 x.2.2.2.2.2.2.2.2.length e8))
        have HM9 : Sec (New w (set9 wT R (.int .i64 x.1) (.string ⟨(x.2.1).toArray⟩) (.int .u32 x.2.2.1) (.bool false) (.slice A4 x.2.2.2.2.1.length e4) (.int .i64 x.2.2.2.2.2.1) (.int .i64 x.2.2.2.2.2.2.1) (.int .u32 x.2.2.2.2.2.2.2.1) (.slice A8 x.2.2.2.2.2.2.2.2.length e8))) := ⟨HNT.out.trans (set9_mod _ _ _ _ _ _ _ _ _ _ _) (fun i hi hl => by omega)⟩
        go_wp2
        refine bodyPost_ret (results_blk rfl rfl HF9.out Tryd.underlying38 (by kernel_rfl)) rfl ?_
        rw [HE4.out]
        rw [HXE.out]
        exact ret_ow HOWT.out hlo hhT (set9_mod _ _ _ _ _ _ _ _ _ _ _) hRlo HM9.out
      · have hd : dz = true := by rw [HDZ.out]; simp [hx0]
        subst hd
        clear HDZ
        have hxa : (x.1 == 0) = false := by simpa using hx0
        have hxb : (x.1 != 0) = true := by simpa using hx0
        have hxc : decide (x.1 = 0) = false := decide_eq_false hx0
        go_upto_region 34 with (fail)
        have hmT := (Mod.refl (fun k => k = O) wS).setCell (p := ⟨O, 3, none⟩) (fun _ => rfl) (.bool true)
        have HZT := Sec.mk (HZ9.out.set_ 3 (.bool true))
        simp only [List.set_cons_zero, List.set_cons_succ] at HZT
        have HOWT := Sec.mk (HOW9.out.keep hmT (fun k h1 h2 => by omega))
        have HRT := Sec.mk (HR9.out.mod hmT (by omega))
        have HNT : Sec (New w (wS.setCell ⟨O, 3, none⟩ (.bool true))) := ⟨HN9.out.trans hmT (fun i hi hl => by omega)⟩
        have hhT := Nat.le_trans hhi hmT.size
        clear hx0 hxa hxb hxc hmT HZ9 HOW9 HR9 HN9 o0 o1 o2 o3 o4 o5 o6 o7 o8 of
        generalize wS.setCell ⟨O, 3, none⟩ (.bool true) = wT at *
        have p0 : wT.cell? ⟨O, 0, none⟩ = some (.int .i64 x.1) := HZT.out.cell 0
        have p1 : wT.cell? ⟨O, 1, none⟩ = some (.string ⟨(x.2.1).toArray⟩) := HZT.out.cell 1
        have p2 : wT.cell? ⟨O, 2, none⟩ = some (.int .u32 x.2.2.1) := HZT.out.cell 2
        have p3 : wT.cell? ⟨O, 3, none⟩ = some (.bool true) := HZT.out.cell 3
        have p4 : wT.cell? ⟨O, 4, none⟩ = some (.slice A4 x.2.2.2.2.1.length e4) := HZT.out.cell 4
        have p5 : wT.cell? ⟨O, 5, none⟩ = some (.int .i64 x.2.2.2.2.2.1) := HZT.out.cell 5
        have p6 : wT.cell? ⟨O, 6, none⟩ = some (.int .i64 x.2.2.2.2.2.2.1) := HZT.out.cell 6
        have p7 : wT.cell? ⟨O, 7, none⟩ = some (.int .u32 x.2.2.2.2.2.2.2.1) := HZT.out.cell 7
        have p8 : wT.cell? ⟨O, 8, none⟩ = some (.slice A8 x.2.2.2.2.2.2.2.2.length e8) := HZT.out.cell 8
        have q0 : wT.cell? ⟨R, 0, none⟩ = some (.int .i64 0) := HRT.out.cell 0
        have q1 : wT.cell? ⟨R, 1, none⟩ = some (.string ⟨#[]⟩) := HRT.out.cell 1
        have q2 : wT.cell? ⟨R, 2, none⟩ = some (.int .u32 0) := HRT.out.cell 2
        have q3 : wT.cell? ⟨R, 3, none⟩ = some (.bool false) := HRT.out.cell 3
        have q4 : wT.cell? ⟨R, 4, none⟩ = some (.slice none 0 0) := HRT.out.cell 4
        have q5 : wT.cell? ⟨R, 5, none⟩ = some (.int .i64 0) := HRT.out.cell 5
        have q6 : wT.cell? ⟨R, 6, none⟩ = some (.int .i64 0) := HRT.out.cell 6
        have q7 : wT.cell? ⟨R, 7, none⟩ = some (.int .u32 0) := HRT.out.cell 7
        have q8 : wT.cell? ⟨R, 8, none⟩ = some (.slice none 0 0) := HRT.out.cell 8
        have qf : ∀ j, wT.frozen? ⟨R, j, none⟩ = false := fun j => HRT.out.frozen j
        have HF9 := Sec.mk (set9_blk HRT.out (.int .i64 x.1) (.string ⟨(x.2.1).toArray⟩) (.int .u32 x.2.2.1) (.bool true) (.slice A4 x.2.2.2.2.1.length e4) (.int .i64 x.2.2.2.2.2.1) (.int .i64 x.2.2.2.2.2.2.1) (.int .u32 x.2.2.2.2.2.2.2.1) (.slice A8 x.2.2.2.2.2.2.2.2.length e8))
        have HM9 : Sec (New w (set9 wT R (.int .i64 x.1) (.string ⟨(x.2.1).toArray⟩) (.int .u32 x.2.2.1) (.bool true) (.slice A4 x.2.2.2.2.1.length e4) (.int .i64 x.2.2.2.2.2.1) (.int .i64 x.2.2.2.2.2.2.1) (.int .u32 x.2.2.2.2.2.2.2.1) (.slice A8 x.2.2.2.2.2.2.2.2.length e8))) := ⟨HNT.out.trans (set9_mod _ _ _ _ _ _ _ _ _ _ _) (fun i hi hl => by omega)⟩
        go_wp2
        refine bodyPost_ret (results_blk rfl rfl HF9.out Tryd.underlying38 (by kernel_rfl)) rfl ?_
        rw [HE4.out]
        rw [HXE.out]
        exact ret_ow HOWT.out hlo hhT (set9_mod _ _ _ _ _ _ _ _ _ _ _) hRlo HM9.out
    · have hma : New w8 (w8.alloc (.cells #[.int .i64 0, .string ⟨#[]⟩, .int .u32 0, .bool false, .slice none 0 0, .int .i64 0, .int .i64 0, .int .u32 0, .slice none 0 0] 38)) := (Mod.refl _ _).alloc _
      have HZ := Sec.mk (Blk.new w8 38 [.int .i64 0, .string ⟨#[]⟩, .int .u32 0, .bool false, .slice none 0 0, .int .i64 0, .int .i64 0, .int .u32 0, .slice none 0 0])
      have HSS : Sec (New w6 (w8.alloc (.cells #[.int .i64 0, .string ⟨#[]⟩, .int .u32 0, .bool false, .slice none 0 0, .int .i64 0, .int .i64 0, .int .u32 0, .slice none 0 0] 38))) := ⟨HSS.out.transN hma⟩
      obtain ⟨O, hO⟩ : ∃ O, O = w8.heap.size := ⟨_, rfl⟩
      have hO2 : O < (w8.alloc (.cells #[.int .i64 0, .string ⟨#[]⟩, .int .u32 0, .bool false, .slice none 0 0, .int .i64 0, .int .i64 0, .int .u32 0, .slice none 0 0] 38)).heap.size := by rw [hO]; exact HZ.out.lt
      refine wp_valw (n := 16) (v := .pointer (some ⟨w8.heap.size, 0, none⟩)) (w' := w8.alloc (.cells #[.int .i64 0, .string ⟨#[]⟩, .int .u32 0, .bool false, .slice none 0 0, .int .i64 0, .int .i64 0, .int .u32 0, .slice none 0 0] 38)) (exec_allocCmd rfl) rfl ?_
      refine hK.out _ _ (fun _ => HSS) ?_
      clear hma
      clear hK K
      simp only [Act.put, List.setIfInBounds_toArray, List.set_cons_zero, List.set_cons_succ]
      generalize w8.alloc (.cells #[.int .i64 0, .string ⟨#[]⟩, .int .u32 0, .bool false, .slice none 0 0, .int .i64 0, .int .i64 0, .int .u32 0, .slice none 0 0] 38) = w9 at *
      rw [← hO] at HZ ⊢
      have hOR : R < O ∧ w.heap.size ≤ O := by omega
      clear hO
      refine reg_step (i := 4) rfl (by kernel_rfl) (fun K hK => ?_)
      refine wp_call (n := 120) (vals := [.agg #[.int .i64 0, .string ⟨tag.toArray⟩, .int .u32 0, .bool false, .slice none 0 0, .int .i64 0, .int .i64 0, .int .u32 0, .slice none 0 0], .string ⟨lv2.toArray⟩, .string ⟨r2.toArray⟩]) rfl rfl rfl (by kernel_rfl) (HON.out w9) ?_
      rintro e w10 ⟨v, rfl, ho, hmN⟩
      obtain ⟨A4, e4, A8, e8, rfl, ho2⟩ := own_uid ho (decide (x.1 ≠ 0))
      have HZ := Sec.mk (HZ.out.mod hmN id)
      have hs9 := HSS.out.size
      have HOW := Sec.mk ho2
      have hsN := hmN.size
      obtain ⟨lo, hlo_⟩ : ∃ lo, lo = w9.heap.size := ⟨_, rfl⟩
      obtain ⟨hi, hhi_⟩ : ∃ hi, hi = w10.heap.size := ⟨_, rfl⟩
      rw [← hlo_, ← hhi_] at HOW
      have hlo : w.heap.size ≤ lo := by omega
      have hRlo : R < lo := by omega
      have hhi0 : hi ≤ w10.heap.size := by omega
      have hOF : O < lo ∨ hi ≤ O := by omega
      have HSS : Sec (New w6 w10) := ⟨HSS.out.transN hmN⟩
      refine ⟨_, rfl, hK.out _ _ (fun _ => HSS) ?_⟩
      clear hmN ho ho2
      clear hK K
      simp only [Act.put, List.setIfInBounds_toArray, List.set_cons_zero, List.set_cons_succ]
      clear hlo_ hhi_
      refine reg_step (i := 6) rfl (by kernel_rfl) (fun K hK => ?_)
      refine wp_store rfl rfl rfl rfl (stCmd HZ.out _ _ _ _ _ _ _ _ _ _ _ _ _) (hK.out _ _ (fun h => absurd (List.mem_singleton.2 rfl) h) ?_)
      clear hK K
      refine reg_done (by kernel_rfl) ?_ _
      have hmS := set9_mod w10 O (.int .i64 x.1) (.string ⟨(x.2.1).toArray⟩) (.int .u32 x.2.2.1) (.bool x.2.2.2.1) (.slice A4 x.2.2.2.2.1.length e4) (.int .i64 x.2.2.2.2.2.1) (.int .i64 x.2.2.2.2.2.2.1) (.int .u32 x.2.2.2.2.2.2.2.1) (.slice A8 x.2.2.2.2.2.2.2.2.length e8)
      have HZ9 := Sec.mk (set9_blk HZ.out (.int .i64 x.1) (.string ⟨(x.2.1).toArray⟩) (.int .u32 x.2.2.1) (.bool x.2.2.2.1) (.slice A4 x.2.2.2.2.1.length e4) (.int .i64 x.2.2.2.2.2.1) (.int .i64 x.2.2.2.2.2.2.1) (.int .u32 x.2.2.2.2.2.2.2.1) (.slice A8 x.2.2.2.2.2.2.2.2.length e8))
      have HOW9 := Sec.mk (HOW.out.keep hmS (fun k h1 h2 => by omega))
      have HR9 := Sec.mk ((HR6.out.mod HSS.out id).mod hmS (by omega))
      have HN9 : Sec (New w (set9 w10 O (.int .i64 x.1) (.string ⟨(x.2.1).toArray⟩) (.int .u32 x.2.2.1) (.bool x.2.2.2.1) (.slice A4 x.2.2.2.2.1.length e4) (.int .i64 x.2.2.2.2.2.1) (.int .i64 x.2.2.2.2.2.2.1) (.int .u32 x.2.2.2.2.2.2.2.1) (.slice A8 x.2.2.2.2.2.2.2.2.length e8))) := ⟨(HN6.out.transN HSS.out).trans hmS (fun i hi hl => by omega)⟩
      have hhi : hi ≤ (set9 w10 O (.int .i64 x.1) (.string ⟨(x.2.1).toArray⟩) (.int .u32 x.2.2.1) (.bool x.2.2.2.1) (.slice A4 x.2.2.2.2.1.length e4) (.int .i64 x.2.2.2.2.2.1) (.int .i64 x.2.2.2.2.2.2.1) (.int .u32 x.2.2.2.2.2.2.2.1) (.slice A8 x.2.2.2.2.2.2.2.2.length e8)).heap.size := Nat.le_trans hhi0 hmS.size
      clear hmS HZ HOW HSS HON HL2 HB6
      generalize set9 w10 O (.int .i64 x.1) (.string ⟨(x.2.1).toArray⟩) (.int .u32 x.2.2.1) (.bool x.2.2.2.1) (.slice A4 x.2.2.2.2.1.length e4) (.int .i64 x.2.2.2.2.2.1) (.int .i64 x.2.2.2.2.2.2.1) (.int .u32 x.2.2.2.2.2.2.2.1) (.slice A8 x.2.2.2.2.2.2.2.2.length e8) = wS at *
      have HXE : Sec (setU x = (x.1, x.2.1, x.2.2.1, decide (x.1 ≠ 0), x.2.2.2.2)) := ⟨rfl⟩
      have o0 : wS.cell? ⟨O, 0, none⟩ = some (.int .i64 x.1) := HZ9.out.cell 0
      have o1 : wS.cell? ⟨O, 1, none⟩ = some (.string ⟨(x.2.1).toArray⟩) := HZ9.out.cell 1
      have o2 : wS.cell? ⟨O, 2, none⟩ = some (.int .u32 x.2.2.1) := HZ9.out.cell 2
      have o3 : wS.cell? ⟨O, 3, none⟩ = some (.bool x.2.2.2.1) := HZ9.out.cell 3
      have o4 : wS.cell? ⟨O, 4, none⟩ = some (.slice A4 x.2.2.2.2.1.length e4) := HZ9.out.cell 4
      have o5 : wS.cell? ⟨O, 5, none⟩ = some (.int .i64 x.2.2.2.2.2.1) := HZ9.out.cell 5
      have o6 : wS.cell? ⟨O, 6, none⟩ = some (.int .i64 x.2.2.2.2.2.2.1) := HZ9.out.cell 6
      have o7 : wS.cell? ⟨O, 7, none⟩ = some (.int .u32 x.2.2.2.2.2.2.2.1) := HZ9.out.cell 7
      have o8 : wS.cell? ⟨O, 8, none⟩ = some (.slice A8 x.2.2.2.2.2.2.2.2.length e8) := HZ9.out.cell 8
      have of : ∀ j, wS.frozen? ⟨O, j, none⟩ = false := fun j => HZ9.out.frozen j
      have hdz : decide (x.1 ≠ 0) = !decide (x.1 = 0) := by simp
      obtain ⟨dz, hdz2⟩ : ∃ dz, dz = decide (x.1 ≠ 0) := ⟨_, rfl⟩
      rw [← hdz2] at HOW9 HXE
      have HDZ := Sec.mk hdz2
      clear hdz hdz2
      by_cases hx0 : x.1 = 0
      · have hd : dz = false := by rw [HDZ.out]; simp [hx0]
        subst hd
        clear HDZ
        go_upto_region 34 with (fail)
        have hmT := (Mod.refl (fun k => k = O) wS).setCell (p := ⟨O, 3, none⟩) (fun _ => rfl) (.bool false)
        have HZT := Sec.mk (HZ9.out.set_ 3 (.bool false))
        simp only [List.set_cons_zero, List.set_cons_succ] at HZT
        have HOWT := Sec.mk (HOW9.out.keep hmT (fun k h1 h2 => by omega))
        have HRT := Sec.mk (HR9.out.mod hmT (by omega))
        have HNT : Sec (New w (wS.setCell ⟨O, 3, none⟩ (.bool false))) := ⟨HN9.out.trans hmT (fun i hi hl => by omega)⟩
        have hhT := Nat.le_trans hhi hmT.size
        clear hx0 hmT HZ9 HOW9 HR9 HN9 o0 o1 o2 o3 o4 o5 o6 o7 o8 of
        generalize wS.setCell ⟨O, 3, none⟩ (.bool false) = wT at *
        have p0 : wT.cell? ⟨O, 0, none⟩ = some (.int .i64 x.1) := HZT.out.cell 0
        have p1 : wT.cell? ⟨O, 1, none⟩ = some (.string ⟨(x.2.1).toArray⟩) := HZT.out.cell 1
        have p2 : wT.cell? ⟨O, 2, none⟩ = some (.int .u32 x.2.2.1) := HZT.out.cell 2
        have p3 : wT.cell? ⟨O, 3, none⟩ = some (.bool false) := HZT.out.cell 3
        have p4 : wT.cell? ⟨O, 4, none⟩ = some (.slice A4 x.2.2.2.2.1.length e4) := HZT.out.cell 4
        have p5 : wT.cell? ⟨O, 5, none⟩ = some (.int .i64 x.2.2.2.2.2.1) := HZT.out.cell 5
        have p6 : wT.cell? ⟨O, 6, none⟩ = some (.int .i64 x.2.2.2.2.2.2.1) := HZT.out.cell 6
        have p7 : wT.cell? ⟨O, 7, none⟩ = some (.int .u32 x.2.2.2.2.2.2.2.1) := HZT.out.cell 7
        have p8 : wT.cell? ⟨O, 8, none⟩ = some (.slice A8 x.2.2.2.2.2.2.2.2.length e8) := HZT.out.cell 8
        have q0 : wT.cell? ⟨R, 0, none⟩ = some (.int .i64 0) := HRT.out.cell 0
        have q1 : wT.cell? ⟨R, 1, none⟩ = some (.string ⟨#[]⟩) := HRT.out.cell 1
        have q2 : wT.cell? ⟨R, 2, none⟩ = some (.int .u32 0) := HRT.out.cell 2
        have q3 : wT.cell? ⟨R, 3, none⟩ = some (.bool false) := HRT.out.cell 3
        have q4 : wT.cell? ⟨R, 4, none⟩ = some (.slice none 0 0) := HRT.out.cell 4
        have q5 : wT.cell? ⟨R, 5, none⟩ = some (.int .i64 0) := HRT.out.cell 5
        have q6 : wT.cell? ⟨R, 6, none⟩ = some (.int .i64 0) := HRT.out.cell 6
        have q7 : wT.cell? ⟨R, 7, none⟩ = some (.int .u32 0) := HRT.out.cell 7
        have q8 : wT.cell? ⟨R, 8, none⟩ = some (.slice none 0 0) := HRT.out.cell 8
        have qf : ∀ j, wT.frozen? ⟨R, j, none⟩ = false := fun j => HRT.out.frozen j
        have HF9 := Sec.mk (set9_blk HRT.out (.int .i64 x.1) (.string ⟨(x.2.1).toArray⟩) (.int .u32 x.2.2.1) (.bool false) (.slice A4 x.2.2.2.2.1.length e4) (.int .i64 x.2.2.2.2.2.1) (.int .i64 x.2.2.2.2.2.2.1) (.int .u32 x.2.2.2.2.2.2.2.1) (.slice A8 x.2.2.2.2.2.2.2.2.length e8))
        have HM9 : Sec (New w (set9 wT R (.int .i64 x.1) (.string ⟨(x.2.1).toArray⟩) (.int .u32 x.2.2.1) (.bool false) (.slice A4 x.2.2.2.2.1.length e4) (.int .i64 x.2.2.2.2.2.1) (.int .i64 x.2.2.2.2.2.2.1) (.int .u32 x.2.2.2.2.2.2.2.1) (.slice A8 x.2.2.2.2.2.2.2.2.length e8))) := ⟨HNT.out.trans (set9_mod _ _ _ _ _ _ _ _ _ _ _) (fun i hi hl => by omega)⟩
        go_wp2
        refine bodyPost_ret (results_blk rfl rfl HF9.out Tryd.underlying38 (by kernel_rfl)) rfl ?_
        rw [HE4.out]
        rw [HXE.out]
        exact ret_ow HOWT.out hlo hhT (set9_mod _ _ _ _ _ _ _ _ _ _ _) hRlo HM9.out
      · have hd : dz = true := by rw [HDZ.out]; simp [hx0]
        subst hd
        clear HDZ
        have hxa : (x.1 == 0) = false := by simpa using hx0
        have hxb : (x.1 != 0) = true := by simpa using hx0
        have hxc : decide (x.1 = 0) = false := decide_eq_false hx0
        go_upto_region 34 with (fail)
        have hmT := (Mod.refl (fun k => k = O) wS).setCell (p := ⟨O, 3, none⟩) (fun _ => rfl) (.bool true)
        have HZT := Sec.mk (HZ9.out.set_ 3 (.bool true))
        simp only [List.set_cons_zero, List.set_cons_succ] at HZT
        have HOWT := Sec.mk (HOW9.out.keep hmT (fun k h1 h2 => by omega))
        have HRT := Sec.mk (HR9.out.mod hmT (by omega))
        have HNT : Sec (New w (wS.setCell ⟨O, 3, none⟩ (.bool true))) := ⟨HN9.out.trans hmT (fun i hi hl => by omega)⟩
        have hhT := Nat.le_trans hhi hmT.size
        clear hx0 hxa hxb hxc hmT HZ9 HOW9 HR9 HN9 o0 o1 o2 o3 o4 o5 o6 o7 o8 of
        generalize wS.setCell ⟨O, 3, none⟩ (.bool true) = wT at *
        have p0 : wT.cell? ⟨O, 0, none⟩ = some (.int .i64 x.1) := HZT.out.cell 0
        have p1 : wT.cell? ⟨O, 1, none⟩ = some (.string ⟨(x.2.1).toArray⟩) := HZT.out.cell 1
        have p2 : wT.cell? ⟨O, 2, none⟩ = some (.int .u32 x.2.2.1) := HZT.out.cell 2
        have p3 : wT.cell? ⟨O, 3, none⟩ = some (.bool true) := HZT.out.cell 3
        have p4 : wT.cell? ⟨O, 4, none⟩ = some (.slice A4 x.2.2.2.2.1.length e4) := HZT.out.cell 4
        have p5 : wT.cell? ⟨O, 5, none⟩ = some (.int .i64 x.2.2.2.2.2.1) := HZT.out.cell 5
        have p6 : wT.cell? ⟨O, 6, none⟩ = some (.int .i64 x.2.2.2.2.2.2.1) := HZT.out.cell 6
        have p7 : wT.cell? ⟨O, 7, none⟩ = some (.int .u32 x.2.2.2.2.2.2.2.1) := HZT.out.cell 7
        have p8 : wT.cell? ⟨O, 8, none⟩ = some (.slice A8 x.2.2.2.2.2.2.2.2.length e8) := HZT.out.cell 8
        have q0 : wT.cell? ⟨R, 0, none⟩ = some (.int .i64 0) := HRT.out.cell 0
        have q1 : wT.cell? ⟨R, 1, none⟩ = some (.string ⟨#[]⟩) := HRT.out.cell 1
        have q2 : wT.cell? ⟨R, 2, none⟩ = some (.int .u32 0) := HRT.out.cell 2
        have q3 : wT.cell? ⟨R, 3, none⟩ = some (.bool false) := HRT.out.cell 3
        have q4 : wT.cell? ⟨R, 4, none⟩ = some (.slice none 0 0) := HRT.out.cell 4
        have q5 : wT.cell? ⟨R, 5, none⟩ = some (.int .i64 0) := HRT.out.cell 5
        have q6 : wT.cell? ⟨R, 6, none⟩ = some (.int .i64 0) := HRT.out.cell 6
        have q7 : wT.cell? ⟨R, 7, none⟩ = some (.int .u32 0) := HRT.out.cell 7
        have q8 : wT.cell? ⟨R, 8, none⟩ = some (.slice none 0 0) := HRT.out.cell 8
        have qf : ∀ j, wT.frozen? ⟨R, j, none⟩ = false := fun j => HRT.out.frozen j
        have HF9 := Sec.mk (set9_blk HRT.out (.int .i64 x.1) (.string ⟨(x.2.1).toArray⟩) (.int .u32 x.2.2.1) (.bool true) (.slice A4 x.2.2.2.2.1.length e4) (.int .i64 x.2.2.2.2.2.1) (.int .i64 x.2.2.2.2.2.2.1) (.int .u32 x.2.2.2.2.2.2.2.1) (.slice A8 x.2.2.2.2.2.2.2.2.length e8))
        have HM9 : Sec (New w (set9 wT R (.int .i64 x.1) (.string ⟨(x.2.1).toArray⟩) (.int .u32 x.2.2.1) (.bool true) (.slice A4 x.2.2.2.2.1.length e4) (.int .i64 x.2.2.2.2.2.1) (.int .i64 x.2.2.2.2.2.2.1) (.int .u32 x.2.2.2.2.2.2.2.1) (.slice A8 x.2.2.2.2.2.2.2.2.length e8))) := ⟨HNT.out.trans (set9_mod _ _ _ _ _ _ _ _ _ _ _) (fun i hi hl => by omega)⟩
        go_wp2
        refine bodyPost_ret (results_blk rfl rfl HF9.out Tryd.underlying38 (by kernel_rfl)) rfl ?_
        rw [HE4.out]
        rw [HXE.out]
        exact ret_ow HOWT.out hlo hhT (set9_mod _ _ _ _ _ _ _ _ _ _ _) hRlo HM9.out
  · have hs7 := HSS.out.size
    have hma : New w7 (w7.alloc (.cells #[.int .i64 0, .string ⟨#[]⟩, .int .u32 0, .bool false, .slice none 0 0, .int .i64 0, .int .i64 0, .int .u32 0, .slice none 0 0] 38)) := (Mod.refl _ _).alloc _
    have HZ := Sec.mk (Blk.new w7 38 [.int .i64 0, .string ⟨#[]⟩, .int .u32 0, .bool false, .slice none 0 0, .int .i64 0, .int .i64 0, .int .u32 0, .slice none 0 0])
    have HSS : Sec (New w6 (w7.alloc (.cells #[.int .i64 0, .string ⟨#[]⟩, .int .u32 0, .bool false, .slice none 0 0, .int .i64 0, .int .i64 0, .int .u32 0, .slice none 0 0] 38))) := ⟨HSS.out.transN hma⟩
    obtain ⟨O, hO⟩ : ∃ O, O = w7.heap.size := ⟨_, rfl⟩
    have hO2 : O < (w7.alloc (.cells #[.int .i64 0, .string ⟨#[]⟩, .int .u32 0, .bool false, .slice none 0 0, .int .i64 0, .int .i64 0, .int .u32 0, .slice none 0 0] 38)).heap.size := by rw [hO]; exact HZ.out.lt
    refine wp_valw (n := 16) (v := .pointer (some ⟨w7.heap.size, 0, none⟩)) (w' := w7.alloc (.cells #[.int .i64 0, .string ⟨#[]⟩, .int .u32 0, .bool false, .slice none 0 0, .int .i64 0, .int .i64 0, .int .u32 0, .slice none 0 0] 38)) (exec_allocCmd rfl) rfl ?_
    refine hK.out _ _ (fun _ => HSS) ?_
    clear hma
    clear hK K
    simp only [Act.put, List.setIfInBounds_toArray, List.set_cons_zero, List.set_cons_succ]
    generalize w7.alloc (.cells #[.int .i64 0, .string ⟨#[]⟩, .int .u32 0, .bool false, .slice none 0 0, .int .i64 0, .int .i64 0, .int .u32 0, .slice none 0 0] 38) = w8 at *
    rw [← hO] at HZ ⊢
    have hOR : R < O ∧ w.heap.size ≤ O := by omega
    clear hO
    refine reg_step (i := 2) rfl (by kernel_rfl) (fun K hK => ?_)
    refine wp_call (n := 118) (vals := [.string ⟨v2.toArray⟩]) rfl rfl rfl (by kernel_rfl) (HL2.out w8) ?_
    rintro e w9 ⟨rfl, hmL⟩
    have HZ := Sec.mk (HZ.out.mod hmL id)
    have hsL := hmL.size
    have HSS : Sec (New w6 w9) := ⟨HSS.out.transN hmL⟩
    refine ⟨_, rfl, hK.out _ _ (fun _ => HSS) ?_⟩
    clear hmL
    clear hK K
    simp only [Act.put, List.setIfInBounds_toArray, List.set_cons_zero, List.set_cons_succ]
    have hs9 := HSS.out.size
    refine reg_step (i := 4) rfl (by kernel_rfl) (fun K hK => ?_)
    refine wp_call (n := 120) (vals := [.agg #[.int .i64 0, .string ⟨tag.toArray⟩, .int .u32 0, .bool false, .slice none 0 0, .int .i64 0, .int .i64 0, .int .u32 0, .slice none 0 0], .string ⟨lv2.toArray⟩, .string ⟨r2.toArray⟩]) rfl rfl rfl (by kernel_rfl) (HON.out w9) ?_
    rintro e w10 ⟨v, rfl, ho, hmN⟩
    obtain ⟨A4, e4, A8, e8, rfl, ho2⟩ := own_uid ho (decide (x.1 ≠ 0))
    have HZ := Sec.mk (HZ.out.mod hmN id)
    have HOW := Sec.mk ho2
    have hsN := hmN.size
    obtain ⟨lo, hlo_⟩ : ∃ lo, lo = w9.heap.size := ⟨_, rfl⟩
    obtain ⟨hi, hhi_⟩ : ∃ hi, hi = w10.heap.size := ⟨_, rfl⟩
    rw [← hlo_, ← hhi_] at HOW
    have hlo : w.heap.size ≤ lo := by omega
    have hRlo : R < lo := by omega
    have hhi0 : hi ≤ w10.heap.size := by omega
    have hOF : O < lo ∨ hi ≤ O := by omega
    have HSS : Sec (New w6 w10) := ⟨HSS.out.transN hmN⟩
    refine ⟨_, rfl, hK.out _ _ (fun _ => HSS) ?_⟩
    clear hmN ho ho2
    clear hK K
    simp only [Act.put, List.setIfInBounds_toArray, List.set_cons_zero, List.set_cons_succ]
    clear hlo_ hhi_
    refine reg_step (i := 6) rfl (by kernel_rfl) (fun K hK => ?_)
    refine wp_store rfl rfl rfl rfl (stCmd HZ.out _ _ _ _ _ _ _ _ _ _ _ _ _) (hK.out _ _ (fun h => absurd (List.mem_singleton.2 rfl) h) ?_)
    clear hK K
    refine reg_done (by kernel_rfl) ?_ _
    have hmS := set9_mod w10 O (.int .i64 x.1) (.string ⟨(x.2.1).toArray⟩) (.int .u32 x.2.2.1) (.bool x.2.2.2.1) (.slice A4 x.2.2.2.2.1.length e4) (.int .i64 x.2.2.2.2.2.1) (.int .i64 x.2.2.2.2.2.2.1) (.int .u32 x.2.2.2.2.2.2.2.1) (.slice A8 x.2.2.2.2.2.2.2.2.length e8)
    have HZ9 := Sec.mk (set9_blk HZ.out (.int .i64 x.1) (.string ⟨(x.2.1).toArray⟩) (.int .u32 x.2.2.1) (.bool x.2.2.2.1) (.slice A4 x.2.2.2.2.1.length e4) (.int .i64 x.2.2.2.2.2.1) (.int .i64 x.2.2.2.2.2.2.1) (.int .u32 x.2.2.2.2.2.2.2.1) (.slice A8 x.2.2.2.2.2.2.2.2.length e8))
    have HOW9 := Sec.mk (HOW.out.keep hmS (fun k h1 h2 => by omega))
    have HR9 := Sec.mk ((HR6.out.mod HSS.out id).mod hmS (by omega))
    have HN9 : Sec (New w (set9 w10 O (.int .i64 x.1) (.string ⟨(x.2.1).toArray⟩) (.int .u32 x.2.2.1) (.bool x.2.2.2.1) (.slice A4 x.2.2.2.2.1.length e4) (.int .i64 x.2.2.2.2.2.1) (.int .i64 x.2.2.2.2.2.2.1) (.int .u32 x.2.2.2.2.2.2.2.1) (.slice A8 x.2.2.2.2.2.2.2.2.length e8))) := ⟨(HN6.out.transN HSS.out).trans hmS (fun i hi hl => by omega)⟩
    have hhi : hi ≤ (set9 w10 O (.int .i64 x.1) (.string ⟨(x.2.1).toArray⟩) (.int .u32 x.2.2.1) (.bool x.2.2.2.1) (.slice A4 x.2.2.2.2.1.length e4) (.int .i64 x.2.2.2.2.2.1) (.int .i64 x.2.2.2.2.2.2.1) (.int .u32 x.2.2.2.2.2.2.2.1) (.slice A8 x.2.2.2.2.2.2.2.2.length e8)).heap.size := Nat.le_trans hhi0 hmS.size
    clear hmS HZ HOW HSS HON HL2 HB6
    generalize set9 w10 O (.int .i64 x.1) (.string ⟨(x.2.1).toArray⟩) (.int .u32 x.2.2.1) (.bool x.2.2.2.1) (.slice A4 x.2.2.2.2.1.length e4) (.int .i64 x.2.2.2.2.2.1) (.int .i64 x.2.2.2.2.2.2.1) (.int .u32 x.2.2.2.2.2.2.2.1) (.slice A8 x.2.2.2.2.2.2.2.2.length e8) = wS at *
    have HXE : Sec (setU x = (x.1, x.2.1, x.2.2.1, decide (x.1 ≠ 0), x.2.2.2.2)) := ⟨rfl⟩
    have o0 : wS.cell? ⟨O, 0, none⟩ = some (.int .i64 x.1) := HZ9.out.cell 0
    have o1 : wS.cell? ⟨O, 1, none⟩ = some (.string ⟨(x.2.1).toArray⟩) := HZ9.out.cell 1
    have o2 : wS.cell? ⟨O, 2, none⟩ = some (.int .u32 x.2.2.1) := HZ9.out.cell 2
    have o3 : wS.cell? ⟨O, 3, none⟩ = some (.bool x.2.2.2.1) := HZ9.out.cell 3
    have o4 : wS.cell? ⟨O, 4, none⟩ = some (.slice A4 x.2.2.2.2.1.length e4) := HZ9.out.cell 4
    have o5 : wS.cell? ⟨O, 5, none⟩ = some (.int .i64 x.2.2.2.2.2.1) := HZ9.out.cell 5
    have o6 : wS.cell? ⟨O, 6, none⟩ = some (.int .i64 x.2.2.2.2.2.2.1) := HZ9.out.cell 6
    have o7 : wS.cell? ⟨O, 7, none⟩ = some (.int .u32 x.2.2.2.2.2.2.2.1) := HZ9.out.cell 7
    have o8 : wS.cell? ⟨O, 8, none⟩ = some (.slice A8 x.2.2.2.2.2.2.2.2.length e8) := HZ9.out.cell 8
    have of : ∀ j, wS.frozen? ⟨O, j, none⟩ = false := fun j => HZ9.out.frozen j
    have hdz : decide (x.1 ≠ 0) = !decide (x.1 = 0) := by simp
    obtain ⟨dz, hdz2⟩ : ∃ dz, dz = decide (x.1 ≠ 0) := ⟨_, rfl⟩
    rw [← hdz2] at HOW9 HXE
    have HDZ := Sec.mk hdz2
    clear hdz hdz2
    by_cases hx0 : x.1 = 0
    · have hd : dz = false := by rw [HDZ.out]; simp [hx0]
      subst hd
      clear HDZ
      go_upto_region 34 with (fail)
      have hmT := (Mod.refl (fun k => k = O) wS).setCell (p := ⟨O, 3, none⟩) (fun _ => rfl) (.bool false)
      have HZT := Sec.mk (HZ9.out.set_ 3 (.bool false))
      simp only [List.set_cons_zero, List.set_cons_succ] at HZT
      have HOWT := Sec.mk (HOW9.out.keep hmT (fun k h1 h2 => by omega))
      have HRT := Sec.mk (HR9.out.mod hmT (by omega))
      have HNT : Sec (New w (wS.setCell ⟨O, 3, none⟩ (.bool false))) := ⟨HN9.out.trans hmT (fun i hi hl => by omega)⟩
      have hhT := Nat.le_trans hhi hmT.size
      clear hx0 hmT HZ9 HOW9 HR9 HN9 o0 o1 o2 o3 o4 o5 o6 o7 o8 of
      generalize wS.setCell ⟨O, 3, none⟩ (.bool false) = wT at *
      have p0 : wT.cell? ⟨O, 0, none⟩ = some (.int .i64 x.1) := HZT.out.cell 0
      have p1 : wT.cell? ⟨O, 1, none⟩ = some (.string ⟨(x.2.1).toArray⟩) := HZT.out.cell 1
      have p2 : wT.cell? ⟨O, 2, none⟩ = some (.int .u32 x.2.2.1) := HZT.out.cell 2
      have p3 : wT.cell? ⟨O, 3, none⟩ = some (.bool false) := HZT.out.cell 3
      have p4 : wT.cell? ⟨O, 4, none⟩ = some (.slice A4 x.2.2.2.2.1.length e4) := HZT.out.cell 4
      have p5 : wT.cell? ⟨O, 5, none⟩ = some (.int .i64 x.2.2.2.2.2.1) := HZT.out.cell 5
      have p6 : wT.cell? ⟨O, 6, none⟩ = some (.int .i64 x.2.2.2.2.2.2.1) := HZT.out.cell 6
      have p7 : wT.cell? ⟨O, 7, none⟩ = some (.int .u32 x.2.2.2.2.2.2.2.1) := HZT.out.cell 7
      have p8 : wT.cell? ⟨O, 8, none⟩ = some (.slice A8 x.2.2.2.2.2.2.2.2.length e8) := HZT.out.cell 8
      have q0 : wT.cell? ⟨R, 0, none⟩ = some (.int .i64 0) := HRT.out.cell 0
      have q1 : wT.cell? ⟨R, 1, none⟩ = some (.string ⟨#[]⟩) := HRT.out.cell 1
      have q2 : wT.cell? ⟨R, 2, none⟩ = some (.int .u32 0) := HRT.out.cell 2
      have q3 : wT.cell? ⟨R, 3, none⟩ = some (.bool false) := HRT.out.cell 3
      have q4 : wT.cell? ⟨R, 4, none⟩ = some (.slice none 0 0) := HRT.out.cell 4
      have q5 : wT.cell? ⟨R, 5, none⟩ = some (.int .i64 0) := HRT.out.cell 5
      have q6 : wT.cell? ⟨R, 6, none⟩ = some (.int .i64 0) := HRT.out.cell 6
      have q7 : wT.cell? ⟨R, 7, none⟩ = some (.int .u32 0) := HRT.out.cell 7
      have q8 : wT.cell? ⟨R, 8, none⟩ = some (.slice none 0 0) := HRT.out.cell 8
      have qf : ∀ j, wT.frozen? ⟨R, j, none⟩ = false := fun j => HRT.out.frozen j
      have HF9 := Sec.mk (set9_blk HRT.out (.int .i64 x.1) (.string ⟨(x.2.1).toArray⟩) (.int .u32 x.2.2.1) (.bool false) (.slice A4 x.2.2.2.2.1.length e4) (.int .i64 x.2.2.2.2.2.1) (.int .i64 x.2.2.2.2.2.2.1) (.int .u32 x.2.2.2.2.2.2.2.1) (.slice A8 x.2.2.2.2.2.2.2.2.length e8))
      have HM9 : Sec (New w (set9 wT R (.int .i64 x.1) (.string ⟨(x.2.1).toArray⟩) (.int .u32 x.2.2.1) (.bool false) (.slice A4 x.2.2.2.2.1.length e4) (.int .i64 x.2.2.2.2.2.1) (.int .i64 x.2.2.2.2.2.2.1) (.int .u32 x.2.2.2.2.2.2.2.1) (.slice A8 x.2.2.2.2.2.2.2.2.length e8))) := ⟨HNT.out.trans (set9_mod _ _ _ _ _ _ _ _ _ _ _) (fun i hi hl => by omega)⟩
      go_wp2
      refine bodyPost_ret (results_blk rfl rfl HF9.out Tryd.underlying38 (by kernel_rfl)) rfl ?_
      rw [HE4.out]
      rw [HXE.out]
      exact ret_ow HOWT.out hlo hhT (set9_mod _ _ _ _ _ _ _ _ _ _ _) hRlo HM9.out
    · have hd : dz = true := by rw [HDZ.out]; simp [hx0]
      subst hd
      clear HDZ
      have hxa : (x.1 == 0) = false := by simpa using hx0
      have hxb : (x.1 != 0) = true := by simpa using hx0
      have hxc : decide (x.1 = 0) = false := decide_eq_false hx0
      go_upto_region 34 with (fail)
      have hmT := (Mod.refl (fun k => k = O) wS).setCell (p := ⟨O, 3, none⟩) (fun _ => rfl) (.bool true)
      have HZT := Sec.mk (HZ9.out.set_ 3 (.bool true))
      simp only [List.set_cons_zero, List.set_cons_succ] at HZT
      have HOWT := Sec.mk (HOW9.out.keep hmT (fun k h1 h2 => by omega))
      have HRT := Sec.mk (HR9.out.mod hmT (by omega))
      have HNT : Sec (New w (wS.setCell ⟨O, 3, none⟩ (.bool true))) := ⟨HN9.out.trans hmT (fun i hi hl => by omega)⟩
      have hhT := Nat.le_trans hhi hmT.size
      clear hx0 hxa hxb hxc hmT HZ9 HOW9 HR9 HN9 o0 o1 o2 o3 o4 o5 o6 o7 o8 of
      generalize wS.setCell ⟨O, 3, none⟩ (.bool true) = wT at *
      have p0 : wT.cell? ⟨O, 0, none⟩ = some (.int .i64 x.1) := HZT.out.cell 0
      have p1 : wT.cell? ⟨O, 1, none⟩ = some (.string ⟨(x.2.1).toArray⟩) := HZT.out.cell 1
      have p2 : wT.cell? ⟨O, 2, none⟩ = some (.int .u32 x.2.2.1) := HZT.out.cell 2
      have p3 : wT.cell? ⟨O, 3, none⟩ = some (.bool true) := HZT.out.cell 3
      have p4 : wT.cell? ⟨O, 4, none⟩ = some (.slice A4 x.2.2.2.2.1.length e4) := HZT.out.cell 4
      have p5 : wT.cell? ⟨O, 5, none⟩ = some (.int .i64 x.2.2.2.2.2.1) := HZT.out.cell 5
      have p6 : wT.cell? ⟨O, 6, none⟩ = some (.int .i64 x.2.2.2.2.2.2.1) := HZT.out.cell 6
      have p7 : wT.cell? ⟨O, 7, none⟩ = some (.int .u32 x.2.2.2.2.2.2.2.1) := HZT.out.cell 7
      have p8 : wT.cell? ⟨O, 8, none⟩ = some (.slice A8 x.2.2.2.2.2.2.2.2.length e8) := HZT.out.cell 8
      have q0 : wT.cell? ⟨R, 0, none⟩ = some (.int .i64 0) := HRT.out.cell 0
      have q1 : wT.cell? ⟨R, 1, none⟩ = some (.string ⟨#[]⟩) := HRT.out.cell 1
      have q2 : wT.cell? ⟨R, 2, none⟩ = some (.int .u32 0) := HRT.out.cell 2
      have q3 : wT.cell? ⟨R, 3, none⟩ = some (.bool false) := HRT.out.cell 3
      have q4 : wT.cell? ⟨R, 4, none⟩ = some (.slice none 0 0) := HRT.out.cell 4
      have q5 : wT.cell? ⟨R, 5, none⟩ = some (.int .i64 0) := HRT.out.cell 5
      have q6 : wT.cell? ⟨R, 6, none⟩ = some (.int .i64 0) := HRT.out.cell 6
      have q7 : wT.cell? ⟨R, 7, none⟩ = some (.int .u32 0) := HRT.out.cell 7
      have q8 : wT.cell? ⟨R, 8, none⟩ = some (.slice none 0 0) := HRT.out.cell 8
      have qf : ∀ j, wT.frozen? ⟨R, j, none⟩ = false := fun j => HRT.out.frozen j
      have HF9 := Sec.mk (set9_blk HRT.out (.int .i64 x.1) (.string ⟨(x.2.1).toArray⟩) (.int .u32 x.2.2.1) (.bool true) (.slice A4 x.2.2.2.2.1.length e4) (.int .i64 x.2.2.2.2.2.1) (.int .i64 x.2.2.2.2.2.2.1) (.int .u32 x.2.2.2.2.2.2.2.1) (.slice A8 x.2.2.2.2.2.2.2.2.length e8))
      have HM9 : Sec (New w (set9 wT R (.int .i64 x.1) (.string ⟨(x.2.1).toArray⟩) (.int .u32 x.2.2.1) (.bool true) (.slice A4 x.2.2.2.2.1.length e4) (.int .i64 x.2.2.2.2.2.1) (.int .i64 x.2.2.2.2.2.2.1) (.int .u32 x.2.2.2.2.2.2.2.1) (.slice A8 x.2.2.2.2.2.2.2.2.length e8))) := ⟨HNT.out.trans (set9_mod _ _ _ _ _ _ _ _ _ _ _) (fun i hi hl => by omega)⟩
      go_wp2
      refine bodyPost_ret (results_blk rfl rfl HF9.out Tryd.underlying38 (by kernel_rfl)) rfl ?_
      rw [HE4.out]
      rw [HXE.out]
      exact ret_ow HOWT.out hlo hhT (set9_mod _ _ _ _ _ _ _ _ _ _ _) hRlo HM9.out
end Go.Proofs.YtiaknomadhgckaaDoor
