/- More single steps for drawn regions. The program's verbs over a command that is half made. -/
import Derived.Test.YtiaknomadhgckaaDoorPk2
import Derived.WalkKit
import Derived.Test.YtiaknomadhgckaaDoorPk4
import Derived.Test.YtiaknomadhgckaaDoorPk6
import Derived.Test.YtiaknomadhgckaaDoorPk7
import Derived.Test.YtiaknomadhgckaaDoorPk8
import Derived.Deep.Cut
import Derived.Deep.DeepCutAuto
namespace Go.Proofs.YtiaknomadhgckaaDoor.Mem
open Go.RowKit
set_option linter.unusedVariables false
section
variable {P : Program} {o : Oper} {a : Act} {w : World} {v : Value}
theorem exec_nil {x : Operand} {ad : Addr} (ho : o.op = .nilCheck x) (hx : a.eval x = .pointer (some ad)) : (execOp a.eval o).run P w = .ok (.value (.pointer (some ad))) w := by
  unfold execOp; simp only [ho, hx, Sem.run_pure]
end
end Go.Proofs.YtiaknomadhgckaaDoor.Mem

namespace Go.Proofs.YtiaknomadhgckaaDoor
open Go.RowKit Mem
set_option linter.unusedVariables false
set_option linter.unusedSimpArgs false
abbrev cellsC (x : CmdT) (v4 v8 : Value) : List Value := [.int .i64 x.1, .string ⟨x.2.1.toArray⟩, .int .u32 x.2.2.1, .bool x.2.2.2.1, v4, .int .i64 x.2.2.2.2.2.1, .int .i64 x.2.2.2.2.2.2.1, .int .u32 x.2.2.2.2.2.2.2.1, v8]
structure CmdSt (lo : Nat) (w : World) (g : Nat) (x : CmdT) : Prop where
  ex : ∃ v4 v8 F4 F8, Blk w g 38 (cellsC x v4 v8) ∧ Own dPair 119 w F4 v4 x.2.2.2.2.1 ∧ Own Ty.byte 5 w F8 v8 x.2.2.2.2.2.2.2.2 ∧ (∀ k, k ∈ F4 → k ∉ F8) ∧ (∀ k, k ∈ F4 ∨ k ∈ F8 → lo ≤ k ∧ k ≠ g)
  w0 : IntKind.i64.wrap x.1 = x.1
  w2 : IntKind.u32.wrap x.2.2.1 = x.2.2.1
  w5 : IntKind.i64.wrap x.2.2.2.2.2.1 = x.2.2.2.2.2.1
  w6 : IntKind.i64.wrap x.2.2.2.2.2.2.1 = x.2.2.2.2.2.2.1
  w7 : IntKind.u32.wrap x.2.2.2.2.2.2.2.1 = x.2.2.2.2.2.2.2.1
theorem CmdSt.keep {S : Nat → Prop} {lo : Nat} {w w' : World} {g : Nat} {x : CmdT} (h : CmdSt lo w g x) (hm : Mod S w w') (hg : ¬ S g) (hS : ∀ k, lo ≤ k → k ≠ g → ¬ S k) : CmdSt lo w' g x := by
  obtain ⟨v4, v8, F4, F8, hb, h4, h8, hd, hF⟩ := h.ex
  exact ⟨⟨v4, v8, F4, F8, hb.mod hm hg, h4.keep hm (fun k hk => hS k (hF k (.inl hk)).1 (hF k (.inl hk)).2), h8.keep hm (fun k hk => hS k (hF k (.inr hk)).1 (hF k (.inr hk)).2), hd, hF⟩, h.w0, h.w2, h.w5, h.w6, h.w7⟩
def half (t : Bytes) (uid : Bool) : CmdT := (0, t, 0, uid, [], 0, 0, 0, [])
abbrev HalfSt (w : World) (g : Nat) (t : Bytes) (uid : Bool) : Prop := Blk w g 38 [.int .i64 0, .string ⟨t.toArray⟩, .int .u32 0, .bool uid, .slice none 0 0, .int .i64 0, .int .i64 0, .int .u32 0, .slice none 0 0]
theorem fptC0 (p : Addr) (w : World) : (Instr.fieldAt 38 (.pointer (some p)) 0).run Tryd.prog w = .ok (.pointer (some p)) w := by go_simp
theorem fptC4 (p : Addr) (w : World) : (Instr.fieldAt 38 (.pointer (some p)) 4).run Tryd.prog w = .ok (.pointer (some ⟨p.block, p.off + 4, none⟩)) w := by go_simp
theorem fptC5 (p : Addr) (w : World) : (Instr.fieldAt 38 (.pointer (some p)) 5).run Tryd.prog w = .ok (.pointer (some ⟨p.block, p.off + 5, none⟩)) w := by go_simp
theorem fptC6 (p : Addr) (w : World) : (Instr.fieldAt 38 (.pointer (some p)) 6).run Tryd.prog w = .ok (.pointer (some ⟨p.block, p.off + 6, none⟩)) w := by go_simp
theorem fptC7 (p : Addr) (w : World) : (Instr.fieldAt 38 (.pointer (some p)) 7).run Tryd.prog w = .ok (.pointer (some ⟨p.block, p.off + 7, none⟩)) w := by go_simp
theorem fptS1 (p : Addr) (w : World) : (Instr.fieldAt 104 (.pointer (some p)) 1).run Tryd.prog w = .ok (.pointer (some ⟨p.block, p.off + 1, none⟩)) w := by go_simp
theorem fptG1 (p : Addr) (w : World) : (Instr.fieldAt 75 (.pointer (some p)) 1).run Tryd.prog w = .ok (.pointer (some ⟨p.block, p.off + 1, none⟩)) w := by go_simp
theorem ldPairsC {w : World} {p : Addr} {v : Value} (h : w.cell? p = some v) : (Instr.loadAt 36 (.pointer (some p))).run Tryd.prog w = .ok v w := by go_simp
theorem ldU32C {w : World} {p : Addr} {v : Value} (h : w.cell? p = some v) : (Instr.loadAt 22 (.pointer (some p))).run Tryd.prog w = .ok v w := by go_simp
theorem stIntC {w : World} {g k : Nat} {cs : List Value} (h : Blk w g 38 cs) (hk : k < cs.length) (v : Int) : (Instr.storeAt 3 (.pointer (some ⟨g, k, none⟩)) (.int .i64 v)).run Tryd.prog w = .ok () (w.setCell ⟨g, k, none⟩ (.int .i64 v)) := by
  have h1 : w.cell? ⟨g, k, none⟩ = some cs[k] := by rw [h.cell k, List.getElem?_eq_getElem hk]
  have h2 : w.frozen? ⟨g, k, none⟩ = false := h.frozen k
  go_simp
theorem stU32C {w : World} {g k : Nat} {cs : List Value} (h : Blk w g 38 cs) (hk : k < cs.length) (v : Int) : (Instr.storeAt 22 (.pointer (some ⟨g, k, none⟩)) (.int .u32 v)).run Tryd.prog w = .ok () (w.setCell ⟨g, k, none⟩ (.int .u32 v)) := by
  have h1 : w.cell? ⟨g, k, none⟩ = some cs[k] := by rw [h.cell k, List.getElem?_eq_getElem hk]
  have h2 : w.frozen? ⟨g, k, none⟩ = false := h.frozen k
  go_simp
theorem stPairsC {w : World} {g k : Nat} {cs : List Value} (h : Blk w g 38 cs) (hk : k < cs.length) (A : Option Addr) (n c : Nat) : (Instr.storeAt 36 (.pointer (some ⟨g, k, none⟩)) (.slice A n c)).run Tryd.prog w = .ok () (w.setCell ⟨g, k, none⟩ (.slice A n c)) := by
  have h1 : w.cell? ⟨g, k, none⟩ = some cs[k] := by rw [h.cell k, List.getElem?_eq_getElem hk]
  have h2 : w.frozen? ⟨g, k, none⟩ = false := h.frozen k
  go_simp
def RetVerb (lo g r : Nat) (t : Bytes) (c : CmdT) (w : World) (e : Ending) (w' : World) : Prop :=
  ∃ ok : Bool, e = .returned (.bool ok) ∧ (ok = true → CmdSt lo w' g c) ∧ (ok = false → c = badC t) ∧ Mod (fun k => k = g ∨ k = r) w w'
theorem cut_le (xs : Bytes) : (cutL 32 xs).1.length ≤ xs.length ∧ (cutL 32 xs).2.1.length ≤ xs.length := by
  cases hq : (cutL 32 xs).2.2
  · rw [cutL_no 32 xs hq]; simp
  · have := cutL_len 32 xs hq; omega
theorem small64 {n : Nat} (h : n < 16) : IntKind.i64.wrap (n : Int) = (n : Int) := by rw [IntKind.wrap_i64]; omega
theorem itemsN_lt : ∀ (ws : List Bytes) (acc : Nat), acc < 16 → itemsN acc ws < 16
  | [], acc, h => h
  | w :: r, acc, h => by
    unfold itemsN
    split
    · omega
    · exact itemsN_lt r _ (Nat.or_lt_two_pow (n := 4) h (itemN_lt _))
theorem itemsL_lt (t : Bytes) : itemsL t < 16 := by
  unfold itemsL
  split
  · exact itemN_lt _
  · exact itemsN_lt _ _ (by omega)
theorem Names1.far {w W : World} (h : Names1 w) (hm : Mod (fun k => w.heap.size ≤ k) w W) : Names1 W := by
  obtain ⟨⟨ad, c, h1, h2⟩, m, h3⟩ := h
  have hb : ∀ k, k < w.heap.size → W.heap[k]? = w.heap[k]? := fun k hk => hm.block k hk (by omega)
  refine ⟨⟨ad, c, (World.cell?_of_block (hb _ (World.block_lt_of_cell? w _ h1))).trans h1, h2.mod (fun k hk => Nat.lt_of_lt_of_le hk hm.size) hb⟩, m, (World.cell?_of_block (hb _ (World.block_lt_of_cell? w _ h3))).trans h3⟩
set_option maxHeartbeats 4000000 in
set_option maxRecDepth 100000 in
theorem fetch_calls {g r : Nat} {w0 w : World} {t rest : Bytes} {uid b : Bool} (hN : Names1 w0) (hM : Mod (fun k => w0.heap.size ≤ k) w0 w) (hg0 : w0.heap.size ≤ g) (hr0 : w0.heap.size ≤ r) (hc : HalfSt w g t uid) (hr : Blk w r 115 [.string ⟨rest.toArray⟩, .bool b]) (hgr : g ≠ r) (hl : rest.length ≤ 1048576) :
    Calls Tryd.prog 73 #[.pointer (some ⟨g, 0, none⟩), .pointer (some ⟨r, 0, none⟩)] w (RetVerb w0.heap.size g r t (fetchC t uid rest) w) := by
  have HC := Sec.mk hc
  have HN := Sec.mk hN
  have HM := Sec.mk hM
  have hgl := hc.lt
  have hsz0 := hM.size
  obtain ⟨hl1, hl2⟩ := cut_le rest
  have HD : Sec (fetchC t uid rest = if (SetB (cutL 32 rest).1).1 = true ∧ itemsL (cutL 32 rest).2.1 ≠ 0 then (9, t, 0, uid, (SetB (cutL 32 rest).1).2, (itemsL (cutL 32 rest).2.1 : Int), 0, 0, []) else badC t) := ⟨rfl⟩
  have HW := Sec.mk (word_calls hr (by omega))
  clear hc hr hN hM
  generalize (cutL 32 rest).1 = x at *
  generalize (cutL 32 rest).2.1 = y at *
  have HRS := Sec.mk (fun (w : World) hE => readSetImpl_calls x (by omega) (w := w) hE)
  have HRI := Sec.mk (fun (w : World) hE => readItems_calls y (by omega) (w := w) hE)
  have HN16 := Sec.mk (small64 (itemsL_lt y))
  generalize itemsL y = n at *
  generalize SetB x = sx at *
  go_enter Tryd.func73, Tryd.ntmps73
  go_wp2_with fail
  refine HW.out.mono ?_
  rintro e w1 ⟨rfl, ⟨b1, hb1⟩, hm1⟩
  have HR1 := Sec.mk hb1
  have HM1 : Sec (Mod (fun k => w0.heap.size ≤ k) w0 w1) := ⟨HM.out.trans hm1 (fun i hi _ => by subst hi; exact hr0)⟩
  have HC1 := Sec.mk (HC.out.mod hm1 hgr)
  have HMr : Sec (Mod (fun k => k = g ∨ k = r) w w1) := ⟨hm1.mono (fun i _ hi => Or.inr hi)⟩
  have hs1 := hm1.size
  clear hb1 hm1 HW HC HM
  go_wp2_with fail
  refine (HRS.out _ (HN.out.far HM1.out).2).mono ?_
  rintro e w2 ⟨v, rfl, ho2, hm2⟩
  obtain ⟨A2, c2, rfl⟩ := cellsSet ho2.rd
  have hma : New w2 (w2.alloc (.cells #[.bool sx.1, .slice A2 sx.2.length c2] 104)) := (Mod.refl _ _).alloc _
  have HBS := Sec.mk (Blk.new w2 104 [.bool sx.1, .slice A2 sx.2.length c2])
  have HOS : Sec (∃ F, Own dPair 119 (w2.alloc (.cells #[.bool sx.1, .slice A2 sx.2.length c2] 104)) F (.slice A2 sx.2.length c2) sx.2 ∧ ∀ k, k ∈ F → w1.heap.size ≤ k ∧ k < w2.heap.size) := ⟨by
    obtain ⟨cs, F, hv, ⟨ca, cb, F1, F2, rfl, rfl, hnd, ⟨rfl, rfl⟩, v', rfl, hov⟩, hF⟩ := ho2
    have hv2 : v' = .slice A2 sx.2.length c2 := by
      have h1 := Value.agg.inj hv
      simp [enc] at h1
      exact h1.symm
    rw [hv2] at hov
    exact ⟨F2, hov.new hma, fun k hk => hF k (by simpa using hk)⟩⟩
  have HN2 : Sec (New w1 (w2.alloc (.cells #[.bool sx.1, .slice A2 sx.2.length c2] 104))) := ⟨hm2.transN hma⟩
  have hs2 := hm2.size
  clear ho2 hm2 hma
  go_upto_region 2 with (fail)
  generalize w2.alloc (.cells #[.bool sx.1, .slice A2 sx.2.length c2] 104) = w3 at *
  have hgs : g ≠ w2.heap.size := by omega
  generalize w2.heap.size = s at *
  have HR3 := Sec.mk (HR1.out.mod HN2.out id)
  have HC3 := Sec.mk (HC1.out.mod HN2.out id)
  have HM3 := Sec.mk (HM1.out.transN HN2.out)
  have HMr3 := Sec.mk (HMr.out.transN HN2.out)
  have r0 : w3.cell? ⟨r, 0, none⟩ = some (.string ⟨y.toArray⟩) := HR3.out.cell 0
  go_wp2_with fail
  refine (HRI.out _ (HN.out.far HM3.out).2).mono ?_
  rintro e w4 ⟨rfl, hm4⟩
  have HC4 := Sec.mk (HC3.out.mod hm4 id)
  have HMr4 := Sec.mk (HMr3.out.transN hm4)
  have HBS4 := Sec.mk (HBS.out.mod hm4 id)
  have HOS4 : Sec (∃ F, Own dPair 119 w4 F (.slice A2 sx.2.length c2) sx.2 ∧ ∀ k, k ∈ F → w1.heap.size ≤ k ∧ k < s) := ⟨by obtain ⟨F, ho, hF⟩ := HOS.out; exact ⟨F, ho.new hm4, hF⟩⟩
  clear hm4 r0 HR3 HC3 HM3 HMr3 HBS HOS HR1 HC1 HM1 HMr HN2 HRS HRI HN
  obtain ⟨sok, sl⟩ := sx
  simp only at HD HBS4 HOS4
  have hsg : ¬ s = g := fun h => hgs h.symm
  go_upto_region 3 with (fail)
  refine reg_start [] (fun W => Sec (Mod (fun k => k = g) w4 W)) (by kernel_rfl) ?_
  have HSS : Sec (Mod (fun k => k = g) w4 w4.drew) := ⟨(Mod.refl _ _).drew⟩
  refine reg_take (.pointer (some ⟨g, 0, none⟩)) (i := 0) (n := 19) HSS rfl (by kernel_rfl) (by kernel_rfl) (by kernel_rfl) (by kernel_rfl) (fun _ _ _ h => h) (fun W hW => exec_move rfl rfl) ?_
  simp only [Act.put, List.setIfInBounds_toArray, List.set_cons_zero, List.set_cons_succ]
  refine reg_take (.pointer (some ⟨g, 0, none⟩)) (i := 1) (n := 20) HSS rfl (by kernel_rfl) (by kernel_rfl) (by kernel_rfl) (by kernel_rfl) (fun _ _ _ h => h) (fun W hW => exec_move rfl rfl) ?_
  simp only [Act.put, List.setIfInBounds_toArray, List.set_cons_zero, List.set_cons_succ]
  refine reg_take (.pointer (some ⟨g, 0, none⟩)) (i := 2) (n := 21) HSS rfl (by kernel_rfl) (by kernel_rfl) (by kernel_rfl) (by kernel_rfl) (fun _ _ _ h => h) (fun W hW => exec_move rfl rfl) ?_
  simp only [Act.put, List.setIfInBounds_toArray, List.set_cons_zero, List.set_cons_succ]
  refine reg_take (.pointer (some ⟨s, 1, none⟩)) (i := 3) (n := 22) HSS rfl (by kernel_rfl) (by kernel_rfl) (by kernel_rfl) (by kernel_rfl) (fun _ _ _ h => h) (fun W hW => exec_field rfl rfl (fptS1 _ _)) ?_
  simp only [Act.put, List.setIfInBounds_toArray, List.set_cons_zero, List.set_cons_succ]
  refine reg_take (.slice A2 sl.length c2) (i := 4) (n := 23) HSS rfl (by kernel_rfl) (by kernel_rfl) (by kernel_rfl) (by kernel_rfl) (fun _ _ _ h => h) (fun W hW => exec_load rfl rfl (ldPairsC ((HBS4.out.mod hW.out hsg).cell 1))) ?_
  simp only [Act.put, List.setIfInBounds_toArray, List.set_cons_zero, List.set_cons_succ]
  refine reg_take (.int .i64 (n : Int)) (i := 5) (n := 24) HSS rfl (by kernel_rfl) (by kernel_rfl) (by kernel_rfl) (by kernel_rfl) (fun _ _ _ h => h) (fun W hW => exec_move rfl rfl) ?_
  simp only [Act.put, List.setIfInBounds_toArray, List.set_cons_zero, List.set_cons_succ]
  refine reg_take (.pointer (some ⟨g, 0, none⟩)) (i := 6) (n := 25) HSS rfl (by kernel_rfl) (by kernel_rfl) (by kernel_rfl) (by kernel_rfl) (fun _ _ _ h => h) (fun W hW => exec_nil rfl rfl) ?_
  simp only [Act.put, List.setIfInBounds_toArray, List.set_cons_zero, List.set_cons_succ]
  refine reg_take (.pointer (some ⟨g, 0, none⟩)) (i := 7) (n := 26) HSS rfl (by kernel_rfl) (by kernel_rfl) (by kernel_rfl) (by kernel_rfl) (fun _ _ _ h => h) (fun W hW => exec_field rfl rfl (fptC0 _ _)) ?_
  simp only [Act.put, List.setIfInBounds_toArray, List.set_cons_zero, List.set_cons_succ]
  have HB0 := Sec.mk (HC4.out.drew)
  refine reg_step (i := 8) rfl (by kernel_rfl) (fun K hK => ?_)
  have HSS := Sec.mk (HSS.out.setCell (p := ⟨g, 0, none⟩) (fun _ => rfl) (.int .i64 9))
  have HB1 := Sec.mk (HB0.out.set_ 0 (.int .i64 9))
  refine wp_store rfl rfl rfl rfl (stIntC HB0.out (by simp) 9) (hK.out _ _ (fun _ => HSS) ?_)
  clear hK K
  refine reg_take (.pointer (some ⟨g, 0, none⟩)) (i := 9) (n := 27) HSS rfl (by kernel_rfl) (by kernel_rfl) (by kernel_rfl) (by kernel_rfl) (fun _ _ _ h => h) (fun W hW => exec_nil rfl rfl) ?_
  simp only [Act.put, List.setIfInBounds_toArray, List.set_cons_zero, List.set_cons_succ]
  refine reg_take (.pointer (some ⟨g, 4, none⟩)) (i := 10) (n := 28) HSS rfl (by kernel_rfl) (by kernel_rfl) (by kernel_rfl) (by kernel_rfl) (fun _ _ _ h => h) (fun W hW => exec_field rfl rfl (fptC4 _ _)) ?_
  simp only [Act.put, List.setIfInBounds_toArray, List.set_cons_zero, List.set_cons_succ]
  refine reg_step (i := 11) rfl (by kernel_rfl) (fun K hK => ?_)
  have HSS := Sec.mk (HSS.out.setCell (p := ⟨g, 4, none⟩) (fun _ => rfl) (.slice A2 sl.length c2))
  have HB2 := Sec.mk (HB1.out.set_ 4 (.slice A2 sl.length c2))
  refine wp_store rfl rfl rfl rfl (stPairsC HB1.out (by simp) _ _ _) (hK.out _ _ (fun _ => HSS) ?_)
  clear hK K
  refine reg_take (.pointer (some ⟨g, 0, none⟩)) (i := 12) (n := 29) HSS rfl (by kernel_rfl) (by kernel_rfl) (by kernel_rfl) (by kernel_rfl) (fun _ _ _ h => h) (fun W hW => exec_nil rfl rfl) ?_
  simp only [Act.put, List.setIfInBounds_toArray, List.set_cons_zero, List.set_cons_succ]
  refine reg_take (.pointer (some ⟨g, 5, none⟩)) (i := 13) (n := 30) HSS rfl (by kernel_rfl) (by kernel_rfl) (by kernel_rfl) (by kernel_rfl) (fun _ _ _ h => h) (fun W hW => exec_field rfl rfl (fptC5 _ _)) ?_
  simp only [Act.put, List.setIfInBounds_toArray, List.set_cons_zero, List.set_cons_succ]
  refine reg_step (i := 14) rfl (by kernel_rfl) (fun K hK => ?_)
  have HSS := Sec.mk (HSS.out.setCell (p := ⟨g, 5, none⟩) (fun _ => rfl) (.int .i64 (n : Int)))
  have HB3 := Sec.mk (HB2.out.set_ 5 (.int .i64 (n : Int)))
  refine wp_store rfl rfl rfl rfl (stIntC HB2.out (by simp) _) (hK.out _ _ (fun _ => HSS) ?_)
  clear hK K
  refine reg_done (by kernel_rfl) ?_ _
  generalize (((w4.drew.setCell ⟨g, 0, none⟩ (.int .i64 9)).setCell ⟨g, 4, none⟩ (.slice A2 sl.length c2)).setCell ⟨g, 5, none⟩ (.int .i64 (n : Int))) = w5 at *
  simp only [List.set_cons_zero, List.set_cons_succ] at HB3
  have s0 : w5.cell? ⟨s, 0, none⟩ = some (.bool sok) := (HBS4.out.mod HSS.out hsg).cell 0
  have HMr5 : Sec (Mod (fun k => k = g ∨ k = r) w w5) := ⟨HMr4.out.trans HSS.out (fun i hi _ => Or.inl hi)⟩
  cases sok
  · have HE : Sec (fetchC t uid rest = badC t) := ⟨by rw [HD.out, if_neg (by simp)]⟩
    go_wp2
    go_ret
    exact ⟨false, rfl, (fun h => by cases h), (fun _ => HE.out), HMr5.out⟩
  by_cases hz : n = 0
  · have HE : Sec (fetchC t uid rest = badC t) := ⟨by rw [HD.out, if_neg (fun h => h.2 hz)]⟩
    subst hz
    go_wp2
    go_ret
    exact ⟨false, rfl, (fun h => by cases h), (fun _ => HE.out), HMr5.out⟩
  · have HE : Sec (fetchC t uid rest = (9, t, 0, uid, sl, (n : Int), 0, 0, [])) := ⟨by rw [HD.out, if_pos ⟨rfl, hz⟩]⟩
    have hzb : decide (n = 0) = false := decide_eq_false hz
    have HCS : Sec (CmdSt w0.heap.size w5 g (9, t, 0, uid, sl, (n : Int), 0, 0, [])) := ⟨by
      obtain ⟨F, ho, hF⟩ := HOS4.out
      exact ⟨⟨_, _, F, [], HB3.out, ho.keep HSS.out (fun k hk => by have := hF k hk; omega), Own.nil _ _ _, (fun k hk => by simp), (fun k hk => by
        rcases hk with hk | hk
        · have := hF k hk; omega
        · cases hk)⟩, show IntKind.i64.wrap 9 = 9 by decide, show IntKind.u32.wrap 0 = 0 by decide, HN16.out, show IntKind.i64.wrap 0 = 0 by decide, show IntKind.u32.wrap 0 = 0 by decide⟩⟩
    clear hz
    go_wp2
    go_ret
    exact ⟨true, rfl, (fun _ => by rw [HE.out]; exact HCS.out), (fun h => by cases h), HMr5.out⟩
theorem foldL_lt : ∀ (ws : List Bytes) (acc : Nat), acc < 2147483648 → 0 ≤ (foldL acc ws).2 ∧ (foldL acc ws).2 < 2147483648
  | [], acc, h => by show 0 ≤ (acc : Int) ∧ (acc : Int) < 2147483648; omega
  | w :: r, acc, h => by
    cases hb : bitL w with
    | none => rw [foldL_none hb]; decide
    | some k => rw [foldL_some hb]; exact foldL_lt r _ (Nat.or_lt_two_pow (n := 31) h (Nat.pow_lt_pow_right (by decide) (bitL_lt hb)))
theorem listL_wrap (xs : Bytes) : IntKind.u32.wrap (ReadListL xs).2 = (ReadListL xs).2 := by
  have h : 0 ≤ (ReadListL xs).2 ∧ (ReadListL xs).2 < 2147483648 := by
    unfold ReadListL
    repeat' split
    all_goals first | exact foldL_lt _ _ (by decide) | decide
  rw [IntKind.wrap_u32]; omega
theorem modeK_rng (u : Bytes) : IntKind.i64.wrap (modeK u) = modeK u := by
  unfold modeK
  repeat' split
  all_goals decide
set_option maxHeartbeats 4000000 in
set_option maxRecDepth 100000 in
theorem store_calls {g r : Nat} {w0 w : World} {t rest : Bytes} {uid b : Bool} (hN : Names1 w0) (hM : Mod (fun k => w0.heap.size ≤ k) w0 w) (hg0 : w0.heap.size ≤ g) (hr0 : w0.heap.size ≤ r) (hc : HalfSt w g t uid) (hr : Blk w r 115 [.string ⟨rest.toArray⟩, .bool b]) (hgr : g ≠ r) (hl : rest.length ≤ 1048576) :
    Calls Tryd.prog 74 #[.pointer (some ⟨g, 0, none⟩), .pointer (some ⟨r, 0, none⟩)] w (RetVerb w0.heap.size g r t (storeC t uid rest) w) := by
  have HC := Sec.mk hc
  have HN := Sec.mk hN
  have HM := Sec.mk hM
  have hgl := hc.lt
  have hrl := hr.lt
  have hsz0 := hM.size
  obtain ⟨hl1, hl2⟩ := cut_le rest
  have HD : Sec (storeC t uid rest = if (SetB (cutL 32 rest).1).1 = true ∧ modeK (upL (cutL 32 (cutL 32 rest).2.1).1) ≠ 0 ∧ (ReadListL (cutL 32 (cutL 32 rest).2.1).2.1).1 = true then
    (10, t, 0, uid, (SetB (cutL 32 rest).1).2, 0, modeK (upL (cutL 32 (cutL 32 rest).2.1).1), (ReadListL (cutL 32 (cutL 32 rest).2.1).2.1).2, []) else badC t) := ⟨rfl⟩
  have HW := Sec.mk (word_calls hr (by omega))
  clear hc hr hN hM
  generalize (cutL 32 rest).1 = x at *
  generalize (cutL 32 rest).2.1 = y at *
  obtain ⟨hl3, hl4⟩ := cut_le y
  have HWY := Sec.mk (fun (w : World) (b : Bool) h => word_calls (w := w) (r := r) (rest := y) (b := b) h (by omega))
  generalize (cutL 32 y).1 = m at *
  generalize (cutL 32 y).2.1 = l at *
  have HRS := Sec.mk (fun (w : World) hE => readSetImpl_calls x (by omega) (w := w) hE)
  have HRF := Sec.mk (fun (w : World) hE => readListImpl_calls l (by omega) (w := w) hE)
  have HU := Sec.mk (fun w => upper_calls m (by omega) w)
  have hul : (upL m).length ≤ 1048576 := by rw [upL_len]; omega
  have HMW := Sec.mk (modeK_rng (upL m))
  have HFW := Sec.mk (listL_wrap l)
  generalize upL m = um at *
  generalize SetB x = sx at *
  generalize ReadListL l = fl at *
  go_enter Tryd.func74, Tryd.ntmps74
  go_wp2_with fail
  refine HW.out.mono ?_
  rintro e w1 ⟨rfl, ⟨b1, hb1⟩, hm1⟩
  have HR1 := Sec.mk hb1
  have HM1 : Sec (Mod (fun k => w0.heap.size ≤ k) w0 w1) := ⟨HM.out.trans hm1 (fun i hi _ => by subst hi; exact hr0)⟩
  have HC1 := Sec.mk (HC.out.mod hm1 hgr)
  have HMr : Sec (Mod (fun k => k = g ∨ k = r) w w1) := ⟨hm1.mono (fun i _ hi => Or.inr hi)⟩
  have hs1 := hm1.size
  clear hb1 hm1 HW HC HM
  go_wp2_with fail
  refine (HRS.out _ (HN.out.far HM1.out).2).mono ?_
  rintro e w2 ⟨v, rfl, ho2, hm2⟩
  obtain ⟨A2, c2, rfl⟩ := cellsSet ho2.rd
  have hma : New w2 (w2.alloc (.cells #[.bool sx.1, .slice A2 sx.2.length c2] 104)) := (Mod.refl _ _).alloc _
  have HBS := Sec.mk (Blk.new w2 104 [.bool sx.1, .slice A2 sx.2.length c2])
  have HOS : Sec (∃ F, Own dPair 119 (w2.alloc (.cells #[.bool sx.1, .slice A2 sx.2.length c2] 104)) F (.slice A2 sx.2.length c2) sx.2 ∧ ∀ k, k ∈ F → w1.heap.size ≤ k ∧ k < w2.heap.size) := ⟨by
    obtain ⟨cs, F, hv, ⟨ca, cb, F1, F2, rfl, rfl, hnd, ⟨rfl, rfl⟩, v', rfl, hov⟩, hF⟩ := ho2
    have hv2 : v' = .slice A2 sx.2.length c2 := by
      have h1 := Value.agg.inj hv
      simp [enc] at h1
      exact h1.symm
    rw [hv2] at hov
    exact ⟨F2, hov.new hma, fun k hk => hF k (by simpa using hk)⟩⟩
  have HN2 : Sec (New w1 (w2.alloc (.cells #[.bool sx.1, .slice A2 sx.2.length c2] 104))) := ⟨hm2.transN hma⟩
  have hs2 := hm2.size
  clear ho2 hm2 hma
  go_upto_region 2 with (fail)
  generalize w2.alloc (.cells #[.bool sx.1, .slice A2 sx.2.length c2] 104) = w3 at *
  have hss := HBS.out.lt
  have hsn : w2.heap.size ≠ g ∧ w2.heap.size ≠ r := by omega
  generalize w2.heap.size = s at *
  have HR3 := Sec.mk (HR1.out.mod HN2.out id)
  have HC3 := Sec.mk (HC1.out.mod HN2.out id)
  have HM3 := Sec.mk (HM1.out.transN HN2.out)
  have HMr3 := Sec.mk (HMr.out.transN HN2.out)
  have P0 : Sec (MapSI (w3.alloc (.map #[] 0)) w3.heap.size 0 (fun _ => 0)) := ⟨MapOf.made _⟩
  have M0 : Sec (New w3 (w3.alloc (.map #[] 0))) := ⟨(Mod.refl _ _).alloc _⟩
  have mk := mkMapSI
  go_wp2_with (first | (refine wpList_mapSet (w := _) kStr vInt rfl _ _ _ _ (.inr rfl) Tryd.underlying134 rfl P0.out (by decide) _ _ rfl rfl (by decide) (by decide) ?_; intro m1 hmap hmod; have P1 := Sec.mk hmap; have M1 := Sec.mk (M0.out.trans hmod (fun i hi hl => by omega)); clear hmap hmod) | (refine wpList_mapSet (w := _) kStr vInt rfl _ _ _ _ (.inr rfl) Tryd.underlying134 rfl P1.out (by decide) _ _ rfl rfl (by decide) (by decide) ?_; intro m2 hmap hmod; have P2 := Sec.mk hmap; have M2 := Sec.mk (M1.out.trans hmod (fun i hi hl => by omega)); clear hmap hmod) | (refine wpList_mapSet (w := _) kStr vInt rfl _ _ _ _ (.inr rfl) Tryd.underlying134 rfl P2.out (by decide) _ _ rfl rfl (by decide) (by decide) ?_; intro m3 hmap hmod; have P3 := Sec.mk hmap; have M3 := Sec.mk (M2.out.trans hmod (fun i hi hl => by omega)); clear hmap hmod) | fail)
  have hmb := P3.out.lt
  have PM : Sec (MapSI m3 w3.heap.size 3 modeK) := ⟨P3.out⟩
  have HR4 := Sec.mk (HR3.out.mod M3.out id)
  have HC4 := Sec.mk (HC3.out.mod M3.out id)
  have HM4 := Sec.mk (HM3.out.transN M3.out)
  have HMr4 := Sec.mk (HMr3.out.transN M3.out)
  have HBS4 := Sec.mk (HBS.out.mod M3.out id)
  have hs4 := M3.out.size
  have HOS4 : Sec (∃ F, Own dPair 119 m3 F (.slice A2 sx.2.length c2) sx.2 ∧ ∀ k, k ∈ F → w1.heap.size ≤ k ∧ k < s) := ⟨by obtain ⟨F, ho, hF⟩ := HOS.out; exact ⟨F, ho.new M3.out, hF⟩⟩
  have hmr : w3.heap.size ≠ r := by have := HR3.out.lt; omega
  have hmg : w3.heap.size ≠ g := by have := HC3.out.lt; omega
  clear P0 P1 P2 P3 M0 M1 M2 M3 mk HR3 HC3 HM3 HMr3 HBS HOS HR1 HC1 HM1 HMr HN2 HRS
  generalize w3.heap.size = mp at *
  refine (HWY.out _ _ HR4.out).mono ?_
  rintro e w5 ⟨rfl, ⟨b5, hb5⟩, hm5⟩
  have HR5 := Sec.mk hb5
  have HC5 := Sec.mk (HC4.out.mod hm5 hgr)
  have PM5 := Sec.mk (MapOf.mod (S := fun k => k = r) PM.out hm5 hmr)
  have HBS5 := Sec.mk (HBS4.out.mod hm5 hsn.2)
  have HM5 : Sec (Mod (fun k => w0.heap.size ≤ k) w0 w5) := ⟨HM4.out.trans hm5 (fun i hi _ => by subst hi; exact hr0)⟩
  have HMr5 : Sec (Mod (fun k => k = g ∨ k = r) w w5) := ⟨HMr4.out.trans hm5 (fun i hi _ => Or.inr hi)⟩
  have HOS5 : Sec (∃ F, Own dPair 119 w5 F (.slice A2 sx.2.length c2) sx.2 ∧ ∀ k, k ∈ F → w1.heap.size ≤ k ∧ k < s) := ⟨by obtain ⟨F, ho, hF⟩ := HOS4.out; exact ⟨F, ho.keep hm5 (fun k hk => by have := hF k hk; omega), hF⟩⟩
  clear hb5 hm5 HR4 HC4 HM4 HMr4 HBS4 HOS4 HWY PM
  go_wp2_with fail
  refine (HU.out _).mono ?_
  rintro e w6 ⟨rfl, hm6⟩
  have HR6 := Sec.mk (HR5.out.mod hm6 id)
  have PM6 := Sec.mk (MapOf.mod (S := fun _ => False) PM5.out hm6 id)
  have HM6 := Sec.mk (HM5.out.transN hm6)
  have r0 : w6.cell? ⟨r, 0, none⟩ = some (.string ⟨l.toArray⟩) := HR6.out.cell 0
  go_wp2_with (first | (refine wpList_mapGet (w := _) kStr vInt rfl _ _ _ rfl Tryd.underlying134 rfl PM6.out um rfl hul ?_) | fail)
  refine (HRF.out _ (HN.out.far HM6.out)).mono ?_
  rintro e w7 ⟨rfl, hm7⟩
  have hN67 : New w5 w7 := hm6.transN hm7
  have hma : New w7 (w7.alloc (.cells #[.bool fl.1, .int .u32 fl.2] 75)) := (Mod.refl _ _).alloc _
  have HBF := Sec.mk (Blk.new w7 75 [.bool fl.1, .int .u32 fl.2])
  have HC8 := Sec.mk (HC5.out.mod (hN67.transN hma) id)
  have HBS8 := Sec.mk (HBS5.out.mod (hN67.transN hma) id)
  have HMr8 := Sec.mk (HMr5.out.transN (hN67.transN hma))
  have HOS8 : Sec (∃ F, Own dPair 119 (w7.alloc (.cells #[.bool fl.1, .int .u32 fl.2] 75)) F (.slice A2 sx.2.length c2) sx.2 ∧ ∀ k, k ∈ F → w1.heap.size ≤ k ∧ k < s) := ⟨by obtain ⟨F, ho, hF⟩ := HOS5.out; exact ⟨F, ho.new (hN67.transN hma), hF⟩⟩
  have hfg : ¬ w7.heap.size = g := by have := HC5.out.lt; have := hN67.size; omega
  clear hm6 hm7 hN67 hma r0 HR6 PM6 HM6 HR5 HC5 PM5 HBS5 HM5 HMr5 HOS5 HN HRF HU
  unfold FlagsV
  go_upto_region 4 with (fail)
  generalize w7.alloc (.cells #[.bool fl.1, .int .u32 fl.2] 75) = w8 at *
  generalize w7.heap.size = f at *
  obtain ⟨sok, sl⟩ := sx
  obtain ⟨fok, fv⟩ := fl
  simp only at HD HBS8 HOS8 HBF HFW
  generalize modeK um = md at *
  have hsg : ¬ s = g := hsn.1
  refine reg_start [] (fun W => Sec (Mod (fun k => k = g) w8 W)) (by kernel_rfl) ?_
  have HSS : Sec (Mod (fun k => k = g) w8 w8.drew) := ⟨(Mod.refl _ _).drew⟩
  refine reg_take (.pointer (some ⟨g, 0, none⟩)) (i := 0) (n := 22) HSS rfl (by kernel_rfl) (by kernel_rfl) (by kernel_rfl) (by kernel_rfl) (fun _ _ _ h => h) (fun W hW => exec_move rfl rfl) ?_
  simp only [Act.put, List.setIfInBounds_toArray, List.set_cons_zero, List.set_cons_succ]
  refine reg_take (.pointer (some ⟨g, 0, none⟩)) (i := 1) (n := 23) HSS rfl (by kernel_rfl) (by kernel_rfl) (by kernel_rfl) (by kernel_rfl) (fun _ _ _ h => h) (fun W hW => exec_move rfl rfl) ?_
  simp only [Act.put, List.setIfInBounds_toArray, List.set_cons_zero, List.set_cons_succ]
  refine reg_take (.pointer (some ⟨g, 0, none⟩)) (i := 2) (n := 24) HSS rfl (by kernel_rfl) (by kernel_rfl) (by kernel_rfl) (by kernel_rfl) (fun _ _ _ h => h) (fun W hW => exec_move rfl rfl) ?_
  simp only [Act.put, List.setIfInBounds_toArray, List.set_cons_zero, List.set_cons_succ]
  refine reg_take (.pointer (some ⟨g, 0, none⟩)) (i := 3) (n := 25) HSS rfl (by kernel_rfl) (by kernel_rfl) (by kernel_rfl) (by kernel_rfl) (fun _ _ _ h => h) (fun W hW => exec_move rfl rfl) ?_
  simp only [Act.put, List.setIfInBounds_toArray, List.set_cons_zero, List.set_cons_succ]
  refine reg_take (.pointer (some ⟨s, 1, none⟩)) (i := 4) (n := 26) HSS rfl (by kernel_rfl) (by kernel_rfl) (by kernel_rfl) (by kernel_rfl) (fun _ _ _ h => h) (fun W hW => exec_field rfl rfl (fptS1 _ _)) ?_
  simp only [Act.put, List.setIfInBounds_toArray, List.set_cons_zero, List.set_cons_succ]
  refine reg_take (.slice A2 sl.length c2) (i := 5) (n := 27) HSS rfl (by kernel_rfl) (by kernel_rfl) (by kernel_rfl) (by kernel_rfl) (fun _ _ _ h => h) (fun W hW => exec_load rfl rfl (ldPairsC ((HBS8.out.mod hW.out hsg).cell 1))) ?_
  simp only [Act.put, List.setIfInBounds_toArray, List.set_cons_zero, List.set_cons_succ]
  refine reg_take (.int .i64 md) (i := 6) (n := 28) HSS rfl (by kernel_rfl) (by kernel_rfl) (by kernel_rfl) (by kernel_rfl) (fun _ _ _ h => h) (fun W hW => exec_move rfl rfl) ?_
  simp only [Act.put, List.setIfInBounds_toArray, List.set_cons_zero, List.set_cons_succ]
  refine reg_take (.pointer (some ⟨f, 1, none⟩)) (i := 7) (n := 29) HSS rfl (by kernel_rfl) (by kernel_rfl) (by kernel_rfl) (by kernel_rfl) (fun _ _ _ h => h) (fun W hW => exec_field rfl rfl (fptG1 _ _)) ?_
  simp only [Act.put, List.setIfInBounds_toArray, List.set_cons_zero, List.set_cons_succ]
  refine reg_take (.int .u32 fv) (i := 8) (n := 30) HSS rfl (by kernel_rfl) (by kernel_rfl) (by kernel_rfl) (by kernel_rfl) (fun _ _ _ h => h) (fun W hW => exec_load rfl rfl (ldU32C ((HBF.out.mod hW.out hfg).cell 1))) ?_
  simp only [Act.put, List.setIfInBounds_toArray, List.set_cons_zero, List.set_cons_succ]
  refine reg_take (.pointer (some ⟨g, 0, none⟩)) (i := 9) (n := 31) HSS rfl (by kernel_rfl) (by kernel_rfl) (by kernel_rfl) (by kernel_rfl) (fun _ _ _ h => h) (fun W hW => exec_nil rfl rfl) ?_
  simp only [Act.put, List.setIfInBounds_toArray, List.set_cons_zero, List.set_cons_succ]
  refine reg_take (.pointer (some ⟨g, 0, none⟩)) (i := 10) (n := 32) HSS rfl (by kernel_rfl) (by kernel_rfl) (by kernel_rfl) (by kernel_rfl) (fun _ _ _ h => h) (fun W hW => exec_field rfl rfl (fptC0 _ _)) ?_
  simp only [Act.put, List.setIfInBounds_toArray, List.set_cons_zero, List.set_cons_succ]
  have HB0 := Sec.mk (HC8.out.drew)
  refine reg_step (i := 11) rfl (by kernel_rfl) (fun K hK => ?_)
  have HSS := Sec.mk (HSS.out.setCell (p := ⟨g, 0, none⟩) (fun _ => rfl) (.int .i64 10))
  have HB1 := Sec.mk (HB0.out.set_ 0 (.int .i64 10))
  refine wp_store rfl rfl rfl rfl (stIntC HB0.out (by simp) 10) (hK.out _ _ (fun _ => HSS) ?_)
  clear hK K
  refine reg_take (.pointer (some ⟨g, 0, none⟩)) (i := 12) (n := 33) HSS rfl (by kernel_rfl) (by kernel_rfl) (by kernel_rfl) (by kernel_rfl) (fun _ _ _ h => h) (fun W hW => exec_nil rfl rfl) ?_
  simp only [Act.put, List.setIfInBounds_toArray, List.set_cons_zero, List.set_cons_succ]
  refine reg_take (.pointer (some ⟨g, 4, none⟩)) (i := 13) (n := 34) HSS rfl (by kernel_rfl) (by kernel_rfl) (by kernel_rfl) (by kernel_rfl) (fun _ _ _ h => h) (fun W hW => exec_field rfl rfl (fptC4 _ _)) ?_
  simp only [Act.put, List.setIfInBounds_toArray, List.set_cons_zero, List.set_cons_succ]
  refine reg_step (i := 14) rfl (by kernel_rfl) (fun K hK => ?_)
  have HSS := Sec.mk (HSS.out.setCell (p := ⟨g, 4, none⟩) (fun _ => rfl) (.slice A2 sl.length c2))
  have HB2 := Sec.mk (HB1.out.set_ 4 (.slice A2 sl.length c2))
  refine wp_store rfl rfl rfl rfl (stPairsC HB1.out (by simp) _ _ _) (hK.out _ _ (fun _ => HSS) ?_)
  clear hK K
  refine reg_take (.pointer (some ⟨g, 0, none⟩)) (i := 15) (n := 35) HSS rfl (by kernel_rfl) (by kernel_rfl) (by kernel_rfl) (by kernel_rfl) (fun _ _ _ h => h) (fun W hW => exec_nil rfl rfl) ?_
  simp only [Act.put, List.setIfInBounds_toArray, List.set_cons_zero, List.set_cons_succ]
  refine reg_take (.pointer (some ⟨g, 6, none⟩)) (i := 16) (n := 36) HSS rfl (by kernel_rfl) (by kernel_rfl) (by kernel_rfl) (by kernel_rfl) (fun _ _ _ h => h) (fun W hW => exec_field rfl rfl (fptC6 _ _)) ?_
  simp only [Act.put, List.setIfInBounds_toArray, List.set_cons_zero, List.set_cons_succ]
  refine reg_step (i := 17) rfl (by kernel_rfl) (fun K hK => ?_)
  have HSS := Sec.mk (HSS.out.setCell (p := ⟨g, 6, none⟩) (fun _ => rfl) (.int .i64 md))
  have HB3 := Sec.mk (HB2.out.set_ 6 (.int .i64 md))
  refine wp_store rfl rfl rfl rfl (stIntC HB2.out (by simp) _) (hK.out _ _ (fun _ => HSS) ?_)
  clear hK K
  refine reg_take (.pointer (some ⟨g, 0, none⟩)) (i := 18) (n := 37) HSS rfl (by kernel_rfl) (by kernel_rfl) (by kernel_rfl) (by kernel_rfl) (fun _ _ _ h => h) (fun W hW => exec_nil rfl rfl) ?_
  simp only [Act.put, List.setIfInBounds_toArray, List.set_cons_zero, List.set_cons_succ]
  refine reg_take (.pointer (some ⟨g, 7, none⟩)) (i := 19) (n := 38) HSS rfl (by kernel_rfl) (by kernel_rfl) (by kernel_rfl) (by kernel_rfl) (fun _ _ _ h => h) (fun W hW => exec_field rfl rfl (fptC7 _ _)) ?_
  simp only [Act.put, List.setIfInBounds_toArray, List.set_cons_zero, List.set_cons_succ]
  refine reg_step (i := 20) rfl (by kernel_rfl) (fun K hK => ?_)
  have HSS := Sec.mk (HSS.out.setCell (p := ⟨g, 7, none⟩) (fun _ => rfl) (.int .u32 fv))
  have HB4 := Sec.mk (HB3.out.set_ 7 (.int .u32 fv))
  refine wp_store rfl rfl rfl rfl (stU32C HB3.out (by simp) _) (hK.out _ _ (fun _ => HSS) ?_)
  clear hK K
  refine reg_done (by kernel_rfl) ?_ _
  generalize ((((w8.drew.setCell ⟨g, 0, none⟩ (.int .i64 10)).setCell ⟨g, 4, none⟩ (.slice A2 sl.length c2)).setCell ⟨g, 6, none⟩ (.int .i64 md)).setCell ⟨g, 7, none⟩ (.int .u32 fv)) = w9 at *
  simp only [List.set_cons_zero, List.set_cons_succ] at HB4
  have s0 : w9.cell? ⟨s, 0, none⟩ = some (.bool sok) := (HBS8.out.mod HSS.out hsg).cell 0
  have f0 : w9.cell? ⟨f, 0, none⟩ = some (.bool fok) := (HBF.out.mod HSS.out hfg).cell 0
  have HMr9 : Sec (Mod (fun k => k = g ∨ k = r) w w9) := ⟨HMr8.out.trans HSS.out (fun i hi _ => Or.inl hi)⟩
  cases sok
  · have HE : Sec (storeC t uid rest = badC t) := ⟨by rw [HD.out, if_neg (by simp)]⟩
    go_wp2
    go_ret
    exact ⟨false, rfl, (fun h => by cases h), (fun _ => HE.out), HMr9.out⟩
  by_cases hz : md = 0
  · have HE : Sec (storeC t uid rest = badC t) := ⟨by rw [HD.out, if_neg (fun h => h.2.1 hz)]⟩
    subst hz
    go_wp2
    go_ret
    exact ⟨false, rfl, (fun h => by cases h), (fun _ => HE.out), HMr9.out⟩
  have hzb : (md != 0) = true := by simpa using hz
  cases fok
  · have HE : Sec (storeC t uid rest = badC t) := ⟨by rw [HD.out, if_neg (by simp)]⟩
    clear hz
    go_wp2
    go_ret
    exact ⟨false, rfl, (fun h => by cases h), (fun _ => HE.out), HMr9.out⟩
  · have HE : Sec (storeC t uid rest = (10, t, 0, uid, sl, 0, md, fv, [])) := ⟨by rw [HD.out, if_pos ⟨rfl, hz, rfl⟩]⟩
    have HCS : Sec (CmdSt w0.heap.size w9 g (10, t, 0, uid, sl, 0, md, fv, [])) := ⟨by
      obtain ⟨F, ho, hF⟩ := HOS8.out
      exact ⟨⟨_, _, F, [], HB4.out, ho.keep HSS.out (fun k hk => by have := hF k hk; omega), Own.nil _ _ _, (fun k hk => by simp), (fun k hk => by
        rcases hk with hk | hk
        · have := hF k hk; omega
        · cases hk)⟩, show IntKind.i64.wrap 10 = 10 by decide, show IntKind.u32.wrap 0 = 0 by decide, show IntKind.i64.wrap 0 = 0 by decide, HMW.out, HFW.out⟩⟩
    clear hz
    go_wp2
    go_ret
    exact ⟨true, rfl, (fun _ => by rw [HE.out]; exact HCS.out), (fun h => by cases h), HMr9.out⟩
end Go.Proofs.YtiaknomadhgckaaDoor
