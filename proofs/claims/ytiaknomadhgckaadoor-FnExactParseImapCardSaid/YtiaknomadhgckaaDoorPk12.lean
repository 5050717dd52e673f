/- The program's ParseImap. The specification's reading of FETCH and STORE. -/
import Derived.Test.YtiaknomadhgckaaDoorPk11
import Derived.Test.YtiaknomadhgckaaDoorPk6
import Derived.Test.YtiaknomadhgckaaDoorPk7
namespace Go.Proofs.YtiaknomadhgckaaDoor
open Go.RowKit Mem
set_option linter.unusedVariables false
set_option linter.unusedSimpArgs false
def set9 (w : World) (g : Nat) (a0 a1 a2 a3 a4 a5 a6 a7 a8 : Value) : World := ((((((((w.setCell ⟨g, 0, none⟩ a0).setCell ⟨g, 1, none⟩ a1).setCell ⟨g, 2, none⟩ a2).setCell ⟨g, 3, none⟩ a3).setCell ⟨g, 4, none⟩ a4).setCell ⟨g, 5, none⟩ a5).setCell ⟨g, 6, none⟩ a6).setCell ⟨g, 7, none⟩ a7).setCell ⟨g, 8, none⟩ a8
theorem set9_blk {w : World} {g : Nat} {t : TypeId} {b0 b1 b2 b3 b4 b5 b6 b7 b8 : Value} (h : Blk w g t [b0, b1, b2, b3, b4, b5, b6, b7, b8]) (a0 a1 a2 a3 a4 a5 a6 a7 a8 : Value) : Blk (set9 w g a0 a1 a2 a3 a4 a5 a6 a7 a8) g t [a0, a1, a2, a3, a4, a5, a6, a7, a8] := by
  have := ((((((((h.set_ 0 a0).set_ 1 a1).set_ 2 a2).set_ 3 a3).set_ 4 a4).set_ 5 a5).set_ 6 a6).set_ 7 a7).set_ 8 a8
  simp only [List.set_cons_zero, List.set_cons_succ] at this
  exact this
theorem set9_mod (w : World) (g : Nat) (a0 a1 a2 a3 a4 a5 a6 a7 a8 : Value) : Mod (fun k => k = g) w (set9 w g a0 a1 a2 a3 a4 a5 a6 a7 a8) :=
  (((((((((Mod.refl (fun k => k = g) w).setCell (p := ⟨g, 0, none⟩) (fun _ => rfl) a0).setCell (p := ⟨g, 1, none⟩) (fun _ => rfl) a1).setCell (p := ⟨g, 2, none⟩) (fun _ => rfl) a2).setCell (p := ⟨g, 3, none⟩) (fun _ => rfl) a3).setCell (p := ⟨g, 4, none⟩) (fun _ => rfl) a4).setCell (p := ⟨g, 5, none⟩) (fun _ => rfl) a5).setCell (p := ⟨g, 6, none⟩) (fun _ => rfl) a6).setCell (p := ⟨g, 7, none⟩) (fun _ => rfl) a7).setCell (p := ⟨g, 8, none⟩) (fun _ => rfl) a8
theorem ret_half {w W : World} {t : Bytes} (ht : t.length ≤ 9223372036854775807) (hm : New w W) : RetV true dCmd w (badC t) (.returned (.agg #[.int .i64 0, .string ⟨t.toArray⟩, .int .u32 0, .bool false, .slice none 0 0, .int .i64 0, .int .i64 0, .int .u32 0, .slice none 0 0])) W :=
  ⟨_, rfl, ⟨_, _, rfl, mCmd (x := badC t) (F4 := []) (F8 := []) (show IntKind.i64.wrap 0 = 0 by decide) ht (show IntKind.u32.wrap 0 = 0 by decide) (show IntKind.i64.wrap 0 = 0 by decide) (show IntKind.i64.wrap 0 = 0 by decide) (show IntKind.u32.wrap 0 = 0 by decide) (Own.nil _ _ _) (Own.nil _ _ _) (by simp), by simp⟩, hm⟩
theorem fetchC_tag (t : Bytes) (uid : Bool) (r : Bytes) : (fetchC t uid r).2.1 = t := by unfold fetchC; split <;> rfl
theorem storeC_tag (t : Bytes) (uid : Bool) (r : Bytes) : (storeC t uid r).2.1 = t := by unfold storeC; split <;> rfl
theorem verbC_tag (t : Bytes) (uid : Bool) (u : Bytes) (b : Bool) (r : Bytes) : (verbC t uid u b r).2.1 = t := by
  unfold verbC
  repeat' split
  all_goals first | exact fetchC_tag t uid r | exact storeC_tag t uid r | rfl
theorem restC_tag (t r : Bytes) : (restC t r).2.1 = t := by
  unfold restC
  split
  · exact verbC_tag _ _ _ _ _
  · exact verbC_tag _ _ _ _ _
theorem appC_tag (t r b : Bytes) : (appC t r b).2.1 = t := by
  unfold appC appT
  repeat' split
  all_goals rfl
set_option maxHeartbeats 8000000 in
set_option maxRecDepth 100000 in
theorem parseImapI_v {w : World} {vu : Value} {u : UnitT} (hN : Names1 w) (hu : RdV true dUnit w vu u) (hl : u.1.length ≤ 1048576) (hbl : u.2.1.length ≤ 1048576) :
    Calls Tryd.prog 13 #[vu] w (RetV true dCmd w (imapL u)) := by
  have HU0 := Sec.mk hu
  obtain ⟨v0, v1, rfl, k0, k1⟩ := rdUnit hu
  obtain ⟨A0, c0, rfl, -, r0⟩ := k0.slice
  obtain ⟨A1, c1, rfl, -, r1⟩ := k1.slice
  have HN := Sec.mk hN
  have HD : Sec (imapL u = if u.2.2.2 = true ∨ 300 < u.1.length ∨ (cutL 32 u.1).2.2 = false ∨ tagB (cutL 32 u.1).1 = false then noC else if u.2.2.1 = true then appC (cutL 32 u.1).1 (cutL 32 u.1).2.1 u.2.1 else restC (cutL 32 u.1).1 (cutL 32 u.1).2.1) := ⟨rfl⟩
  have HCU := Sec.mk (fun w => cut1_calls u.1 (by omega) 32 w)
  have hle := cut_le u.1
  have hnw : New w ((w.alloc (.cells #[.slice A0 u.1.length c0, .slice A1 u.2.1.length c1, .bool u.2.2.1, .bool u.2.2.2] 40)).alloc (.cells #[.int .i64 0, .string ⟨#[]⟩, .int .u32 0, .bool false, .slice none 0 0, .int .i64 0, .int .i64 0, .int .u32 0, .slice none 0 0] 38)) := ((Mod.refl _ _).alloc _).alloc _
  have hcv := (r0.mod (B' := (· < w.heap.size)) (w' := (w.alloc (.cells #[.slice A0 u.1.length c0, .slice A1 u.2.1.length c1, .bool u.2.2.1, .bool u.2.2.2] 40)).alloc (.cells #[.int .i64 0, .string ⟨#[]⟩, .int .u32 0, .bool false, .slice none 0 0, .int .i64 0, .int .i64 0, .int .u32 0, .slice none 0 0] 38)) (fun _ h => h) (fun k hk => hnw.block k hk id)).conv (P := Tryd.prog) Tryd.underlying32 Tryd.underlying5 Tryd.underlying9 c0
  have HBU := Sec.mk ((Blk.new w 40 [.slice A0 u.1.length c0, .slice A1 u.2.1.length c1, .bool u.2.2.1, .bool u.2.2.2]).alloc (.cells #[.int .i64 0, .string ⟨#[]⟩, .int .u32 0, .bool false, .slice none 0 0, .int .i64 0, .int .i64 0, .int .u32 0, .slice none 0 0] 38))
  have HBR : Sec (Blk ((w.alloc (.cells #[.slice A0 u.1.length c0, .slice A1 u.2.1.length c1, .bool u.2.2.1, .bool u.2.2.2] 40)).alloc (.cells #[.int .i64 0, .string ⟨#[]⟩, .int .u32 0, .bool false, .slice none 0 0, .int .i64 0, .int .i64 0, .int .u32 0, .slice none 0 0] 38)) (w.heap.size + 1) 38 [.int .i64 0, .string ⟨#[]⟩, .int .u32 0, .bool false, .slice none 0 0, .int .i64 0, .int .i64 0, .int .u32 0, .slice none 0 0]) := ⟨by have := Blk.new (w.alloc (.cells #[.slice A0 u.1.length c0, .slice A1 u.2.1.length c1, .bool u.2.2.1, .bool u.2.2.2] 40)) 38 [.int .i64 0, .string ⟨#[]⟩, .int .u32 0, .bool false, .slice none 0 0, .int .i64 0, .int .i64 0, .int .u32 0, .slice none 0 0]; simpa using this⟩
  have HNW := Sec.mk hnw
  clear hu k0 k1 r0 r1 hN hnw
  generalize (cutL 32 u.1).1 = tag at *
  generalize (cutL 32 u.1).2.1 = rest at *
  generalize (cutL 32 u.1).2.2 = cok at *
  have HTG := Sec.mk (fun w => tagOk_calls tag (by omega) w)
  obtain ⟨line, body, has, bad⟩ := u
  simp only at HD HU0 HCU hle hcv HBU HBR HNW hl hbl ⊢
  go_enter Tryd.func13, Tryd.ntmps13
  go_upto_region 1 with (fail)
  generalize ((w.alloc (.cells #[.slice A0 line.length c0, .slice A1 body.length c1, .bool has, .bool bad] 40)).alloc (.cells #[.int .i64 0, .string ⟨#[]⟩, .int .u32 0, .bool false, .slice none 0 0, .int .i64 0, .int .i64 0, .int .u32 0, .slice none 0 0] 38)) = wA at *
  have u0 : wA.cell? ⟨w.heap.size, 0, none⟩ = some (.slice A0 line.length c0) := HBU.out.cell 0
  go_wp2_with fail
  refine (HCU.out _).mono ?_
  rintro e w1 ⟨rfl, hm1⟩
  have HBU1 := Sec.mk (HBU.out.mod hm1 id)
  have HBR1 := Sec.mk (HBR.out.mod hm1 id)
  have HN1 : Sec (New w w1) := ⟨HNW.out.transN hm1⟩
  clear hm1 hcv u0 HBU HBR HNW HCU
  have u3 : w1.cell? ⟨w.heap.size, 3, none⟩ = some (.bool bad) := HBU1.out.cell 3
  have u0 : w1.cell? ⟨w.heap.size, 0, none⟩ = some (.slice A0 line.length c0) := HBU1.out.cell 0
  have HNO : Sec (bad = true ∨ 300 < line.length ∨ cok = false ∨ tagB tag = false → imapL (line, body, has, bad) = badC [42]) := ⟨fun h => by rw [HD.out, if_pos h]; rfl⟩
  cases bad
  rotate_left
  · have HE := Sec.mk (HNO.out (Or.inl rfl))
    clear HD HNO HTG
    have q0 : w1.cell? ⟨w.heap.size + 1, 0, none⟩ = some (.int .i64 0) := HBR1.out.cell 0
    have q1 : w1.cell? ⟨w.heap.size + 1, 1, none⟩ = some (.string ⟨#[]⟩) := HBR1.out.cell 1
    have q2 : w1.cell? ⟨w.heap.size + 1, 2, none⟩ = some (.int .u32 0) := HBR1.out.cell 2
    have q3 : w1.cell? ⟨w.heap.size + 1, 3, none⟩ = some (.bool false) := HBR1.out.cell 3
    have q4 : w1.cell? ⟨w.heap.size + 1, 4, none⟩ = some (.slice none 0 0) := HBR1.out.cell 4
    have q5 : w1.cell? ⟨w.heap.size + 1, 5, none⟩ = some (.int .i64 0) := HBR1.out.cell 5
    have q6 : w1.cell? ⟨w.heap.size + 1, 6, none⟩ = some (.int .i64 0) := HBR1.out.cell 6
    have q7 : w1.cell? ⟨w.heap.size + 1, 7, none⟩ = some (.int .u32 0) := HBR1.out.cell 7
    have q8 : w1.cell? ⟨w.heap.size + 1, 8, none⟩ = some (.slice none 0 0) := HBR1.out.cell 8
    have qf : ∀ j, w1.frozen? ⟨w.heap.size + 1, j, none⟩ = false := fun j => HBR1.out.frozen j
    have HF9 := Sec.mk (set9_blk HBR1.out (.int .i64 0) (.string ⟨#[42]⟩) (.int .u32 0) (.bool false) (.slice none 0 0) (.int .i64 0) (.int .i64 0) (.int .u32 0) (.slice none 0 0))
    have HM9 : Sec (New w (set9 w1 (w.heap.size + 1) (.int .i64 0) (.string ⟨#[42]⟩) (.int .u32 0) (.bool false) (.slice none 0 0) (.int .i64 0) (.int .i64 0) (.int .u32 0) (.slice none 0 0))) := ⟨HN1.out.trans (set9_mod _ _ _ _ _ _ _ _ _ _ _) (fun i hi hl => by omega)⟩
    go_wp2
    refine bodyPost_ret (results_blk rfl rfl HF9.out Tryd.underlying38 (by kernel_rfl)) rfl ?_
    rw [HE.out]
    exact ret_half (t := [42]) (by decide) HM9.out
  by_cases h300 : 300 < line.length
  · have HE := Sec.mk (HNO.out (Or.inr (Or.inl h300)))
    have h3i : (300 : Int) < (line.length : Int) := by omega
    clear HD HNO HTG h300
    have q0 : w1.cell? ⟨w.heap.size + 1, 0, none⟩ = some (.int .i64 0) := HBR1.out.cell 0
    have q1 : w1.cell? ⟨w.heap.size + 1, 1, none⟩ = some (.string ⟨#[]⟩) := HBR1.out.cell 1
    have q2 : w1.cell? ⟨w.heap.size + 1, 2, none⟩ = some (.int .u32 0) := HBR1.out.cell 2
    have q3 : w1.cell? ⟨w.heap.size + 1, 3, none⟩ = some (.bool false) := HBR1.out.cell 3
    have q4 : w1.cell? ⟨w.heap.size + 1, 4, none⟩ = some (.slice none 0 0) := HBR1.out.cell 4
    have q5 : w1.cell? ⟨w.heap.size + 1, 5, none⟩ = some (.int .i64 0) := HBR1.out.cell 5
    have q6 : w1.cell? ⟨w.heap.size + 1, 6, none⟩ = some (.int .i64 0) := HBR1.out.cell 6
    have q7 : w1.cell? ⟨w.heap.size + 1, 7, none⟩ = some (.int .u32 0) := HBR1.out.cell 7
    have q8 : w1.cell? ⟨w.heap.size + 1, 8, none⟩ = some (.slice none 0 0) := HBR1.out.cell 8
    have qf : ∀ j, w1.frozen? ⟨w.heap.size + 1, j, none⟩ = false := fun j => HBR1.out.frozen j
    have HF9 := Sec.mk (set9_blk HBR1.out (.int .i64 0) (.string ⟨#[42]⟩) (.int .u32 0) (.bool false) (.slice none 0 0) (.int .i64 0) (.int .i64 0) (.int .u32 0) (.slice none 0 0))
    have HM9 : Sec (New w (set9 w1 (w.heap.size + 1) (.int .i64 0) (.string ⟨#[42]⟩) (.int .u32 0) (.bool false) (.slice none 0 0) (.int .i64 0) (.int .i64 0) (.int .u32 0) (.slice none 0 0))) := ⟨HN1.out.trans (set9_mod _ _ _ _ _ _ _ _ _ _ _) (fun i hi hl => by omega)⟩
    go_wp2
    refine bodyPost_ret (results_blk rfl rfl HF9.out Tryd.underlying38 (by kernel_rfl)) rfl ?_
    rw [HE.out]
    exact ret_half (t := [42]) (by decide) HM9.out
  have h3i : ¬ (300 : Int) < (line.length : Int) := by omega
  cases cok
  · have HE := Sec.mk (HNO.out (Or.inr (Or.inr (Or.inl rfl))))
    clear HD HNO HTG h300
    have q0 : w1.cell? ⟨w.heap.size + 1, 0, none⟩ = some (.int .i64 0) := HBR1.out.cell 0
    have q1 : w1.cell? ⟨w.heap.size + 1, 1, none⟩ = some (.string ⟨#[]⟩) := HBR1.out.cell 1
    have q2 : w1.cell? ⟨w.heap.size + 1, 2, none⟩ = some (.int .u32 0) := HBR1.out.cell 2
    have q3 : w1.cell? ⟨w.heap.size + 1, 3, none⟩ = some (.bool false) := HBR1.out.cell 3
    have q4 : w1.cell? ⟨w.heap.size + 1, 4, none⟩ = some (.slice none 0 0) := HBR1.out.cell 4
    have q5 : w1.cell? ⟨w.heap.size + 1, 5, none⟩ = some (.int .i64 0) := HBR1.out.cell 5
    have q6 : w1.cell? ⟨w.heap.size + 1, 6, none⟩ = some (.int .i64 0) := HBR1.out.cell 6
    have q7 : w1.cell? ⟨w.heap.size + 1, 7, none⟩ = some (.int .u32 0) := HBR1.out.cell 7
    have q8 : w1.cell? ⟨w.heap.size + 1, 8, none⟩ = some (.slice none 0 0) := HBR1.out.cell 8
    have qf : ∀ j, w1.frozen? ⟨w.heap.size + 1, j, none⟩ = false := fun j => HBR1.out.frozen j
    have HF9 := Sec.mk (set9_blk HBR1.out (.int .i64 0) (.string ⟨#[42]⟩) (.int .u32 0) (.bool false) (.slice none 0 0) (.int .i64 0) (.int .i64 0) (.int .u32 0) (.slice none 0 0))
    have HM9 : Sec (New w (set9 w1 (w.heap.size + 1) (.int .i64 0) (.string ⟨#[42]⟩) (.int .u32 0) (.bool false) (.slice none 0 0) (.int .i64 0) (.int .i64 0) (.int .u32 0) (.slice none 0 0))) := ⟨HN1.out.trans (set9_mod _ _ _ _ _ _ _ _ _ _ _) (fun i hi hl => by omega)⟩
    go_wp2
    refine bodyPost_ret (results_blk rfl rfl HF9.out Tryd.underlying38 (by kernel_rfl)) rfl ?_
    rw [HE.out]
    exact ret_half (t := [42]) (by decide) HM9.out
  go_wp2_with fail
  refine (HTG.out _).mono ?_
  rintro e w2 ⟨rfl, hm2⟩
  have HBU2 := Sec.mk (HBU1.out.mod hm2 id)
  have HBR2 := Sec.mk (HBR1.out.mod hm2 id)
  have HN2 : Sec (New w w2) := ⟨HN1.out.transN hm2⟩
  clear hm2 HBU1 HBR1 HN1 u3 u0 HTG
  cases htb : tagB tag
  · have HE := Sec.mk (HNO.out (Or.inr (Or.inr (Or.inr htb))))
    clear HD HNO h300 htb
    have q0 : w2.cell? ⟨w.heap.size + 1, 0, none⟩ = some (.int .i64 0) := HBR2.out.cell 0
    have q1 : w2.cell? ⟨w.heap.size + 1, 1, none⟩ = some (.string ⟨#[]⟩) := HBR2.out.cell 1
    have q2 : w2.cell? ⟨w.heap.size + 1, 2, none⟩ = some (.int .u32 0) := HBR2.out.cell 2
    have q3 : w2.cell? ⟨w.heap.size + 1, 3, none⟩ = some (.bool false) := HBR2.out.cell 3
    have q4 : w2.cell? ⟨w.heap.size + 1, 4, none⟩ = some (.slice none 0 0) := HBR2.out.cell 4
    have q5 : w2.cell? ⟨w.heap.size + 1, 5, none⟩ = some (.int .i64 0) := HBR2.out.cell 5
    have q6 : w2.cell? ⟨w.heap.size + 1, 6, none⟩ = some (.int .i64 0) := HBR2.out.cell 6
    have q7 : w2.cell? ⟨w.heap.size + 1, 7, none⟩ = some (.int .u32 0) := HBR2.out.cell 7
    have q8 : w2.cell? ⟨w.heap.size + 1, 8, none⟩ = some (.slice none 0 0) := HBR2.out.cell 8
    have qf : ∀ j, w2.frozen? ⟨w.heap.size + 1, j, none⟩ = false := fun j => HBR2.out.frozen j
    have HF9 := Sec.mk (set9_blk HBR2.out (.int .i64 0) (.string ⟨#[42]⟩) (.int .u32 0) (.bool false) (.slice none 0 0) (.int .i64 0) (.int .i64 0) (.int .u32 0) (.slice none 0 0))
    have HM9 : Sec (New w (set9 w2 (w.heap.size + 1) (.int .i64 0) (.string ⟨#[42]⟩) (.int .u32 0) (.bool false) (.slice none 0 0) (.int .i64 0) (.int .i64 0) (.int .u32 0) (.slice none 0 0))) := ⟨HN2.out.trans (set9_mod _ _ _ _ _ _ _ _ _ _ _) (fun i hi hl => by omega)⟩
    go_wp2
    refine bodyPost_ret (results_blk rfl rfl HF9.out Tryd.underlying38 (by kernel_rfl)) rfl ?_
    rw [HE.out]
    exact ret_half (t := [42]) (by decide) HM9.out
  have HE : Sec (imapL (line, body, has, false) = if has = true then appC tag rest body else restC tag rest) := ⟨by rw [HD.out, if_neg (fun h => h.elim (fun h => by cases h) (fun h => h.elim h300 (fun h => h.elim (fun h => by cases h) (fun h => by rw [htb] at h; cases h))))]⟩
  clear HD HNO h300 htb
  have HG0 : Sec (HalfSt (w2.alloc (.cells #[.int .i64 0, .string ⟨tag.toArray⟩, .int .u32 0, .bool false, .slice none 0 0, .int .i64 0, .int .i64 0, .int .u32 0, .slice none 0 0] 38)) w2.heap.size tag false) := ⟨Blk.new w2 _ _⟩
  have hna : New w2 (w2.alloc (.cells #[.int .i64 0, .string ⟨tag.toArray⟩, .int .u32 0, .bool false, .slice none 0 0, .int .i64 0, .int .i64 0, .int .u32 0, .slice none 0 0] 38)) := (Mod.refl _ _).alloc _
  have HBU3 := Sec.mk (HBU2.out.mod hna id)
  have HBR3 := Sec.mk (HBR2.out.mod hna id)
  have HN3 : Sec (New w (w2.alloc (.cells #[.int .i64 0, .string ⟨tag.toArray⟩, .int .u32 0, .bool false, .slice none 0 0, .int .i64 0, .int .i64 0, .int .u32 0, .slice none 0 0] 38))) := ⟨HN2.out.transN hna⟩
  have HN02 := Sec.mk (HN.out.new HN2.out)
  have HNA := Sec.mk hna
  have HU3 := Sec.mk (HU0.out.step HN3.out)
  have hs2 := hna.size
  have hR2 := HBR2.out.lt
  clear hna HBU2 HBR2 HN HU0
  go_upto_region 5 with (fail)
  generalize w2.alloc (.cells #[.int .i64 0, .string ⟨tag.toArray⟩, .int .u32 0, .bool false, .slice none 0 0, .int .i64 0, .int .i64 0, .int .u32 0, .slice none 0 0] 38) = w3 at *
  generalize hg : w2.heap.size = g at *
  have HGE := Sec.mk hg
  clear hg
  have u2 : w3.cell? ⟨w.heap.size, 2, none⟩ = some (.bool has) := HBU3.out.cell 2
  have HFIN : ∀ (W : World) (x : CmdT), CmdSt w2.heap.size W g x → Mod (fun k => k = g) w3 W → x.2.1.length ≤ 9223372036854775807 → Sec (Blk W (w.heap.size + 1) 38 [.int .i64 0, .string ⟨#[]⟩, .int .u32 0, .bool false, .slice none 0 0, .int .i64 0, .int .i64 0, .int .u32 0, .slice none 0 0]) ∧ ∃ (A4 A8 : Option Addr) (n4 e4 n8 e8 : Nat), Sec (Blk W g 38 (cellsC x (.slice A4 n4 e4) (.slice A8 n8 e8))) ∧ ∀ W', Mod (fun k => k = w.heap.size + 1) W W' → Sec (RetV true dCmd w x (.returned (.agg (cellsC x (.slice A4 n4 e4) (.slice A8 n8 e8)).toArray)) W') := by
    intro W x hc hm ht
    obtain ⟨v4, v8, F4, F8, hb, h4, h8, hd, hF⟩ := hc.ex
    have hRg : ¬ w.heap.size + 1 = g := by have := HGE.out; omega
    obtain ⟨A4, e4, rfl, -, -⟩ := h4.form
    obtain ⟨A8, e8, rfl, -, -⟩ := h8.form
    have hge := HGE.out
    refine ⟨⟨HBR3.out.mod hm hRg⟩, A4, A8, _, e4, _, e8, ⟨hb⟩, fun W' hm' => ⟨?_⟩⟩
    refine ⟨_, rfl, ⟨_, _, rfl, mCmd hc.w0 ht hc.w2 hc.w5 hc.w6 hc.w7 (h4.keep hm' fun k hk => by have := (hF k (.inl hk)).1; omega) (h8.keep hm' fun k hk => by have := (hF k (.inr hk)).1; omega) hd, fun k hk => ?_⟩, (HN3.out.trans hm (fun i hi hl => by have := HGE.out; have := HN2.out.size; omega)).trans hm' (fun i hi hl => by omega)⟩
    rcases List.mem_append.1 hk with hk | hk
    · have h1 := (hF k (.inl hk)).1; have h2 := h4.lt k hk; have h3 := hm'.size; have h4 := HN2.out.size; omega
    · have h1 := (hF k (.inr hk)).1; have h2 := h8.lt k hk; have h3 := hm'.size; have h4 := HN2.out.size; omega
  have HFIN := Sec.mk HFIN
  have hgw : w.heap.size + 1 < g := by have := HGE.out; omega
  have HMB : Sec (Mod (fun k => w2.heap.size ≤ k) w2 w3) := ⟨Mod.ofNew HNA.out⟩
  have hg0 : w2.heap.size ≤ g := by have := HGE.out; omega
  cases has
  · have HE2 : Sec (imapL (line, body, false, false) = restC tag rest) := ⟨by rw [HE.out, if_neg (by simp)]⟩
    clear HE
    go_wp2_with fail
    refine (imapRest_calls (w0 := w2) (w := w3) (g := g) (t := tag) (rest := rest) HN02.out HMB.out hg0 HG0.out (by omega)).mono ?_
    rintro e w4 ⟨ok, rfl, h1, h2, hm4⟩
    have H1 := Sec.mk h1
    have H2 := Sec.mk h2
    have HBR4 := Sec.mk (HBR3.out.mod hm4 (by omega))
    have HM4 := Sec.mk hm4
    have HN4 : Sec (New w w4) := ⟨HN3.out.trans hm4 (fun i hi hl => by omega)⟩
    clear h1 h2 hm4
    cases ok
    · have HE3 : Sec (imapL (line, body, false, false) = badC tag) := ⟨HE2.out.trans (H2.out rfl)⟩
      clear H1 H2 HFIN HBR3 HN3 HMB
      have q0 : w4.cell? ⟨w.heap.size + 1, 0, none⟩ = some (.int .i64 0) := HBR4.out.cell 0
      have q1 : w4.cell? ⟨w.heap.size + 1, 1, none⟩ = some (.string ⟨#[]⟩) := HBR4.out.cell 1
      have q2 : w4.cell? ⟨w.heap.size + 1, 2, none⟩ = some (.int .u32 0) := HBR4.out.cell 2
      have q3 : w4.cell? ⟨w.heap.size + 1, 3, none⟩ = some (.bool false) := HBR4.out.cell 3
      have q4 : w4.cell? ⟨w.heap.size + 1, 4, none⟩ = some (.slice none 0 0) := HBR4.out.cell 4
      have q5 : w4.cell? ⟨w.heap.size + 1, 5, none⟩ = some (.int .i64 0) := HBR4.out.cell 5
      have q6 : w4.cell? ⟨w.heap.size + 1, 6, none⟩ = some (.int .i64 0) := HBR4.out.cell 6
      have q7 : w4.cell? ⟨w.heap.size + 1, 7, none⟩ = some (.int .u32 0) := HBR4.out.cell 7
      have q8 : w4.cell? ⟨w.heap.size + 1, 8, none⟩ = some (.slice none 0 0) := HBR4.out.cell 8
      have qf : ∀ j, w4.frozen? ⟨w.heap.size + 1, j, none⟩ = false := fun j => HBR4.out.frozen j
      have HF9 := Sec.mk (set9_blk HBR4.out (.int .i64 0) (.string ⟨tag.toArray⟩) (.int .u32 0) (.bool false) (.slice none 0 0) (.int .i64 0) (.int .i64 0) (.int .u32 0) (.slice none 0 0))
      have HM9 : Sec (New w (set9 w4 (w.heap.size + 1) (.int .i64 0) (.string ⟨tag.toArray⟩) (.int .u32 0) (.bool false) (.slice none 0 0) (.int .i64 0) (.int .i64 0) (.int .u32 0) (.slice none 0 0))) := ⟨HN4.out.trans (set9_mod _ _ _ _ _ _ _ _ _ _ _) (fun i hi hl => by omega)⟩
      go_wp2
      refine bodyPost_ret (results_blk rfl rfl HF9.out Tryd.underlying38 (by kernel_rfl)) rfl ?_
      rw [HE3.out]
      exact ret_half (t := tag) (by omega) HM9.out
    · have HCS := Sec.mk (H1.out rfl)
      clear H1 H2 HBR3 HN3 HMB
      have htl : (restC tag rest).2.1.length ≤ 9223372036854775807 := by rw [restC_tag]; omega
      obtain ⟨hbR, A4, A8, n4, e4, n8, e8, hbG, hret⟩ := HFIN.out w4 _ HCS.out HM4.out htl
      rw [← HE2.out] at hbG hret
      have HRET := Sec.mk hret
      clear HCS htl HFIN hret HBR4
      generalize imapL (line, body, false, false) = x at *
      have q0 : w4.cell? ⟨w.heap.size + 1, 0, none⟩ = some (.int .i64 0) := hbR.out.cell 0
      have q1 : w4.cell? ⟨w.heap.size + 1, 1, none⟩ = some (.string ⟨#[]⟩) := hbR.out.cell 1
      have q2 : w4.cell? ⟨w.heap.size + 1, 2, none⟩ = some (.int .u32 0) := hbR.out.cell 2
      have q3 : w4.cell? ⟨w.heap.size + 1, 3, none⟩ = some (.bool false) := hbR.out.cell 3
      have q4 : w4.cell? ⟨w.heap.size + 1, 4, none⟩ = some (.slice none 0 0) := hbR.out.cell 4
      have q5 : w4.cell? ⟨w.heap.size + 1, 5, none⟩ = some (.int .i64 0) := hbR.out.cell 5
      have q6 : w4.cell? ⟨w.heap.size + 1, 6, none⟩ = some (.int .i64 0) := hbR.out.cell 6
      have q7 : w4.cell? ⟨w.heap.size + 1, 7, none⟩ = some (.int .u32 0) := hbR.out.cell 7
      have q8 : w4.cell? ⟨w.heap.size + 1, 8, none⟩ = some (.slice none 0 0) := hbR.out.cell 8
      have qf : ∀ j, w4.frozen? ⟨w.heap.size + 1, j, none⟩ = false := fun j => hbR.out.frozen j
      have g0 : w4.cell? ⟨g, 0, none⟩ = some (.int .i64 x.1) := hbG.out.cell 0
      have g1 : w4.cell? ⟨g, 1, none⟩ = some (.string ⟨x.2.1.toArray⟩) := hbG.out.cell 1
      have g2 : w4.cell? ⟨g, 2, none⟩ = some (.int .u32 x.2.2.1) := hbG.out.cell 2
      have g3 : w4.cell? ⟨g, 3, none⟩ = some (.bool x.2.2.2.1) := hbG.out.cell 3
      have g4 : w4.cell? ⟨g, 4, none⟩ = some (.slice A4 n4 e4) := hbG.out.cell 4
      have g5 : w4.cell? ⟨g, 5, none⟩ = some (.int .i64 x.2.2.2.2.2.1) := hbG.out.cell 5
      have g6 : w4.cell? ⟨g, 6, none⟩ = some (.int .i64 x.2.2.2.2.2.2.1) := hbG.out.cell 6
      have g7 : w4.cell? ⟨g, 7, none⟩ = some (.int .u32 x.2.2.2.2.2.2.2.1) := hbG.out.cell 7
      have g8 : w4.cell? ⟨g, 8, none⟩ = some (.slice A8 n8 e8) := hbG.out.cell 8
      have HF9 := Sec.mk (set9_blk hbR.out (.int .i64 x.1) (.string ⟨x.2.1.toArray⟩) (.int .u32 x.2.2.1) (.bool x.2.2.2.1) (.slice A4 n4 e4) (.int .i64 x.2.2.2.2.2.1) (.int .i64 x.2.2.2.2.2.2.1) (.int .u32 x.2.2.2.2.2.2.2.1) (.slice A8 n8 e8))
      have HR9 := Sec.mk (HRET.out _ (set9_mod w4 (w.heap.size + 1) (.int .i64 x.1) (.string ⟨x.2.1.toArray⟩) (.int .u32 x.2.2.1) (.bool x.2.2.2.1) (.slice A4 n4 e4) (.int .i64 x.2.2.2.2.2.1) (.int .i64 x.2.2.2.2.2.2.1) (.int .u32 x.2.2.2.2.2.2.2.1) (.slice A8 n8 e8)))
      clear HRET hbR hbG
      go_wp2
      refine bodyPost_ret (results_blk rfl rfl HF9.out Tryd.underlying38 (by kernel_rfl)) rfl ?_
      exact HR9.out.out
  · have HE2 : Sec (imapL (line, body, true, false) = appC tag rest body) := ⟨by rw [HE.out, if_pos rfl]⟩
    clear HE
    have u0 : w3.cell? ⟨w.heap.size, 0, none⟩ = some (.slice A0 line.length c0) := HBU3.out.cell 0
    have u1 : w3.cell? ⟨w.heap.size, 1, none⟩ = some (.slice A1 body.length c1) := HBU3.out.cell 1
    have u3 : w3.cell? ⟨w.heap.size, 3, none⟩ = some (.bool false) := HBU3.out.cell 3
    go_wp2_with fail
    refine (appended_calls (w0 := w2) (w := w3) (g := g) (t := tag) (rest := rest) HN02.out HMB.out hg0 HG0.out HU3.out (by omega) hbl).mono ?_
    rintro e w4 ⟨ok, rfl, h1, h2, hm4⟩
    have H1 := Sec.mk h1
    have H2 := Sec.mk h2
    have HBR4 := Sec.mk (HBR3.out.mod hm4 (by omega))
    have HM4 := Sec.mk hm4
    have HN4 : Sec (New w w4) := ⟨HN3.out.trans hm4 (fun i hi hl => by omega)⟩
    clear h1 h2 hm4
    cases ok
    · have HE3 : Sec (imapL (line, body, true, false) = badC tag) := ⟨HE2.out.trans (H2.out rfl)⟩
      clear H1 H2 HFIN HBR3 HN3 HMB
      have q0 : w4.cell? ⟨w.heap.size + 1, 0, none⟩ = some (.int .i64 0) := HBR4.out.cell 0
      have q1 : w4.cell? ⟨w.heap.size + 1, 1, none⟩ = some (.string ⟨#[]⟩) := HBR4.out.cell 1
      have q2 : w4.cell? ⟨w.heap.size + 1, 2, none⟩ = some (.int .u32 0) := HBR4.out.cell 2
      have q3 : w4.cell? ⟨w.heap.size + 1, 3, none⟩ = some (.bool false) := HBR4.out.cell 3
      have q4 : w4.cell? ⟨w.heap.size + 1, 4, none⟩ = some (.slice none 0 0) := HBR4.out.cell 4
      have q5 : w4.cell? ⟨w.heap.size + 1, 5, none⟩ = some (.int .i64 0) := HBR4.out.cell 5
      have q6 : w4.cell? ⟨w.heap.size + 1, 6, none⟩ = some (.int .i64 0) := HBR4.out.cell 6
      have q7 : w4.cell? ⟨w.heap.size + 1, 7, none⟩ = some (.int .u32 0) := HBR4.out.cell 7
      have q8 : w4.cell? ⟨w.heap.size + 1, 8, none⟩ = some (.slice none 0 0) := HBR4.out.cell 8
      have qf : ∀ j, w4.frozen? ⟨w.heap.size + 1, j, none⟩ = false := fun j => HBR4.out.frozen j
      have HF9 := Sec.mk (set9_blk HBR4.out (.int .i64 0) (.string ⟨tag.toArray⟩) (.int .u32 0) (.bool false) (.slice none 0 0) (.int .i64 0) (.int .i64 0) (.int .u32 0) (.slice none 0 0))
      have HM9 : Sec (New w (set9 w4 (w.heap.size + 1) (.int .i64 0) (.string ⟨tag.toArray⟩) (.int .u32 0) (.bool false) (.slice none 0 0) (.int .i64 0) (.int .i64 0) (.int .u32 0) (.slice none 0 0))) := ⟨HN4.out.trans (set9_mod _ _ _ _ _ _ _ _ _ _ _) (fun i hi hl => by omega)⟩
      go_wp2
      refine bodyPost_ret (results_blk rfl rfl HF9.out Tryd.underlying38 (by kernel_rfl)) rfl ?_
      rw [HE3.out]
      exact ret_half (t := tag) (by omega) HM9.out
    · have HCS := Sec.mk (H1.out rfl)
      clear H1 H2 HBR3 HN3 HMB
      have htl : (appC tag rest body).2.1.length ≤ 9223372036854775807 := by rw [appC_tag]; omega
      obtain ⟨hbR, A4, A8, n4, e4, n8, e8, hbG, hret⟩ := HFIN.out w4 _ HCS.out HM4.out htl
      rw [← HE2.out] at hbG hret
      have HRET := Sec.mk hret
      clear HCS htl HFIN hret HBR4
      generalize imapL (line, body, true, false) = x at *
      have q0 : w4.cell? ⟨w.heap.size + 1, 0, none⟩ = some (.int .i64 0) := hbR.out.cell 0
      have q1 : w4.cell? ⟨w.heap.size + 1, 1, none⟩ = some (.string ⟨#[]⟩) := hbR.out.cell 1
      have q2 : w4.cell? ⟨w.heap.size + 1, 2, none⟩ = some (.int .u32 0) := hbR.out.cell 2
      have q3 : w4.cell? ⟨w.heap.size + 1, 3, none⟩ = some (.bool false) := hbR.out.cell 3
      have q4 : w4.cell? ⟨w.heap.size + 1, 4, none⟩ = some (.slice none 0 0) := hbR.out.cell 4
      have q5 : w4.cell? ⟨w.heap.size + 1, 5, none⟩ = some (.int .i64 0) := hbR.out.cell 5
      have q6 : w4.cell? ⟨w.heap.size + 1, 6, none⟩ = some (.int .i64 0) := hbR.out.cell 6
      have q7 : w4.cell? ⟨w.heap.size + 1, 7, none⟩ = some (.int .u32 0) := hbR.out.cell 7
      have q8 : w4.cell? ⟨w.heap.size + 1, 8, none⟩ = some (.slice none 0 0) := hbR.out.cell 8
      have qf : ∀ j, w4.frozen? ⟨w.heap.size + 1, j, none⟩ = false := fun j => hbR.out.frozen j
      have g0 : w4.cell? ⟨g, 0, none⟩ = some (.int .i64 x.1) := hbG.out.cell 0
      have g1 : w4.cell? ⟨g, 1, none⟩ = some (.string ⟨x.2.1.toArray⟩) := hbG.out.cell 1
      have g2 : w4.cell? ⟨g, 2, none⟩ = some (.int .u32 x.2.2.1) := hbG.out.cell 2
      have g3 : w4.cell? ⟨g, 3, none⟩ = some (.bool x.2.2.2.1) := hbG.out.cell 3
      have g4 : w4.cell? ⟨g, 4, none⟩ = some (.slice A4 n4 e4) := hbG.out.cell 4
      have g5 : w4.cell? ⟨g, 5, none⟩ = some (.int .i64 x.2.2.2.2.2.1) := hbG.out.cell 5
      have g6 : w4.cell? ⟨g, 6, none⟩ = some (.int .i64 x.2.2.2.2.2.2.1) := hbG.out.cell 6
      have g7 : w4.cell? ⟨g, 7, none⟩ = some (.int .u32 x.2.2.2.2.2.2.2.1) := hbG.out.cell 7
      have g8 : w4.cell? ⟨g, 8, none⟩ = some (.slice A8 n8 e8) := hbG.out.cell 8
      have HF9 := Sec.mk (set9_blk hbR.out (.int .i64 x.1) (.string ⟨x.2.1.toArray⟩) (.int .u32 x.2.2.1) (.bool x.2.2.2.1) (.slice A4 n4 e4) (.int .i64 x.2.2.2.2.2.1) (.int .i64 x.2.2.2.2.2.2.1) (.int .u32 x.2.2.2.2.2.2.2.1) (.slice A8 n8 e8))
      have HR9 := Sec.mk (HRET.out _ (set9_mod w4 (w.heap.size + 1) (.int .i64 x.1) (.string ⟨x.2.1.toArray⟩) (.int .u32 x.2.2.1) (.bool x.2.2.2.1) (.slice A4 n4 e4) (.int .i64 x.2.2.2.2.2.1) (.int .i64 x.2.2.2.2.2.2.1) (.int .u32 x.2.2.2.2.2.2.2.1) (.slice A8 n8 e8)))
      clear HRET hbR hbG
      go_wp2
      refine bodyPost_ret (results_blk rfl rfl HF9.out Tryd.underlying38 (by kernel_rfl)) rfl ?_
      exact HR9.out.out
end Go.Proofs.YtiaknomadhgckaaDoor

namespace Go.Proofs.YtiaknomadhgckaaDoor
open Go.RowKit Mem
set_option linter.unusedVariables false
set_option linter.unusedSimpArgs false
def onSetL (t lv rest : Bytes) : CmdT := if lv = [102, 101, 116, 99, 104] then fetchC t false rest else if lv = [115, 116, 111, 114, 101] then storeC t false rest else badC t
theorem onSet_cut {t lv rest : Bytes} (h : (cutL 32 rest).2.2 = false) : onSetL t lv rest = badC t := by
  have hy : (cutL 32 rest).2.1 = [] := by rw [cutL_no 32 rest h]
  unfold onSetL fetchC storeC
  rw [hy]
  split
  · exact if_neg (fun h => h.2 (by decide))
  split
  · exact if_neg (fun h => h.2.1 (by decide))
  · rfl
theorem onSet_set {t lv rest : Bytes} (h : (SetB (cutL 32 rest).1).1 = false) : onSetL t lv rest = badC t := by
  unfold onSetL fetchC storeC
  rw [h]
  split
  · exact if_neg (fun h => by cases h.1)
  split
  · exact if_neg (fun h => by cases h.1)
  · rfl
theorem modeK_lo (xs : Bytes) : modeK (upL xs) = if loL xs = [45, 102, 108, 97, 103, 115] then 3 else if loL xs = [43, 102, 108, 97, 103, 115] then 2 else if loL xs = [102, 108, 97, 103, 115] then 1 else 0 := by
  unfold modeK
  simp only [lo_is xs [45, 70, 76, 65, 71, 83] [45, 102, 108, 97, 103, 115] (by decide) (by decide), lo_is xs [43, 70, 76, 65, 71, 83] [43, 102, 108, 97, 103, 115] (by decide) (by decide), lo_is xs [70, 76, 65, 71, 83] [102, 108, 97, 103, 115] (by decide) (by decide)]
theorem ret_set {w W : World} {k it md fl : Int} {t : Bytes} {uid : Bool} {sl : List (Int × Int)} {A : Option Addr} {c : Nat} {F : List Nat} (h0 : IntKind.i64.wrap k = k) (h5 : IntKind.i64.wrap it = it) (h6 : IntKind.i64.wrap md = md) (h7 : IntKind.u32.wrap fl = fl) (ht : t.length ≤ 9223372036854775807) (ho : Own dPair 119 W F (.slice A sl.length c) sl) (hF : ∀ k, k ∈ F → w.heap.size ≤ k) (hm : New w W) :
    RetV true dCmd w (k, t, 0, uid, sl, it, md, fl, []) (.returned (.agg #[.int .i64 k, .string ⟨t.toArray⟩, .int .u32 0, .bool uid, .slice A sl.length c, .int .i64 it, .int .i64 md, .int .u32 fl, .slice none 0 0])) W :=
  ⟨_, rfl, ⟨_, _, rfl, mCmd (x := (k, t, 0, uid, sl, it, md, fl, [])) (F8 := []) h0 ht (show IntKind.u32.wrap 0 = 0 by decide) h5 h6 h7 ho (Own.nil _ _ _) (fun k hk => by simp), fun k hk => by simp at hk; exact ⟨hF k hk, ho.lt k hk⟩⟩, hm⟩
set_option maxHeartbeats 16000000 in
set_option maxRecDepth 100000 in
theorem l6OnSet_calls (t lv rest : Bytes) (ht : t.length ≤ 9223372036854775807) (hl : rest.length ≤ 1048576) (w : World) :
    Calls Tryd.prog 40 #[.agg #[.int .i64 0, .string ⟨t.toArray⟩, .int .u32 0, .bool false, .slice none 0 0, .int .i64 0, .int .i64 0, .int .u32 0, .slice none 0 0], .string ⟨lv.toArray⟩, .string ⟨rest.toArray⟩] w (RetV true dCmd w (onSetL t lv rest)) := by
  have HD : Sec (onSetL t lv rest = if lv = [102, 101, 116, 99, 104] then fetchC t false rest else if lv = [115, 116, 111, 114, 101] then storeC t false rest else badC t) := ⟨rfl⟩
  have HDF : Sec (fetchC t false rest = if (SetB (cutL 32 rest).1).1 = true ∧ itemsL (cutL 32 rest).2.1 ≠ 0 then (9, t, 0, false, (SetB (cutL 32 rest).1).2, (itemsL (cutL 32 rest).2.1 : Int), 0, 0, []) else badC t) := ⟨rfl⟩
  have HDS : Sec (storeC t false rest = if (SetB (cutL 32 rest).1).1 = true ∧ modeK (upL (cutL 32 (cutL 32 rest).2.1).1) ≠ 0 ∧ (ReadListL (cutL 32 (cutL 32 rest).2.1).2.1).1 = true then (10, t, 0, false, (SetB (cutL 32 rest).1).2, 0, modeK (upL (cutL 32 (cutL 32 rest).2.1).1), (ReadListL (cutL 32 (cutL 32 rest).2.1).2.1).2, []) else badC t) := ⟨rfl⟩
  have HX1 := Sec.mk (onSet_cut (t := t) (lv := lv) (rest := rest))
  have HX2 := Sec.mk (onSet_set (t := t) (lv := lv) (rest := rest))
  have HC := Sec.mk (fun w => l4Cut_calls rest (by omega) 32 w)
  simp only [Cut3] at HC
  have hle := cut_le rest
  generalize (cutL 32 rest).2.2 = m at *
  generalize (cutL 32 rest).1 = x at *
  generalize (cutL 32 rest).2.1 = y at *
  have HRS := Sec.mk (fun w => readSetSpec_calls x (by omega) w)
  have HIT := Sec.mk (fun w => l6Items_calls y (by omega) w)
  have HIW := Sec.mk (small64 (itemsL_lt y))
  have HCY := Sec.mk (fun w => l4Cut_calls y (by omega) 32 w)
  simp only [Cut3] at HCY
  have hley := cut_le y
  have HYE : Sec ((cutL 32 y).2.2 = false → (ReadListL (cutL 32 y).2.1).1 = false) := ⟨fun h => by rw [cutL_no 32 y h]; rfl⟩
  generalize (cutL 32 y).2.2 = m2 at *
  generalize (cutL 32 y).1 = mw at *
  generalize (cutL 32 y).2.1 = l at *
  generalize itemsL y = n at *
  generalize SetB x = sx at *
  obtain ⟨sok, sl⟩ := sx
  have HRF := Sec.mk (fun w => readListSpec_calls l (by omega) w)
  have HFW := Sec.mk (listL_wrap l)
  generalize ReadListL l = fl at *
  obtain ⟨fok, fv⟩ := fl
  have HLO := Sec.mk (fun w => lower_calls mw (by omega) w)
  have HML := Sec.mk (modeK_lo mw)
  generalize modeK (upL mw) = md at *
  generalize loL mw = lw at *
  simp only at HDF HDS HX2 HRS HYE HRF HFW
  have HP := Sec.mk ((Blk.new w 38 [.int .i64 0, .string ⟨t.toArray⟩, .int .u32 0, .bool false, .slice none 0 0, .int .i64 0, .int .i64 0, .int .u32 0, .slice none 0 0]).alloc (.cells #[.int .i64 0, .string ⟨#[]⟩, .int .u32 0, .bool false, .slice none 0 0, .int .i64 0, .int .i64 0, .int .u32 0, .slice none 0 0] 38))
  have HR : Sec (Blk ((w.alloc (.cells #[.int .i64 0, .string ⟨t.toArray⟩, .int .u32 0, .bool false, .slice none 0 0, .int .i64 0, .int .i64 0, .int .u32 0, .slice none 0 0] 38)).alloc (.cells #[.int .i64 0, .string ⟨#[]⟩, .int .u32 0, .bool false, .slice none 0 0, .int .i64 0, .int .i64 0, .int .u32 0, .slice none 0 0] 38)) (w.heap.size + 1) 38 [.int .i64 0, .string ⟨#[]⟩, .int .u32 0, .bool false, .slice none 0 0, .int .i64 0, .int .i64 0, .int .u32 0, .slice none 0 0]) := ⟨by have := Blk.new (w.alloc (.cells #[.int .i64 0, .string ⟨t.toArray⟩, .int .u32 0, .bool false, .slice none 0 0, .int .i64 0, .int .i64 0, .int .u32 0, .slice none 0 0] 38)) 38 [.int .i64 0, .string ⟨#[]⟩, .int .u32 0, .bool false, .slice none 0 0, .int .i64 0, .int .i64 0, .int .u32 0, .slice none 0 0]; simpa using this⟩
  have HN : Sec (New w ((w.alloc (.cells #[.int .i64 0, .string ⟨t.toArray⟩, .int .u32 0, .bool false, .slice none 0 0, .int .i64 0, .int .i64 0, .int .u32 0, .slice none 0 0] 38)).alloc (.cells #[.int .i64 0, .string ⟨#[]⟩, .int .u32 0, .bool false, .slice none 0 0, .int .i64 0, .int .i64 0, .int .u32 0, .slice none 0 0] 38))) := ⟨((Mod.refl _ _).alloc _).alloc _⟩
  go_enter Tryd.func40, Tryd.ntmps40
  go_upto_region 1 with (fail)
  generalize ((w.alloc (.cells #[.int .i64 0, .string ⟨t.toArray⟩, .int .u32 0, .bool false, .slice none 0 0, .int .i64 0, .int .i64 0, .int .u32 0, .slice none 0 0] 38)).alloc (.cells #[.int .i64 0, .string ⟨#[]⟩, .int .u32 0, .bool false, .slice none 0 0, .int .i64 0, .int .i64 0, .int .u32 0, .slice none 0 0] 38)) = wA at *
  obtain ⟨P, hP⟩ : ∃ P, P = w.heap.size := ⟨_, rfl⟩
  obtain ⟨R, hR⟩ : ∃ R, R = w.heap.size + 1 := ⟨_, rfl⟩
  rw [← hR] at HR ⊢
  rw [← hP] at HP ⊢
  have hPR : w.heap.size ≤ P ∧ w.heap.size ≤ R ∧ P ≠ R := by omega
  have HHP := Sec.mk hP
  clear hP hR
  go_wp2_with fail
  refine (HC.out _).mono ?_
  rintro e w1 ⟨rfl, hm1⟩
  have HP1 := Sec.mk (HP.out.mod hm1 id)
  have HR1 := Sec.mk (HR.out.mod hm1 id)
  have HN1 : Sec (New w w1) := ⟨HN.out.transN hm1⟩
  clear hm1 HC HP HR HN
  go_wp2_with fail
  refine (HRS.out _).mono ?_
  rintro e w2 ⟨v, rfl, ho2, hm2⟩
  obtain ⟨A2, c2, rfl⟩ := cellsSet ho2.rd
  have hma : New w2 (w2.alloc (.cells #[.bool sok, .slice A2 sl.length c2] 104)) := (Mod.refl _ _).alloc _
  have HBS := Sec.mk (Blk.new w2 104 [.bool sok, .slice A2 sl.length c2])
  have HOS : Sec (∃ F, Own dPair 119 (w2.alloc (.cells #[.bool sok, .slice A2 sl.length c2] 104)) F (.slice A2 sl.length c2) sl ∧ ∀ k, k ∈ F → w1.heap.size ≤ k ∧ k < w2.heap.size) := ⟨by
    obtain ⟨cs, F, hv, ⟨ca, cb, F1, F2, rfl, rfl, hnd, ⟨rfl, rfl⟩, v', rfl, hov⟩, hF⟩ := ho2
    have hv2 : v' = .slice A2 sl.length c2 := by
      have h1 := Value.agg.inj hv
      simp [enc] at h1
      exact h1.symm
    rw [hv2] at hov
    exact ⟨F2, hov.new hma, fun k hk => hF k (by simpa using hk)⟩⟩
  have HP3 := Sec.mk (HP1.out.mod (hm2.transN hma) id)
  have HR3 := Sec.mk (HR1.out.mod (hm2.transN hma) id)
  have HN3 : Sec (New w (w2.alloc (.cells #[.bool sok, .slice A2 sl.length c2] 104))) := ⟨HN1.out.transN (hm2.transN hma)⟩
  have hs2 := hm2.size
  have hs1 := HN1.out.size
  have hRl := HR1.out.lt
  have hPl := HP1.out.lt
  clear ho2 hm2 hma HP1 HR1 HN1 HRS
  go_upto_region 3 with (fail)
  generalize w2.alloc (.cells #[.bool sok, .slice A2 sl.length c2] 104) = w3 at *
  have hsl := HBS.out.lt
  obtain ⟨s, hs⟩ : ∃ s, s = w2.heap.size := ⟨_, rfl⟩
  rw [← hs] at HBS HOS hsl ⊢
  have hsd : P < s ∧ R < s := by omega
  clear hs
  have s0 : w3.cell? ⟨s, 0, none⟩ = some (.bool sok) := HBS.out.cell 0
  cases m
  · have HE := Sec.mk (HX1.out rfl)
    clear HX1 HX2 HD HDF HDS
    have p0 : w3.cell? ⟨P, 0, none⟩ = some (.int .i64 0) := HP3.out.cell 0
    have p1 : w3.cell? ⟨P, 1, none⟩ = some (.string ⟨t.toArray⟩) := HP3.out.cell 1
    have p2 : w3.cell? ⟨P, 2, none⟩ = some (.int .u32 0) := HP3.out.cell 2
    have p3 : w3.cell? ⟨P, 3, none⟩ = some (.bool false) := HP3.out.cell 3
    have p4 : w3.cell? ⟨P, 4, none⟩ = some (.slice none 0 0) := HP3.out.cell 4
    have p5 : w3.cell? ⟨P, 5, none⟩ = some (.int .i64 0) := HP3.out.cell 5
    have p6 : w3.cell? ⟨P, 6, none⟩ = some (.int .i64 0) := HP3.out.cell 6
    have p7 : w3.cell? ⟨P, 7, none⟩ = some (.int .u32 0) := HP3.out.cell 7
    have p8 : w3.cell? ⟨P, 8, none⟩ = some (.slice none 0 0) := HP3.out.cell 8
    have q0 : w3.cell? ⟨R, 0, none⟩ = some (.int .i64 0) := HR3.out.cell 0
    have q1 : w3.cell? ⟨R, 1, none⟩ = some (.string ⟨#[]⟩) := HR3.out.cell 1
    have q2 : w3.cell? ⟨R, 2, none⟩ = some (.int .u32 0) := HR3.out.cell 2
    have q3 : w3.cell? ⟨R, 3, none⟩ = some (.bool false) := HR3.out.cell 3
    have q4 : w3.cell? ⟨R, 4, none⟩ = some (.slice none 0 0) := HR3.out.cell 4
    have q5 : w3.cell? ⟨R, 5, none⟩ = some (.int .i64 0) := HR3.out.cell 5
    have q6 : w3.cell? ⟨R, 6, none⟩ = some (.int .i64 0) := HR3.out.cell 6
    have q7 : w3.cell? ⟨R, 7, none⟩ = some (.int .u32 0) := HR3.out.cell 7
    have q8 : w3.cell? ⟨R, 8, none⟩ = some (.slice none 0 0) := HR3.out.cell 8
    have qf : ∀ j, w3.frozen? ⟨R, j, none⟩ = false := fun j => HR3.out.frozen j
    have HF9 := Sec.mk (set9_blk HR3.out (.int .i64 0) (.string ⟨t.toArray⟩) (.int .u32 0) (.bool false) (.slice none 0 0) (.int .i64 0) (.int .i64 0) (.int .u32 0) (.slice none 0 0))
    have HM9 : Sec (New w (set9 w3 R (.int .i64 0) (.string ⟨t.toArray⟩) (.int .u32 0) (.bool false) (.slice none 0 0) (.int .i64 0) (.int .i64 0) (.int .u32 0) (.slice none 0 0))) := ⟨HN3.out.trans (set9_mod _ _ _ _ _ _ _ _ _ _ _) (fun i hi hl => by omega)⟩
    go_wp2
    refine bodyPost_ret (results_blk rfl rfl HF9.out Tryd.underlying38 (by kernel_rfl)) rfl ?_
    rw [HE.out]
    exact ret_half ht HM9.out
  cases sok
  · have HE := Sec.mk (HX2.out rfl)
    clear HX1 HX2 HD HDF HDS
    have p0 : w3.cell? ⟨P, 0, none⟩ = some (.int .i64 0) := HP3.out.cell 0
    have p1 : w3.cell? ⟨P, 1, none⟩ = some (.string ⟨t.toArray⟩) := HP3.out.cell 1
    have p2 : w3.cell? ⟨P, 2, none⟩ = some (.int .u32 0) := HP3.out.cell 2
    have p3 : w3.cell? ⟨P, 3, none⟩ = some (.bool false) := HP3.out.cell 3
    have p4 : w3.cell? ⟨P, 4, none⟩ = some (.slice none 0 0) := HP3.out.cell 4
    have p5 : w3.cell? ⟨P, 5, none⟩ = some (.int .i64 0) := HP3.out.cell 5
    have p6 : w3.cell? ⟨P, 6, none⟩ = some (.int .i64 0) := HP3.out.cell 6
    have p7 : w3.cell? ⟨P, 7, none⟩ = some (.int .u32 0) := HP3.out.cell 7
    have p8 : w3.cell? ⟨P, 8, none⟩ = some (.slice none 0 0) := HP3.out.cell 8
    have q0 : w3.cell? ⟨R, 0, none⟩ = some (.int .i64 0) := HR3.out.cell 0
    have q1 : w3.cell? ⟨R, 1, none⟩ = some (.string ⟨#[]⟩) := HR3.out.cell 1
    have q2 : w3.cell? ⟨R, 2, none⟩ = some (.int .u32 0) := HR3.out.cell 2
    have q3 : w3.cell? ⟨R, 3, none⟩ = some (.bool false) := HR3.out.cell 3
    have q4 : w3.cell? ⟨R, 4, none⟩ = some (.slice none 0 0) := HR3.out.cell 4
    have q5 : w3.cell? ⟨R, 5, none⟩ = some (.int .i64 0) := HR3.out.cell 5
    have q6 : w3.cell? ⟨R, 6, none⟩ = some (.int .i64 0) := HR3.out.cell 6
    have q7 : w3.cell? ⟨R, 7, none⟩ = some (.int .u32 0) := HR3.out.cell 7
    have q8 : w3.cell? ⟨R, 8, none⟩ = some (.slice none 0 0) := HR3.out.cell 8
    have qf : ∀ j, w3.frozen? ⟨R, j, none⟩ = false := fun j => HR3.out.frozen j
    have HF9 := Sec.mk (set9_blk HR3.out (.int .i64 0) (.string ⟨t.toArray⟩) (.int .u32 0) (.bool false) (.slice none 0 0) (.int .i64 0) (.int .i64 0) (.int .u32 0) (.slice none 0 0))
    have HM9 : Sec (New w (set9 w3 R (.int .i64 0) (.string ⟨t.toArray⟩) (.int .u32 0) (.bool false) (.slice none 0 0) (.int .i64 0) (.int .i64 0) (.int .u32 0) (.slice none 0 0))) := ⟨HN3.out.trans (set9_mod _ _ _ _ _ _ _ _ _ _ _) (fun i hi hl => by omega)⟩
    go_wp2
    refine bodyPost_ret (results_blk rfl rfl HF9.out Tryd.underlying38 (by kernel_rfl)) rfl ?_
    rw [HE.out]
    exact ret_half ht HM9.out
  clear HX1 HX2
  have p0 : w3.cell? ⟨P, 0, none⟩ = some (.int .i64 0) := HP3.out.cell 0
  have p1 : w3.cell? ⟨P, 1, none⟩ = some (.string ⟨t.toArray⟩) := HP3.out.cell 1
  have p2 : w3.cell? ⟨P, 2, none⟩ = some (.int .u32 0) := HP3.out.cell 2
  have p3 : w3.cell? ⟨P, 3, none⟩ = some (.bool false) := HP3.out.cell 3
  have p4 : w3.cell? ⟨P, 4, none⟩ = some (.slice none 0 0) := HP3.out.cell 4
  have p5 : w3.cell? ⟨P, 5, none⟩ = some (.int .i64 0) := HP3.out.cell 5
  have p6 : w3.cell? ⟨P, 6, none⟩ = some (.int .i64 0) := HP3.out.cell 6
  have p7 : w3.cell? ⟨P, 7, none⟩ = some (.int .u32 0) := HP3.out.cell 7
  have p8 : w3.cell? ⟨P, 8, none⟩ = some (.slice none 0 0) := HP3.out.cell 8
  have HO4 := Sec.mk (Blk.new w3 38 [.int .i64 0, .string ⟨t.toArray⟩, .int .u32 0, .bool false, .slice none 0 0, .int .i64 0, .int .i64 0, .int .u32 0, .slice none 0 0])
  have hn4 : New w3 (w3.alloc (.cells #[.int .i64 0, .string ⟨t.toArray⟩, .int .u32 0, .bool false, .slice none 0 0, .int .i64 0, .int .i64 0, .int .u32 0, .slice none 0 0] 38)) := (Mod.refl _ _).alloc _
  have HP4 := Sec.mk (HP3.out.mod hn4 id)
  have HR4 := Sec.mk (HR3.out.mod hn4 id)
  have HS4 := Sec.mk (HBS.out.mod hn4 id)
  have HN4 : Sec (New w (w3.alloc (.cells #[.int .i64 0, .string ⟨t.toArray⟩, .int .u32 0, .bool false, .slice none 0 0, .int .i64 0, .int .i64 0, .int .u32 0, .slice none 0 0] 38))) := ⟨HN3.out.transN hn4⟩
  have HOS4 : Sec (∃ F, Own dPair 119 (w3.alloc (.cells #[.int .i64 0, .string ⟨t.toArray⟩, .int .u32 0, .bool false, .slice none 0 0, .int .i64 0, .int .i64 0, .int .u32 0, .slice none 0 0] 38)) F (.slice A2 sl.length c2) sl ∧ ∀ k, k ∈ F → w1.heap.size ≤ k ∧ k < s) := ⟨by obtain ⟨F, ho, hF⟩ := HOS.out; exact ⟨F, ho.new hn4, hF⟩⟩
  clear hn4 HP3 HR3 HBS HN3 HOS
  go_upto_region 6 with (fail)
  clear s0 p0 p1 p2 p3 p4 p5 p6 p7 p8
  generalize w3.alloc (.cells #[.int .i64 0, .string ⟨t.toArray⟩, .int .u32 0, .bool false, .slice none 0 0, .int .i64 0, .int .i64 0, .int .u32 0, .slice none 0 0] 38) = w4 at *
  generalize w3.heap.size = O at *
  have s1 : w4.cell? ⟨s, 1, none⟩ = some (.slice A2 sl.length c2) := HS4.out.cell 1
  have o4 : w4.cell? ⟨O, 4, none⟩ = some (.slice none 0 0) := HO4.out.cell 4
  have of_ : w4.frozen? ⟨O, 4, none⟩ = false := HO4.out.frozen 4
  go_upto_region 7 with (fail)
  have hO : w.heap.size ≤ O ∧ s < O := by omega
  have hm5 := (Mod.refl (fun k => k = O) w4).setCell (p := ⟨O, 4, none⟩) (fun _ => rfl) (.slice A2 sl.length c2)
  have HO5 := Sec.mk (HO4.out.set_ 4 (.slice A2 sl.length c2))
  simp only [List.set_cons_zero, List.set_cons_succ] at HO5
  have HP5 := Sec.mk (HP4.out.mod hm5 (by omega))
  have HR5 := Sec.mk (HR4.out.mod hm5 (by omega))
  have HN5 : Sec (New w (w4.setCell ⟨O, 4, none⟩ (.slice A2 sl.length c2))) := ⟨HN4.out.trans hm5 (fun i hi hl => by omega)⟩
  have HOS5 : Sec (∃ F, Own dPair 119 (w4.setCell ⟨O, 4, none⟩ (.slice A2 sl.length c2)) F (.slice A2 sl.length c2) sl ∧ ∀ k, k ∈ F → w1.heap.size ≤ k ∧ k < s) := ⟨by obtain ⟨F, ho, hF⟩ := HOS4.out; exact ⟨F, ho.keep hm5 (fun k hk => by have := hF k hk; omega), hF⟩⟩
  clear hm5 HO4 HP4 HR4 HN4 HOS4 s1 o4 of_ HS4
  generalize w4.setCell ⟨O, 4, none⟩ (.slice A2 sl.length c2) = w5 at *
  by_cases hf : lv = [102, 101, 116, 99, 104]
  · have HE : Sec (onSetL t lv rest = fetchC t false rest) := ⟨by rw [HD.out, if_pos hf]⟩
    have xF : (lv == [102, 101, 116, 99, 104]) = true := by simpa using hf
    clear hf HD HDS
    have o0 : w5.cell? ⟨O, 0, none⟩ = some (.int .i64 0) := HO5.out.cell 0
    have o5 : w5.cell? ⟨O, 5, none⟩ = some (.int .i64 0) := HO5.out.cell 5
    have of_ : ∀ j, w5.frozen? ⟨O, j, none⟩ = false := fun j => HO5.out.frozen j
    go_upto_region 10 with (fail)
    have hm6 := (Mod.refl (fun k => k = O) w5).setCell (p := ⟨O, 0, none⟩) (fun _ => rfl) (.int .i64 9)
    have HO6 := Sec.mk (HO5.out.set_ 0 (.int .i64 9))
    simp only [List.set_cons_zero, List.set_cons_succ] at HO6
    have HM6 := Sec.mk hm6
    clear hm6 o0 o5 of_
    generalize w5.setCell ⟨O, 0, none⟩ (.int .i64 9) = w6 at *
    go_wp2_with fail
    refine (HIT.out _).mono ?_
    rintro e w7 ⟨rfl, hm7⟩
    have HM7 := Sec.mk (HM6.out.transN hm7)
    have HO7 := Sec.mk (HO6.out.mod hm7 id)
    clear hm7 HM6 HO6 HO5
    have o5 : w7.cell? ⟨O, 5, none⟩ = some (.int .i64 0) := HO7.out.cell 5
    have of_ : w7.frozen? ⟨O, 5, none⟩ = false := HO7.out.frozen 5
    go_upto_region 11 with (fail)
    have hm8 := (Mod.refl (fun k => k = O) w7).setCell (p := ⟨O, 5, none⟩) (fun _ => rfl) (.int .i64 (n : Int))
    have HO8 := Sec.mk (HO7.out.set_ 5 (.int .i64 (n : Int)))
    simp only [List.set_cons_zero, List.set_cons_succ] at HO8
    have HM8 : Sec (Mod (fun k => k = O) w5 (w7.setCell ⟨O, 5, none⟩ (.int .i64 (n : Int)))) := ⟨HM7.out.trans hm8 (fun i hi _ => hi)⟩
    clear hm8 o5 of_ HM7 HO7
    generalize w7.setCell ⟨O, 5, none⟩ (.int .i64 (n : Int)) = w8 at *
    have HP8 := Sec.mk (HP5.out.mod HM8.out (by omega))
    have HR8 := Sec.mk (HR5.out.mod HM8.out (by omega))
    have HN8 : Sec (New w w8) := ⟨HN5.out.trans HM8.out (fun i hi hl => by omega)⟩
    have o0 : w8.cell? ⟨O, 0, none⟩ = some (.int .i64 9) := HO8.out.cell 0
    have o1 : w8.cell? ⟨O, 1, none⟩ = some (.string ⟨t.toArray⟩) := HO8.out.cell 1
    have o2 : w8.cell? ⟨O, 2, none⟩ = some (.int .u32 0) := HO8.out.cell 2
    have o3 : w8.cell? ⟨O, 3, none⟩ = some (.bool false) := HO8.out.cell 3
    have o4 : w8.cell? ⟨O, 4, none⟩ = some (.slice A2 sl.length c2) := HO8.out.cell 4
    have o5 : w8.cell? ⟨O, 5, none⟩ = some (.int .i64 (n : Int)) := HO8.out.cell 5
    have o6 : w8.cell? ⟨O, 6, none⟩ = some (.int .i64 0) := HO8.out.cell 6
    have o7 : w8.cell? ⟨O, 7, none⟩ = some (.int .u32 0) := HO8.out.cell 7
    have o8 : w8.cell? ⟨O, 8, none⟩ = some (.slice none 0 0) := HO8.out.cell 8
    by_cases hz : n = 0
    · have HE2 : Sec (onSetL t lv rest = badC t) := ⟨by rw [HE.out, HDF.out, if_neg (fun h => h.2 hz)]⟩
      subst hz
      have p0 : w8.cell? ⟨P, 0, none⟩ = some (.int .i64 0) := HP8.out.cell 0
      have p1 : w8.cell? ⟨P, 1, none⟩ = some (.string ⟨t.toArray⟩) := HP8.out.cell 1
      have p2 : w8.cell? ⟨P, 2, none⟩ = some (.int .u32 0) := HP8.out.cell 2
      have p3 : w8.cell? ⟨P, 3, none⟩ = some (.bool false) := HP8.out.cell 3
      have p4 : w8.cell? ⟨P, 4, none⟩ = some (.slice none 0 0) := HP8.out.cell 4
      have p5 : w8.cell? ⟨P, 5, none⟩ = some (.int .i64 0) := HP8.out.cell 5
      have p6 : w8.cell? ⟨P, 6, none⟩ = some (.int .i64 0) := HP8.out.cell 6
      have p7 : w8.cell? ⟨P, 7, none⟩ = some (.int .u32 0) := HP8.out.cell 7
      have p8 : w8.cell? ⟨P, 8, none⟩ = some (.slice none 0 0) := HP8.out.cell 8
      have q0 : w8.cell? ⟨R, 0, none⟩ = some (.int .i64 0) := HR8.out.cell 0
      have q1 : w8.cell? ⟨R, 1, none⟩ = some (.string ⟨#[]⟩) := HR8.out.cell 1
      have q2 : w8.cell? ⟨R, 2, none⟩ = some (.int .u32 0) := HR8.out.cell 2
      have q3 : w8.cell? ⟨R, 3, none⟩ = some (.bool false) := HR8.out.cell 3
      have q4 : w8.cell? ⟨R, 4, none⟩ = some (.slice none 0 0) := HR8.out.cell 4
      have q5 : w8.cell? ⟨R, 5, none⟩ = some (.int .i64 0) := HR8.out.cell 5
      have q6 : w8.cell? ⟨R, 6, none⟩ = some (.int .i64 0) := HR8.out.cell 6
      have q7 : w8.cell? ⟨R, 7, none⟩ = some (.int .u32 0) := HR8.out.cell 7
      have q8 : w8.cell? ⟨R, 8, none⟩ = some (.slice none 0 0) := HR8.out.cell 8
      have qf : ∀ j, w8.frozen? ⟨R, j, none⟩ = false := fun j => HR8.out.frozen j
      have HF9 := Sec.mk (set9_blk HR8.out (.int .i64 0) (.string ⟨t.toArray⟩) (.int .u32 0) (.bool false) (.slice none 0 0) (.int .i64 0) (.int .i64 0) (.int .u32 0) (.slice none 0 0))
      have HM9 : Sec (New w (set9 w8 R (.int .i64 0) (.string ⟨t.toArray⟩) (.int .u32 0) (.bool false) (.slice none 0 0) (.int .i64 0) (.int .i64 0) (.int .u32 0) (.slice none 0 0))) := ⟨HN8.out.trans (set9_mod _ _ _ _ _ _ _ _ _ _ _) (fun i hi hl => by omega)⟩
      go_wp2
      refine bodyPost_ret (results_blk rfl rfl HF9.out Tryd.underlying38 (by kernel_rfl)) rfl ?_
      rw [HE2.out]
      exact ret_half ht HM9.out
    have HE2 : Sec (onSetL t lv rest = (9, t, 0, false, sl, (n : Int), 0, 0, [])) := ⟨by rw [HE.out, HDF.out, if_pos ⟨trivial, hz⟩]⟩
    have hzi : ¬ (n : Int) = 0 := by omega
    clear hz
    have q0 : w8.cell? ⟨R, 0, none⟩ = some (.int .i64 0) := HR8.out.cell 0
    have q1 : w8.cell? ⟨R, 1, none⟩ = some (.string ⟨#[]⟩) := HR8.out.cell 1
    have q2 : w8.cell? ⟨R, 2, none⟩ = some (.int .u32 0) := HR8.out.cell 2
    have q3 : w8.cell? ⟨R, 3, none⟩ = some (.bool false) := HR8.out.cell 3
    have q4 : w8.cell? ⟨R, 4, none⟩ = some (.slice none 0 0) := HR8.out.cell 4
    have q5 : w8.cell? ⟨R, 5, none⟩ = some (.int .i64 0) := HR8.out.cell 5
    have q6 : w8.cell? ⟨R, 6, none⟩ = some (.int .i64 0) := HR8.out.cell 6
    have q7 : w8.cell? ⟨R, 7, none⟩ = some (.int .u32 0) := HR8.out.cell 7
    have q8 : w8.cell? ⟨R, 8, none⟩ = some (.slice none 0 0) := HR8.out.cell 8
    have qf : ∀ j, w8.frozen? ⟨R, j, none⟩ = false := fun j => HR8.out.frozen j
    have hm9 := set9_mod w8 R (.int .i64 9) (.string ⟨t.toArray⟩) (.int .u32 0) (.bool false) (.slice A2 sl.length c2) (.int .i64 (n : Int)) (.int .i64 0) (.int .u32 0) (.slice none 0 0)
    have HF9 := Sec.mk (set9_blk HR8.out (.int .i64 9) (.string ⟨t.toArray⟩) (.int .u32 0) (.bool false) (.slice A2 sl.length c2) (.int .i64 (n : Int)) (.int .i64 0) (.int .u32 0) (.slice none 0 0))
    have HRT : Sec (RetV true dCmd w (9, t, 0, false, sl, (n : Int), 0, 0, []) (.returned (.agg #[.int .i64 9, .string ⟨t.toArray⟩, .int .u32 0, .bool false, .slice A2 sl.length c2, .int .i64 (n : Int), .int .i64 0, .int .u32 0, .slice none 0 0])) (set9 w8 R (.int .i64 9) (.string ⟨t.toArray⟩) (.int .u32 0) (.bool false) (.slice A2 sl.length c2) (.int .i64 (n : Int)) (.int .i64 0) (.int .u32 0) (.slice none 0 0))) := ⟨by
      obtain ⟨F, ho, hF⟩ := HOS5.out
      exact ret_set (by decide) HIW.out (by decide) (by decide) ht ((ho.keep HM8.out (fun k hk => by have := hF k hk; omega)).keep hm9 (fun k hk => by have := hF k hk; omega)) (fun k hk => by have := hF k hk; omega) (HN8.out.trans hm9 (fun i hi hl => by omega))⟩
    clear hm9
    go_wp2
    refine bodyPost_ret (results_blk rfl rfl HF9.out Tryd.underlying38 (by kernel_rfl)) rfl ?_
    rw [HE2.out]
    exact HRT.out
  have xF : (lv == [102, 101, 116, 99, 104]) = false := by simpa using hf
  by_cases hst : lv = [115, 116, 111, 114, 101]
  rotate_left
  · have HE : Sec (onSetL t lv rest = badC t) := ⟨by rw [HD.out, if_neg hf, if_neg hst]⟩
    have xS : (lv == [115, 116, 111, 114, 101]) = false := by simpa using hst
    clear hf hst HD HDF HDS
    have p0 : w5.cell? ⟨P, 0, none⟩ = some (.int .i64 0) := HP5.out.cell 0
    have p1 : w5.cell? ⟨P, 1, none⟩ = some (.string ⟨t.toArray⟩) := HP5.out.cell 1
    have p2 : w5.cell? ⟨P, 2, none⟩ = some (.int .u32 0) := HP5.out.cell 2
    have p3 : w5.cell? ⟨P, 3, none⟩ = some (.bool false) := HP5.out.cell 3
    have p4 : w5.cell? ⟨P, 4, none⟩ = some (.slice none 0 0) := HP5.out.cell 4
    have p5 : w5.cell? ⟨P, 5, none⟩ = some (.int .i64 0) := HP5.out.cell 5
    have p6 : w5.cell? ⟨P, 6, none⟩ = some (.int .i64 0) := HP5.out.cell 6
    have p7 : w5.cell? ⟨P, 7, none⟩ = some (.int .u32 0) := HP5.out.cell 7
    have p8 : w5.cell? ⟨P, 8, none⟩ = some (.slice none 0 0) := HP5.out.cell 8
    have q0 : w5.cell? ⟨R, 0, none⟩ = some (.int .i64 0) := HR5.out.cell 0
    have q1 : w5.cell? ⟨R, 1, none⟩ = some (.string ⟨#[]⟩) := HR5.out.cell 1
    have q2 : w5.cell? ⟨R, 2, none⟩ = some (.int .u32 0) := HR5.out.cell 2
    have q3 : w5.cell? ⟨R, 3, none⟩ = some (.bool false) := HR5.out.cell 3
    have q4 : w5.cell? ⟨R, 4, none⟩ = some (.slice none 0 0) := HR5.out.cell 4
    have q5 : w5.cell? ⟨R, 5, none⟩ = some (.int .i64 0) := HR5.out.cell 5
    have q6 : w5.cell? ⟨R, 6, none⟩ = some (.int .i64 0) := HR5.out.cell 6
    have q7 : w5.cell? ⟨R, 7, none⟩ = some (.int .u32 0) := HR5.out.cell 7
    have q8 : w5.cell? ⟨R, 8, none⟩ = some (.slice none 0 0) := HR5.out.cell 8
    have qf : ∀ j, w5.frozen? ⟨R, j, none⟩ = false := fun j => HR5.out.frozen j
    have HF9 := Sec.mk (set9_blk HR5.out (.int .i64 0) (.string ⟨t.toArray⟩) (.int .u32 0) (.bool false) (.slice none 0 0) (.int .i64 0) (.int .i64 0) (.int .u32 0) (.slice none 0 0))
    have HM9 : Sec (New w (set9 w5 R (.int .i64 0) (.string ⟨t.toArray⟩) (.int .u32 0) (.bool false) (.slice none 0 0) (.int .i64 0) (.int .i64 0) (.int .u32 0) (.slice none 0 0))) := ⟨HN5.out.trans (set9_mod _ _ _ _ _ _ _ _ _ _ _) (fun i hi hl => by omega)⟩
    go_wp2
    refine bodyPost_ret (results_blk rfl rfl HF9.out Tryd.underlying38 (by kernel_rfl)) rfl ?_
    rw [HE.out]
    exact ret_half ht HM9.out
  have HE : Sec (onSetL t lv rest = storeC t false rest) := ⟨by rw [HD.out, if_neg hf, if_pos hst]⟩
  have xS : (lv == [115, 116, 111, 114, 101]) = true := by simpa using hst
  clear hf hst HD HDF HIT HIW
  go_wp2_with fail
  refine (HCY.out _).mono ?_
  rintro e w6 ⟨rfl, hm6⟩
  have HM6 : Sec (Mod (fun k => k = O) w5 w6) := ⟨Mod.ofNew hm6⟩
  have HO6 := Sec.mk (HO5.out.mod hm6 id)
  have hs6 := hm6.size
  clear hm6 HCY
  go_wp2_with fail
  refine (HRF.out _).mono ?_
  rintro e w7 ⟨rfl, hm7⟩
  unfold FlagsV
  have hma : New w7 (w7.alloc (.cells #[.bool fok, .int .u32 fv] 75)) := (Mod.refl _ _).alloc _
  have HBF := Sec.mk (Blk.new w7 75 [.bool fok, .int .u32 fv])
  have HM8 := Sec.mk (HM6.out.transN (hm7.transN hma))
  have HO8 := Sec.mk (HO6.out.mod (hm7.transN hma) id)
  have hfo : w7.heap.size ≠ O := by have := HO6.out.lt; have := hm7.size; omega
  clear hm7 hma HM6 HO6 HO5
  go_upto_region 17 with (fail)
  generalize w7.alloc (.cells #[.bool fok, .int .u32 fv] 75) = w8 at *
  generalize w7.heap.size = f at *
  go_wp2_with fail
  refine (HLO.out _).mono ?_
  rintro e w9 ⟨rfl, hm9⟩
  have HM9 := Sec.mk (HM8.out.transN hm9)
  have HO9 := Sec.mk (HO8.out.mod hm9 id)
  have HBF9 := Sec.mk (HBF.out.mod hm9 id)
  clear hm9 HM8 HO8 HBF HLO
  have o6 : w9.cell? ⟨O, 6, none⟩ = some (.int .i64 0) := HO9.out.cell 6
  have of_ : w9.frozen? ⟨O, 6, none⟩ = false := HO9.out.frozen 6
  by_cases hm1 : lw = [102, 108, 97, 103, 115]
  · have y1 : (lw == [102, 108, 97, 103, 115]) = true := by simpa using hm1
    have HML : Sec (md = 1) := ⟨by rw [HML.out, hm1]; decide⟩
    clear hm1 
    go_upto_region 24 with (fail)
    have hm10 := (Mod.refl (fun k => k = O) w9).setCell (p := ⟨O, 6, none⟩) (fun _ => rfl) (.int .i64 1)
    have HO10 := Sec.mk (HO9.out.set_ 6 (.int .i64 1))
    simp only [List.set_cons_zero, List.set_cons_succ] at HO10
    have HM10 : Sec (Mod (fun k => k = O) w5 (w9.setCell ⟨O, 6, none⟩ (.int .i64 1))) := ⟨HM9.out.trans hm10 (fun i hi _ => hi)⟩
    have HBF10 := HBF9.out.mod hm10 hfo
    clear hm10 o6 of_ y1 
    generalize w9.setCell ⟨O, 6, none⟩ (.int .i64 1) = w10 at *
    have HP10 := Sec.mk (HP5.out.mod HM10.out (by omega))
    have HR10 := Sec.mk (HR5.out.mod HM10.out (by omega))
    have HN10 : Sec (New w w10) := ⟨HN5.out.trans HM10.out (fun i hi hl => by omega)⟩
    have f0 : w10.cell? ⟨f, 0, none⟩ = some (.bool fok) := HBF10.cell 0
    have f1 : w10.cell? ⟨f, 1, none⟩ = some (.int .u32 fv) := HBF10.cell 1
    have o0 : w10.cell? ⟨O, 0, none⟩ = some (.int .i64 0) := HO10.out.cell 0
    have o1 : w10.cell? ⟨O, 1, none⟩ = some (.string ⟨t.toArray⟩) := HO10.out.cell 1
    have o2 : w10.cell? ⟨O, 2, none⟩ = some (.int .u32 0) := HO10.out.cell 2
    have o3 : w10.cell? ⟨O, 3, none⟩ = some (.bool false) := HO10.out.cell 3
    have o4 : w10.cell? ⟨O, 4, none⟩ = some (.slice A2 sl.length c2) := HO10.out.cell 4
    have o5 : w10.cell? ⟨O, 5, none⟩ = some (.int .i64 0) := HO10.out.cell 5
    have o6 : w10.cell? ⟨O, 6, none⟩ = some (.int .i64 1) := HO10.out.cell 6
    have o7 : w10.cell? ⟨O, 7, none⟩ = some (.int .u32 0) := HO10.out.cell 7
    have o8 : w10.cell? ⟨O, 8, none⟩ = some (.slice none 0 0) := HO10.out.cell 8
    have of : ∀ j, w10.frozen? ⟨O, j, none⟩ = false := fun j => HO10.out.frozen j
    cases m2
    · have hy := HYE.out rfl
      have HE2 : Sec (onSetL t lv rest = badC t) := ⟨by rw [HE.out, HDS.out, if_neg (fun h => by rw [hy] at h; cases h.2.2)]⟩
      clear HE HDS HML HYE hy
      have p0 : w10.cell? ⟨P, 0, none⟩ = some (.int .i64 0) := HP10.out.cell 0
      have p1 : w10.cell? ⟨P, 1, none⟩ = some (.string ⟨t.toArray⟩) := HP10.out.cell 1
      have p2 : w10.cell? ⟨P, 2, none⟩ = some (.int .u32 0) := HP10.out.cell 2
      have p3 : w10.cell? ⟨P, 3, none⟩ = some (.bool false) := HP10.out.cell 3
      have p4 : w10.cell? ⟨P, 4, none⟩ = some (.slice none 0 0) := HP10.out.cell 4
      have p5 : w10.cell? ⟨P, 5, none⟩ = some (.int .i64 0) := HP10.out.cell 5
      have p6 : w10.cell? ⟨P, 6, none⟩ = some (.int .i64 0) := HP10.out.cell 6
      have p7 : w10.cell? ⟨P, 7, none⟩ = some (.int .u32 0) := HP10.out.cell 7
      have p8 : w10.cell? ⟨P, 8, none⟩ = some (.slice none 0 0) := HP10.out.cell 8
      have q0 : w10.cell? ⟨R, 0, none⟩ = some (.int .i64 0) := HR10.out.cell 0
      have q1 : w10.cell? ⟨R, 1, none⟩ = some (.string ⟨#[]⟩) := HR10.out.cell 1
      have q2 : w10.cell? ⟨R, 2, none⟩ = some (.int .u32 0) := HR10.out.cell 2
      have q3 : w10.cell? ⟨R, 3, none⟩ = some (.bool false) := HR10.out.cell 3
      have q4 : w10.cell? ⟨R, 4, none⟩ = some (.slice none 0 0) := HR10.out.cell 4
      have q5 : w10.cell? ⟨R, 5, none⟩ = some (.int .i64 0) := HR10.out.cell 5
      have q6 : w10.cell? ⟨R, 6, none⟩ = some (.int .i64 0) := HR10.out.cell 6
      have q7 : w10.cell? ⟨R, 7, none⟩ = some (.int .u32 0) := HR10.out.cell 7
      have q8 : w10.cell? ⟨R, 8, none⟩ = some (.slice none 0 0) := HR10.out.cell 8
      have qf : ∀ j, w10.frozen? ⟨R, j, none⟩ = false := fun j => HR10.out.frozen j
      have HF9 := Sec.mk (set9_blk HR10.out (.int .i64 0) (.string ⟨t.toArray⟩) (.int .u32 0) (.bool false) (.slice none 0 0) (.int .i64 0) (.int .i64 0) (.int .u32 0) (.slice none 0 0))
      have HM9 : Sec (New w (set9 w10 R (.int .i64 0) (.string ⟨t.toArray⟩) (.int .u32 0) (.bool false) (.slice none 0 0) (.int .i64 0) (.int .i64 0) (.int .u32 0) (.slice none 0 0))) := ⟨HN10.out.trans (set9_mod _ _ _ _ _ _ _ _ _ _ _) (fun i hi hl => by omega)⟩
      go_wp2
      refine bodyPost_ret (results_blk rfl rfl HF9.out Tryd.underlying38 (by kernel_rfl)) rfl ?_
      rw [HE2.out]
      exact ret_half ht HM9.out
    cases fok
    · have HE2 : Sec (onSetL t lv rest = badC t) := ⟨by rw [HE.out, HDS.out, if_neg (fun h => by cases h.2.2)]⟩
      clear HE HDS HML HYE
      have p0 : w10.cell? ⟨P, 0, none⟩ = some (.int .i64 0) := HP10.out.cell 0
      have p1 : w10.cell? ⟨P, 1, none⟩ = some (.string ⟨t.toArray⟩) := HP10.out.cell 1
      have p2 : w10.cell? ⟨P, 2, none⟩ = some (.int .u32 0) := HP10.out.cell 2
      have p3 : w10.cell? ⟨P, 3, none⟩ = some (.bool false) := HP10.out.cell 3
      have p4 : w10.cell? ⟨P, 4, none⟩ = some (.slice none 0 0) := HP10.out.cell 4
      have p5 : w10.cell? ⟨P, 5, none⟩ = some (.int .i64 0) := HP10.out.cell 5
      have p6 : w10.cell? ⟨P, 6, none⟩ = some (.int .i64 0) := HP10.out.cell 6
      have p7 : w10.cell? ⟨P, 7, none⟩ = some (.int .u32 0) := HP10.out.cell 7
      have p8 : w10.cell? ⟨P, 8, none⟩ = some (.slice none 0 0) := HP10.out.cell 8
      have q0 : w10.cell? ⟨R, 0, none⟩ = some (.int .i64 0) := HR10.out.cell 0
      have q1 : w10.cell? ⟨R, 1, none⟩ = some (.string ⟨#[]⟩) := HR10.out.cell 1
      have q2 : w10.cell? ⟨R, 2, none⟩ = some (.int .u32 0) := HR10.out.cell 2
      have q3 : w10.cell? ⟨R, 3, none⟩ = some (.bool false) := HR10.out.cell 3
      have q4 : w10.cell? ⟨R, 4, none⟩ = some (.slice none 0 0) := HR10.out.cell 4
      have q5 : w10.cell? ⟨R, 5, none⟩ = some (.int .i64 0) := HR10.out.cell 5
      have q6 : w10.cell? ⟨R, 6, none⟩ = some (.int .i64 0) := HR10.out.cell 6
      have q7 : w10.cell? ⟨R, 7, none⟩ = some (.int .u32 0) := HR10.out.cell 7
      have q8 : w10.cell? ⟨R, 8, none⟩ = some (.slice none 0 0) := HR10.out.cell 8
      have qf : ∀ j, w10.frozen? ⟨R, j, none⟩ = false := fun j => HR10.out.frozen j
      have HF9 := Sec.mk (set9_blk HR10.out (.int .i64 0) (.string ⟨t.toArray⟩) (.int .u32 0) (.bool false) (.slice none 0 0) (.int .i64 0) (.int .i64 0) (.int .u32 0) (.slice none 0 0))
      have HM9 : Sec (New w (set9 w10 R (.int .i64 0) (.string ⟨t.toArray⟩) (.int .u32 0) (.bool false) (.slice none 0 0) (.int .i64 0) (.int .i64 0) (.int .u32 0) (.slice none 0 0))) := ⟨HN10.out.trans (set9_mod _ _ _ _ _ _ _ _ _ _ _) (fun i hi hl => by omega)⟩
      go_wp2
      refine bodyPost_ret (results_blk rfl rfl HF9.out Tryd.underlying38 (by kernel_rfl)) rfl ?_
      rw [HE2.out]
      exact ret_half ht HM9.out
    have HE2 : Sec (onSetL t lv rest = (10, t, 0, false, sl, 0, 1, fv, [])) := ⟨by rw [HE.out, HDS.out, HML.out, if_pos ⟨trivial, by decide, rfl⟩]⟩
    clear HE HDS HML HYE
    go_upto_region 28 with (fail)
    have hm11 : Mod (fun k => k = O) w10 ((w10.setCell ⟨O, 0, none⟩ (.int .i64 10)).setCell ⟨O, 7, none⟩ (.int .u32 fv)) := ((Mod.refl (fun k => k = O) w10).setCell (p := ⟨O, 0, none⟩) (fun _ => rfl) _).setCell (p := ⟨O, 7, none⟩) (fun _ => rfl) _
    have HO11 := Sec.mk ((HO10.out.set_ 0 (.int .i64 10)).set_ 7 (.int .u32 fv))
    simp only [List.set_cons_zero, List.set_cons_succ] at HO11
    have HM11 : Sec (Mod (fun k => k = O) w5 ((w10.setCell ⟨O, 0, none⟩ (.int .i64 10)).setCell ⟨O, 7, none⟩ (.int .u32 fv))) := ⟨HM10.out.trans hm11 (fun i hi _ => hi)⟩
    have HR11 := Sec.mk (HR10.out.mod hm11 (by omega))
    have HN11 : Sec (New w ((w10.setCell ⟨O, 0, none⟩ (.int .i64 10)).setCell ⟨O, 7, none⟩ (.int .u32 fv))) := ⟨HN10.out.trans hm11 (fun i hi hl => by omega)⟩
    clear hm11 o0 o1 o2 o3 o4 o5 o6 o7 o8 of f0 f1
    generalize ((w10.setCell ⟨O, 0, none⟩ (.int .i64 10)).setCell ⟨O, 7, none⟩ (.int .u32 fv)) = w11 at *
    have o0 : w11.cell? ⟨O, 0, none⟩ = some (.int .i64 10) := HO11.out.cell 0
    have o1 : w11.cell? ⟨O, 1, none⟩ = some (.string ⟨t.toArray⟩) := HO11.out.cell 1
    have o2 : w11.cell? ⟨O, 2, none⟩ = some (.int .u32 0) := HO11.out.cell 2
    have o3 : w11.cell? ⟨O, 3, none⟩ = some (.bool false) := HO11.out.cell 3
    have o4 : w11.cell? ⟨O, 4, none⟩ = some (.slice A2 sl.length c2) := HO11.out.cell 4
    have o5 : w11.cell? ⟨O, 5, none⟩ = some (.int .i64 0) := HO11.out.cell 5
    have o6 : w11.cell? ⟨O, 6, none⟩ = some (.int .i64 1) := HO11.out.cell 6
    have o7 : w11.cell? ⟨O, 7, none⟩ = some (.int .u32 fv) := HO11.out.cell 7
    have o8 : w11.cell? ⟨O, 8, none⟩ = some (.slice none 0 0) := HO11.out.cell 8
    have q0 : w11.cell? ⟨R, 0, none⟩ = some (.int .i64 0) := HR11.out.cell 0
    have q1 : w11.cell? ⟨R, 1, none⟩ = some (.string ⟨#[]⟩) := HR11.out.cell 1
    have q2 : w11.cell? ⟨R, 2, none⟩ = some (.int .u32 0) := HR11.out.cell 2
    have q3 : w11.cell? ⟨R, 3, none⟩ = some (.bool false) := HR11.out.cell 3
    have q4 : w11.cell? ⟨R, 4, none⟩ = some (.slice none 0 0) := HR11.out.cell 4
    have q5 : w11.cell? ⟨R, 5, none⟩ = some (.int .i64 0) := HR11.out.cell 5
    have q6 : w11.cell? ⟨R, 6, none⟩ = some (.int .i64 0) := HR11.out.cell 6
    have q7 : w11.cell? ⟨R, 7, none⟩ = some (.int .u32 0) := HR11.out.cell 7
    have q8 : w11.cell? ⟨R, 8, none⟩ = some (.slice none 0 0) := HR11.out.cell 8
    have qf : ∀ j, w11.frozen? ⟨R, j, none⟩ = false := fun j => HR11.out.frozen j
    have hm9 := set9_mod w11 R (.int .i64 10) (.string ⟨t.toArray⟩) (.int .u32 0) (.bool false) (.slice A2 sl.length c2) (.int .i64 0) (.int .i64 1) (.int .u32 fv) (.slice none 0 0)
    have HF9 := Sec.mk (set9_blk HR11.out (.int .i64 10) (.string ⟨t.toArray⟩) (.int .u32 0) (.bool false) (.slice A2 sl.length c2) (.int .i64 0) (.int .i64 1) (.int .u32 fv) (.slice none 0 0))
    have HRT : Sec (RetV true dCmd w (10, t, 0, false, sl, 0, 1, fv, []) (.returned (.agg #[.int .i64 10, .string ⟨t.toArray⟩, .int .u32 0, .bool false, .slice A2 sl.length c2, .int .i64 0, .int .i64 1, .int .u32 fv, .slice none 0 0])) (set9 w11 R (.int .i64 10) (.string ⟨t.toArray⟩) (.int .u32 0) (.bool false) (.slice A2 sl.length c2) (.int .i64 0) (.int .i64 1) (.int .u32 fv) (.slice none 0 0))) := ⟨by
      obtain ⟨F, ho, hF⟩ := HOS5.out
      exact ret_set (by decide) (by decide) (by decide) HFW.out ht ((ho.keep HM11.out (fun k hk => by have := hF k hk; omega)).keep hm9 (fun k hk => by have := hF k hk; omega)) (fun k hk => by have := hF k hk; omega) (HN11.out.trans hm9 (fun i hi hl => by omega))⟩
    clear hm9
    go_wp2
    refine bodyPost_ret (results_blk rfl rfl HF9.out Tryd.underlying38 (by kernel_rfl)) rfl ?_
    rw [HE2.out]
    exact HRT.out
  have y1 : (lw == [102, 108, 97, 103, 115]) = false := by simpa using hm1
  by_cases hm2 : lw = [43, 102, 108, 97, 103, 115]
  · have y2 : (lw == [43, 102, 108, 97, 103, 115]) = true := by simpa using hm2
    have HML : Sec (md = 2) := ⟨by rw [HML.out, hm2]; decide⟩
    clear hm2 hm1
    go_upto_region 24 with (fail)
    have hm10 := (Mod.refl (fun k => k = O) w9).setCell (p := ⟨O, 6, none⟩) (fun _ => rfl) (.int .i64 2)
    have HO10 := Sec.mk (HO9.out.set_ 6 (.int .i64 2))
    simp only [List.set_cons_zero, List.set_cons_succ] at HO10
    have HM10 : Sec (Mod (fun k => k = O) w5 (w9.setCell ⟨O, 6, none⟩ (.int .i64 2))) := ⟨HM9.out.trans hm10 (fun i hi _ => hi)⟩
    have HBF10 := HBF9.out.mod hm10 hfo
    clear hm10 o6 of_ y2 y1
    generalize w9.setCell ⟨O, 6, none⟩ (.int .i64 2) = w10 at *
    have HP10 := Sec.mk (HP5.out.mod HM10.out (by omega))
    have HR10 := Sec.mk (HR5.out.mod HM10.out (by omega))
    have HN10 : Sec (New w w10) := ⟨HN5.out.trans HM10.out (fun i hi hl => by omega)⟩
    have f0 : w10.cell? ⟨f, 0, none⟩ = some (.bool fok) := HBF10.cell 0
    have f1 : w10.cell? ⟨f, 1, none⟩ = some (.int .u32 fv) := HBF10.cell 1
    have o0 : w10.cell? ⟨O, 0, none⟩ = some (.int .i64 0) := HO10.out.cell 0
    have o1 : w10.cell? ⟨O, 1, none⟩ = some (.string ⟨t.toArray⟩) := HO10.out.cell 1
    have o2 : w10.cell? ⟨O, 2, none⟩ = some (.int .u32 0) := HO10.out.cell 2
    have o3 : w10.cell? ⟨O, 3, none⟩ = some (.bool false) := HO10.out.cell 3
    have o4 : w10.cell? ⟨O, 4, none⟩ = some (.slice A2 sl.length c2) := HO10.out.cell 4
    have o5 : w10.cell? ⟨O, 5, none⟩ = some (.int .i64 0) := HO10.out.cell 5
    have o6 : w10.cell? ⟨O, 6, none⟩ = some (.int .i64 2) := HO10.out.cell 6
    have o7 : w10.cell? ⟨O, 7, none⟩ = some (.int .u32 0) := HO10.out.cell 7
    have o8 : w10.cell? ⟨O, 8, none⟩ = some (.slice none 0 0) := HO10.out.cell 8
    have of : ∀ j, w10.frozen? ⟨O, j, none⟩ = false := fun j => HO10.out.frozen j
    cases m2
    · have hy := HYE.out rfl
      have HE2 : Sec (onSetL t lv rest = badC t) := ⟨by rw [HE.out, HDS.out, if_neg (fun h => by rw [hy] at h; cases h.2.2)]⟩
      clear HE HDS HML HYE hy
      have p0 : w10.cell? ⟨P, 0, none⟩ = some (.int .i64 0) := HP10.out.cell 0
      have p1 : w10.cell? ⟨P, 1, none⟩ = some (.string ⟨t.toArray⟩) := HP10.out.cell 1
      have p2 : w10.cell? ⟨P, 2, none⟩ = some (.int .u32 0) := HP10.out.cell 2
      have p3 : w10.cell? ⟨P, 3, none⟩ = some (.bool false) := HP10.out.cell 3
      have p4 : w10.cell? ⟨P, 4, none⟩ = some (.slice none 0 0) := HP10.out.cell 4
      have p5 : w10.cell? ⟨P, 5, none⟩ = some (.int .i64 0) := HP10.out.cell 5
      have p6 : w10.cell? ⟨P, 6, none⟩ = some (.int .i64 0) := HP10.out.cell 6
      have p7 : w10.cell? ⟨P, 7, none⟩ = some (.int .u32 0) := HP10.out.cell 7
      have p8 : w10.cell? ⟨P, 8, none⟩ = some (.slice none 0 0) := HP10.out.cell 8
      have q0 : w10.cell? ⟨R, 0, none⟩ = some (.int .i64 0) := HR10.out.cell 0
      have q1 : w10.cell? ⟨R, 1, none⟩ = some (.string ⟨#[]⟩) := HR10.out.cell 1
      have q2 : w10.cell? ⟨R, 2, none⟩ = some (.int .u32 0) := HR10.out.cell 2
      have q3 : w10.cell? ⟨R, 3, none⟩ = some (.bool false) := HR10.out.cell 3
      have q4 : w10.cell? ⟨R, 4, none⟩ = some (.slice none 0 0) := HR10.out.cell 4
      have q5 : w10.cell? ⟨R, 5, none⟩ = some (.int .i64 0) := HR10.out.cell 5
      have q6 : w10.cell? ⟨R, 6, none⟩ = some (.int .i64 0) := HR10.out.cell 6
      have q7 : w10.cell? ⟨R, 7, none⟩ = some (.int .u32 0) := HR10.out.cell 7
      have q8 : w10.cell? ⟨R, 8, none⟩ = some (.slice none 0 0) := HR10.out.cell 8
      have qf : ∀ j, w10.frozen? ⟨R, j, none⟩ = false := fun j => HR10.out.frozen j
      have HF9 := Sec.mk (set9_blk HR10.out (.int .i64 0) (.string ⟨t.toArray⟩) (.int .u32 0) (.bool false) (.slice none 0 0) (.int .i64 0) (.int .i64 0) (.int .u32 0) (.slice none 0 0))
      have HM9 : Sec (New w (set9 w10 R (.int .i64 0) (.string ⟨t.toArray⟩) (.int .u32 0) (.bool false) (.slice none 0 0) (.int .i64 0) (.int .i64 0) (.int .u32 0) (.slice none 0 0))) := ⟨HN10.out.trans (set9_mod _ _ _ _ _ _ _ _ _ _ _) (fun i hi hl => by omega)⟩
      go_wp2
      refine bodyPost_ret (results_blk rfl rfl HF9.out Tryd.underlying38 (by kernel_rfl)) rfl ?_
      rw [HE2.out]
      exact ret_half ht HM9.out
    cases fok
    · have HE2 : Sec (onSetL t lv rest = badC t) := ⟨by rw [HE.out, HDS.out, if_neg (fun h => by cases h.2.2)]⟩
      clear HE HDS HML HYE
      have p0 : w10.cell? ⟨P, 0, none⟩ = some (.int .i64 0) := HP10.out.cell 0
      have p1 : w10.cell? ⟨P, 1, none⟩ = some (.string ⟨t.toArray⟩) := HP10.out.cell 1
      have p2 : w10.cell? ⟨P, 2, none⟩ = some (.int .u32 0) := HP10.out.cell 2
      have p3 : w10.cell? ⟨P, 3, none⟩ = some (.bool false) := HP10.out.cell 3
      have p4 : w10.cell? ⟨P, 4, none⟩ = some (.slice none 0 0) := HP10.out.cell 4
      have p5 : w10.cell? ⟨P, 5, none⟩ = some (.int .i64 0) := HP10.out.cell 5
      have p6 : w10.cell? ⟨P, 6, none⟩ = some (.int .i64 0) := HP10.out.cell 6
      have p7 : w10.cell? ⟨P, 7, none⟩ = some (.int .u32 0) := HP10.out.cell 7
      have p8 : w10.cell? ⟨P, 8, none⟩ = some (.slice none 0 0) := HP10.out.cell 8
      have q0 : w10.cell? ⟨R, 0, none⟩ = some (.int .i64 0) := HR10.out.cell 0
      have q1 : w10.cell? ⟨R, 1, none⟩ = some (.string ⟨#[]⟩) := HR10.out.cell 1
      have q2 : w10.cell? ⟨R, 2, none⟩ = some (.int .u32 0) := HR10.out.cell 2
      have q3 : w10.cell? ⟨R, 3, none⟩ = some (.bool false) := HR10.out.cell 3
      have q4 : w10.cell? ⟨R, 4, none⟩ = some (.slice none 0 0) := HR10.out.cell 4
      have q5 : w10.cell? ⟨R, 5, none⟩ = some (.int .i64 0) := HR10.out.cell 5
      have q6 : w10.cell? ⟨R, 6, none⟩ = some (.int .i64 0) := HR10.out.cell 6
      have q7 : w10.cell? ⟨R, 7, none⟩ = some (.int .u32 0) := HR10.out.cell 7
      have q8 : w10.cell? ⟨R, 8, none⟩ = some (.slice none 0 0) := HR10.out.cell 8
      have qf : ∀ j, w10.frozen? ⟨R, j, none⟩ = false := fun j => HR10.out.frozen j
      have HF9 := Sec.mk (set9_blk HR10.out (.int .i64 0) (.string ⟨t.toArray⟩) (.int .u32 0) (.bool false) (.slice none 0 0) (.int .i64 0) (.int .i64 0) (.int .u32 0) (.slice none 0 0))
      have HM9 : Sec (New w (set9 w10 R (.int .i64 0) (.string ⟨t.toArray⟩) (.int .u32 0) (.bool false) (.slice none 0 0) (.int .i64 0) (.int .i64 0) (.int .u32 0) (.slice none 0 0))) := ⟨HN10.out.trans (set9_mod _ _ _ _ _ _ _ _ _ _ _) (fun i hi hl => by omega)⟩
      go_wp2
      refine bodyPost_ret (results_blk rfl rfl HF9.out Tryd.underlying38 (by kernel_rfl)) rfl ?_
      rw [HE2.out]
      exact ret_half ht HM9.out
    have HE2 : Sec (onSetL t lv rest = (10, t, 0, false, sl, 0, 2, fv, [])) := ⟨by rw [HE.out, HDS.out, HML.out, if_pos ⟨trivial, by decide, rfl⟩]⟩
    clear HE HDS HML HYE
    go_upto_region 28 with (fail)
    have hm11 : Mod (fun k => k = O) w10 ((w10.setCell ⟨O, 0, none⟩ (.int .i64 10)).setCell ⟨O, 7, none⟩ (.int .u32 fv)) := ((Mod.refl (fun k => k = O) w10).setCell (p := ⟨O, 0, none⟩) (fun _ => rfl) _).setCell (p := ⟨O, 7, none⟩) (fun _ => rfl) _
    have HO11 := Sec.mk ((HO10.out.set_ 0 (.int .i64 10)).set_ 7 (.int .u32 fv))
    simp only [List.set_cons_zero, List.set_cons_succ] at HO11
    have HM11 : Sec (Mod (fun k => k = O) w5 ((w10.setCell ⟨O, 0, none⟩ (.int .i64 10)).setCell ⟨O, 7, none⟩ (.int .u32 fv))) := ⟨HM10.out.trans hm11 (fun i hi _ => hi)⟩
    have HR11 := Sec.mk (HR10.out.mod hm11 (by omega))
    have HN11 : Sec (New w ((w10.setCell ⟨O, 0, none⟩ (.int .i64 10)).setCell ⟨O, 7, none⟩ (.int .u32 fv))) := ⟨HN10.out.trans hm11 (fun i hi hl => by omega)⟩
    clear hm11 o0 o1 o2 o3 o4 o5 o6 o7 o8 of f0 f1
    generalize ((w10.setCell ⟨O, 0, none⟩ (.int .i64 10)).setCell ⟨O, 7, none⟩ (.int .u32 fv)) = w11 at *
    have o0 : w11.cell? ⟨O, 0, none⟩ = some (.int .i64 10) := HO11.out.cell 0
    have o1 : w11.cell? ⟨O, 1, none⟩ = some (.string ⟨t.toArray⟩) := HO11.out.cell 1
    have o2 : w11.cell? ⟨O, 2, none⟩ = some (.int .u32 0) := HO11.out.cell 2
    have o3 : w11.cell? ⟨O, 3, none⟩ = some (.bool false) := HO11.out.cell 3
    have o4 : w11.cell? ⟨O, 4, none⟩ = some (.slice A2 sl.length c2) := HO11.out.cell 4
    have o5 : w11.cell? ⟨O, 5, none⟩ = some (.int .i64 0) := HO11.out.cell 5
    have o6 : w11.cell? ⟨O, 6, none⟩ = some (.int .i64 2) := HO11.out.cell 6
    have o7 : w11.cell? ⟨O, 7, none⟩ = some (.int .u32 fv) := HO11.out.cell 7
    have o8 : w11.cell? ⟨O, 8, none⟩ = some (.slice none 0 0) := HO11.out.cell 8
    have q0 : w11.cell? ⟨R, 0, none⟩ = some (.int .i64 0) := HR11.out.cell 0
    have q1 : w11.cell? ⟨R, 1, none⟩ = some (.string ⟨#[]⟩) := HR11.out.cell 1
    have q2 : w11.cell? ⟨R, 2, none⟩ = some (.int .u32 0) := HR11.out.cell 2
    have q3 : w11.cell? ⟨R, 3, none⟩ = some (.bool false) := HR11.out.cell 3
    have q4 : w11.cell? ⟨R, 4, none⟩ = some (.slice none 0 0) := HR11.out.cell 4
    have q5 : w11.cell? ⟨R, 5, none⟩ = some (.int .i64 0) := HR11.out.cell 5
    have q6 : w11.cell? ⟨R, 6, none⟩ = some (.int .i64 0) := HR11.out.cell 6
    have q7 : w11.cell? ⟨R, 7, none⟩ = some (.int .u32 0) := HR11.out.cell 7
    have q8 : w11.cell? ⟨R, 8, none⟩ = some (.slice none 0 0) := HR11.out.cell 8
    have qf : ∀ j, w11.frozen? ⟨R, j, none⟩ = false := fun j => HR11.out.frozen j
    have hm9 := set9_mod w11 R (.int .i64 10) (.string ⟨t.toArray⟩) (.int .u32 0) (.bool false) (.slice A2 sl.length c2) (.int .i64 0) (.int .i64 2) (.int .u32 fv) (.slice none 0 0)
    have HF9 := Sec.mk (set9_blk HR11.out (.int .i64 10) (.string ⟨t.toArray⟩) (.int .u32 0) (.bool false) (.slice A2 sl.length c2) (.int .i64 0) (.int .i64 2) (.int .u32 fv) (.slice none 0 0))
    have HRT : Sec (RetV true dCmd w (10, t, 0, false, sl, 0, 2, fv, []) (.returned (.agg #[.int .i64 10, .string ⟨t.toArray⟩, .int .u32 0, .bool false, .slice A2 sl.length c2, .int .i64 0, .int .i64 2, .int .u32 fv, .slice none 0 0])) (set9 w11 R (.int .i64 10) (.string ⟨t.toArray⟩) (.int .u32 0) (.bool false) (.slice A2 sl.length c2) (.int .i64 0) (.int .i64 2) (.int .u32 fv) (.slice none 0 0))) := ⟨by
      obtain ⟨F, ho, hF⟩ := HOS5.out
      exact ret_set (by decide) (by decide) (by decide) HFW.out ht ((ho.keep HM11.out (fun k hk => by have := hF k hk; omega)).keep hm9 (fun k hk => by have := hF k hk; omega)) (fun k hk => by have := hF k hk; omega) (HN11.out.trans hm9 (fun i hi hl => by omega))⟩
    clear hm9
    go_wp2
    refine bodyPost_ret (results_blk rfl rfl HF9.out Tryd.underlying38 (by kernel_rfl)) rfl ?_
    rw [HE2.out]
    exact HRT.out
  have y2 : (lw == [43, 102, 108, 97, 103, 115]) = false := by simpa using hm2
  by_cases hm3 : lw = [45, 102, 108, 97, 103, 115]
  · have y3 : (lw == [45, 102, 108, 97, 103, 115]) = true := by simpa using hm3
    have HML : Sec (md = 3) := ⟨by rw [HML.out, hm3]; decide⟩
    clear hm3 hm1 hm2
    go_upto_region 24 with (fail)
    have hm10 := (Mod.refl (fun k => k = O) w9).setCell (p := ⟨O, 6, none⟩) (fun _ => rfl) (.int .i64 3)
    have HO10 := Sec.mk (HO9.out.set_ 6 (.int .i64 3))
    simp only [List.set_cons_zero, List.set_cons_succ] at HO10
    have HM10 : Sec (Mod (fun k => k = O) w5 (w9.setCell ⟨O, 6, none⟩ (.int .i64 3))) := ⟨HM9.out.trans hm10 (fun i hi _ => hi)⟩
    have HBF10 := HBF9.out.mod hm10 hfo
    clear hm10 o6 of_ y3 y1 y2
    generalize w9.setCell ⟨O, 6, none⟩ (.int .i64 3) = w10 at *
    have HP10 := Sec.mk (HP5.out.mod HM10.out (by omega))
    have HR10 := Sec.mk (HR5.out.mod HM10.out (by omega))
    have HN10 : Sec (New w w10) := ⟨HN5.out.trans HM10.out (fun i hi hl => by omega)⟩
    have f0 : w10.cell? ⟨f, 0, none⟩ = some (.bool fok) := HBF10.cell 0
    have f1 : w10.cell? ⟨f, 1, none⟩ = some (.int .u32 fv) := HBF10.cell 1
    have o0 : w10.cell? ⟨O, 0, none⟩ = some (.int .i64 0) := HO10.out.cell 0
    have o1 : w10.cell? ⟨O, 1, none⟩ = some (.string ⟨t.toArray⟩) := HO10.out.cell 1
    have o2 : w10.cell? ⟨O, 2, none⟩ = some (.int .u32 0) := HO10.out.cell 2
    have o3 : w10.cell? ⟨O, 3, none⟩ = some (.bool false) := HO10.out.cell 3
    have o4 : w10.cell? ⟨O, 4, none⟩ = some (.slice A2 sl.length c2) := HO10.out.cell 4
    have o5 : w10.cell? ⟨O, 5, none⟩ = some (.int .i64 0) := HO10.out.cell 5
    have o6 : w10.cell? ⟨O, 6, none⟩ = some (.int .i64 3) := HO10.out.cell 6
    have o7 : w10.cell? ⟨O, 7, none⟩ = some (.int .u32 0) := HO10.out.cell 7
    have o8 : w10.cell? ⟨O, 8, none⟩ = some (.slice none 0 0) := HO10.out.cell 8
    have of : ∀ j, w10.frozen? ⟨O, j, none⟩ = false := fun j => HO10.out.frozen j
    cases m2
    · have hy := HYE.out rfl
      have HE2 : Sec (onSetL t lv rest = badC t) := ⟨by rw [HE.out, HDS.out, if_neg (fun h => by rw [hy] at h; cases h.2.2)]⟩
      clear HE HDS HML HYE hy
      have p0 : w10.cell? ⟨P, 0, none⟩ = some (.int .i64 0) := HP10.out.cell 0
      have p1 : w10.cell? ⟨P, 1, none⟩ = some (.string ⟨t.toArray⟩) := HP10.out.cell 1
      have p2 : w10.cell? ⟨P, 2, none⟩ = some (.int .u32 0) := HP10.out.cell 2
      have p3 : w10.cell? ⟨P, 3, none⟩ = some (.bool false) := HP10.out.cell 3
      have p4 : w10.cell? ⟨P, 4, none⟩ = some (.slice none 0 0) := HP10.out.cell 4
      have p5 : w10.cell? ⟨P, 5, none⟩ = some (.int .i64 0) := HP10.out.cell 5
      have p6 : w10.cell? ⟨P, 6, none⟩ = some (.int .i64 0) := HP10.out.cell 6
      have p7 : w10.cell? ⟨P, 7, none⟩ = some (.int .u32 0) := HP10.out.cell 7
      have p8 : w10.cell? ⟨P, 8, none⟩ = some (.slice none 0 0) := HP10.out.cell 8
      have q0 : w10.cell? ⟨R, 0, none⟩ = some (.int .i64 0) := HR10.out.cell 0
      have q1 : w10.cell? ⟨R, 1, none⟩ = some (.string ⟨#[]⟩) := HR10.out.cell 1
      have q2 : w10.cell? ⟨R, 2, none⟩ = some (.int .u32 0) := HR10.out.cell 2
      have q3 : w10.cell? ⟨R, 3, none⟩ = some (.bool false) := HR10.out.cell 3
      have q4 : w10.cell? ⟨R, 4, none⟩ = some (.slice none 0 0) := HR10.out.cell 4
      have q5 : w10.cell? ⟨R, 5, none⟩ = some (.int .i64 0) := HR10.out.cell 5
      have q6 : w10.cell? ⟨R, 6, none⟩ = some (.int .i64 0) := HR10.out.cell 6
      have q7 : w10.cell? ⟨R, 7, none⟩ = some (.int .u32 0) := HR10.out.cell 7
      have q8 : w10.cell? ⟨R, 8, none⟩ = some (.slice none 0 0) := HR10.out.cell 8
      have qf : ∀ j, w10.frozen? ⟨R, j, none⟩ = false := fun j => HR10.out.frozen j
      have HF9 := Sec.mk (set9_blk HR10.out (.int .i64 0) (.string ⟨t.toArray⟩) (.int .u32 0) (.bool false) (.slice none 0 0) (.int .i64 0) (.int .i64 0) (.int .u32 0) (.slice none 0 0))
      have HM9 : Sec (New w (set9 w10 R (.int .i64 0) (.string ⟨t.toArray⟩) (.int .u32 0) (.bool false) (.slice none 0 0) (.int .i64 0) (.int .i64 0) (.int .u32 0) (.slice none 0 0))) := ⟨HN10.out.trans (set9_mod _ _ _ _ _ _ _ _ _ _ _) (fun i hi hl => by omega)⟩
      go_wp2
      refine bodyPost_ret (results_blk rfl rfl HF9.out Tryd.underlying38 (by kernel_rfl)) rfl ?_
      rw [HE2.out]
      exact ret_half ht HM9.out
    cases fok
    · have HE2 : Sec (onSetL t lv rest = badC t) := ⟨by rw [HE.out, HDS.out, if_neg (fun h => by cases h.2.2)]⟩
      clear HE HDS HML HYE
      have p0 : w10.cell? ⟨P, 0, none⟩ = some (.int .i64 0) := HP10.out.cell 0
      have p1 : w10.cell? ⟨P, 1, none⟩ = some (.string ⟨t.toArray⟩) := HP10.out.cell 1
      have p2 : w10.cell? ⟨P, 2, none⟩ = some (.int .u32 0) := HP10.out.cell 2
      have p3 : w10.cell? ⟨P, 3, none⟩ = some (.bool false) := HP10.out.cell 3
      have p4 : w10.cell? ⟨P, 4, none⟩ = some (.slice none 0 0) := HP10.out.cell 4
      have p5 : w10.cell? ⟨P, 5, none⟩ = some (.int .i64 0) := HP10.out.cell 5
      have p6 : w10.cell? ⟨P, 6, none⟩ = some (.int .i64 0) := HP10.out.cell 6
      have p7 : w10.cell? ⟨P, 7, none⟩ = some (.int .u32 0) := HP10.out.cell 7
      have p8 : w10.cell? ⟨P, 8, none⟩ = some (.slice none 0 0) := HP10.out.cell 8
      have q0 : w10.cell? ⟨R, 0, none⟩ = some (.int .i64 0) := HR10.out.cell 0
      have q1 : w10.cell? ⟨R, 1, none⟩ = some (.string ⟨#[]⟩) := HR10.out.cell 1
      have q2 : w10.cell? ⟨R, 2, none⟩ = some (.int .u32 0) := HR10.out.cell 2
      have q3 : w10.cell? ⟨R, 3, none⟩ = some (.bool false) := HR10.out.cell 3
      have q4 : w10.cell? ⟨R, 4, none⟩ = some (.slice none 0 0) := HR10.out.cell 4
      have q5 : w10.cell? ⟨R, 5, none⟩ = some (.int .i64 0) := HR10.out.cell 5
      have q6 : w10.cell? ⟨R, 6, none⟩ = some (.int .i64 0) := HR10.out.cell 6
      have q7 : w10.cell? ⟨R, 7, none⟩ = some (.int .u32 0) := HR10.out.cell 7
      have q8 : w10.cell? ⟨R, 8, none⟩ = some (.slice none 0 0) := HR10.out.cell 8
      have qf : ∀ j, w10.frozen? ⟨R, j, none⟩ = false := fun j => HR10.out.frozen j
      have HF9 := Sec.mk (set9_blk HR10.out (.int .i64 0) (.string ⟨t.toArray⟩) (.int .u32 0) (.bool false) (.slice none 0 0) (.int .i64 0) (.int .i64 0) (.int .u32 0) (.slice none 0 0))
      have HM9 : Sec (New w (set9 w10 R (.int .i64 0) (.string ⟨t.toArray⟩) (.int .u32 0) (.bool false) (.slice none 0 0) (.int .i64 0) (.int .i64 0) (.int .u32 0) (.slice none 0 0))) := ⟨HN10.out.trans (set9_mod _ _ _ _ _ _ _ _ _ _ _) (fun i hi hl => by omega)⟩
      go_wp2
      refine bodyPost_ret (results_blk rfl rfl HF9.out Tryd.underlying38 (by kernel_rfl)) rfl ?_
      rw [HE2.out]
      exact ret_half ht HM9.out
    have HE2 : Sec (onSetL t lv rest = (10, t, 0, false, sl, 0, 3, fv, [])) := ⟨by rw [HE.out, HDS.out, HML.out, if_pos ⟨trivial, by decide, rfl⟩]⟩
    clear HE HDS HML HYE
    go_upto_region 28 with (fail)
    have hm11 : Mod (fun k => k = O) w10 ((w10.setCell ⟨O, 0, none⟩ (.int .i64 10)).setCell ⟨O, 7, none⟩ (.int .u32 fv)) := ((Mod.refl (fun k => k = O) w10).setCell (p := ⟨O, 0, none⟩) (fun _ => rfl) _).setCell (p := ⟨O, 7, none⟩) (fun _ => rfl) _
    have HO11 := Sec.mk ((HO10.out.set_ 0 (.int .i64 10)).set_ 7 (.int .u32 fv))
    simp only [List.set_cons_zero, List.set_cons_succ] at HO11
    have HM11 : Sec (Mod (fun k => k = O) w5 ((w10.setCell ⟨O, 0, none⟩ (.int .i64 10)).setCell ⟨O, 7, none⟩ (.int .u32 fv))) := ⟨HM10.out.trans hm11 (fun i hi _ => hi)⟩
    have HR11 := Sec.mk (HR10.out.mod hm11 (by omega))
    have HN11 : Sec (New w ((w10.setCell ⟨O, 0, none⟩ (.int .i64 10)).setCell ⟨O, 7, none⟩ (.int .u32 fv))) := ⟨HN10.out.trans hm11 (fun i hi hl => by omega)⟩
    clear hm11 o0 o1 o2 o3 o4 o5 o6 o7 o8 of f0 f1
    generalize ((w10.setCell ⟨O, 0, none⟩ (.int .i64 10)).setCell ⟨O, 7, none⟩ (.int .u32 fv)) = w11 at *
    have o0 : w11.cell? ⟨O, 0, none⟩ = some (.int .i64 10) := HO11.out.cell 0
    have o1 : w11.cell? ⟨O, 1, none⟩ = some (.string ⟨t.toArray⟩) := HO11.out.cell 1
    have o2 : w11.cell? ⟨O, 2, none⟩ = some (.int .u32 0) := HO11.out.cell 2
    have o3 : w11.cell? ⟨O, 3, none⟩ = some (.bool false) := HO11.out.cell 3
    have o4 : w11.cell? ⟨O, 4, none⟩ = some (.slice A2 sl.length c2) := HO11.out.cell 4
    have o5 : w11.cell? ⟨O, 5, none⟩ = some (.int .i64 0) := HO11.out.cell 5
    have o6 : w11.cell? ⟨O, 6, none⟩ = some (.int .i64 3) := HO11.out.cell 6
    have o7 : w11.cell? ⟨O, 7, none⟩ = some (.int .u32 fv) := HO11.out.cell 7
    have o8 : w11.cell? ⟨O, 8, none⟩ = some (.slice none 0 0) := HO11.out.cell 8
    have q0 : w11.cell? ⟨R, 0, none⟩ = some (.int .i64 0) := HR11.out.cell 0
    have q1 : w11.cell? ⟨R, 1, none⟩ = some (.string ⟨#[]⟩) := HR11.out.cell 1
    have q2 : w11.cell? ⟨R, 2, none⟩ = some (.int .u32 0) := HR11.out.cell 2
    have q3 : w11.cell? ⟨R, 3, none⟩ = some (.bool false) := HR11.out.cell 3
    have q4 : w11.cell? ⟨R, 4, none⟩ = some (.slice none 0 0) := HR11.out.cell 4
    have q5 : w11.cell? ⟨R, 5, none⟩ = some (.int .i64 0) := HR11.out.cell 5
    have q6 : w11.cell? ⟨R, 6, none⟩ = some (.int .i64 0) := HR11.out.cell 6
    have q7 : w11.cell? ⟨R, 7, none⟩ = some (.int .u32 0) := HR11.out.cell 7
    have q8 : w11.cell? ⟨R, 8, none⟩ = some (.slice none 0 0) := HR11.out.cell 8
    have qf : ∀ j, w11.frozen? ⟨R, j, none⟩ = false := fun j => HR11.out.frozen j
    have hm9 := set9_mod w11 R (.int .i64 10) (.string ⟨t.toArray⟩) (.int .u32 0) (.bool false) (.slice A2 sl.length c2) (.int .i64 0) (.int .i64 3) (.int .u32 fv) (.slice none 0 0)
    have HF9 := Sec.mk (set9_blk HR11.out (.int .i64 10) (.string ⟨t.toArray⟩) (.int .u32 0) (.bool false) (.slice A2 sl.length c2) (.int .i64 0) (.int .i64 3) (.int .u32 fv) (.slice none 0 0))
    have HRT : Sec (RetV true dCmd w (10, t, 0, false, sl, 0, 3, fv, []) (.returned (.agg #[.int .i64 10, .string ⟨t.toArray⟩, .int .u32 0, .bool false, .slice A2 sl.length c2, .int .i64 0, .int .i64 3, .int .u32 fv, .slice none 0 0])) (set9 w11 R (.int .i64 10) (.string ⟨t.toArray⟩) (.int .u32 0) (.bool false) (.slice A2 sl.length c2) (.int .i64 0) (.int .i64 3) (.int .u32 fv) (.slice none 0 0))) := ⟨by
      obtain ⟨F, ho, hF⟩ := HOS5.out
      exact ret_set (by decide) (by decide) (by decide) HFW.out ht ((ho.keep HM11.out (fun k hk => by have := hF k hk; omega)).keep hm9 (fun k hk => by have := hF k hk; omega)) (fun k hk => by have := hF k hk; omega) (HN11.out.trans hm9 (fun i hi hl => by omega))⟩
    clear hm9
    go_wp2
    refine bodyPost_ret (results_blk rfl rfl HF9.out Tryd.underlying38 (by kernel_rfl)) rfl ?_
    rw [HE2.out]
    exact HRT.out
  have y3 : (lw == [45, 102, 108, 97, 103, 115]) = false := by simpa using hm3
  have HML : Sec (md = 0) := ⟨by rw [HML.out, if_neg hm3, if_neg hm2, if_neg hm1]⟩
  clear hm1 hm2 hm3
  go_upto_region 24 with (fail)
  clear o6 of_ y1 y2 y3
  have HP10 := Sec.mk (HP5.out.mod HM9.out (by omega))
  have HR10 := Sec.mk (HR5.out.mod HM9.out (by omega))
  have HN10 : Sec (New w w9) := ⟨HN5.out.trans HM9.out (fun i hi hl => by omega)⟩
  have f0 : w9.cell? ⟨f, 0, none⟩ = some (.bool fok) := HBF9.out.cell 0
  have f1 : w9.cell? ⟨f, 1, none⟩ = some (.int .u32 fv) := HBF9.out.cell 1
  have o0 : w9.cell? ⟨O, 0, none⟩ = some (.int .i64 0) := HO9.out.cell 0
  have o1 : w9.cell? ⟨O, 1, none⟩ = some (.string ⟨t.toArray⟩) := HO9.out.cell 1
  have o2 : w9.cell? ⟨O, 2, none⟩ = some (.int .u32 0) := HO9.out.cell 2
  have o3 : w9.cell? ⟨O, 3, none⟩ = some (.bool false) := HO9.out.cell 3
  have o4 : w9.cell? ⟨O, 4, none⟩ = some (.slice A2 sl.length c2) := HO9.out.cell 4
  have o5 : w9.cell? ⟨O, 5, none⟩ = some (.int .i64 0) := HO9.out.cell 5
  have o6 : w9.cell? ⟨O, 6, none⟩ = some (.int .i64 0) := HO9.out.cell 6
  have o7 : w9.cell? ⟨O, 7, none⟩ = some (.int .u32 0) := HO9.out.cell 7
  have o8 : w9.cell? ⟨O, 8, none⟩ = some (.slice none 0 0) := HO9.out.cell 8
  have of : ∀ j, w9.frozen? ⟨O, j, none⟩ = false := fun j => HO9.out.frozen j
  have HE2 : Sec (onSetL t lv rest = badC t) := ⟨by rw [HE.out, HDS.out, HML.out, if_neg (fun h => h.2.1 rfl)]⟩
  clear HE HDS HML HYE
  cases m2
  · skip
    have p0 : w9.cell? ⟨P, 0, none⟩ = some (.int .i64 0) := HP10.out.cell 0
    have p1 : w9.cell? ⟨P, 1, none⟩ = some (.string ⟨t.toArray⟩) := HP10.out.cell 1
    have p2 : w9.cell? ⟨P, 2, none⟩ = some (.int .u32 0) := HP10.out.cell 2
    have p3 : w9.cell? ⟨P, 3, none⟩ = some (.bool false) := HP10.out.cell 3
    have p4 : w9.cell? ⟨P, 4, none⟩ = some (.slice none 0 0) := HP10.out.cell 4
    have p5 : w9.cell? ⟨P, 5, none⟩ = some (.int .i64 0) := HP10.out.cell 5
    have p6 : w9.cell? ⟨P, 6, none⟩ = some (.int .i64 0) := HP10.out.cell 6
    have p7 : w9.cell? ⟨P, 7, none⟩ = some (.int .u32 0) := HP10.out.cell 7
    have p8 : w9.cell? ⟨P, 8, none⟩ = some (.slice none 0 0) := HP10.out.cell 8
    have q0 : w9.cell? ⟨R, 0, none⟩ = some (.int .i64 0) := HR10.out.cell 0
    have q1 : w9.cell? ⟨R, 1, none⟩ = some (.string ⟨#[]⟩) := HR10.out.cell 1
    have q2 : w9.cell? ⟨R, 2, none⟩ = some (.int .u32 0) := HR10.out.cell 2
    have q3 : w9.cell? ⟨R, 3, none⟩ = some (.bool false) := HR10.out.cell 3
    have q4 : w9.cell? ⟨R, 4, none⟩ = some (.slice none 0 0) := HR10.out.cell 4
    have q5 : w9.cell? ⟨R, 5, none⟩ = some (.int .i64 0) := HR10.out.cell 5
    have q6 : w9.cell? ⟨R, 6, none⟩ = some (.int .i64 0) := HR10.out.cell 6
    have q7 : w9.cell? ⟨R, 7, none⟩ = some (.int .u32 0) := HR10.out.cell 7
    have q8 : w9.cell? ⟨R, 8, none⟩ = some (.slice none 0 0) := HR10.out.cell 8
    have qf : ∀ j, w9.frozen? ⟨R, j, none⟩ = false := fun j => HR10.out.frozen j
    have HF9 := Sec.mk (set9_blk HR10.out (.int .i64 0) (.string ⟨t.toArray⟩) (.int .u32 0) (.bool false) (.slice none 0 0) (.int .i64 0) (.int .i64 0) (.int .u32 0) (.slice none 0 0))
    have HM9 : Sec (New w (set9 w9 R (.int .i64 0) (.string ⟨t.toArray⟩) (.int .u32 0) (.bool false) (.slice none 0 0) (.int .i64 0) (.int .i64 0) (.int .u32 0) (.slice none 0 0))) := ⟨HN10.out.trans (set9_mod _ _ _ _ _ _ _ _ _ _ _) (fun i hi hl => by omega)⟩
    go_wp2
    refine bodyPost_ret (results_blk rfl rfl HF9.out Tryd.underlying38 (by kernel_rfl)) rfl ?_
    rw [HE2.out]
    exact ret_half ht HM9.out
  cases fok
  · skip
    have p0 : w9.cell? ⟨P, 0, none⟩ = some (.int .i64 0) := HP10.out.cell 0
    have p1 : w9.cell? ⟨P, 1, none⟩ = some (.string ⟨t.toArray⟩) := HP10.out.cell 1
    have p2 : w9.cell? ⟨P, 2, none⟩ = some (.int .u32 0) := HP10.out.cell 2
    have p3 : w9.cell? ⟨P, 3, none⟩ = some (.bool false) := HP10.out.cell 3
    have p4 : w9.cell? ⟨P, 4, none⟩ = some (.slice none 0 0) := HP10.out.cell 4
    have p5 : w9.cell? ⟨P, 5, none⟩ = some (.int .i64 0) := HP10.out.cell 5
    have p6 : w9.cell? ⟨P, 6, none⟩ = some (.int .i64 0) := HP10.out.cell 6
    have p7 : w9.cell? ⟨P, 7, none⟩ = some (.int .u32 0) := HP10.out.cell 7
    have p8 : w9.cell? ⟨P, 8, none⟩ = some (.slice none 0 0) := HP10.out.cell 8
    have q0 : w9.cell? ⟨R, 0, none⟩ = some (.int .i64 0) := HR10.out.cell 0
    have q1 : w9.cell? ⟨R, 1, none⟩ = some (.string ⟨#[]⟩) := HR10.out.cell 1
    have q2 : w9.cell? ⟨R, 2, none⟩ = some (.int .u32 0) := HR10.out.cell 2
    have q3 : w9.cell? ⟨R, 3, none⟩ = some (.bool false) := HR10.out.cell 3
    have q4 : w9.cell? ⟨R, 4, none⟩ = some (.slice none 0 0) := HR10.out.cell 4
    have q5 : w9.cell? ⟨R, 5, none⟩ = some (.int .i64 0) := HR10.out.cell 5
    have q6 : w9.cell? ⟨R, 6, none⟩ = some (.int .i64 0) := HR10.out.cell 6
    have q7 : w9.cell? ⟨R, 7, none⟩ = some (.int .u32 0) := HR10.out.cell 7
    have q8 : w9.cell? ⟨R, 8, none⟩ = some (.slice none 0 0) := HR10.out.cell 8
    have qf : ∀ j, w9.frozen? ⟨R, j, none⟩ = false := fun j => HR10.out.frozen j
    have HF9 := Sec.mk (set9_blk HR10.out (.int .i64 0) (.string ⟨t.toArray⟩) (.int .u32 0) (.bool false) (.slice none 0 0) (.int .i64 0) (.int .i64 0) (.int .u32 0) (.slice none 0 0))
    have HM9 : Sec (New w (set9 w9 R (.int .i64 0) (.string ⟨t.toArray⟩) (.int .u32 0) (.bool false) (.slice none 0 0) (.int .i64 0) (.int .i64 0) (.int .u32 0) (.slice none 0 0))) := ⟨HN10.out.trans (set9_mod _ _ _ _ _ _ _ _ _ _ _) (fun i hi hl => by omega)⟩
    go_wp2
    refine bodyPost_ret (results_blk rfl rfl HF9.out Tryd.underlying38 (by kernel_rfl)) rfl ?_
    rw [HE2.out]
    exact ret_half ht HM9.out
  have p0 : w9.cell? ⟨P, 0, none⟩ = some (.int .i64 0) := HP10.out.cell 0
  have p1 : w9.cell? ⟨P, 1, none⟩ = some (.string ⟨t.toArray⟩) := HP10.out.cell 1
  have p2 : w9.cell? ⟨P, 2, none⟩ = some (.int .u32 0) := HP10.out.cell 2
  have p3 : w9.cell? ⟨P, 3, none⟩ = some (.bool false) := HP10.out.cell 3
  have p4 : w9.cell? ⟨P, 4, none⟩ = some (.slice none 0 0) := HP10.out.cell 4
  have p5 : w9.cell? ⟨P, 5, none⟩ = some (.int .i64 0) := HP10.out.cell 5
  have p6 : w9.cell? ⟨P, 6, none⟩ = some (.int .i64 0) := HP10.out.cell 6
  have p7 : w9.cell? ⟨P, 7, none⟩ = some (.int .u32 0) := HP10.out.cell 7
  have p8 : w9.cell? ⟨P, 8, none⟩ = some (.slice none 0 0) := HP10.out.cell 8
  have q0 : w9.cell? ⟨R, 0, none⟩ = some (.int .i64 0) := HR10.out.cell 0
  have q1 : w9.cell? ⟨R, 1, none⟩ = some (.string ⟨#[]⟩) := HR10.out.cell 1
  have q2 : w9.cell? ⟨R, 2, none⟩ = some (.int .u32 0) := HR10.out.cell 2
  have q3 : w9.cell? ⟨R, 3, none⟩ = some (.bool false) := HR10.out.cell 3
  have q4 : w9.cell? ⟨R, 4, none⟩ = some (.slice none 0 0) := HR10.out.cell 4
  have q5 : w9.cell? ⟨R, 5, none⟩ = some (.int .i64 0) := HR10.out.cell 5
  have q6 : w9.cell? ⟨R, 6, none⟩ = some (.int .i64 0) := HR10.out.cell 6
  have q7 : w9.cell? ⟨R, 7, none⟩ = some (.int .u32 0) := HR10.out.cell 7
  have q8 : w9.cell? ⟨R, 8, none⟩ = some (.slice none 0 0) := HR10.out.cell 8
  have qf : ∀ j, w9.frozen? ⟨R, j, none⟩ = false := fun j => HR10.out.frozen j
  have HF9 := Sec.mk (set9_blk HR10.out (.int .i64 0) (.string ⟨t.toArray⟩) (.int .u32 0) (.bool false) (.slice none 0 0) (.int .i64 0) (.int .i64 0) (.int .u32 0) (.slice none 0 0))
  have HM9 : Sec (New w (set9 w9 R (.int .i64 0) (.string ⟨t.toArray⟩) (.int .u32 0) (.bool false) (.slice none 0 0) (.int .i64 0) (.int .i64 0) (.int .u32 0) (.slice none 0 0))) := ⟨HN10.out.trans (set9_mod _ _ _ _ _ _ _ _ _ _ _) (fun i hi hl => by omega)⟩
  go_wp2
  refine bodyPost_ret (results_blk rfl rfl HF9.out Tryd.underlying38 (by kernel_rfl)) rfl ?_
  rw [HE2.out]
  exact ret_half ht HM9.out
end Go.Proofs.YtiaknomadhgckaaDoor
