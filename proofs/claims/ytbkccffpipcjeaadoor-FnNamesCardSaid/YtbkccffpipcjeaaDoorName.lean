/- The name of a mail, both ways. -/
import Derived.Test.YtbkccffpipcjeaaDoorFlagI
import Derived.Test.YtbkccffpipcjeaaDoorDec
import Derived.Test.YtbkccffpipcjeaaDoorPureName
namespace Go.Proofs.YtbkccffpipcjeaaDoor
open Go.RowKit Mem
set_option linter.unusedVariables false

def NameMem (w : World) : Prop := TabAt w ∧ LettersAt w ∧ 1 < w.heap.size
theorem NameMem.new {w w' : World} (h : NameMem w) (hm : New w w') : NameMem w' := ⟨h.1.new hm, h.2.1.new h.2.2 hm, Nat.lt_of_lt_of_le h.2.2 hm.size⟩
theorem stampOk_calls (n : Int) (w : World) : Calls Tryd.prog 26 #[.int .i64 n] w (fun e w' => e = .returned (.bool (decide (0 ≤ n) && decide (n ≤ 1000000000000))) ∧ w' = w) := by
  by_cases h : 0 ≤ n
  · go_enter Tryd.func26, Tryd.ntmps26
    go_wp2
    go_ret
    exact ⟨by simp [h], rfl⟩
  · go_enter Tryd.func26, Tryd.ntmps26
    go_wp2
    go_ret
    exact ⟨by simp; omega, rfl⟩
set_option maxHeartbeats 1000000 in
set_option maxRecDepth 100000 in
theorem mailNameSpec_calls (uid f : Nat) (hu : uid < 4294967296) (hf : f < 4294967296) (stamp : Int) (w : World) : Calls Tryd.prog 10 #[.int .u32 (uid : Int), .int .i64 stamp, .int .u32 (f : Int)] w (Ret (.string ⟨(MailNameL uid stamp f).toArray⟩) w) := by
  by_cases hu0 : uid = 0
  · have HE := Sec.mk (MailNameL_no (f := f) (stamp := stamp) (.inl hu0))
    subst hu0
    rw [HE.out]
    go_enter Tryd.func10, Tryd.ntmps10
    go_wp2
    go_ret
    exact ⟨rfl, Mod.refl _ _⟩
  have hun : ¬ (uid : Int) = 0 := by omega
  have hub : ((uid : Int) == 0) = false := by simp only [beq_eq_false_iff_ne, ne_eq]; exact hun
  by_cases hs : stamp < 0
  · have HE := Sec.mk (MailNameL_no (uid := uid) (f := f) (.inr (.inl hs)))
    rw [HE.out]
    go_enter Tryd.func10, Tryd.ntmps10
    go_wp2
    go_ret
    exact ⟨rfl, Mod.refl _ _⟩
  by_cases hs2 : 1000000000000 < stamp
  · have HE := Sec.mk (MailNameL_no (uid := uid) (f := f) (.inr (.inr hs2)))
    rw [HE.out]
    go_enter Tryd.func10, Tryd.ntmps10
    go_wp2
    go_ret
    exact ⟨rfl, Mod.refl _ _⟩
  obtain ⟨S, rfl⟩ : ∃ S : Nat, stamp = S := ⟨stamp.toNat, by omega⟩
  have hS : S ≤ 1000000000000 := by omega
  have HE := Sec.mk (MailNameL_yes (f := f) hu0 hS)
  rw [HE.out]
  have hl1 := dec_len uid (by omega)
  have hl2 := dec_len S hS
  have hl3 := flagsL_len f
  have H1 := Sec.mk (l1Dec_calls uid (by omega))
  have H2 := Sec.mk (l1Dec_calls S (by omega))
  have H3 := Sec.mk (flagLettersSpec_calls f hf)
  generalize Lib.decDigits uid = du at *
  generalize Lib.decDigits S = ds at *
  generalize flagsL f = fs at *
  clear hu0 HE
  go_enter Tryd.func10, Tryd.ntmps10
  go_wp2_with fail
  refine (H1.out _).mono ?_
  rintro e w1 ⟨rfl, hm1⟩
  have HM1 := Sec.mk hm1
  clear hm1
  go_wp2_with fail
  refine (H2.out _).mono ?_
  rintro e w2 ⟨rfl, hm2⟩
  have HM2 := Sec.mk (HM1.out.transN hm2)
  clear hm2
  go_wp2_with fail
  refine (H3.out _).mono ?_
  rintro e w3 ⟨rfl, hm3⟩
  have HM3 := Sec.mk (HM2.out.transN hm3)
  clear hm3
  go_wp2
  go_ret
  refine ⟨?_, HM3.out⟩
  show Ending.returned (.string ((((((⟨[99, 117, 114, 47].toArray⟩ : ByteArray) ++ ⟨du.toArray⟩) ++ ⟨[46].toArray⟩) ++ ⟨ds.toArray⟩) ++ ⟨[58, 50, 44].toArray⟩) ++ ⟨fs.toArray⟩)) = _
  simp only [ba_app']
  rfl
set_option maxHeartbeats 1000000 in
set_option maxRecDepth 100000 in
theorem mailNameImpl_calls (uid f : Nat) (hu : uid < 4294967296) (hf : f < 4294967296) (stamp : Int) (hst : IntKind.i64.wrap stamp = stamp) {w : World} (h : NameMem w) : Calls Tryd.prog 11 #[.int .u32 (uid : Int), .int .i64 stamp, .int .u32 (f : Int)] w (Ret (.string ⟨(MailNameL uid stamp f).toArray⟩) w) := by
  have HW := Sec.mk h
  clear h
  by_cases hu0 : uid = 0
  · have HE := Sec.mk (MailNameL_no (f := f) (stamp := stamp) (.inl hu0))
    subst hu0
    rw [HE.out]
    go_enter Tryd.func11, Tryd.ntmps11
    go_wp2
    go_ret
    exact ⟨rfl, Mod.refl _ _⟩
  have hun : ¬ (uid : Int) = 0 := by omega
  have hub : ((uid : Int) == 0) = false := by simp only [beq_eq_false_iff_ne, ne_eq]; exact hun
  by_cases hs : stamp < 0 ∨ 1000000000000 < stamp
  · have HE := Sec.mk (MailNameL_no (uid := uid) (f := f) (.inr hs))
    rw [HE.out]
    have HC : Sec ((decide (0 ≤ stamp) && decide (stamp ≤ 1000000000000)) = false) := ⟨by rcases hs with h | h <;> simp <;> omega⟩
    clear hs hst
    go_enter Tryd.func11, Tryd.ntmps11
    go_wp2_with fail
    refine (stampOk_calls stamp _).mono ?_
    rw [HC.out]
    rintro e w1 ⟨rfl, rfl⟩
    go_wp2
    go_ret
    exact ⟨rfl, Mod.refl _ _⟩
  obtain ⟨S, rfl⟩ : ∃ S : Nat, stamp = S := ⟨stamp.toNat, by omega⟩
  have hS : S ≤ 1000000000000 := by omega
  have HC : Sec ((decide (0 ≤ (S : Int)) && decide ((S : Int) ≤ 1000000000000)) = true) := ⟨by simp; omega⟩
  have HE := Sec.mk (MailNameL_yes (f := f) hu0 hS)
  rw [HE.out]
  have hl1 := dec_len uid (by omega)
  have hl2 := dec_len S hS
  have hl3 := flagsL_len f
  have H1 := Sec.mk (formatUint_calls uid hu HW.out.1)
  have H2 := Sec.mk (fun w' (hm : New w w') => formatInt_calls S (by omega) (HW.out.new hm).1)
  have H3 := Sec.mk (fun w' (hm : New w w') => flagLettersImpl_calls f hf (HW.out.new hm).2.1 (HW.out.new hm).2.2)
  generalize Lib.decDigits uid = du at *
  generalize Lib.decDigits S = ds at *
  generalize flagsL f = fs at *
  clear hu0 HE hs hst
  go_enter Tryd.func11, Tryd.ntmps11
  go_wp2_with fail
  refine (stampOk_calls (S : Int) _).mono ?_
  rw [HC.out]
  rintro e w0 ⟨rfl, rfl⟩
  go_wp2_with fail
  refine H1.out.mono ?_
  rintro e w1 ⟨rfl, hm1⟩
  have HM1 := Sec.mk hm1
  clear hm1
  go_wp2_with fail
  refine (H2.out _ HM1.out).mono ?_
  rintro e w2 ⟨rfl, hm2⟩
  have HM2 := Sec.mk (HM1.out.transN hm2)
  clear hm2
  go_wp2_with fail
  refine (H3.out _ HM2.out).mono ?_
  rintro e w3 ⟨rfl, hm3⟩
  have HM3 := Sec.mk (HM2.out.transN hm3)
  clear hm3
  go_wp2
  go_ret
  refine ⟨?_, HM3.out⟩
  show Ending.returned (.string ((((((⟨[99, 117, 114, 47].toArray⟩ : ByteArray) ++ ⟨du.toArray⟩) ++ ⟨[46].toArray⟩) ++ ⟨ds.toArray⟩) ++ ⟨[58, 50, 44].toArray⟩) ++ ⟨fs.toArray⟩)) = _
  simp only [ba_app']
  rfl
end Go.Proofs.YtbkccffpipcjeaaDoor
