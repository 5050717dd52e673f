/- The walk of the law FnNames. -/
import Derived.Test.YtbkccffpipcjeaaDoorPureNames
import Derived.Test.YtbkccffpipcjeaaDoorDrawN
import Derived.Test.YtbkccffpipcjeaaDoorMailI
import Derived.Test.YtbkccffpipcjeaaDoorReadL
import Derived.Test.YtbkccffpipcjeaaDoorFlagI
namespace Go.Proofs.YtbkccffpipcjeaaDoor
open Go.RowKit Mem
set_option linter.unusedVariables false
def NamesMem (w : World) : Prop := MailMem w ∧ NamesAt w
theorem NamesMem.new {w w' : World} (h : NamesMem w) (hm : New w w') : NamesMem w' := ⟨h.1.new hm, h.2.new hm⟩
set_option maxHeartbeats 1000000 in
set_option maxRecDepth 100000 in
theorem drawMailName_calls {A : Option Addr} {c : Nat} {xs : Bytes} {B : Nat → Prop} {w : World} (h : Row Ty.byte w B A xs.length xs) (hB : ∀ k, B k → k < w.heap.size) (hl : xs.length ≤ 34359738368) :
    Calls Tryd.prog 18 #[.slice A xs.length c] w (fun e w' => ∃ (u st : Int) (f : Nat), e = .returned (.tuple #[.int .u32 u, .int .i64 st, .int .u32 (f : Int)]) ∧ 0 ≤ u ∧ u < 4294967296 ∧ IntKind.i64.wrap st = st ∧ f < 2147483648 ∧ New w w') := by
  have HR0 : Sec (Rdr (w.alloc (.cells #[.slice A xs.length c, .int .i64 0] 71)) w.heap.size xs) := ⟨⟨A, c, xs, 0, B, Blk.new w _ _, by omega, rfl, h.mod (fun _ h => h) (fun k hk => ((Mod.refl (fun _ => False) w).alloc _).block k (hB k hk) id), hB, hl⟩⟩
  have HM0 : Sec (New w (w.alloc (.cells #[.slice A xs.length c, .int .i64 0] 71))) := ⟨(Mod.refl _ _).alloc _⟩
  have HU := Sec.mk (l4Uid_calls HR0.out)
  clear h
  go_enter Tryd.func18, Tryd.ntmps18
  go_wp2_with fail
  refine HU.out.mono ?_
  rintro e w1 ⟨u, zs, rfl, hu0, hu1, hr1, hm1⟩
  have HS := Sec.mk (l4Stamp_calls hr1)
  have HM1 := Sec.mk (HM0.out.trans hm1 (fun i hi hlt => by omega))
  clear hr1 hm1
  go_wp2_with fail
  refine HS.out.mono ?_
  rintro e w2 ⟨st, zs2, rfl, hst, hr2, hm2⟩
  have HST := Sec.mk hst
  have HF := Sec.mk (l4Flags_calls hr2)
  have HM2 := Sec.mk (HM1.out.trans hm2 (fun i hi hlt => by omega))
  clear hr2 hm2 hst
  go_wp2_with fail
  refine HF.out.mono ?_
  rintro e w3 ⟨f, zs3, rfl, hf, hr3, hm3⟩
  have HM3 := Sec.mk (HM2.out.trans hm3 (fun i hi hlt => by omega))
  clear hr3 hm3
  go_wp2
  go_ret3
  exact ⟨u, st, f, rfl, hu0, hu1, HST.out, hf, HM3.out⟩
set_option maxHeartbeats 4000000 in
set_option maxRecDepth 100000 in
theorem lawFnNames_walk {w : World} (hL : NamesMem w) {A : Option Addr} {c : Nat} {xs : Bytes} (h : Row Ty.byte w (· < w.heap.size) A xs.length xs) (hc : xs.length ≤ c) :
    Calls Tryd.prog 7 #[.slice A xs.length c] w (Ret (.bool true) w) := by
  have hxm := h.2.1
  have HR := Sec.mk h
  have HL := Sec.mk hL
  clear h hL
  by_cases hlong : 1048576 < xs.length
  · go_enter Tryd.func7, Tryd.ntmps7
    go_wp2
    go_ret
    exact ⟨by simp, Mod.refl _ _⟩
  have HD := Sec.mk (drawMailName_calls (c := c) HR.out (fun _ h => h) (by omega))
  go_enter Tryd.func7, Tryd.ntmps7
  go_wp2_with fail
  refine HD.out.mono ?_
  rintro e w1 ⟨u, st, f, rfl, hu0, hu1, hst, hf, hm1⟩
  obtain ⟨un, rfl⟩ : ∃ n : Nat, u = n := ⟨u.toNat, by omega⟩
  have HST := Sec.mk hst
  have HM1 := Sec.mk hm1
  clear hst hm1 HD
  have HL1 := Sec.mk (HL.out.new HM1.out)
  go_wp2_with fail
  refine (flagListImpl_calls f (by omega) HL1.out.2).mono ?_
  rintro e w2 ⟨rfl, hm2⟩
  have HM2 := Sec.mk (HM1.out.transN hm2)
  have HL2 := Sec.mk (HL.out.new HM2.out)
  clear hm2
  have HRD := Sec.mk (readListImpl_calls (FlagListL f) (by have := joinSp_len f 31; unfold FlagListL; simp; omega) (w := w2) ⟨HL2.out.2, HL2.out.1.2.1⟩)
  rw [readList_names f hf] at HRD
  simp only [FlagsV] at HRD
  generalize FlagListL f = fl at *
  go_wp2_with fail
  refine HRD.out.mono ?_
  rintro e w3 ⟨rfl, hm3⟩
  have HM3 := Sec.mk (HM2.out.transN hm3)
  have HM3' := Sec.mk (HM3.out.alloc (.cells #[.bool true, .int .u32 (f : Int)] 28))
  have HL3 := Sec.mk (HL.out.new HM3'.out)
  have HF3 := Sec.mk (Blk.new w3 28 [.bool true, .int .u32 (f : Int)])
  clear hm3
  go_wp2_with fail
  refine (flagLettersImpl_calls f (by omega) HL3.out.1.1.2.1 HL3.out.1.1.2.2).mono ?_
  rintro e w4 ⟨rfl, hm4⟩
  have HM4 := Sec.mk (HM3'.out.transN hm4)
  have HF4 := Sec.mk (HF3.out.mod hm4 id)
  have HL4 := Sec.mk (HL.out.new HM4.out)
  clear hm4 HF3 HM3 HM3'
  have HLF := Sec.mk (letterFlagsImpl_calls (flagsL f) (by have := flagsL_len f; omega) HL4.out.1.1.2.1 HL4.out.1.1.2.2)
  rw [LetL_flags f hf] at HLF
  simp only [FlagsV] at HLF
  generalize flagsL f = fs at *
  go_wp2_with fail
  refine HLF.out.mono ?_
  rintro e w5 ⟨rfl, hm5⟩
  have HM5 := Sec.mk ((HM4.out.transN hm5).alloc (.cells #[.bool true, .int .u32 (f : Int)] 28))
  have HF5 := Sec.mk ((HF4.out.mod hm5 id).alloc (.cells #[.bool true, .int .u32 (f : Int)] 28))
  have HG5 := Sec.mk (Blk.new w5 28 [.bool true, .int .u32 (f : Int)])
  have HL5 := Sec.mk (HL.out.new HM5.out)
  have hs5 : w3.heap.size < w5.heap.size := (HF4.out.mod hm5 id).lt
  have a0 : w5.cell? ⟨w3.heap.size, 0, none⟩ = some (.bool true) := (HF4.out.mod hm5 id).cell 0
  have a1 : w5.cell? ⟨w3.heap.size, 1, none⟩ = some (.int .u32 (f : Int)) := (HF4.out.mod hm5 id).cell 1
  clear hm5 HF4
  have HMN := Sec.mk (mailNameImpl_calls un f (by omega) (by omega) st HST.out HL5.out.1.1)
  go_wp2_with fail
  refine HMN.out.mono ?_
  rintro e w6 ⟨rfl, hm6⟩
  have HM6 := Sec.mk (HM5.out.transN hm6)
  have HL6 := Sec.mk (HL.out.new HM6.out)
  clear hm6 a0 a1 HF5 HG5 HMN
  have hml : (MailNameL un st f).length ≤ 1048576 := by
    by_cases hv : un = 0 ∨ st < 0 ∨ 1000000000000 < st
    · rw [MailNameL_no hv]; simp
    · obtain ⟨sn, rfl⟩ : ∃ n : Nat, st = n := ⟨st.toNat, by omega⟩
      have := (name_len (u := un) (s := sn) (f := f) ⟨by omega, by omega, by omega, hf⟩).2
      omega
  have HRM := Sec.mk (readMailImpl_calls (MailNameL un st f) hml HL6.out.1)
  by_cases hv : un = 0 ∨ st < 0 ∨ 1000000000000 < st
  · rw [MailNameL_no hv] at HRM ⊢
    rw [RMN_nil] at HRM
    simp only [MailedV] at HRM
    go_wp2_with fail
    refine HRM.out.mono ?_
    rintro e w7 ⟨rfl, hm7⟩
    have HM7 := Sec.mk ((HM6.out.transN hm7).alloc (.cells #[.bool false, .int .u32 0, .int .i64 0, .int .u32 0] 33))
    clear hm7
    by_cases h1 : un = 0
    · have h1i : (un : Int) = 0 := by omega
      have h1b : ((un : Int) == 0) = true := by simp [h1]
      go_wp2
      go_ret
      exact ⟨rfl, HM7.out⟩
    · have h1i : ¬ (un : Int) = 0 := by omega
      have h1b : ((un : Int) == 0) = false := by simp only [beq_eq_false_iff_ne, ne_eq]; exact h1i
      by_cases h2 : st < 0
      · go_wp2
        go_ret
        exact ⟨rfl, HM7.out⟩
      · have h3 : 1000000000000 < st := by omega
        go_wp2
        go_ret
        exact ⟨rfl, HM7.out⟩
  · obtain ⟨sn, rfl⟩ : ∃ n : Nat, st = n := ⟨st.toNat, by omega⟩
    rw [RMN_some (u := un) (s := sn) (f := f) ⟨by omega, by omega, by omega, hf⟩ rfl] at HRM
    simp only [MailedV] at HRM
    generalize MailNameL un (sn : Int) f = mn at *
    have h1i : ¬ (un : Int) = 0 := by omega
    have h1b : ((un : Int) == 0) = false := by simp only [beq_eq_false_iff_ne, ne_eq]; exact h1i
    have h2 : ¬ (sn : Int) < 0 := by omega
    have h3 : ¬ (1000000000000 : Int) < (sn : Int) := by omega
    clear hv h1i hu0 hu1 hxm hlong hml
    go_wp2_with fail
    refine HRM.out.mono ?_
    rintro e w7 ⟨rfl, hm7⟩
    have HM7 := Sec.mk ((HM6.out.transN hm7).alloc (.cells #[.bool true, .int .u32 (un : Int), .int .i64 (sn : Int), .int .u32 (f : Int)] 33))
    clear hm7
    go_wp2
    go_ret
    exact ⟨by simp, HM7.out⟩
end Go.Proofs.YtbkccffpipcjeaaDoor
