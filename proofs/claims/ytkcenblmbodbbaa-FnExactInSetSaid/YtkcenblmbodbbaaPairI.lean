/- InSet of the program. -/
import Derived.Test.YtkcenblmbodbbaaPair
namespace Go.Proofs.Ytkcenblmbodbbaa
open Go.RowKit Mem
set_option linter.unusedVariables false

set_option maxHeartbeats 1000000 in
set_option maxRecDepth 100000 in
theorem inSetImpl_calls {A : Option Addr} {c : Nat} {xs : List (Int × Int)} {B : Nat → Prop} {w : World} (h : Row tPair w B A xs.length xs) (hB : ∀ k, B k → k < w.heap.size) (n mx : Int) (hn0 : 0 ≤ n) (hn1 : n < 4294967296) (hm0 : 0 ≤ mx) (hm1 : mx < 4294967296) :
    Calls Try.prog 27 #[.slice A xs.length c, .int .u32 n, .int .u32 mx] w (Ret (.bool (xs.any (inOne n mx))) w) := by
  have hl := h.2.1
  have HR := Sec.mk h
  clear h
  by_cases hnz : n = 0
  · subst hnz
    have HZ := Sec.mk (any_zero mx xs)
    go_enter Try.func27, Try.ntmps27
    go_wp2
    go_loopw [11] (fun i wr => ∃ k : Nat, k ≤ xs.length ∧ i = .int .i64 k ∧ Sec (New w wr)) (fun i _ => xs.length - (intOf i).toNat)
    case atStart => exact ⟨0, Nat.zero_le _, rfl, ⟨Mod.refl _ _⟩⟩
    case round =>
      obtain ⟨k, hk, rfl, HM⟩ := hrel
      by_cases hlt : k < xs.length
      · obtain ⟨ad, rfl, hx0, hx1, b0, b1, b2, b3⟩ := pair_at HR.out (fun i hi => HM.out.block i (hB i hi) id) hlt
        generalize xs[k] = p at *
        obtain ⟨p1, p2⟩ := p
        simp only at hx0 hx1 b0 b1 b2 b3
        by_cases hp1 : p1 = 0 <;> by_cases hp2 : p2 = 0
        all_goals
          (try subst hp1)
          (try subst hp2)
          (try (have hp1b : (p1 == 0) = false := by simpa using hp1))
          (try (have hp2b : (p2 == 0) = false := by simpa using hp2))
          (try clear hp1)
          (try clear hp2)
          go_wp2
          go_roundw
          case rel => exact ⟨k + 1, by omega, by go_num, ⟨by repeat (first | exact HM.out | apply Mod.setCell | apply Mod.alloc | (intro h; simp at h))⟩⟩
          case measure => simp [intOf]; omega
      · obtain rfl : k = xs.length := by omega
        go_wp2
        go_ret
        exact ⟨by rw [HZ.out]; simp, HM.out⟩
  · have hnb : (n != 0) = true := by simpa using hnz
    go_enter Try.func27, Try.ntmps27
    go_wp2
    go_loopw [11] (fun i wr => ∃ k : Nat, k ≤ xs.length ∧ i = .int .i64 k ∧ Sec ((xs.take k).any (inOne n mx) = false) ∧ Sec (New w wr)) (fun i _ => xs.length - (intOf i).toNat)
    case atStart => exact ⟨0, Nat.zero_le _, rfl, ⟨by simp⟩, ⟨Mod.refl _ _⟩⟩
    case round =>
      obtain ⟨k, hk, rfl, HT, HM⟩ := hrel
      by_cases hlt : k < xs.length
      · obtain ⟨ad, rfl, hx0, hx1, b0, b1, b2, b3⟩ := pair_at HR.out (fun i hi => HM.out.block i (hB i hi) id) hlt
        have HTS := Sec.mk (List.take_succ_eq_append_getElem hlt)
        have HXM : Sec (inOne n mx xs[k] = true → xs.any (inOne n mx) = true) := ⟨fun h => List.any_eq_true.2 ⟨xs[k], List.getElem_mem _, h⟩⟩
        generalize xs[k] = p at *
        obtain ⟨p1, p2⟩ := p
        have HIFF := Sec.mk (inOne_iff n mx p1 p2 hnz)
        simp only at hx0 hx1 b0 b1 b2 b3
        by_cases hp1 : p1 = 0 <;> by_cases hp2 : p2 = 0
        all_goals
          (first | (have H1 := Sec.mk (HIFF.out.trans (by rw [if_pos hp1, if_pos hp2]))) | (have H1 := Sec.mk (HIFF.out.trans (by rw [if_pos hp1, if_neg hp2]))) | (have H1 := Sec.mk (HIFF.out.trans (by rw [if_neg hp1, if_pos hp2]))) | (have H1 := Sec.mk (HIFF.out.trans (by rw [if_neg hp1, if_neg hp2]))))
          clear HIFF
          (try subst hp1)
          (try subst hp2)
          (try (have hp1b : (p1 == 0) = false := by simpa using hp1))
          (try (have hp2b : (p2 == 0) = false := by simpa using hp2))
          (try clear hp1)
          (try clear hp2)
          go_wp2
          all_goals first
            | (go_ret; exact ⟨by rw [HXM.out (H1.out.2 (by omega))]; simp, by repeat (first | exact HM.out | apply Mod.setCell | apply Mod.alloc | (intro h; simp at h))⟩)
            | (go_roundw
               case rel => exact ⟨k + 1, by omega, by go_num, ⟨any_snoc HTS.out HT.out (fun h => by have := H1.out.1 h; omega)⟩, ⟨by repeat (first | exact HM.out | apply Mod.setCell | apply Mod.alloc | (intro h; simp at h))⟩⟩
               case measure => simp [intOf]; omega)
      · obtain rfl : k = xs.length := by omega
        have HZ : Sec (xs.any (inOne n mx) = false) := ⟨by have := HT.out; rwa [List.take_length] at this⟩
        go_wp2
        go_ret
        exact ⟨by rw [HZ.out]; simp, HM.out⟩
end Go.Proofs.Ytkcenblmbodbbaa
