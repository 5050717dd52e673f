/- The laws' marks over bytes: markByteS writes them, heldByteS finds them. -/
import Derived.Test.YtciiejkfppnimaaBytes
namespace Go.Proofs.Ytciiejkfppnimaa
open Go.RowKit Mem
set_option linter.unusedVariables false

def mkB (k n : Nat) : Bytes := (List.range n).map fun i => UInt8.ofNat (k + i)
theorem mkB_len (k n : Nat) : (mkB k n).length = n := by simp [mkB]
theorem mkB_at (k n i : Nat) (h : i < (mkB k n).length) : (mkB k n)[i] = UInt8.ofNat (k + i) := by simp [mkB]
theorem set_len {α : Type} (l : List α) (i : Nat) (x : α) : (l.set i x).length = l.length := List.length_set
theorem u8_of (m : Nat) : ((UInt8.ofNat m).toNat : Int) = IntKind.u8.wrap (m : Int) := by
  rw [IntKind.wrap_u8, UInt8.toNat_ofNat']; omega

set_option maxHeartbeats 400000 in
theorem markByteS_calls {A : Option Addr} {c : Nat} {xs : Bytes} {F : List Nat} {w : World} (h : Own Ty.byte 5 w F (.slice A xs.length c) xs) (k : Nat) (hk : k + xs.length ≤ 1152921504606846976) :
    Calls Try.prog 17 #[.slice A xs.length c, .int .i64 k] w fun e w' => e = .returned (.int .i64 ((k + xs.length : Nat) : Int)) ∧ ∃ F', Own Ty.byte 5 w' F' (.slice A (mkB k xs.length).length c) (mkB k xs.length) ∧ (∀ i, i ∈ F' → i ∈ F) ∧ Mod (· ∈ F) w w' := by
  have HO := Sec.mk h
  clear h
  go_enter Try.func17, Try.ntmps17
  go_wp2
  go_loopw [1, 5] (fun q i wr => ∃ (j : Nat) (ys : Bytes) (G : List Nat), j ≤ xs.length ∧ i = .int .i64 j ∧ q = .int .i64 ((k + j : Nat) : Int) ∧ Sec (ys.length = xs.length) ∧ Sec (ys.take j = (mkB k xs.length).take j) ∧ Sec (Own Ty.byte 5 wr G (.slice A xs.length c) ys) ∧ Sec (∀ k, k ∈ G → k ∈ F) ∧ Sec (Mod (· ∈ F) w wr)) (fun _ i _ => xs.length - (intOf i).toNat)
  case atStart => exact ⟨0, xs, F, Nat.zero_le _, rfl, rfl, ⟨rfl⟩, ⟨by simp⟩, HO, ⟨fun _ h => h⟩, ⟨Mod.refl _ _⟩⟩
  case round =>
    obtain ⟨j, ys, G, hj, rfl, rfl, HL, HT, HO, HF, HM⟩ := hrel
    by_cases hlt : j < xs.length
    · obtain ⟨g, rfl, hgF, hc0, hfz0, hst⟩ := HO.out.byte_elem (j := j) (by rw [HL.out]; exact hlt)
      obtain ⟨G', ho', hG'⟩ := hst (UInt8.ofNat (k + j))
      have HU := Sec.mk (u8_of (k + j))
      have HO' := Sec.mk ho'
      have HG' := Sec.mk hG'
      have HgF := Sec.mk hgF
      clear hst ho' hG' hgF
      go_wp2
      go_roundw
      case rel =>
        refine ⟨j + 1, _, G', by omega, by go_num, by go_num, ⟨(set_len ys j (UInt8.ofNat (k + j))).trans HL.out⟩, ⟨?_⟩, ⟨?_⟩, ⟨fun i hi => HF.out i (HG'.out i hi)⟩, ⟨?_⟩⟩
        · have := set_prefix (mkB k xs.length) ys j (by rw [mkB_len]; exact hlt) (by rw [mkB_len]; exact HL.out) HT.out
          rwa [mkB_at] at this
        · have := HO'.out
          rw [HU.out, IntKind.wrap_u8, Int.natCast_add] at this
          exact this
        · exact HM.out.setCell (fun _ => HF.out _ HgF.out) _
      case measure => simp [intOf]; omega
    · obtain rfl : j = xs.length := by omega
      go_wp2
      go_ret
      have he : ys = mkB k xs.length := by
        have h1 := HT.out
        rw [List.take_of_length_le (by rw [HL.out]; omega), List.take_of_length_le (by rw [mkB_len]; omega)] at h1
        exact h1
      refine ⟨by simp, G, ?_, HF.out, HM.out⟩
      rw [mkB_len, ← he]
      exact HO.out

set_option maxHeartbeats 400000 in
theorem heldByteS_calls {A : Option Addr} {c : Nat} {xs : Bytes} {B : Nat → Prop} {w : World} (h : Row Ty.byte w B A xs.length xs) (k : Nat) (hx : xs = mkB k xs.length) (hk : k + xs.length ≤ 1152921504606846976) :
    Calls Try.prog 38 #[.slice A xs.length c, .int .i64 k] w (Ret (.int .i64 ((k + xs.length : Nat) : Int)) w) := by
  have HR := Sec.mk h
  have HX := Sec.mk hx
  clear h hx
  go_enter Try.func38, Try.ntmps38
  go_wp2
  go_loopw [1, 5] (fun q i wr => ∃ (j : Nat), j ≤ xs.length ∧ i = .int .i64 j ∧ q = .int .i64 ((k + j : Nat) : Int) ∧ wr = w) (fun _ i _ => xs.length - (intOf i).toNat)
  case atStart => exact ⟨0, Nat.zero_le _, rfl, rfl, rfl⟩
  case round =>
    obtain ⟨j, hj, rfl, rfl, rfl⟩ := hrel
    by_cases hlt : j < xs.length
    · obtain ⟨ad, rfl, hx⟩ := HR.out.byte_at (fun i hi => rfl) hlt
      have hv : xs[j] = UInt8.ofNat (k + j) := by
        have := mkB_at k xs.length j (by rw [mkB_len]; exact hlt)
        rw [← this]; congr 1; exact HX.out
      rw [hv, u8_of] at hx
      clear hv
      go_wp2
      go_roundw
      case rel => exact ⟨j + 1, by omega, by go_num, by go_num, trivial⟩
      case measure => simp [intOf]; omega
    · obtain rfl : j = xs.length := by omega
      go_wp2
      go_ret
      exact ⟨by simp, Mod.refl _ _⟩
end Go.Proofs.Ytciiejkfppnimaa
