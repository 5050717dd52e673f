/- The laws' own helpers over bytes: toByteS copies, eqByteS compares. -/
import Derived.Test.YtciiejkfppnimaaProg
import Derived.Test.YtciiejkfppnimaaMem
import Derived.KernelRfl
import Derived.BigQuiet
import Derived.Deep.QuietTactic
import Derived.Deep.LoopGhost
namespace Go.Proofs.Ytciiejkfppnimaa
open Go.RowKit Mem
set_option linter.unusedVariables false

theorem elt_byte : Elt Try.prog 5 1 (.int .u8 0) := Elt.of (b := 1) (by kernel_rfl) rfl (by decide) (by decide)

theorem set_prefix {α : Type} (xs ys : List α) (k : Nat) (hk : k < xs.length) (hl : ys.length = xs.length) (h : ys.take k = xs.take k) : (ys.set k xs[k]).take (k + 1) = xs.take (k + 1) := by
  rw [List.take_succ_eq_append_getElem (by rw [List.length_set]; omega), List.take_succ_eq_append_getElem hk, List.take_set_of_le (Nat.le_refl _), h]
  simp

set_option maxHeartbeats 400000 in
theorem toByteS_calls {A : Option Addr} {c : Nat} {xs : Bytes} {B : Nat → Prop} {w : World} (h : Row Ty.byte w B A xs.length xs) (hB : ∀ k, B k → k < w.heap.size) (hl : xs.length ≤ 34359738368) :
    Calls Try.prog 13 #[.slice A xs.length c] w (RetOwn Ty.byte 5 w xs) := by
  have HR := Sec.mk h
  clear h
  go_enter Try.func13, Try.ntmps13
  go_wp2_with (refine wpList_make _ rfl (.tmp 6) _ rfl Ty.byte 5 Try.underlying22 elt_byte 0 (fun _ => ⟨rfl, rfl⟩) xs.length rfl hl ?_; intro w1 ho1 hm1; have HO1 := Sec.mk ho1; have HM1 := Sec.mk hm1; clear ho1 hm1)
  go_loopw [4] (fun i wr => ∃ (k : Nat) (ys : Bytes) (F : List Nat), k ≤ xs.length ∧ i = .int .i64 k ∧ Sec (ys.length = xs.length) ∧ Sec (ys.take k = xs.take k) ∧ Sec (Own Ty.byte 5 wr F (.slice (some ⟨w.heap.size, 0, none⟩) xs.length xs.length) ys) ∧ Sec (∀ k, k ∈ F → w.heap.size ≤ k) ∧ Sec (New w wr)) (fun i _ => xs.length - (intOf i).toNat)
  case atStart => exact ⟨0, _, _, Nat.zero_le _, rfl, Sec.mk (by simp), Sec.mk (by simp), HO1, Sec.mk (by simp), HM1⟩
  case round =>
    obtain ⟨k, ys, F, hk, rfl, HL, HT, HO, HF, HM⟩ := hrel
    clear HO1 HM1
    by_cases hlt : k < xs.length
    · obtain ⟨ad, rfl, hx⟩ := HR.out.byte_at (fun i hi => HM.out.block i (hB i hi) id) hlt
      obtain ⟨g, hA, hgF, hc0, hfz0, hst⟩ := HO.out.byte_elem (j := k) (by rw [HL.out]; exact hlt)
      have hA' : w.heap.size = g := by injection hA with hA; injection hA
      subst hA'
      obtain ⟨F', ho', hF'⟩ := hst xs[k]
      have HO' := Sec.mk ho'
      have HF' := Sec.mk hF'
      clear hA hgF hst ho' hF'
      go_wp2
      go_roundw
      case rel => exact ⟨k + 1, _, F', by omega, by go_num, Sec.mk (by rw [List.length_set]; exact HL.out), Sec.mk (set_prefix xs ys k hlt HL.out HT.out), HO', Sec.mk (fun i hi => HF.out i (HF'.out i hi)), Sec.mk (HM.out.setCell (fun h => absurd h (Nat.lt_irrefl _)) _)⟩
      case measure => simp [intOf]; omega
    · go_wp2
      go_ret
      have he : ys = xs := by
        have h1 := HT.out
        rw [List.take_of_length_le (by rw [HL.out]; omega), List.take_of_length_le (by omega)] at h1
        exact h1
      subst he
      exact RetOwn.of HO.out HF.out HM.out
set_option maxHeartbeats 400000 in
theorem eqByteS_calls {A A' : Option Addr} {c c' : Nat} {xs ys : Bytes} {B : Nat → Prop} {w : World} (h : Row Ty.byte w B A xs.length xs) (h' : Row Ty.byte w B A' ys.length ys) (hB : ∀ k, B k → k < w.heap.size) :
    Calls Try.prog 16 #[.slice A xs.length c, .slice A' ys.length c'] w (Ret (.bool (decide (xs = ys))) w) := by
  have hl := h.2.1
  have HR := Sec.mk h
  have HR' := Sec.mk h'
  clear h h'
  by_cases hne : xs.length = ys.length
  · have hnb : ((xs.length : Int) != (ys.length : Int)) = false := by simp [hne]
    go_enter Try.func16, Try.ntmps16
    go_wp2
    go_loopw [5] (fun i wr => ∃ k : Nat, k ≤ xs.length ∧ i = .int .i64 k ∧ Sec (xs.take k = ys.take k) ∧ Sec (New w wr)) (fun i _ => xs.length - (intOf i).toNat)
    case atStart => exact ⟨0, Nat.zero_le _, rfl, Sec.mk (by simp), Sec.mk (Mod.refl _ _)⟩
    case round =>
      obtain ⟨k, hk, rfl, HT, HM⟩ := hrel
      by_cases hlt : k < xs.length
      · obtain ⟨ad, rfl, hx⟩ := HR.out.byte_at (fun i hi => HM.out.block i (hB i hi) id) hlt
        obtain ⟨ad', rfl, hx'⟩ := HR'.out.byte_at (fun i hi => HM.out.block i (hB i hi) id) (k := k) (by omega)
        go_wp2
        go_quiet (fail)
        go_wp2
        · have hxy : xs[k] ≠ ys[k] := by
            intro he
            have hb : ((xs[k].toNat : Int) != (ys[k].toNat : Int)) = true := by assumption
            rw [he] at hb; simp at hb
          go_ret
          refine ⟨?_, HM.out.drewN _⟩
          have : xs ≠ ys := fun e => hxy (by subst e; rfl)
          simp [this]
        · have hxy : xs[k] = ys[k] := by
            have hb : ((xs[k].toNat : Int) != (ys[k].toNat : Int)) = false := by assumption
            have hb' : (xs[k].toNat : Int) = (ys[k].toNat : Int) := by simpa using hb
            exact UInt8.toNat_inj.1 (by omega)
          have HXY := Sec.mk hxy
          clear hxy
          go_roundw
          case rel => exact ⟨k + 1, by omega, by go_num, Sec.mk (by rw [List.take_succ_eq_append_getElem hlt, List.take_succ_eq_append_getElem (by omega), HT.out, HXY.out]), Sec.mk (HM.out.drewN _)⟩
          case measure => simp [intOf]; omega
      · go_wp2
        go_ret
        have he : xs = ys := by
          have h1 := HT.out
          rw [List.take_of_length_le (by omega), List.take_of_length_le (by omega)] at h1
          exact h1
        exact ⟨by simp [he], HM.out⟩
  · have hnb : ((xs.length : Int) != (ys.length : Int)) = true := by simp; omega
    go_enter Try.func16, Try.ntmps16
    go_wp2
    go_ret
    exact ⟨by simp [show xs ≠ ys from fun e => hne (by rw [e])], Mod.refl _ _⟩
end Go.Proofs.Ytciiejkfppnimaa
