/- Strings: read at a place, joined, cut; rows of strings. Numbers of both sides: digits read. Where a line ends, and the literal at its end, of the specification. -/
import Derived.Test.YtciiejkfppnimaaPk1
import Derived.Test.YtciiejkfppnimaaPk2
import Derived.Test.YtciiejkfppnimaaProg
import Derived.WalkKit
namespace Go.Proofs.Ytciiejkfppnimaa
open Go.RowKit Mem
set_option linter.unusedVariables false
theorem strIdx_run (xs : Bytes) (k : Nat) (h : k < xs.length) (w : World) : (Instr.index 9 (.string ⟨xs.toArray⟩) (.int .i64 (k : Int))).run Try.prog w = .ok (.int .u8 (xs[k].toNat : Int)) w := by
  have h0 : (0 : Int) ≤ (k : Int) := by omega
  have h1 : (k : Int) < (xs.length : Int) := by omega
  have hsz : (⟨xs.toArray⟩ : ByteArray).size = xs.length := by simp [ByteArray.size]
  have hg : (⟨xs.toArray⟩ : ByteArray).get! k = xs[k] := by simp [ByteArray.get!, h]
  go_simp
  show ((xs.toArray[k]'(by simpa using h)).toNat : Int) = _
  simp
theorem ba_app (xs ys : Bytes) : (⟨xs.toArray⟩ : ByteArray) ++ ⟨ys.toArray⟩ = ⟨(xs ++ ys).toArray⟩ := ByteArray.ext (by rw [ByteArray.data_append]; simp)
theorem elt_str : Elt Try.prog 9 Ty.string.sz (.string ⟨#[]⟩) := Elt.of (b := 16) (by kernel_rfl) rfl (by decide) (by decide)
def toS (xs : Bytes) : ByteArray := ⟨xs.toArray⟩
theorem row_str (w : World) (e : TypeId) (s : ByteArray) : Row Ty.string (w.alloc (.cells #[.string s] e)) (· = w.heap.size) (some ⟨w.heap.size, 0, none⟩) 1 [s] := by
  refine ⟨rfl, by omega, fun _ => ⟨_, rfl, rfl, fun j x hj => ?_⟩⟩
  have hj0 : j = 0 := by have := (List.getElem?_eq_some_iff.1 hj).1; simp at this; exact this
  subst hj0
  have hx : x = s := by simpa using hj.symm
  subst hx
  refine ⟨[.string x], rfl, fun i u hu => ?_⟩
  rw [show 0 * Ty.string.sz + i = i by omega, add_own, cell_of_row _ _ i _ e (0, 0) (heap_alloc_new w _)]
  simpa using hu
theorem ba_ext (xs : Bytes) (i j : Nat) : (⟨xs.toArray⟩ : ByteArray).extract i j = ⟨((xs.take j).drop i).toArray⟩ := by
  apply ByteArray.ext
  rw [ByteArray.data_extract]
  simp [List.drop_take]
theorem row_of_strings (w : World) (e : TypeId) (ss : List ByteArray) (h : ss.length ≤ 9223372036854775807) : Row Ty.string (w.alloc (.cells (ss.map Value.string).toArray e)) (· = w.heap.size) (some ⟨w.heap.size, 0, none⟩) ss.length ss := by
  refine ⟨rfl, h, fun _ => ⟨_, rfl, rfl, fun j x hj => ⟨[.string x], rfl, fun i u hu => ?_⟩⟩⟩
  have hi : i = 0 := by have := (List.getElem?_eq_some_iff.1 hu).1; simpa using this
  subst hi
  rw [show j * Ty.string.sz + 0 = j from Nat.mul_one j, add_own, cell_of_row _ _ j _ e (0, 0) (heap_alloc_new w _)]
  rw [List.getElem?_toArray, List.getElem?_map, hj]
  simpa using hu
end Go.Proofs.Ytciiejkfppnimaa

namespace Go.Proofs.Ytciiejkfppnimaa
open Go.RowKit Mem
set_option linter.unusedVariables false

set_option maxHeartbeats 1000000 in
set_option maxRecDepth 100000 in
theorem decimal_calls (m : Nat) (hm : m ≤ 18) (xs : Bytes) (hx : xs.length ≤ 34359738368) (w : World) : Calls Try.prog 51 #[.string ⟨xs.toArray⟩, .int .i64 (m : Int)] w (Ret (.tuple #[.int .i64 ((decL m xs).1 : Int), .bool (decL m xs).2]) w) := by
  have hsz : (⟨xs.toArray⟩ : ByteArray).size = xs.length := by simp [ByteArray.size]
  have HD : Sec (decL m xs = if 1 ≤ xs.length ∧ xs.length ≤ m ∧ ¬ (xs[0]? = some 48 ∧ 1 < xs.length) ∧ ∀ b, b ∈ xs → digB b then (valL xs, true) else (0, false)) := ⟨rfl⟩
  by_cases h1 : xs.length < 1
  · have h1i : (xs.length : Int) < 1 := by omega
    have HE : Sec (decL m xs = (0, false)) := ⟨by rw [HD.out, if_neg (by omega)]⟩
    go_enter Try.func51, Try.ntmps51
    go_wp2
    go_ret2
    rw [HE.out]
    exact ⟨rfl, Mod.refl _ _⟩
  have h1i : ¬ (xs.length : Int) < 1 := by omega
  by_cases h2 : m < xs.length
  · have h2i : (m : Int) < (xs.length : Int) := by omega
    have HE : Sec (decL m xs = (0, false)) := ⟨by rw [HD.out, if_neg (by omega)]⟩
    go_enter Try.func51, Try.ntmps51
    go_wp2
    go_ret2
    rw [HE.out]
    exact ⟨rfl, Mod.refl _ _⟩
  have h2i : ¬ (m : Int) < (xs.length : Int) := by omega
  have hg0 := strIdx_run xs 0 (by omega)
  simp only [Int.ofNat_zero] at hg0
  have E0 : Sec (xs[0]? = some xs[0]) := ⟨List.getElem?_eq_getElem _⟩
  generalize xs[0] = b0 at *
  by_cases hbad : b0 = 48 ∧ 1 < xs.length
  · obtain ⟨rfl, h3⟩ := hbad
    have h3i : (1 : Int) < (xs.length : Int) := by omega
    have HE : Sec (decL m xs = (0, false)) := ⟨by rw [HD.out, if_neg]; rintro ⟨_, _, h, _⟩; exact h ⟨E0.out, h3⟩⟩
    have hq0 : ((48 : UInt8).toNat : Int) = 48 := rfl
    rw [hq0] at hg0
    go_enter Try.func51, Try.ntmps51
    go_wp2
    go_ret2
    rw [HE.out]
    exact ⟨rfl, Mod.refl _ _⟩
  have HOK : Sec (¬ (xs[0]? = some 48 ∧ 1 < xs.length)) := ⟨fun h => hbad ⟨Option.some.inj (E0.out.symm.trans h.1), h.2⟩⟩
  have HNO : Sec (∀ j, (hj : j < xs.length) → ¬ digB xs[j] → decL m xs = (0, false)) := ⟨fun j hj h => by rw [HD.out, if_neg]; rintro ⟨_, _, _, hd⟩; exact h (hd _ (List.getElem_mem hj))⟩
  have HYES : Sec ((∀ j, (hj : j < xs.length) → j < xs.length → digB xs[j]) → decL m xs = (valL xs, true)) := ⟨fun h => by rw [HD.out, if_pos ⟨by omega, by omega, HOK.out, fun b hb => by obtain ⟨j, hj, rfl⟩ := List.getElem_of_mem hb; exact h j hj hj⟩]⟩
  have HLT := Sec.mk (valL_lt xs)
  clear E0 HD HOK
  rcases (show (b0 = 48 ∧ xs.length = 1) ∨ b0 ≠ 48 by by_cases h : b0 = 48; exact .inl ⟨h, by have : ¬ (1 < xs.length) := fun h' => hbad ⟨h, h'⟩; omega⟩; exact .inr h) with ⟨rfl, h3⟩ | h3
  · have h3i : ¬ (1 : Int) < (xs.length : Int) := by omega
    have hq0 : ((48 : UInt8).toNat : Int) = 48 := rfl
    rw [hq0] at hg0
    clear hbad
    go_enter Try.func51, Try.ntmps51
    go_wp2
    go_loopw [6, 29] (fun n i wr => ∃ k : Nat, k ≤ xs.length ∧ i = .int .i64 (k : Int) ∧ n = .int .i64 ((valL (xs.take k) : Nat) : Int) ∧ Sec (∀ j, (hj : j < xs.length) → j < k → digB xs[j]) ∧ Sec (New w wr)) (fun _ i _ => xs.length - (intOf i).toNat)
    case atStart => exact ⟨0, Nat.zero_le _, rfl, rfl, ⟨fun j _ h => absurd h (Nat.not_lt_zero _)⟩, ⟨Mod.refl _ _⟩⟩
    case round =>
      obtain ⟨k, hk, rfl, rfl, HA, HM⟩ := hrel
      clear hg0
      by_cases hlt : k < xs.length
      · have hki : (k : Int) < (xs.length : Int) := by omega
        have hgx := strIdx_run xs k hlt
        have hv := Nat.lt_of_lt_of_le (HLT.out k hk HA.out) (pow_le18 (k := k) (by omega))
        have HVT := Sec.mk (valL_take xs hlt)
        have HNK := Sec.mk (HNO.out k hlt)
        have HA2 : Sec (digB xs[k] → ∀ j, (hj : j < xs.length) → j < k + 1 → digB xs[j]) := ⟨fun h j hj hjk => by rcases Nat.lt_succ_iff_lt_or_eq.1 hjk with h' | rfl; exact HA.out j hj h'; exact h⟩
        have hb := UInt8.toNat_lt xs[k]
        generalize xs[k] = b at *
        generalize valL (xs.take k) = v at *
        by_cases ha : b.toNat < 48
        · have hai : (b.toNat : Int) < 48 := by omega
          have HE := Sec.mk (HNK.out (fun h => by have := h.1; omega))
          go_wp2
          go_ret2
          rw [HE.out]
          exact ⟨rfl, HM.out⟩
        have hai : ¬ (b.toNat : Int) < 48 := by omega
        by_cases hc : 57 < b.toNat
        · have hci : (57 : Int) < (b.toNat : Int) := by omega
          have HE := Sec.mk (HNK.out (fun h => by have := h.2; omega))
          go_wp2
          go_ret2
          rw [HE.out]
          exact ⟨rfl, HM.out⟩
        have hci : ¬ (57 : Int) < (b.toNat : Int) := by omega
        have HA3 := Sec.mk (HA2.out ⟨by omega, by omega⟩)
        go_wp2
        go_roundw
        case rel => exact ⟨k + 1, by omega, by go_num, by rw [HVT.out]; go_num, HA3, HM⟩
        case measure => simp [intOf]; omega
      · obtain rfl : k = xs.length := by omega
        have HE := Sec.mk (HYES.out HA.out)
        rw [List.take_length]
        go_wp2
        go_ret2
        rw [HE.out]
        exact ⟨rfl, HM.out⟩
  · have h3i : ¬ ((b0.toNat : Int) = 48) := fun h => h3 (UInt8.toNat.inj (by show b0.toNat = 48; omega))
    clear h3 hbad
    go_enter Try.func51, Try.ntmps51
    go_wp2
    go_loopw [6, 29] (fun n i wr => ∃ k : Nat, k ≤ xs.length ∧ i = .int .i64 (k : Int) ∧ n = .int .i64 ((valL (xs.take k) : Nat) : Int) ∧ Sec (∀ j, (hj : j < xs.length) → j < k → digB xs[j]) ∧ Sec (New w wr)) (fun _ i _ => xs.length - (intOf i).toNat)
    case atStart => exact ⟨0, Nat.zero_le _, rfl, rfl, ⟨fun j _ h => absurd h (Nat.not_lt_zero _)⟩, ⟨Mod.refl _ _⟩⟩
    case round =>
      obtain ⟨k, hk, rfl, rfl, HA, HM⟩ := hrel
      clear hg0
      by_cases hlt : k < xs.length
      · have hki : (k : Int) < (xs.length : Int) := by omega
        have hgx := strIdx_run xs k hlt
        have hv := Nat.lt_of_lt_of_le (HLT.out k hk HA.out) (pow_le18 (k := k) (by omega))
        have HVT := Sec.mk (valL_take xs hlt)
        have HNK := Sec.mk (HNO.out k hlt)
        have HA2 : Sec (digB xs[k] → ∀ j, (hj : j < xs.length) → j < k + 1 → digB xs[j]) := ⟨fun h j hj hjk => by rcases Nat.lt_succ_iff_lt_or_eq.1 hjk with h' | rfl; exact HA.out j hj h'; exact h⟩
        have hb := UInt8.toNat_lt xs[k]
        generalize xs[k] = b at *
        generalize valL (xs.take k) = v at *
        by_cases ha : b.toNat < 48
        · have hai : (b.toNat : Int) < 48 := by omega
          have HE := Sec.mk (HNK.out (fun h => by have := h.1; omega))
          go_wp2
          go_ret2
          rw [HE.out]
          exact ⟨rfl, HM.out⟩
        have hai : ¬ (b.toNat : Int) < 48 := by omega
        by_cases hc : 57 < b.toNat
        · have hci : (57 : Int) < (b.toNat : Int) := by omega
          have HE := Sec.mk (HNK.out (fun h => by have := h.2; omega))
          go_wp2
          go_ret2
          rw [HE.out]
          exact ⟨rfl, HM.out⟩
        have hci : ¬ (57 : Int) < (b.toNat : Int) := by omega
        have HA3 := Sec.mk (HA2.out ⟨by omega, by omega⟩)
        go_wp2
        go_roundw
        case rel => exact ⟨k + 1, by omega, by go_num, by rw [HVT.out]; go_num, HA3, HM⟩
        case measure => simp [intOf]; omega
      · obtain rfl : k = xs.length := by omega
        have HE := Sec.mk (HYES.out HA.out)
        rw [List.take_length]
        go_wp2
        go_ret2
        rw [HE.out]
        exact ⟨rfl, HM.out⟩


set_option maxHeartbeats 1000000 in
set_option maxRecDepth 100000 in
theorem l4Number_calls (xs : Bytes) (hx : xs.length ≤ 34359738368) (w : World) : Calls Try.prog 59 #[.string ⟨xs.toArray⟩] w (Ret (.tuple #[.int .i64 ((numL xs).1 : Int), .bool (numL xs).2]) w) := by
  have hsz : (⟨xs.toArray⟩ : ByteArray).size = xs.length := by simp [ByteArray.size]
  have HD : Sec (numL xs = if 1 ≤ xs.length ∧ xs.length ≤ 13 ∧ ∀ b, b ∈ xs → digB b then (valL xs, decide (Lib.decDigits (valL xs) = xs)) else (0, false)) := ⟨rfl⟩
  by_cases h1 : xs.length < 1
  · have h1i : (xs.length : Int) < 1 := by omega
    have HE : Sec (numL xs = (0, false)) := ⟨by rw [HD.out, if_neg (by omega)]⟩
    go_enter Try.func59, Try.ntmps59
    go_wp2
    go_ret2
    rw [HE.out]
    exact ⟨rfl, Mod.refl _ _⟩
  have h1i : ¬ (xs.length : Int) < 1 := by omega
  by_cases h2 : 13 < xs.length
  · have h2i : (13 : Int) < (xs.length : Int) := by omega
    have HE : Sec (numL xs = (0, false)) := ⟨by rw [HD.out, if_neg (by omega)]⟩
    go_enter Try.func59, Try.ntmps59
    go_wp2
    go_ret2
    rw [HE.out]
    exact ⟨rfl, Mod.refl _ _⟩
  have h2i : ¬ (13 : Int) < (xs.length : Int) := by omega
  have HNO : Sec (∀ j, (hj : j < xs.length) → ¬ digB xs[j] → numL xs = (0, false)) := ⟨fun j hj h => by rw [HD.out, if_neg]; rintro ⟨_, _, hd⟩; exact h (hd _ (List.getElem_mem hj))⟩
  have HYES : Sec ((∀ j, (hj : j < xs.length) → j < xs.length → digB xs[j]) → numL xs = (valL xs, decide (Lib.decDigits (valL xs) = xs))) := ⟨fun h => by rw [HD.out, if_pos ⟨by omega, by omega, fun b hb => by obtain ⟨j, hj, rfl⟩ := List.getElem_of_mem hb; exact h j hj hj⟩]⟩
  have HLT := Sec.mk (valL_lt xs)
  clear HD
  go_enter Try.func59, Try.ntmps59
  go_wp2
  go_loopw [4, 5] (fun n i wr => ∃ k : Nat, k ≤ xs.length ∧ i = .int .i64 (k : Int) ∧ n = .int .i64 ((valL (xs.take k) : Nat) : Int) ∧ Sec (∀ j, (hj : j < xs.length) → j < k → digB xs[j]) ∧ Sec (New w wr)) (fun _ i _ => xs.length - (intOf i).toNat)
  case atStart => exact ⟨0, Nat.zero_le _, rfl, rfl, ⟨fun j _ h => absurd h (Nat.not_lt_zero _)⟩, ⟨Mod.refl _ _⟩⟩
  case round =>
    obtain ⟨k, hk, rfl, rfl, HA, HM⟩ := hrel
    by_cases hlt : k < xs.length
    · have hki : (k : Int) < (xs.length : Int) := by omega
      have hgx := strIdx_run xs k hlt
      have hv := Nat.lt_of_lt_of_le (HLT.out k hk HA.out) (pow_le18 (k := k) (by omega))
      have HVT := Sec.mk (valL_take xs hlt)
      have HNK := Sec.mk (HNO.out k hlt)
      have HA2 : Sec (digB xs[k] → ∀ j, (hj : j < xs.length) → j < k + 1 → digB xs[j]) := ⟨fun h j hj hjk => by rcases Nat.lt_succ_iff_lt_or_eq.1 hjk with h' | rfl; exact HA.out j hj h'; exact h⟩
      have hb := UInt8.toNat_lt xs[k]
      generalize xs[k] = b at *
      generalize valL (xs.take k) = v at *
      by_cases ha : b.toNat < 48
      · have hai : (b.toNat : Int) < 48 := by omega
        have HE := Sec.mk (HNK.out (fun h => by have := h.1; omega))
        go_wp2
        go_ret2
        rw [HE.out]
        exact ⟨rfl, HM.out⟩
      have hai : ¬ (b.toNat : Int) < 48 := by omega
      by_cases hc : 57 < b.toNat
      · have hci : (57 : Int) < (b.toNat : Int) := by omega
        have HE := Sec.mk (HNK.out (fun h => by have := h.2; omega))
        go_wp2
        go_ret2
        rw [HE.out]
        exact ⟨rfl, HM.out⟩
      have hci : ¬ (57 : Int) < (b.toNat : Int) := by omega
      have HA3 := Sec.mk (HA2.out ⟨by omega, by omega⟩)
      go_wp2
      go_roundw
      case rel => exact ⟨k + 1, by omega, by go_num, by rw [HVT.out]; go_num, HA3, HM⟩
      case measure => simp [intOf]; omega
    · obtain rfl : k = xs.length := by omega
      have HE := Sec.mk (HYES.out HA.out)
      have hv := HLT.out xs.length (Nat.le_refl _) HA.out
      have hp : (10 : Nat) ^ xs.length ≤ 10000000000000 := Nat.le_trans (Nat.pow_le_pow_right (by decide) (show xs.length ≤ 13 by omega)) (by decide)
      rw [List.take_length] at hv ⊢
      have HL := Sec.mk (fun w => l1Dec_calls (valL xs) (by omega) w)
      generalize valL xs = v at *
      go_wp2_with fail
      refine (HL.out _).mono ?_
      rintro e w2 ⟨rfl, hm2⟩
      have HM2 := Sec.mk (HM.out.transN hm2)
      clear hm2 HL
      by_cases hd : Lib.decDigits v = xs
      · have HE2 : Sec (numL xs = (v, true)) := ⟨by rw [HE.out]; simp [hd]⟩
        have hz : (Lib.decDigits v == xs) = true := by simp [hd]
        clear hd
        go_wp2
        go_ret2
        rw [HE2.out]
        exact ⟨by simp, HM2.out⟩
      · have HE2 : Sec (numL xs = (v, false)) := ⟨by rw [HE.out]; simp [hd]⟩
        have hz : (Lib.decDigits v == xs) = false := by simpa using hd
        clear hd
        go_wp2
        go_ret2
        rw [HE2.out]
        exact ⟨by simp, HM2.out⟩

end Go.Proofs.Ytciiejkfppnimaa

namespace Go.Proofs.Ytciiejkfppnimaa
open Go.RowKit Mem
set_option linter.unusedVariables false
set_option linter.unusedSimpArgs false
theorem u8_ne {z b : UInt8} {n : Int} (hn : (b.toNat : Int) = n) (h : z ≠ b) : ((z.toNat : Int) == n) = false := by
  simp only [beq_eq_false_iff_ne, ne_eq]; intro e; exact h (UInt8.toNat.inj (by omega))
theorem u8_neb {z b : UInt8} {n : Int} (hn : (b.toNat : Int) = n) (h : z ≠ b) : ((z.toNat : Int) != n) = true := by
  simp only [bne_iff_ne, ne_eq]; intro e; exact h (UInt8.toNat.inj (by omega))
set_option maxHeartbeats 1000000 in
set_option maxRecDepth 100000 in
theorem l6End_calls {A : Option Addr} {c : Nat} {b : Bytes} {B : Nat → Prop} {w : World} (h : Row Ty.byte w B A b.length b) (hl : b.length ≤ 1048576) : Calls Try.prog 44 #[.slice A b.length c, .int .i64 0] w (fun e w' => e = .returned (.int .i64 (endI b)) ∧ w' = w) := by
  have HR := Sec.mk h
  have HFI : Sec (∀ i : Nat, endAt b i → (∀ j, j < i → ¬ endAt b j) → endI b = i) := ⟨fun i h1 h2 => endI_first h1 h2⟩
  have HNO : Sec ((∀ j, ¬ endAt b j) → endI b = -1) := ⟨fun h => endI_none h⟩
  generalize endI b = r at *
  clear h
  go_enter Try.func44, Try.ntmps44
  go_wp2
  go_loopw [5] (fun i wr => ∃ k : Nat, k ≤ b.length ∧ i = .int .i64 (k : Int) ∧ Sec (∀ j, j < k → ¬ endAt b j) ∧ Sec (wr = w)) (fun i _ => b.length - (intOf i).toNat)
  case atStart => exact ⟨0, Nat.zero_le _, rfl, ⟨fun j hj => absurd hj (Nat.not_lt_zero _)⟩, ⟨rfl⟩⟩
  case round =>
    obtain ⟨k, hk, rfl, HN, HW⟩ := hrel
    obtain rfl : w = wr := HW.out.symm
    clear HW
    by_cases hlt : k + 1 < b.length
    · have hki : (k : Int) + 1 < (b.length : Int) := by omega
      have hkl : k < b.length := by omega
      have hki0 : (k : Int) < (b.length : Int) := by omega
      obtain ⟨ad, rfl, h0⟩ := HR.out.byte_at (w' := w) (fun _ _ => rfl) (k := k) hkl
      obtain ⟨ad', e', h1⟩ := HR.out.byte_at (w' := w) (fun _ _ => rfl) (k := k + 1) hlt
      obtain rfl : ad = ad' := Option.some.inj e'
      have HG0 : Sec (b[k]? = some b[k]) := ⟨List.getElem?_eq_getElem hkl⟩
      have HG1 : Sec (b[k + 1]? = some b[k + 1]) := ⟨List.getElem?_eq_getElem hlt⟩
      have HX : Sec (¬ endAt b k → ∀ j, j < k + 1 → ¬ endAt b j) := ⟨fun h j hj => (Nat.lt_or_ge j k).elim (fun h1 => HN.out j h1) (fun h1 => by rw [show j = k by omega]; exact h)⟩
      have hkt : ((k : Int) + 1).toNat = k + 1 := by omega
      have h1' : w.cell? ⟨ad.block, ad.off + (k + 1), none⟩ = some (.int .u8 (b[k + 1].toNat : Int)) := by simpa [Addr.add] using h1
      clear e' h1
      generalize b[k] = x at *
      generalize b[k + 1] = y at *
      by_cases hx : x = 13
      · subst hx
        by_cases hy : y = 10
        · subst hy
          have HE := Sec.mk (HFI.out k ⟨HG0.out, HG1.out⟩ HN.out)
          go_wp2
          go_ret
          exact ⟨by rw [HE.out]; rfl, rfl⟩
        · have HN2 := Sec.mk (HX.out (fun h => hy (Option.some.inj (HG1.out.symm.trans h.2))))
          have hyb := u8_ne (n := 10) rfl hy
          clear hy
          go_wp2
          go_roundw
          case rel => exact ⟨k + 1, by omega, by go_num, HN2, ⟨by trivial⟩⟩
          case measure => simp [intOf]; omega
      · have HN2 := Sec.mk (HX.out (fun h => hx (Option.some.inj (HG0.out.symm.trans h.1))))
        have hxb := u8_ne (n := 13) rfl hx
        clear hx
        go_wp2
        go_roundw
        case rel => exact ⟨k + 1, by omega, by go_num, HN2, ⟨by trivial⟩⟩
        case measure => simp [intOf]; omega
    · have hki : ¬ (k : Int) + 1 < (b.length : Int) := by omega
      have HE : Sec (r = -1) := ⟨HNO.out (fun j hj => by
        have h1 := (List.getElem?_eq_some_iff.1 hj.2).1
        exact HN.out j (by omega) hj)⟩
      go_wp2
      go_ret
      exact ⟨by rw [HE.out]; rfl, rfl⟩
theorem lastI_succ (line : Bytes) (k : Nat) : lastI line (k + 1) = if line[k]? = some 123 then some k else lastI line k := rfl
def litR (line : Bytes) : Int × Int := match litL line with
  | none => (-1, 0)
  | some (p, n) => ((n : Int), (p : Int))
theorem lit_last {line : Bytes} (h : line[line.length - 1]? ≠ some 125) : litL line = none := by
  unfold litL
  split
  · rfl
  · rw [if_neg (fun hh => h hh.1)]
theorem word_len (line : Bytes) (p : Nat) : (wordL line p).length = line.length - 1 - (p + 1) := by unfold wordL; rw [List.length_drop, List.length_take, Nat.min_eq_left (by omega)]
theorem lit_none {line : Bytes} (h : lastI line line.length = none) : litL line = none := by unfold litL; rw [h]
theorem lit_some {line : Bytes} {p : Nat} (h : lastI line line.length = some p) (h1 : line[line.length - 1]? = some 125) : litL line = if (decL 9 (wordL line p)).2 = true then some (p, (decL 9 (wordL line p)).1) else none := by
  unfold litL
  rw [h]
  simp only [h1, true_and]
theorem lit_short {line : Bytes} (h : line.length < 3) : litL line = none := by
  cases hl : lastI line line.length with
  | none => exact lit_none hl
  | some p =>
    by_cases h1 : line[line.length - 1]? = some 125
    · obtain ⟨hp, hx⟩ := lastI_lt line _ p hl
      rw [lit_some hl h1]
      have hpn : p ≠ line.length - 1 := fun e => by rw [e, h1] at hx; cases hx
      have hw : (decL 9 (wordL line p)).2 = false := by
        have := word_len line p
        unfold decL
        rw [if_neg (fun hh => by omega)]
      rw [hw]; rfl
    · exact lit_last h1
set_option maxHeartbeats 1000000 in
set_option maxRecDepth 100000 in
theorem l6Literal_calls {A : Option Addr} {c : Nat} {line : Bytes} {B : Nat → Prop} {w : World} (h : Row Ty.byte w B A line.length line) (hl : line.length ≤ 1048576) (hc : line.length ≤ c) : Calls Try.prog 45 #[.slice A line.length c] w (Ret (.tuple #[.int .i64 (litR line).1, .int .i64 (litR line).2]) w) := by
  have HR := Sec.mk h
  have HRN : Sec (litL line = none → litR line = (-1, 0)) := ⟨fun h => by unfold litR; rw [h]⟩
  have HRS : Sec (∀ p n, litL line = some (p, n) → litR line = ((n : Int), (p : Int))) := ⟨fun p n h => by unfold litR; rw [h]⟩
  generalize litR line = r at *
  clear h
  by_cases h3 : line.length < 3
  · have h3i : (line.length : Int) < 3 := by omega
    have HE := Sec.mk (HRN.out (lit_short h3))
    go_enter Try.func45, Try.ntmps45
    go_wp2
    go_ret2
    rw [HE.out]
    exact ⟨rfl, Mod.refl _ _⟩
  have h3i : ¬ (line.length : Int) < 3 := by omega
  have hlast : line.length - 1 < line.length := by omega
  obtain ⟨ad, rfl, h0⟩ := HR.out.byte_at (w' := w) (fun _ _ => rfl) (k := line.length - 1) hlast
  have h0' : w.cell? ⟨ad.block, ad.off + (line.length - 1), none⟩ = some (.int .u8 (line[line.length - 1].toNat : Int)) := by
    have hne : line.length - 1 ≠ 0 := by omega
    simpa [Addr.add, hne] using h0
  have ht : ((line.length : Int) - 1).toNat = line.length - 1 := by omega
  have hb0 : (0 : Int) ≤ (line.length : Int) - 1 := by omega
  have hb1 : (line.length : Int) - 1 < (line.length : Int) := by omega
  have HG : Sec (line[line.length - 1]? = some (line[line.length - 1]'hlast)) := ⟨List.getElem?_eq_getElem _⟩
  generalize line[line.length - 1]'hlast = z at *
  by_cases hz : z = 125
  rotate_left
  · have HE := Sec.mk (HRN.out (lit_last (fun hh => hz (Option.some.inj (HG.out.symm.trans hh)))))
    have hzb := u8_neb (n := 125) rfl hz
    clear hz
    go_enter Try.func45, Try.ntmps45
    go_wp2
    go_ret2
    rw [HE.out]
    exact ⟨rfl, Mod.refl _ _⟩
  subst hz
  have HLE := Sec.mk HG.out
  have hcc : line.length ≤ c := hc
  go_enter Try.func45, Try.ntmps45
  go_wp2
  go_loopw [4] (fun i wr => ∃ k : Nat, k ≤ line.length ∧ i = .int .i64 ((k : Int) - 1) ∧ Sec (lastI line line.length = lastI line k) ∧ Sec (wr = w)) (fun i _ => (intOf i + 1).toNat)
  case atStart => exact ⟨line.length, Nat.le_refl _, rfl, ⟨rfl⟩, ⟨rfl⟩⟩
  case round =>
    obtain ⟨k, hk, rfl, HK, HW⟩ := hrel
    obtain rfl : w = wr := HW.out.symm
    clear HW
    rcases Nat.eq_zero_or_pos k with rfl | hkp
    · have HE := Sec.mk (HRN.out (lit_none HK.out))
      go_wp2
      go_ret2
      rw [HE.out]
      exact ⟨rfl, Mod.refl _ _⟩
    · obtain ⟨p, rfl⟩ : ∃ p, k = p + 1 := ⟨k - 1, by omega⟩
      have hp : p < line.length := by omega
      obtain ⟨ad', e', g0⟩ := HR.out.byte_at (w' := w) (fun _ _ => rfl) (k := p) hp
      obtain rfl : ad = ad' := Option.some.inj e'
      have HGP : Sec (line[p]? = some line[p]) := ⟨List.getElem?_eq_getElem hp⟩
      have HL1 : Sec (line[p]? ≠ some 123 → lastI line line.length = lastI line p) := ⟨fun h => by rw [HK.out, lastI_succ, if_neg h]⟩
      have HL2 : Sec (line[p]? = some 123 → lastI line line.length = some p) := ⟨fun h => by rw [HK.out, lastI_succ, if_pos h]⟩
      have hcast : ((p + 1 : Nat) : Int) - 1 = (p : Int) := by omega
      rw [hcast]
      have hpi : (p : Int) < (line.length : Int) := by omega
      clear e' hcast
      generalize line[p] = x at *
      by_cases hx : x = 123
      rotate_left
      · have HN := Sec.mk (HL1.out (fun h => hx (Option.some.inj (HGP.out.symm.trans h))))
        have hxb := u8_neb (n := 123) rfl hx
        clear hx
        go_wp2
        go_roundw
        case rel => exact ⟨p, by omega, by go_num, HN, ⟨by trivial⟩⟩
        case measure => simp [intOf]
      · subst hx
        have HS := Sec.mk (lit_some (HL2.out HGP.out) HLE.out)
        have hpn : p + 1 ≤ line.length - 1 := by
          rcases Nat.lt_or_ge (p + 1) line.length with h | h
          · omega
          · exfalso
            have e : p = line.length - 1 := by omega
            have h2 := HGP.out
            rw [e, HLE.out] at h2
            cases h2
        have hcut := HR.out.cut1 (k := p + 1) (m := line.length - 1) hpn (by omega)
        have hcv := hcut.conv (P := Try.prog) Try.underlying22 Try.underlying5 Try.underlying9 (c - (p + 1))
        have hcv' : (convert 22 9 (.slice (some ⟨ad.block, ad.off + (p + 1), none⟩) (line.length - 1 - (p + 1)) (c - (p + 1)))).run Try.prog w = .ok (.string ⟨(wordL line p).toArray⟩) w := by
          have := hcv
          simpa [Addr.add, wordL] using this
        have hpt : ((p : Int) + 1).toNat = p + 1 := by omega
        have hlt2 : ((line.length : Int) - 1).toNat = line.length - 1 := by omega
        have hle2 : (p : Int) + 1 ≤ (line.length : Int) - 1 := by omega
        have hwl := word_len line p
        have HD9 := Sec.mk (dec9_num (wordL line p))
        clear hcut hcv
        have hwx : (wordL line p).length ≤ 1048576 := by omega
        generalize wordL line p = wd at *
        go_wp2_with fail
        refine (l4Number_calls wd (by omega) w).mono ?_
        rintro e w2 ⟨rfl, hm2⟩
        have HM2 := Sec.mk hm2
        clear hm2
        cases hnum : (numL wd).2
        · have HE := Sec.mk (HRN.out (by rw [HS.out, if_neg (fun h => by have := (HD9.out.1.1 h).1; rw [hnum] at this; cases this)]))
          go_wp2
          go_ret2
          rw [HE.out]
          exact ⟨rfl, HM2.out⟩
        by_cases h9 : 9 < wd.length
        · have HE := Sec.mk (HRN.out (by rw [HS.out, if_neg (fun h => by have := (HD9.out.1.1 h).2; omega)]))
          have h9i : (9 : Int) < (wd.length : Int) := by omega
          go_wp2
          go_ret2
          rw [HE.out]
          exact ⟨rfl, HM2.out⟩
        · have h9i : ¬ (9 : Int) < (wd.length : Int) := by omega
          have hd := HD9.out.1.2 ⟨hnum, by omega⟩
          have hv := HD9.out.2 hd
          have HE := Sec.mk (HRS.out p (decL 9 wd).1 (by rw [HS.out, if_pos hd]))
          have HV := Sec.mk hv.1
          rw [HV.out]
          clear hd hv
          go_wp2
          go_ret2
          rw [HE.out]
          exact ⟨rfl, HM2.out⟩
end Go.Proofs.Ytciiejkfppnimaa
