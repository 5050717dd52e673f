/- Numbers of both sides: digits read. -/
import Derived.Test.YtciaoedjiggonaaPureNum
import Derived.Test.YtciaoedjiggonaaStr
namespace Go.Proofs.Ytciaoedjiggonaa
open Go.RowKit Mem
set_option linter.unusedVariables false
set_option maxHeartbeats 1000000 in
set_option maxRecDepth 100000 in
theorem decimal_calls (m : Nat) (hm : m ≤ 18) (xs : Bytes) (hx : xs.length ≤ 34359738368) (w : World) : Calls Try.prog 68 #[.string ⟨xs.toArray⟩, .int .i64 (m : Int)] w (Ret (.tuple #[.int .i64 ((decL m xs).1 : Int), .bool (decL m xs).2]) w) := by
  have hsz : (⟨xs.toArray⟩ : ByteArray).size = xs.length := by simp [ByteArray.size]
  have HD : Sec (decL m xs = if 1 ≤ xs.length ∧ xs.length ≤ m ∧ ¬ (xs[0]? = some 48 ∧ 1 < xs.length) ∧ ∀ b, b ∈ xs → digB b then (valL xs, true) else (0, false)) := ⟨rfl⟩
  by_cases h1 : xs.length < 1
  · have h1i : (xs.length : Int) < 1 := by omega
    have HE : Sec (decL m xs = (0, false)) := ⟨by rw [HD.out, if_neg (by omega)]⟩
    go_enter Try.func68, Try.ntmps68
    go_wp2
    go_ret2
    rw [HE.out]
    exact ⟨rfl, Mod.refl _ _⟩
  have h1i : ¬ (xs.length : Int) < 1 := by omega
  by_cases h2 : m < xs.length
  · have h2i : (m : Int) < (xs.length : Int) := by omega
    have HE : Sec (decL m xs = (0, false)) := ⟨by rw [HD.out, if_neg (by omega)]⟩
    go_enter Try.func68, Try.ntmps68
    go_wp2
    go_ret2
    rw [HE.out]
    exact ⟨rfl, Mod.refl _ _⟩
  have h2i : ¬ (m : Int) < (xs.length : Int) := by omega
  have hg0 := strIdx_run xs 0 (by omega)
  simp only [Int.ofNat_zero] at hg0
  have E0 : Sec (xs[0]? = some xs[0]) := ⟨List.getElem?_eq_getElem _⟩
  generalize xs[0] = b0 at *
  by_cases hbad : b0 = 48 ∧ 1 < xs.length
  · obtain ⟨rfl, h3⟩ := hbad
    have h3i : (1 : Int) < (xs.length : Int) := by omega
    have HE : Sec (decL m xs = (0, false)) := ⟨by rw [HD.out, if_neg]; rintro ⟨_, _, h, _⟩; exact h ⟨E0.out, h3⟩⟩
    have hq0 : ((48 : UInt8).toNat : Int) = 48 := rfl
    rw [hq0] at hg0
    go_enter Try.func68, Try.ntmps68
    go_wp2
    go_ret2
    rw [HE.out]
    exact ⟨rfl, Mod.refl _ _⟩
  have HOK : Sec (¬ (xs[0]? = some 48 ∧ 1 < xs.length)) := ⟨fun h => hbad ⟨Option.some.inj (E0.out.symm.trans h.1), h.2⟩⟩
  have HNO : Sec (∀ j, (hj : j < xs.length) → ¬ digB xs[j] → decL m xs = (0, false)) := ⟨fun j hj h => by rw [HD.out, if_neg]; rintro ⟨_, _, _, hd⟩; exact h (hd _ (List.getElem_mem hj))⟩
  have HYES : Sec ((∀ j, (hj : j < xs.length) → j < xs.length → digB xs[j]) → decL m xs = (valL xs, true)) := ⟨fun h => by rw [HD.out, if_pos ⟨by omega, by omega, HOK.out, fun b hb => by obtain ⟨j, hj, rfl⟩ := List.getElem_of_mem hb; exact h j hj hj⟩]⟩
  have HLT := Sec.mk (valL_lt xs)
  clear E0 HD HOK
  rcases (show (b0 = 48 ∧ xs.length = 1) ∨ b0 ≠ 48 by by_cases h : b0 = 48; exact .inl ⟨h, by have : ¬ (1 < xs.length) := fun h' => hbad ⟨h, h'⟩; omega⟩; exact .inr h) with ⟨rfl, h3⟩ | h3
  · have h3i : ¬ (1 : Int) < (xs.length : Int) := by omega
    have hq0 : ((48 : UInt8).toNat : Int) = 48 := rfl
    rw [hq0] at hg0
    clear hbad
    go_enter Try.func68, Try.ntmps68
    go_wp2
    go_loopw [6, 29] (fun n i wr => ∃ k : Nat, k ≤ xs.length ∧ i = .int .i64 (k : Int) ∧ n = .int .i64 ((valL (xs.take k) : Nat) : Int) ∧ Sec (∀ j, (hj : j < xs.length) → j < k → digB xs[j]) ∧ Sec (New w wr)) (fun _ i _ => xs.length - (intOf i).toNat)
    case atStart => exact ⟨0, Nat.zero_le _, rfl, rfl, ⟨fun j _ h => absurd h (Nat.not_lt_zero _)⟩, ⟨Mod.refl _ _⟩⟩
    case round =>
      obtain ⟨k, hk, rfl, rfl, HA, HM⟩ := hrel
      clear hg0
      by_cases hlt : k < xs.length
      · have hki : (k : Int) < (xs.length : Int) := by omega
        have hgx := strIdx_run xs k hlt
        have hv := Nat.lt_of_lt_of_le (HLT.out k hk HA.out) (pow_le18 (k := k) (by omega))
        have HVT := Sec.mk (valL_take xs hlt)
        have HNK := Sec.mk (HNO.out k hlt)
        have HA2 : Sec (digB xs[k] → ∀ j, (hj : j < xs.length) → j < k + 1 → digB xs[j]) := ⟨fun h j hj hjk => by rcases Nat.lt_succ_iff_lt_or_eq.1 hjk with h' | rfl; exact HA.out j hj h'; exact h⟩
        have hb := UInt8.toNat_lt xs[k]
        generalize xs[k] = b at *
        generalize valL (xs.take k) = v at *
        by_cases ha : b.toNat < 48
        · have hai : (b.toNat : Int) < 48 := by omega
          have HE := Sec.mk (HNK.out (fun h => by have := h.1; omega))
          go_wp2
          go_ret2
          rw [HE.out]
          exact ⟨rfl, HM.out⟩
        have hai : ¬ (b.toNat : Int) < 48 := by omega
        by_cases hc : 57 < b.toNat
        · have hci : (57 : Int) < (b.toNat : Int) := by omega
          have HE := Sec.mk (HNK.out (fun h => by have := h.2; omega))
          go_wp2
          go_ret2
          rw [HE.out]
          exact ⟨rfl, HM.out⟩
        have hci : ¬ (57 : Int) < (b.toNat : Int) := by omega
        have HA3 := Sec.mk (HA2.out ⟨by omega, by omega⟩)
        go_wp2
        go_roundw
        case rel => exact ⟨k + 1, by omega, by go_num, by rw [HVT.out]; go_num, HA3, HM⟩
        case measure => simp [intOf]; omega
      · obtain rfl : k = xs.length := by omega
        have HE := Sec.mk (HYES.out HA.out)
        rw [List.take_length]
        go_wp2
        go_ret2
        rw [HE.out]
        exact ⟨rfl, HM.out⟩
  · have h3i : ¬ ((b0.toNat : Int) = 48) := fun h => h3 (UInt8.toNat.inj (by show b0.toNat = 48; omega))
    clear h3 hbad
    go_enter Try.func68, Try.ntmps68
    go_wp2
    go_loopw [6, 29] (fun n i wr => ∃ k : Nat, k ≤ xs.length ∧ i = .int .i64 (k : Int) ∧ n = .int .i64 ((valL (xs.take k) : Nat) : Int) ∧ Sec (∀ j, (hj : j < xs.length) → j < k → digB xs[j]) ∧ Sec (New w wr)) (fun _ i _ => xs.length - (intOf i).toNat)
    case atStart => exact ⟨0, Nat.zero_le _, rfl, rfl, ⟨fun j _ h => absurd h (Nat.not_lt_zero _)⟩, ⟨Mod.refl _ _⟩⟩
    case round =>
      obtain ⟨k, hk, rfl, rfl, HA, HM⟩ := hrel
      clear hg0
      by_cases hlt : k < xs.length
      · have hki : (k : Int) < (xs.length : Int) := by omega
        have hgx := strIdx_run xs k hlt
        have hv := Nat.lt_of_lt_of_le (HLT.out k hk HA.out) (pow_le18 (k := k) (by omega))
        have HVT := Sec.mk (valL_take xs hlt)
        have HNK := Sec.mk (HNO.out k hlt)
        have HA2 : Sec (digB xs[k] → ∀ j, (hj : j < xs.length) → j < k + 1 → digB xs[j]) := ⟨fun h j hj hjk => by rcases Nat.lt_succ_iff_lt_or_eq.1 hjk with h' | rfl; exact HA.out j hj h'; exact h⟩
        have hb := UInt8.toNat_lt xs[k]
        generalize xs[k] = b at *
        generalize valL (xs.take k) = v at *
        by_cases ha : b.toNat < 48
        · have hai : (b.toNat : Int) < 48 := by omega
          have HE := Sec.mk (HNK.out (fun h => by have := h.1; omega))
          go_wp2
          go_ret2
          rw [HE.out]
          exact ⟨rfl, HM.out⟩
        have hai : ¬ (b.toNat : Int) < 48 := by omega
        by_cases hc : 57 < b.toNat
        · have hci : (57 : Int) < (b.toNat : Int) := by omega
          have HE := Sec.mk (HNK.out (fun h => by have := h.2; omega))
          go_wp2
          go_ret2
          rw [HE.out]
          exact ⟨rfl, HM.out⟩
        have hci : ¬ (57 : Int) < (b.toNat : Int) := by omega
        have HA3 := Sec.mk (HA2.out ⟨by omega, by omega⟩)
        go_wp2
        go_roundw
        case rel => exact ⟨k + 1, by omega, by go_num, by rw [HVT.out]; go_num, HA3, HM⟩
        case measure => simp [intOf]; omega
      · obtain rfl : k = xs.length := by omega
        have HE := Sec.mk (HYES.out HA.out)
        rw [List.take_length]
        go_wp2
        go_ret2
        rw [HE.out]
        exact ⟨rfl, HM.out⟩
set_option maxHeartbeats 1000000 in
set_option maxRecDepth 100000 in
theorem l4Number_calls (xs : Bytes) (hx : xs.length ≤ 34359738368) (w : World) : Calls Try.prog 92 #[.string ⟨xs.toArray⟩] w (Ret (.tuple #[.int .i64 ((numL xs).1 : Int), .bool (numL xs).2]) w) := by
  have hsz : (⟨xs.toArray⟩ : ByteArray).size = xs.length := by simp [ByteArray.size]
  have HD : Sec (numL xs = if 1 ≤ xs.length ∧ xs.length ≤ 13 ∧ ∀ b, b ∈ xs → digB b then (valL xs, decide (Lib.decDigits (valL xs) = xs)) else (0, false)) := ⟨rfl⟩
  by_cases h1 : xs.length < 1
  · have h1i : (xs.length : Int) < 1 := by omega
    have HE : Sec (numL xs = (0, false)) := ⟨by rw [HD.out, if_neg (by omega)]⟩
    go_enter Try.func92, Try.ntmps92
    go_wp2
    go_ret2
    rw [HE.out]
    exact ⟨rfl, Mod.refl _ _⟩
  have h1i : ¬ (xs.length : Int) < 1 := by omega
  by_cases h2 : 13 < xs.length
  · have h2i : (13 : Int) < (xs.length : Int) := by omega
    have HE : Sec (numL xs = (0, false)) := ⟨by rw [HD.out, if_neg (by omega)]⟩
    go_enter Try.func92, Try.ntmps92
    go_wp2
    go_ret2
    rw [HE.out]
    exact ⟨rfl, Mod.refl _ _⟩
  have h2i : ¬ (13 : Int) < (xs.length : Int) := by omega
  have HNO : Sec (∀ j, (hj : j < xs.length) → ¬ digB xs[j] → numL xs = (0, false)) := ⟨fun j hj h => by rw [HD.out, if_neg]; rintro ⟨_, _, hd⟩; exact h (hd _ (List.getElem_mem hj))⟩
  have HYES : Sec ((∀ j, (hj : j < xs.length) → j < xs.length → digB xs[j]) → numL xs = (valL xs, decide (Lib.decDigits (valL xs) = xs))) := ⟨fun h => by rw [HD.out, if_pos ⟨by omega, by omega, fun b hb => by obtain ⟨j, hj, rfl⟩ := List.getElem_of_mem hb; exact h j hj hj⟩]⟩
  have HLT := Sec.mk (valL_lt xs)
  clear HD
  go_enter Try.func92, Try.ntmps92
  go_wp2
  go_loopw [4, 5] (fun n i wr => ∃ k : Nat, k ≤ xs.length ∧ i = .int .i64 (k : Int) ∧ n = .int .i64 ((valL (xs.take k) : Nat) : Int) ∧ Sec (∀ j, (hj : j < xs.length) → j < k → digB xs[j]) ∧ Sec (New w wr)) (fun _ i _ => xs.length - (intOf i).toNat)
  case atStart => exact ⟨0, Nat.zero_le _, rfl, rfl, ⟨fun j _ h => absurd h (Nat.not_lt_zero _)⟩, ⟨Mod.refl _ _⟩⟩
  case round =>
    obtain ⟨k, hk, rfl, rfl, HA, HM⟩ := hrel
    by_cases hlt : k < xs.length
    · have hki : (k : Int) < (xs.length : Int) := by omega
      have hgx := strIdx_run xs k hlt
      have hv := Nat.lt_of_lt_of_le (HLT.out k hk HA.out) (pow_le18 (k := k) (by omega))
      have HVT := Sec.mk (valL_take xs hlt)
      have HNK := Sec.mk (HNO.out k hlt)
      have HA2 : Sec (digB xs[k] → ∀ j, (hj : j < xs.length) → j < k + 1 → digB xs[j]) := ⟨fun h j hj hjk => by rcases Nat.lt_succ_iff_lt_or_eq.1 hjk with h' | rfl; exact HA.out j hj h'; exact h⟩
      have hb := UInt8.toNat_lt xs[k]
      generalize xs[k] = b at *
      generalize valL (xs.take k) = v at *
      by_cases ha : b.toNat < 48
      · have hai : (b.toNat : Int) < 48 := by omega
        have HE := Sec.mk (HNK.out (fun h => by have := h.1; omega))
        go_wp2
        go_ret2
        rw [HE.out]
        exact ⟨rfl, HM.out⟩
      have hai : ¬ (b.toNat : Int) < 48 := by omega
      by_cases hc : 57 < b.toNat
      · have hci : (57 : Int) < (b.toNat : Int) := by omega
        have HE := Sec.mk (HNK.out (fun h => by have := h.2; omega))
        go_wp2
        go_ret2
        rw [HE.out]
        exact ⟨rfl, HM.out⟩
      have hci : ¬ (57 : Int) < (b.toNat : Int) := by omega
      have HA3 := Sec.mk (HA2.out ⟨by omega, by omega⟩)
      go_wp2
      go_roundw
      case rel => exact ⟨k + 1, by omega, by go_num, by rw [HVT.out]; go_num, HA3, HM⟩
      case measure => simp [intOf]; omega
    · obtain rfl : k = xs.length := by omega
      have HE := Sec.mk (HYES.out HA.out)
      have hv := HLT.out xs.length (Nat.le_refl _) HA.out
      have hp : (10 : Nat) ^ xs.length ≤ 10000000000000 := Nat.le_trans (Nat.pow_le_pow_right (by decide) (show xs.length ≤ 13 by omega)) (by decide)
      rw [List.take_length] at hv ⊢
      have HL := Sec.mk (fun w => l1Dec_calls (valL xs) (by omega) w)
      generalize valL xs = v at *
      go_wp2_with fail
      refine (HL.out _).mono ?_
      rintro e w2 ⟨rfl, hm2⟩
      have HM2 := Sec.mk (HM.out.transN hm2)
      clear hm2 HL
      by_cases hd : Lib.decDigits v = xs
      · have HE2 : Sec (numL xs = (v, true)) := ⟨by rw [HE.out]; simp [hd]⟩
        have hz : (Lib.decDigits v == xs) = true := by simp [hd]
        clear hd
        go_wp2
        go_ret2
        rw [HE2.out]
        exact ⟨by simp, HM2.out⟩
      · have HE2 : Sec (numL xs = (v, false)) := ⟨by rw [HE.out]; simp [hd]⟩
        have hz : (Lib.decDigits v == xs) = false := by simpa using hd
        clear hd
        go_wp2
        go_ret2
        rw [HE2.out]
        exact ⟨by simp, HM2.out⟩
end Go.Proofs.Ytciaoedjiggonaa
