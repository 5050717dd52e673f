/- Places of a set, both sides. -/
import Derived.Test.YtinfibggdbakoaaDoorNum
import Derived.Test.YtinfibggdbakoaaDoorPureSet
import Derived.Test.YtinfibggdbakoaaDoorStr
namespace Go.Proofs.YtinfibggdbakoaaDoor
open Go.RowKit Mem
set_option linter.unusedVariables false
def PlaceR (o : Option Nat) (w : World) (e : Ending) (w' : World) : Prop := ∃ m : Int, e = .returned (.tuple #[.int .u32 m, .bool o.isSome]) ∧ (∀ q, o = some q → m = (q : Int)) ∧ New w w'
set_option maxRecDepth 100000 in
theorem uidOk_calls (n : Int) (r : Bool) (hr : decide (1 ≤ n ∧ n ≤ 4294967295) = r) (w : World) : Calls Tryd.prog 22 #[.int .i64 n] w (Ret (.bool r) w) := by
  by_cases h1 : 1 ≤ n
  · by_cases h2 : n ≤ 4294967295
    · have HE : Sec (r = true) := ⟨by rw [← hr]; simp [h1, h2]⟩
      clear hr
      go_enter Tryd.func22, Tryd.ntmps22
      go_wp2
      go_ret
      rw [HE.out]
      exact ⟨rfl, Mod.refl _ _⟩
    · have HE : Sec (r = false) := ⟨by rw [← hr]; simp [h2]⟩
      clear hr
      go_enter Tryd.func22, Tryd.ntmps22
      go_wp2
      go_ret
      rw [HE.out]
      exact ⟨rfl, Mod.refl _ _⟩
  · have HE : Sec (r = false) := ⟨by rw [← hr]; simp [h1]⟩
    clear hr
    go_enter Tryd.func22, Tryd.ntmps22
    go_wp2
    go_ret
    rw [HE.out]
    exact ⟨rfl, Mod.refl _ _⟩
set_option maxHeartbeats 1000000 in
set_option maxRecDepth 100000 in
theorem readPlace_calls (xs : Bytes) (hx : xs.length ≤ 34359738368) (w : World) : Calls Tryd.prog 13 #[.string ⟨xs.toArray⟩] w (PlaceR (plL xs) w) := by
  by_cases h42 : xs = [42]
  · subst h42
    have HE : Sec (plL [42] = some 0) := ⟨rfl⟩
    go_enter Tryd.func13, Tryd.ntmps13
    go_wp2
    go_ret2
    rw [HE.out]
    exact ⟨0, rfl, fun q hq => by obtain rfl := Option.some.inj hq; rfl, Mod.refl _ _⟩
  have hz : (xs == [42]) = false := by simpa using h42
  have HD : Sec (plL xs = if (decL 10 xs).2 = true ∧ 1 ≤ (decL 10 xs).1 ∧ (decL 10 xs).1 ≤ 4294967295 then some (decL 10 xs).1 else none) := ⟨by unfold plL; rw [if_neg h42]⟩
  have HC := Sec.mk (fun w => decimal_calls 10 (by decide) xs hx w)
  generalize decL 10 xs = d at *
  obtain ⟨n, ok⟩ := d
  clear h42
  simp only at HD HC
  cases ok
  · have HE : Sec (plL xs = none) := ⟨by rw [HD.out, if_neg (by simp)]⟩
    go_enter Tryd.func13, Tryd.ntmps13
    go_wp2_with fail
    refine (HC.out _).mono ?_
    rintro e w1 ⟨rfl, hm1⟩
    go_wp2
    go_ret2
    rw [HE.out]
    exact ⟨_, rfl, fun q hq => (by cases hq), hm1⟩
  · by_cases hr : 1 ≤ n ∧ n ≤ 4294967295
    · have HE : Sec (plL xs = some n) := ⟨by rw [HD.out, if_pos ⟨rfl, hr⟩]⟩
      have HU := Sec.mk (uidOk_calls (n : Int) true (decide_eq_true (by omega)))
      have hn := hr.2
      go_enter Tryd.func13, Tryd.ntmps13
      go_wp2_with fail
      refine (HC.out _).mono ?_
      rintro e w1 ⟨rfl, hm1⟩
      go_wp2_with fail
      refine (HU.out _).mono ?_
      rintro e w2 ⟨rfl, hm2⟩
      go_wp2
      go_ret2
      rw [HE.out]
      refine ⟨_, rfl, fun q hq => ?_, hm1.transN hm2⟩
      obtain rfl := Option.some.inj hq
      first | rfl | omega
    · have HE : Sec (plL xs = none) := ⟨by rw [HD.out, if_neg (fun h => hr h.2)]⟩
      have HU := Sec.mk (uidOk_calls (n : Int) false (decide_eq_false (by omega)))
      clear hr
      go_enter Tryd.func13, Tryd.ntmps13
      go_wp2_with fail
      refine (HC.out _).mono ?_
      rintro e w1 ⟨rfl, hm1⟩
      go_wp2_with fail
      refine (HU.out _).mono ?_
      rintro e w2 ⟨rfl, hm2⟩
      go_wp2
      go_ret2
      rw [HE.out]
      exact ⟨_, rfl, fun q hq => (by cases hq), hm1.transN hm2⟩
set_option maxHeartbeats 1000000 in
set_option maxRecDepth 100000 in
theorem l5Num_calls (xs : Bytes) (hx : xs.length ≤ 34359738368) (lo hi : Int) (w : World) : Calls Tryd.prog 18 #[.string ⟨xs.toArray⟩, .int .i64 lo, .int .i64 hi] w
    (Ret (.tuple #[.int .i64 ((numL xs).1 : Int), .bool ((numL xs).2 && (decide (lo ≤ ((numL xs).1 : Int)) && decide (((numL xs).1 : Int) ≤ hi)))]) w) := by
  have HC := Sec.mk (fun w => l4Number_calls xs hx w)
  generalize numL xs = d at *
  obtain ⟨n, ok⟩ := d
  simp only at HC ⊢
  cases ok
  · go_enter Tryd.func18, Tryd.ntmps18
    go_wp2_with fail
    refine (HC.out _).mono ?_
    rintro e w1 ⟨rfl, hm1⟩
    go_wp2
    go_ret2
    exact ⟨rfl, hm1⟩
  · by_cases h1 : lo ≤ (n : Int)
    · have hd1 : decide (lo ≤ (n : Int)) = true := by simp [h1]
      by_cases h2 : (n : Int) ≤ hi
      · have hd2 : decide ((n : Int) ≤ hi) = true := by simp [h2]
        rw [hd1, hd2]
        go_enter Tryd.func18, Tryd.ntmps18
        go_wp2_with fail
        refine (HC.out _).mono ?_
        rintro e w1 ⟨rfl, hm1⟩
        go_wp2
        go_ret2
        exact ⟨rfl, hm1⟩
      · have hd2 : decide ((n : Int) ≤ hi) = false := by simp [h2]
        rw [hd1, hd2]
        go_enter Tryd.func18, Tryd.ntmps18
        go_wp2_with fail
        refine (HC.out _).mono ?_
        rintro e w1 ⟨rfl, hm1⟩
        go_wp2
        go_ret2
        exact ⟨rfl, hm1⟩
    · have hd1 : decide (lo ≤ (n : Int)) = false := by simp [h1]
      rw [hd1]
      go_enter Tryd.func18, Tryd.ntmps18
      go_wp2_with fail
      refine (HC.out _).mono ?_
      rintro e w1 ⟨rfl, hm1⟩
      go_wp2
      go_ret2
      exact ⟨rfl, hm1⟩
set_option maxHeartbeats 1000000 in
set_option maxRecDepth 100000 in
theorem l6Place_calls (xs : Bytes) (hx : xs.length ≤ 34359738368) (w : World) : Calls Tryd.prog 10 #[.string ⟨xs.toArray⟩] w (PlaceR (plL xs) w) := by
  by_cases h42 : xs = [42]
  · subst h42
    have HE : Sec (plL [42] = some 0) := ⟨rfl⟩
    go_enter Tryd.func10, Tryd.ntmps10
    go_wp2
    go_ret2
    rw [HE.out]
    exact ⟨0, rfl, fun q hq => by obtain rfl := Option.some.inj hq; rfl, Mod.refl _ _⟩
  have hz : (xs == [42]) = false := by simpa using h42
  have HD := Sec.mk (plL_num h42)
  have HC := Sec.mk (fun w => l5Num_calls xs hx 1 4294967295 w)
  generalize numL xs = d at *
  obtain ⟨n, ok⟩ := d
  clear h42
  simp only at HD HC
  have HX : Sec ((plL xs).isSome = (ok && (decide (1 ≤ (n : Int)) && decide ((n : Int) ≤ 4294967295)))) := ⟨by
    rw [HD.out]
    by_cases hr : ok = true ∧ 1 ≤ n ∧ n ≤ 4294967295
    · rw [if_pos hr, hr.1]
      have h1 : (1 : Int) ≤ (n : Int) := by omega
      have h2 : (n : Int) ≤ 4294967295 := by omega
      simp [h1, h2]
    · rw [if_neg hr]
      cases ok
      · rfl
      · have : ¬ ((1 : Int) ≤ (n : Int) ∧ (n : Int) ≤ 4294967295) := fun h => hr ⟨rfl, by omega, by omega⟩
        symm
        simpa [Bool.and_eq_true] using this⟩
  have HQ : Sec (∀ q, plL xs = some q → q = n ∧ n ≤ 4294967295) := ⟨fun q hq => by
    rw [HD.out] at hq
    split at hq
    · rename_i hc; exact ⟨(Option.some.inj hq).symm, hc.2.2⟩
    · cases hq⟩
  rw [← HX.out] at HC
  go_enter Tryd.func10, Tryd.ntmps10
  go_wp2_with fail
  refine (HC.out _).mono ?_
  rintro e w1 ⟨rfl, hm1⟩
  go_wp2
  go_ret2
  refine ⟨_, rfl, fun q hq => ?_, hm1⟩
  obtain ⟨rfl, hn⟩ := HQ.out q hq
  try simp only [IntKind.wrap_u32]
  omega
end Go.Proofs.YtinfibggdbakoaaDoor
