/- Places of a set, both sides. -/
import Derived.Test.YtciaoedjiggonaaNum
import Derived.Test.YtciaoedjiggonaaPureSet
import Derived.Test.YtciaoedjiggonaaStr
namespace Go.Proofs.Ytciaoedjiggonaa
open Go.RowKit Mem
set_option linter.unusedVariables false
def PlaceR (o : Option Nat) (w : World) (e : Ending) (w' : World) : Prop := ∃ m : Int, e = .returned (.tuple #[.int .u32 m, .bool o.isSome]) ∧ (∀ q, o = some q → m = (q : Int)) ∧ New w w'
set_option maxRecDepth 100000 in
theorem uidOk_calls (n : Int) (r : Bool) (hr : decide (1 ≤ n ∧ n ≤ 4294967295) = r) (w : World) : Calls Try.prog 69 #[.int .i64 n] w (Ret (.bool r) w) := by
  by_cases h1 : 1 ≤ n
  · by_cases h2 : n ≤ 4294967295
    · have HE : Sec (r = true) := ⟨by rw [← hr]; simp [h1, h2]⟩
      clear hr
      go_enter Try.func69, Try.ntmps69
      go_wp2
      go_ret
      rw [HE.out]
      exact ⟨rfl, Mod.refl _ _⟩
    · have HE : Sec (r = false) := ⟨by rw [← hr]; simp [h2]⟩
      clear hr
      go_enter Try.func69, Try.ntmps69
      go_wp2
      go_ret
      rw [HE.out]
      exact ⟨rfl, Mod.refl _ _⟩
  · have HE : Sec (r = false) := ⟨by rw [← hr]; simp [h1]⟩
    clear hr
    go_enter Try.func69, Try.ntmps69
    go_wp2
    go_ret
    rw [HE.out]
    exact ⟨rfl, Mod.refl _ _⟩
set_option maxHeartbeats 1000000 in
set_option maxRecDepth 100000 in
theorem l5Num_calls (xs : Bytes) (hx : xs.length ≤ 34359738368) (lo hi : Int) (w : World) : Calls Try.prog 65 #[.string ⟨xs.toArray⟩, .int .i64 lo, .int .i64 hi] w
    (Ret (.tuple #[.int .i64 ((numL xs).1 : Int), .bool ((numL xs).2 && (decide (lo ≤ ((numL xs).1 : Int)) && decide (((numL xs).1 : Int) ≤ hi)))]) w) := by
  have HC := Sec.mk (fun w => l4Number_calls xs hx w)
  generalize numL xs = d at *
  obtain ⟨n, ok⟩ := d
  simp only at HC ⊢
  cases ok
  · go_enter Try.func65, Try.ntmps65
    go_wp2_with fail
    refine (HC.out _).mono ?_
    rintro e w1 ⟨rfl, hm1⟩
    go_wp2
    go_ret2
    exact ⟨rfl, hm1⟩
  · by_cases h1 : lo ≤ (n : Int)
    · have hd1 : decide (lo ≤ (n : Int)) = true := by simp [h1]
      by_cases h2 : (n : Int) ≤ hi
      · have hd2 : decide ((n : Int) ≤ hi) = true := by simp [h2]
        rw [hd1, hd2]
        go_enter Try.func65, Try.ntmps65
        go_wp2_with fail
        refine (HC.out _).mono ?_
        rintro e w1 ⟨rfl, hm1⟩
        go_wp2
        go_ret2
        exact ⟨rfl, hm1⟩
      · have hd2 : decide ((n : Int) ≤ hi) = false := by simp [h2]
        rw [hd1, hd2]
        go_enter Try.func65, Try.ntmps65
        go_wp2_with fail
        refine (HC.out _).mono ?_
        rintro e w1 ⟨rfl, hm1⟩
        go_wp2
        go_ret2
        exact ⟨rfl, hm1⟩
    · have hd1 : decide (lo ≤ (n : Int)) = false := by simp [h1]
      rw [hd1]
      go_enter Try.func65, Try.ntmps65
      go_wp2_with fail
      refine (HC.out _).mono ?_
      rintro e w1 ⟨rfl, hm1⟩
      go_wp2
      go_ret2
      exact ⟨rfl, hm1⟩
end Go.Proofs.Ytciaoedjiggonaa
