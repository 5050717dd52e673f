/- The program's reading of flags' names. -/
import Derived.Test.YtbkccffpipcjeaaDoorBr
import Derived.Test.YtbkccffpipcjeaaDoorListI
import Derived.Test.YtbkccffpipcjeaaDoorShelf
namespace Go.Proofs.YtbkccffpipcjeaaDoor
open Go.RowKit Mem
set_option linter.unusedVariables false
def BitV (x : Option Nat) : Value := match x with | none => .tuple #[.int .u32 0, .bool false] | some k => .tuple #[.int .u32 ((2 ^ k : Nat) : Int), .bool true]
theorem pow_mod (j : Nat) (h : j < 31) : (2 : Int) ^ j % 4294967296 = ((2 ^ j : Nat) : Int) := by
  have h2 : 2 ^ j < 2 ^ 31 := Nat.pow_lt_pow_right (by decide) h
  rw [show (2 : Int) ^ j = ((2 ^ j : Nat) : Int) by simp]
  generalize 2 ^ j = p at *
  omega
set_option maxHeartbeats 1000000 in
set_option maxRecDepth 100000 in
theorem readFlag_calls (xs : Bytes) (hx : xs.length ≤ 34359738368) {w : World} (h : NamesAt w) : Calls Tryd.prog 34 #[.string ⟨xs.toArray⟩] w (Ret (BitV (bitL xs)) w) := by
  obtain ⟨ad, cc, hcell, hrow⟩ := h
  have HR := Sec.mk hrow
  have hsz : (⟨xs.toArray⟩ : ByteArray).size = xs.length := by simp [ByteArray.size]
  have HU := Sec.mk (upper_calls xs hx)
  clear hrow
  go_enter Tryd.func34, Tryd.ntmps34
  go_wp2
  go_loopw [8] (fun i wr => ∃ (k : Nat), k ≤ 5 ∧ i = .int .i64 (k : Int) ∧ Sec (∀ j, j < k → upL xs ≠ upL (nameL j)) ∧ Sec (New w wr)) (fun i _ => 5 - (intOf i).toNat)
  case atStart => exact ⟨0, by omega, rfl, ⟨fun j hj => absurd hj (Nat.not_lt_zero _)⟩, ⟨Mod.refl _ _⟩⟩
  case round =>
    obtain ⟨k, hk, rfl, HN, HM⟩ := hrel
    clear hcell
    by_cases hlt : k < 5
    · obtain ⟨ad', cs, hA, hK, hx0, _⟩ := HR.out.cells_at (w' := wr) (fun i hi => HM.out.block i hi id) (k := k) (by simpa using hlt)
      injection hA with hA
      subst hA
      have hK' : cs = [.string (toS (nameL k))] := by rw [hK]; simp
      subst hK'
      have h0 := hx0 _ rfl
      rw [show k * Ty.string.sz = k from Nat.mul_one k] at h0
      have hnl := nameL_len k
      have HU2 := Sec.mk (upper_calls (nameL k) (by omega))
      have HB := Sec.mk (fun h => bitL_small (w := xs) hlt h)
      have HN2 : Sec (upL xs ≠ upL (nameL k) → ∀ j, j < k + 1 → upL xs ≠ upL (nameL j)) := ⟨fun h j hj => by rcases Nat.lt_succ_iff_lt_or_eq.1 hj with h' | rfl; exact HN.out j h'; exact h⟩
      have HP := Sec.mk (pow_mod k (by omega))
      have hki : (k : Int) < 5 := by omega
      unfold toS at h0
      generalize nameL k = nm at *
      generalize upL nm = un at *
      generalize upL xs = ux at *
      clear hK hx0
      go_wp2_with fail
      refine (HU.out _).mono ?_
      rintro e w1 ⟨rfl, hm1⟩
      go_wp2_with fail
      refine (HU2.out _).mono ?_
      rintro e w2 ⟨rfl, hm2⟩
      have HM2 := Sec.mk ((HM.out.transN hm1).transN hm2)
      clear hm1 hm2
      by_cases he : ux = un
      · have hz : (ux == un) = true := by simp [he]
        have HE := Sec.mk (HB.out he)
        clear he HN2
        go_wp2
        go_ret2
        rw [HE.out, HP.out]
        exact ⟨rfl, HM2.out⟩
      · have hz : (ux == un) = false := by simpa using he
        have HN3 := Sec.mk (HN2.out he)
        clear he HB
        go_wp2
        go_roundw
        case rel => exact ⟨k + 1, by omega, by go_num, HN3, HM2⟩
        case measure => simp [intOf]; omega
    · obtain rfl : k = 5 := by omega
      have HO := Sec.mk (bitL_other HN.out)
      by_cases h1 : xs.length = 1
      · obtain ⟨b, rfl⟩ : ∃ b, xs = [b] := by
          match xs, h1 with
          | [b], _ => exact ⟨b, rfl⟩
        have hg0 := strIdx_run [b] 0 (by simp)
        simp only [Int.ofNat_zero, List.getElem_cons_zero] at hg0
        have HB := Sec.mk (bitL_letter b)
        have hb := UInt8.toNat_lt b
        have hs1 : (⟨[b].toArray⟩ : ByteArray).size = 1 := rfl
        clear hsz HN HU
        generalize hbs : (⟨[b].toArray⟩ : ByteArray) = sb at *
        by_cases ha : 97 ≤ b.toNat
        · have hai : (97 : Int) ≤ (b.toNat : Int) := by omega
          by_cases hc : b.toNat ≤ 122
          · have hci : (b.toNat : Int) ≤ 122 := by omega
            have HE := Sec.mk (HB.out ha hc)
            have HP := Sec.mk (pow_mod (5 + b.toNat - 97) (by omega))
            have ht : ((5 : Int) + (b.toNat : Int) - 97).toNat = 5 + b.toNat - 97 := by omega
            go_wp2
            go_ret2
            rw [HE.out, HP.out]
            exact ⟨rfl, HM.out⟩
          · have hci : ¬ (b.toNat : Int) ≤ 122 := by omega
            have HE := Sec.mk (HO.out (fun b' h h' => by obtain rfl := (List.cons.inj h).1; omega))
            go_wp2
            go_ret2
            rw [HE.out]
            exact ⟨rfl, HM.out⟩
        · have hai : ¬ (97 : Int) ≤ (b.toNat : Int) := by omega
          have HE := Sec.mk (HO.out (fun b' h h' => by obtain rfl := (List.cons.inj h).1; omega))
          go_wp2
          go_ret2
          rw [HE.out]
          exact ⟨rfl, HM.out⟩
      · have h1i : ¬ (xs.length : Int) = 1 := by omega
        have HE := Sec.mk (HO.out (fun b h => absurd (by rw [h]; rfl) h1))
        go_wp2
        go_ret2
        rw [HE.out]
        exact ⟨rfl, HM.out⟩
end Go.Proofs.YtbkccffpipcjeaaDoor
