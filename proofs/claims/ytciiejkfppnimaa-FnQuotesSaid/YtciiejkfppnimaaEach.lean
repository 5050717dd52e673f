/- eachLine hands the lines on, one by one. -/
import Derived.Test.YtciiejkfppnimaaMbox
import Derived.Test.YtciiejkfppnimaaShelf
namespace Go.Proofs.Ytciiejkfppnimaa
open Go.RowKit Mem
set_option linter.unusedVariables false

theorem indexByte_find (c : UInt8) : ∀ l : List UInt8, Lib.indexByte l c = match l.findIdx? (· == c) with | some i => (i : Int) | none => -1
  | [] => rfl
  | b :: l => by
    have ih := indexByte_find c l
    simp only [Lib.indexByte, List.findIdx?_cons, ih]
    by_cases hb : (b == c) = true
    · simp [hb]
    · simp only [hb, Bool.false_eq_true, if_false]
      cases h : l.findIdx? (· == c) with
      | none => simp
      | some i => simp
theorem lineLen_index (l : List UInt8) : (lineLen l : Int) = if Lib.indexByte l 10 = -1 then (l.length : Int) else Lib.indexByte l 10 + 1 := by
  rw [indexByte_find]
  unfold lineLen
  cases h : l.findIdx? (· == 10) with
  | none => simp
  | some i => simp
theorem bytesOf_toNat (l : List UInt8) : Lib.bytesOf (l.map fun b : UInt8 => (b.toNat : Int)) = l := by
  simp [Lib.bytesOf, Function.comp_def]
theorem indexByte_calls {A : Option Addr} {c n : Nat} {ys : Bytes} {B : Nat → Prop} {w : World} (h : Row Ty.byte w B A n ys) (h0 : 0 < n) :
    Calls Try.prog 42 #[.slice A n c, .int .u8 10] w fun e w' => e = .returned (.int .i64 (Lib.indexByte ys 10)) ∧ w' = w := by
  obtain ⟨b, o, rfl, _, hc⟩ := h.plain h0
  have := Try.bytes_IndexByte b o n c (ys.map fun b : UInt8 => (b.toNat : Int)) 10 w (by rw [List.length_map]; exact h.1) hc
  rw [bytesOf_toNat] at this
  exact this

theorem drop_cut {xs ys : Bytes} {B : Nat → Prop} {A A' : Option Addr} {c' L : Nat} (HA : Sec (∀ W, Row Ty.byte W B A xs.length xs → Row Ty.byte W B A' ys.length ys)) (hL : L ≤ ys.length) (hc : ys.length ≤ c') :
    ∀ W, Row Ty.byte W B A xs.length xs → Row Ty.byte W B (if c' = L then A' else A'.map (fun x => x.add L)) (ys.drop L).length (ys.drop L) := by
  intro W h
  have := (HA.out W h).cut (k := L) (m := ys.length) (cap := c') hL (Nat.le_refl _) hc
  rw [List.take_length] at this
  rw [List.length_drop]
  simpa [show Ty.byte.sz = 1 from rfl] using this
theorem lines_at {xs ys : Bytes} {i : Nat} {l : Bytes} {r : List Bytes} (h : (lines xs).drop i = lines ys) (hs : lines ys = l :: r) : (lines xs)[i]? = some l ∧ (lines xs).drop (i + 1) = r := by
  rw [hs] at h
  have h0 : ((lines xs).drop i)[0]? = some l := by rw [h]; rfl
  refine ⟨by simpa using h0, ?_⟩
  rw [← List.drop_drop, h]; rfl

set_option maxHeartbeats 400000 in
set_option maxRecDepth 100000 in
theorem eachLineQ {A : Option Addr} {c : Nat} {xs : Bytes} {B : Nat → Prop} {w : World} {cv : Value} (I : Nat → World → Prop) (hl : xs.length ≤ 34359738368) (hc : xs.length ≤ c) (h0 : I 0 w)
    (hR : ∀ i w', I i w' → Row Ty.byte w' B A xs.length xs)
    (hI : ∀ i w' l n A' c', (lines xs)[i]? = some l → l.length = n → I i w' → Row Ty.byte w' B A' n l → n ≤ c' → Calls Try.prog 26 #[.slice A' n c', cv] w' (fun e w'' => e = .returned (.tuple #[]) ∧ I (i + 1) w'')) :
    Calls Try.prog 23 #[.slice A xs.length c, .func (.func 26) #[] #[cv]] w (fun e w' => e = .returned (.tuple #[]) ∧ I (lines xs).length w') := by
  have H0 := Sec.mk h0
  have HRR := Sec.mk hR
  have HII := Sec.mk hI
  clear h0 hR hI
  go_enter Try.func23, Try.ntmps23
  go_wp2
  go_loopw [0] (fun s wr => ∃ (i : Nat) (ys : Bytes) (A' : Option Addr) (c' : Nat), s = .slice A' ys.length c' ∧ ys.length ≤ xs.length ∧ ys.length ≤ c' ∧ Sec ((lines xs).drop i = lines ys) ∧ Sec (∀ W, Row Ty.byte W B A xs.length xs → Row Ty.byte W B A' ys.length ys) ∧ Sec (I i wr) ∧ Sec (i ≤ (lines xs).length)) (fun s _ => match s with | .slice _ n _ => n | _ => 0)
  case atStart => exact ⟨0, xs, A, c, rfl, Nat.le_refl _, hc, ⟨rfl⟩, ⟨fun _ h => h⟩, H0, ⟨Nat.zero_le _⟩⟩
  case round =>
    obtain ⟨i, ys, A', c', rfl, hyx, hyc, HL, HA, HI, HIL0⟩ := hrel
    by_cases hlt : 0 < ys.length
    · go_wp2_with fail
      refine (indexByte_calls (HA.out wr (HRR.out i wr HI.out)) hlt).mono ?_
      rintro e w1 ⟨rfl, rfl⟩
      have hne : ys ≠ [] := fun e => by subst e; simp at hlt
      have hLL := lineLen_index ys
      have hL1 := lineLen_le ys
      have hL0 := lineLen_pos hne
      have hge := Lib.indexByte_ge ys 10
      have HST := Sec.mk (lines_step ys hne)
      generalize Lib.indexByte ys 10 = q at *
      generalize hL : lineLen ys = L at *
      clear hL hne
      have HAT := Sec.mk (lines_at HL.out HST.out)
      have HDC := Sec.mk (drop_cut HA hL1 hyc)
      by_cases hq : q = -1
      · rw [if_pos hq] at hLL
        subst hq
        obtain rfl : L = ys.length := by omega
        clear hLL hge hL1 hL0
        go_wp2_with fail
        refine (HII.out i w1 (ys.take ys.length) ys.length A' c' HAT.out.1 (by simp) HI.out ((HA.out w1 (HRR.out i w1 HI.out)).take (Nat.le_refl _)) hyc).mono ?_
        rintro e w2 ⟨rfl, hi2⟩
        have HI2 := Sec.mk hi2
        clear hi2
        go_wp2
        all_goals
          go_roundw
          case rel => exact ⟨i + 1, ys.drop ys.length, _, c' - ys.length, by rw [List.length_drop, Nat.sub_self] <;> first | rfl | (rw [if_pos (by assumption)]) | (rw [if_neg (by assumption)]), by rw [List.length_drop]; omega, by rw [List.length_drop]; omega, ⟨HAT.out.2⟩, HDC, HI2, ⟨(List.getElem?_eq_some_iff.1 HAT.out.1).1⟩⟩
          case measure => simp; omega
      · rw [if_neg hq] at hLL
        obtain rfl : q = (L : Int) - 1 := by omega
        clear hLL hge hq
        have hq0 : ((L : Int) == 0) = false := by simp; omega
        go_wp2_with fail
        refine (HII.out i w1 (ys.take L) L A' c' HAT.out.1 (by rw [List.length_take]; omega) HI.out ((HA.out w1 (HRR.out i w1 HI.out)).take hL1) (by omega)).mono ?_
        rintro e w2 ⟨rfl, hi2⟩
        have HI2 := Sec.mk hi2
        clear hi2
        go_wp2
        all_goals
          go_roundw
          case rel => exact ⟨i + 1, ys.drop L, _, c' - L, by rw [List.length_drop] <;> first | rfl | (rw [if_pos (by assumption)]) | (rw [if_neg (by assumption)]), by rw [List.length_drop]; omega, by rw [List.length_drop]; omega, ⟨HAT.out.2⟩, HDC, HI2, ⟨(List.getElem?_eq_some_iff.1 HAT.out.1).1⟩⟩
          case measure => simp; omega
    · obtain rfl : ys = [] := List.eq_nil_of_length_eq_zero (by omega)
      have HIL : Sec ((lines xs).length ≤ i) := ⟨by
        have := congrArg List.length HL.out
        rw [List.length_drop, lines_nil] at this
        simp at this; omega⟩
      go_wp2
      go_end0
      refine ⟨rfl, ?_⟩
      have := HI.out
      rwa [show i = (lines xs).length from Nat.le_antisymm HIL0.out HIL.out] at this
end Go.Proofs.Ytciiejkfppnimaa
