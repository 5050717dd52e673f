/- The list of flags' names, in plain lists. The specification's list of flags. Drawn lines: short texts, whatever is drawn. -/
import Derived.Test.YtciiejkfppnimaaPk10
import Derived.Lib.Join
import Derived.Test.YtciiejkfppnimaaPk3
import Derived.Test.YtciiejkfppnimaaPk2
import Derived.Test.YtciiejkfppnimaaPk5
namespace Go.Proofs.Ytciiejkfppnimaa
set_option linter.unusedVariables false
open Mem
/-- the name of bit k -/
def nameL (k : Nat) : Bytes :=
  if k = 0 then [92, 65, 110, 115, 119, 101, 114, 101, 100] else if k = 1 then [92, 70, 108, 97, 103, 103, 101, 100] else if k = 2 then [92, 68, 101, 108, 101, 116, 101, 100]
  else if k = 3 then [92, 83, 101, 101, 110] else if k = 4 then [92, 68, 114, 97, 102, 116] else [UInt8.ofNat (97 + k - 5)]
theorem nameL_ne (k : Nat) : nameL k ≠ [] := by unfold nameL; (repeat' split) <;> simp
theorem nameL_len (k : Nat) : (nameL k).length ≤ 9 := by unfold nameL; (repeat' split) <;> simp
/-- the names of the bits below k -/
def namesTo (f k : Nat) : List Bytes := ((List.range k).filter fun k => f.testBit k).map nameL
theorem namesTo_zero (f : Nat) : namesTo f 0 = [] := rfl
theorem namesTo_succ (f k : Nat) : namesTo f (k + 1) = namesTo f k ++ (if f.testBit k then [nameL k] else []) := by
  unfold namesTo
  rw [List.range_succ, List.filter_append, List.map_append]
  congr 1
  cases h : f.testBit k <;> simp [h]
theorem namesTo_len (f k : Nat) : (namesTo f k).length ≤ k := by
  unfold namesTo; rw [List.length_map]; exact Nat.le_trans (List.length_filter_le _ _) (by simp)
def joinSp (xs : List Bytes) : Bytes := Lib.join xs [32]
theorem joinSp_nil : joinSp [] = [] := rfl
theorem joinSp_snoc (xs : List Bytes) (y : Bytes) : joinSp (xs ++ [y]) = if xs = [] then y else joinSp xs ++ [32] ++ y := by
  cases xs with
  | nil => simp [joinSp, Lib.join_one]
  | cons x r =>
    rw [if_neg (by simp)]
    unfold joinSp
    rw [List.cons_append, Lib.join_cons, Lib.join_cons]
    have h := Lib.joinTail_take_succ [32] (r ++ [y]) r.length y (by simp)
    rw [show (r ++ [y]).take (r.length + 1) = r ++ [y] by rw [List.take_of_length_le (by simp)], List.take_left' rfl] at h
    rw [h]; simp
theorem joinSp_ne (xs : List Bytes) (h : xs ≠ []) (hx : ∀ x, x ∈ xs → x ≠ []) : joinSp xs ≠ [] := by
  cases xs with
  | nil => exact absurd rfl h
  | cons x r =>
    unfold joinSp
    rw [Lib.join_cons]
    intro he
    exact hx x (List.mem_cons_self ..) (List.append_eq_nil_iff.1 he).1
theorem namesTo_ne (f k : Nat) : ∀ x, x ∈ namesTo f k → x ≠ [] := by
  intro x hx
  unfold namesTo at hx
  obtain ⟨j, _, rfl⟩ := List.mem_map.1 hx
  exact nameL_ne j
theorem joinSp_len (f k : Nat) : (joinSp (namesTo f k)).length ≤ 10 * k := by
  induction k with
  | zero => simp [namesTo_zero, joinSp_nil]
  | succ k ih =>
    rw [namesTo_succ]
    cases h : f.testBit k
    · simp; omega
    · simp only [if_true]
      rw [joinSp_snoc]
      have := nameL_len k
      split
      · omega
      · simp only [List.length_append, List.length_singleton]; omega
def FlagListL (f : Nat) : Bytes := [40] ++ joinSp (namesTo f 31) ++ [41]
end Go.Proofs.Ytciiejkfppnimaa

namespace Go.Proofs.Ytciiejkfppnimaa
open Go.RowKit Mem
set_option linter.unusedVariables false

set_option maxRecDepth 100000 in
theorem l6FlagName_calls (k : Nat) (hk : k < 31) (w : World) : Calls Try.prog 68 #[.int .i64 (k : Int)] w (Ret (.string ⟨(nameL k).toArray⟩) w) := by
  rcases (show k = 0 ∨ k = 1 ∨ k = 2 ∨ k = 3 ∨ k = 4 ∨ 5 ≤ k by omega) with rfl | rfl | rfl | rfl | rfl | h
  · go_enter Try.func68, Try.ntmps68
    go_wp2
    go_ret
    exact ⟨rfl, Mod.refl _ _⟩
  · go_enter Try.func68, Try.ntmps68
    go_wp2
    go_ret
    exact ⟨rfl, Mod.refl _ _⟩
  · go_enter Try.func68, Try.ntmps68
    go_wp2
    go_ret
    exact ⟨rfl, Mod.refl _ _⟩
  · go_enter Try.func68, Try.ntmps68
    go_wp2
    go_ret
    exact ⟨rfl, Mod.refl _ _⟩
  · go_enter Try.func68, Try.ntmps68
    go_wp2
    go_ret
    exact ⟨rfl, Mod.refl _ _⟩
  · have h0 : (k : Int) ≠ 0 := by omega
    have h1 : (k : Int) ≠ 1 := by omega
    have h2 : (k : Int) ≠ 2 := by omega
    have h3 : (k : Int) ≠ 3 := by omega
    have h4 : (k : Int) ≠ 4 := by omega
    have HL : Sec (nameL k = [UInt8.ofNat (97 + k - 5)]) := ⟨by unfold nameL; rw [if_neg (by omega), if_neg (by omega), if_neg (by omega), if_neg (by omega), if_neg (by omega)]⟩
    have HRO := Row.one w 5 (UInt8.ofNat (97 + k - 5)) (97 + (k : Int) - 5) (by rw [UInt8.toNat_ofNat']; omega)
    have hcv := HRO.conv (P := Try.prog) Try.underlying22 Try.underlying5 Try.underlying9 1
    clear HRO
    go_enter Try.func68, Try.ntmps68
    go_wp2
    go_ret
    rw [HL.out]
    exact ⟨rfl, (Mod.refl _ _).alloc _⟩

set_option maxHeartbeats 1000000 in
set_option maxRecDepth 100000 in
theorem flagListSpec_calls (f : Nat) (hf : f < 4294967296) (w : World) : Calls Try.prog 65 #[.int .u32 (f : Int)] w (Ret (.string ⟨(FlagListL f).toArray⟩) w) := by
  have HD : Sec (FlagListL f = [40] ++ joinSp (namesTo f 31) ++ [41]) := ⟨rfl⟩
  go_enter Try.func65, Try.ntmps65
  go_wp2
  go_loopw [3, 4] (fun s i wr => ∃ (k : Nat), k ≤ 31 ∧ i = .int .i64 (k : Int) ∧ s = .string ⟨(joinSp (namesTo f k)).toArray⟩ ∧ Sec (New w wr)) (fun _ i _ => 31 - (intOf i).toNat)
  case atStart => exact ⟨0, by omega, rfl, rfl, ⟨Mod.refl _ _⟩⟩
  case round =>
    obtain ⟨k, hk, rfl, rfl, HM⟩ := hrel
    by_cases hlt : k < 31
    · have HS := Sec.mk (namesTo_succ f k)
      have HJ := Sec.mk (joinSp_snoc (namesTo f k) (nameL k))
      have HNE := Sec.mk (fun h => joinSp_ne (namesTo f k) h (namesTo_ne f k))
      have hjl := joinSp_len f k
      have hnl := nameL_len k
      have HH := Sec.mk (fun w => l4Has_calls f hf k hlt w)
      have HN := Sec.mk (fun w => l6FlagName_calls k hlt w)
      generalize ht : f.testBit k = t at *
      clear ht
      go_wp2_with fail
      refine (HH.out _).mono ?_
      rintro e w1 ⟨rfl, rfl⟩
      cases t
      · go_wp2
        go_roundw
        case rel => exact ⟨k + 1, by omega, by go_num, by rw [HS.out]; simp, HM⟩
        case measure => simp [intOf]; omega
      · by_cases hnil : namesTo f k = []
        · have HE : Sec (joinSp (namesTo f (k + 1)) = nameL k) := ⟨by rw [HS.out, if_pos rfl, HJ.out, if_pos hnil]⟩
          rw [hnil, joinSp_nil]
          clear hnil
          go_wp2_with fail
          refine (HN.out _).mono ?_
          rintro e w2 ⟨rfl, hm2⟩
          have HM2 := Sec.mk (HM.out.transN hm2)
          clear hm2
          go_wp2
          go_roundw
          case rel => exact ⟨k + 1, by omega, by go_num, by rw [HE.out]; exact congrArg Value.string (ba_app [] _), HM2⟩
          case measure => simp [intOf]; omega
        · have HE : Sec (joinSp (namesTo f (k + 1)) = joinSp (namesTo f k) ++ [32] ++ nameL k) := ⟨by rw [HS.out, if_pos rfl, HJ.out, if_neg hnil]⟩
          have hjn := HNE.out hnil
          clear hnil
          generalize joinSp (namesTo f k) = js at *
          have hjb : js.isEmpty = false := by simpa using hjn
          go_wp2_with fail
          refine (HN.out _).mono ?_
          rintro e w2 ⟨rfl, hm2⟩
          have HM2 := Sec.mk (HM.out.transN hm2)
          clear hm2
          go_wp2
          go_roundw
          case rel => exact ⟨k + 1, by omega, by go_num, by rw [HE.out, ba_app js [32], ba_app], HM2⟩
          case measure => simp [intOf]; omega
    · obtain rfl : k = 31 := by omega
      have hjl := joinSp_len f 31
      generalize joinSp (namesTo f 31) = js at *
      go_wp2
      go_ret
      refine ⟨?_, HM.out⟩
      rw [HD.out, ← ba_app, ← ba_app]
      rfl
end Go.Proofs.Ytciiejkfppnimaa

namespace Go.Proofs.Ytciiejkfppnimaa
open Go.RowKit Mem
set_option linter.unusedVariables false
set_option linter.unusedSimpArgs false
/-- a short text, and the reader's next state -/
def StrFew (w : World) (g m : Nat) (e : Ending) (w' : World) : Prop :=
  ∃ (X : ByteArray) (ys : Bytes), e = .returned (.string X) ∧ X.size ≤ m ∧ Rdr w' g ys ∧ Mod (· = g) w w'
theorem lower_at (X : ByteArray) (hx : X.size ≤ 1048576) (w : World) : Calls Try.prog 63 #[.string X] w (fun e w' => ∃ Y : ByteArray, e = .returned (.string Y) ∧ Y.size = X.size ∧ New w w') := by
  obtain ⟨⟨xs⟩⟩ := X
  refine (lower_calls xs (Nat.le_trans (show xs.length ≤ 1048576 from hx) (by decide)) w).mono ?_
  rintro e w' ⟨rfl, hn⟩
  exact ⟨_, rfl, by simp [ByteArray.size, loL], hn⟩
theorem dec_at (N m : Nat) (hN : N ≤ 9999999) (w : World) : Calls Try.prog 54 #[.int .i64 (N : Int)] w (fun e w' => ∃ Y : ByteArray, e = .returned (.string Y) ∧ Y.size ≤ 13 ∧ New w w') := by
  refine (l1Dec_calls N (by omega) w).mono ?_
  rintro e w' ⟨rfl, hn⟩
  exact ⟨_, rfl, by simpa [ByteArray.size] using dec_len N (by omega), hn⟩
set_option maxHeartbeats 1000000 in
set_option maxRecDepth 100000 in
theorem l6Word_calls {w : World} {g m : Nat} {ys : Bytes} (h : Rdr w g ys) (X : ByteArray) (hX : X.size ≤ m) (hm : m ≤ 1048576) : Calls Try.prog 53 #[.pointer (some ⟨g, 0, none⟩), .string X] w (StrFew w g m) := by
  have HN := Sec.mk (next_calls h)
  have hg := h.lt
  have hc := nextD_lt ys
  have HL := Sec.mk (fun w => lower_at X (Nat.le_trans hX hm) w)
  have HX := Sec.mk hX
  generalize (nextD ys).1 = c at *
  generalize (nextD ys).2 = ys2 at *
  clear h hX
  by_cases h3 : c % 3 = 0
  · have hi : ((c : Int) % 3) = 0 := by omega
    go_enter Try.func53, Try.ntmps53
    go_wp2_with fail
    refine HN.out.mono ?_
    rintro e w1 ⟨rfl, hr1, hm1⟩
    have HR1 := Sec.mk hr1
    have HM1 := Sec.mk hm1
    have hs1 := hm1.size
    clear hr1 hm1
    go_wp2_with fail
    refine (HL.out _).mono ?_
    rintro e w2 ⟨Y, rfl, hY, hn⟩
    have HY := Sec.mk hY
    have HN2 := Sec.mk hn
    clear hY hn
    go_wp2
    go_ret
    exact ⟨Y, ys2, rfl, by rw [HY.out]; exact HX.out, HR1.out.mod HN2.out (fun _ _ h => h), HM1.out.trans HN2.out (fun i hi hlt => absurd hi (fun h => h))⟩
  · have hi : ((c : Int) % 3) ≠ 0 := by omega
    go_enter Try.func53, Try.ntmps53
    go_wp2_with fail
    refine HN.out.mono ?_
    rintro e w1 ⟨rfl, hr1, hm1⟩
    have HR1 := Sec.mk hr1
    have HM1 := Sec.mk hm1
    clear hr1 hm1
    go_wp2
    go_ret
    exact ⟨X, ys2, rfl, HX.out, HR1.out, HM1.out⟩
set_option maxHeartbeats 2000000 in
set_option maxRecDepth 100000 in
theorem l6Num_calls {w : World} {g : Nat} {ys : Bytes} (h : Rdr w g ys) : Calls Try.prog 64 #[.pointer (some ⟨g, 0, none⟩)] w (StrFew w g 13) := by
  have HN := Sec.mk (next_calls h)
  have hg := h.lt
  have hc := nextD_lt ys
  generalize (nextD ys).1 = c at *
  generalize (nextD ys).2 = ys2 at *
  clear h
  rcases (show c % 10 = 0 ∨ c % 10 = 1 ∨ 2 ≤ c % 10 by omega) with hj | hj | hj
  · have hi : ((c : Int) % 10) = 0 := by omega
    clear hj
    go_enter Try.func64, Try.ntmps64
    go_wp2_with fail
    refine HN.out.mono ?_
    rintro e w1 ⟨rfl, hr1, hm1⟩
    have HR1 := Sec.mk hr1
    have HM1 := Sec.mk hm1
    clear hr1 hm1
    go_wp2
    go_ret
    exact ⟨_, ys2, rfl, by decide, HR1.out, HM1.out⟩
  · have hi : ((c : Int) % 10) = 1 := by omega
    clear hj
    rcases (show c / 10 % 6 = 0 ∨ c / 10 % 6 = 1 ∨ c / 10 % 6 = 2 ∨ c / 10 % 6 = 3 ∨ c / 10 % 6 = 4 ∨ c / 10 % 6 = 5 by omega) with hk | hk | hk | hk | hk | hk
    all_goals
      have hki : ((c : Int) / 10) % 6 = ((c / 10 % 6 : Nat) : Int) := by omega
      rw [hk] at hki
      clear hk
      go_enter Try.func64, Try.ntmps64
      go_wp2_with fail
      refine HN.out.mono ?_
      rintro e w1 ⟨rfl, hr1, hm1⟩
      have HR1 := Sec.mk hr1
      have HM1 := Sec.mk hm1
      clear hr1 hm1
      go_wp2
      (try rw [hki])
      go_wp2
      go_ret
      exact ⟨_, ys2, rfl, by decide, HR1.out.mod ((Mod.refl (fun _ => False) w1).alloc _) (fun _ _ h => h), HM1.out.alloc _⟩
  · have hi : ((c : Int) % 10) ≠ 0 := by omega
    have hi2 : ((c : Int) % 10) ≠ 1 := by omega
    clear hj
    have hcc : ((c : Int) % 9 + 1) = ((c % 9 + 1 : Nat) : Int) := by omega
    have HD := Sec.mk (fun w => dec_at (c % 9 + 1) 0 (by omega) w)
    rw [← hcc] at HD
    clear hcc
    go_enter Try.func64, Try.ntmps64
    go_wp2_with fail
    refine HN.out.mono ?_
    rintro e w1 ⟨rfl, hr1, hm1⟩
    have HR1 := Sec.mk hr1
    have HM1 := Sec.mk hm1
    clear hr1 hm1
    go_wp2_with fail
    refine (HD.out _).mono ?_
    rintro e w2 ⟨Y, rfl, hY, hn⟩
    have HN2 := Sec.mk hn
    clear hn
    go_wp2
    go_ret
    exact ⟨Y, ys2, rfl, hY, HR1.out.mod HN2.out (fun _ _ h => h), HM1.out.trans HN2.out (fun i hi hlt => absurd hi (fun h => h))⟩
end Go.Proofs.Ytciiejkfppnimaa
