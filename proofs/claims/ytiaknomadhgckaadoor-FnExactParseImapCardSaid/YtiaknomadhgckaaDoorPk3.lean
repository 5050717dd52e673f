/- Strings: read at a place, joined, cut; rows of strings. The specification's cuts of a text. What stands in brackets. The specification's letters of flags. The specification's list of flags. The program's list of flags. The items of a FETCH, both sides. strings.Cut at one byte, whatever the library's variables hold. strings.Split and strings.Cut at one byte. Maps of the call's own, by what they answer. -/
import Derived.Test.YtiaknomadhgckaaDoorPk1
import Derived.Test.YtiaknomadhgckaaDoorPk2
import Derived.Test.YtiaknomadhgckaaDoorProg
import Derived.WalkKit
import Derived.BigQuiet
import Derived.OwnWalk
import Derived.Test.YtiaknomadhgckaaDoorShelf
import Derived.Lib.IndexMore
import Derived.Maps.OwnOps
import Derived.Maps.Views
namespace Go.Proofs.YtiaknomadhgckaaDoor
open Go.RowKit Mem
set_option linter.unusedVariables false
theorem strIdx_run (xs : Bytes) (k : Nat) (h : k < xs.length) (w : World) : (Instr.index 9 (.string ⟨xs.toArray⟩) (.int .i64 (k : Int))).run Tryd.prog w = .ok (.int .u8 (xs[k].toNat : Int)) w := by
  have h0 : (0 : Int) ≤ (k : Int) := by omega
  have h1 : (k : Int) < (xs.length : Int) := by omega
  have hsz : (⟨xs.toArray⟩ : ByteArray).size = xs.length := by simp [ByteArray.size]
  have hg : (⟨xs.toArray⟩ : ByteArray).get! k = xs[k] := by simp [ByteArray.get!, h]
  go_simp
  show ((xs.toArray[k]'(by simpa using h)).toNat : Int) = _
  simp
theorem elt_str : Elt Tryd.prog 9 Ty.string.sz (.string ⟨#[]⟩) := Elt.of (b := 16) (by kernel_rfl) rfl (by decide) (by decide)
def toS (xs : Bytes) : ByteArray := ⟨xs.toArray⟩
theorem row_str (w : World) (e : TypeId) (s : ByteArray) : Row Ty.string (w.alloc (.cells #[.string s] e)) (· = w.heap.size) (some ⟨w.heap.size, 0, none⟩) 1 [s] := by
  refine ⟨rfl, by omega, fun _ => ⟨_, rfl, rfl, fun j x hj => ?_⟩⟩
  have hj0 : j = 0 := by have := (List.getElem?_eq_some_iff.1 hj).1; simp at this; exact this
  subst hj0
  have hx : x = s := by simpa using hj.symm
  subst hx
  refine ⟨[.string x], rfl, fun i u hu => ?_⟩
  rw [show 0 * Ty.string.sz + i = i by omega, add_own, cell_of_row _ _ i _ e (0, 0) (heap_alloc_new w _)]
  simpa using hu
theorem ba_ext (xs : Bytes) (i j : Nat) : (⟨xs.toArray⟩ : ByteArray).extract i j = ⟨((xs.take j).drop i).toArray⟩ := by
  apply ByteArray.ext
  rw [ByteArray.data_extract]
  simp [List.drop_take]
theorem row_of_strings (w : World) (e : TypeId) (ss : List ByteArray) (h : ss.length ≤ 9223372036854775807) : Row Ty.string (w.alloc (.cells (ss.map Value.string).toArray e)) (· = w.heap.size) (some ⟨w.heap.size, 0, none⟩) ss.length ss := by
  refine ⟨rfl, h, fun _ => ⟨_, rfl, rfl, fun j x hj => ⟨[.string x], rfl, fun i u hu => ?_⟩⟩⟩
  have hi : i = 0 := by have := (List.getElem?_eq_some_iff.1 hu).1; simpa using this
  subst hi
  rw [show j * Ty.string.sz + 0 = j from Nat.mul_one j, add_own, cell_of_row _ _ j _ e (0, 0) (heap_alloc_new w _)]
  rw [List.getElem?_toArray, List.getElem?_map, hj]
  simpa using hu
end Go.Proofs.YtiaknomadhgckaaDoor

namespace Go.Proofs.YtiaknomadhgckaaDoor
open Go.RowKit Mem
set_option linter.unusedVariables false
def Cut3 (x : Bytes × Bytes × Bool) : Value := .tuple #[.string ⟨x.1.toArray⟩, .string ⟨x.2.1.toArray⟩, .bool x.2.2]
set_option maxHeartbeats 1000000 in
set_option maxRecDepth 100000 in
theorem l4Cut_calls (xs : Bytes) (hx : xs.length ≤ 34359738368) (b : UInt8) (w : World) : Calls Tryd.prog 35 #[.string ⟨xs.toArray⟩, .int .u8 (b.toNat : Int)] w (Ret (Cut3 (cutL b xs)) w) := by
  have hsz : (⟨xs.toArray⟩ : ByteArray).size = xs.length := by simp [ByteArray.size]
  go_enter Tryd.func35, Tryd.ntmps35
  go_wp2
  go_loopw [7] (fun i wr => ∃ k : Nat, k ≤ xs.length ∧ i = .int .i64 (k : Int) ∧ Sec (∀ j, (hj : j < xs.length) → j < k → xs[j] ≠ b) ∧ Sec (New w wr)) (fun i _ => xs.length - (intOf i).toNat)
  case atStart => exact ⟨0, Nat.zero_le _, rfl, ⟨fun j _ h => absurd h (Nat.not_lt_zero _)⟩, ⟨Mod.refl _ _⟩⟩
  case round =>
    obtain ⟨k, hk, rfl, HN, HM⟩ := hrel
    by_cases hlt : k < xs.length
    · have hki : (k : Int) < (xs.length : Int) := by omega
      have hgx := strIdx_run xs k hlt
      by_cases he : xs[k] = b
      · have HC := Sec.mk (cutL_hit b xs k hlt (fun j hj => HN.out j (by omega) hj) he)
        rw [he] at hgx
        have e1 := ba_ext xs 0 k
        have e2 := ba_ext xs (k + 1) xs.length
        rw [List.drop_zero] at e1
        rw [List.take_length] at e2
        clear he
        have hub : ((k : Int) + 1) ≤ (xs.length : Int) := by omega
        go_wp2
        go_quiet (fail)
        go_wp2
        go_ret3
        rw [HC.out]
        exact ⟨rfl, HM.out.drewN _⟩
      · have he2 : ¬ ((xs[k].toNat : Int) = (b.toNat : Int)) := fun h => he (UInt8.toNat.inj (by omega))
        have HN2 : Sec (∀ j, (hj : j < xs.length) → j < k + 1 → xs[j] ≠ b) := ⟨fun j hj h => by rcases Nat.lt_succ_iff_lt_or_eq.1 h with h | rfl; exact HN.out j hj h; exact he⟩
        clear he
        go_wp2
        go_roundw
        case rel => exact ⟨k + 1, by omega, by go_num, HN2, HM⟩
        case measure => simp [intOf]; omega
    · obtain rfl : k = xs.length := by omega
      have HC := Sec.mk (cutL_miss b xs (fun j hj => HN.out j hj hj))
      go_wp2
      go_ret3
      rw [HC.out]
      exact ⟨rfl, HM.out⟩
set_option maxHeartbeats 1000000 in
set_option maxRecDepth 100000 in
theorem l6Split_calls (xs : Bytes) (hx : xs.length ≤ 16777216) (b : UInt8) (w : World) : Calls Tryd.prog 63 #[.string ⟨xs.toArray⟩, .int .u8 (b.toNat : Int)] w (RetOwn Ty.string 9 w ((splitL b xs).map toS)) := by
  have hsl := splitL_len b xs
  go_enter Tryd.func63, Tryd.ntmps63
  go_wp2
  go_loopw [0, 5] (fun s o wr => ∃ (done : List ByteArray) (cur : Bytes) (A : Option Addr) (n c : Nat), Sec ((splitL b xs).map toS = done ++ (splitL b cur).map toS) ∧ cur.length ≤ xs.length ∧ s = .string ⟨cur.toArray⟩ ∧ o = .slice A n c ∧ Sec (Mine Ty.string 9 w wr (.slice A n c) done)) (fun s _ _ => match s with | .string x => x.size | _ => 0)
  case atStart => exact ⟨[], xs, _, _, _, ⟨rfl⟩, Nat.le_refl _, rfl, rfl, ⟨Mine.nil _ _ (Mod.refl _ _)⟩⟩
  case round =>
    obtain ⟨done, cur, A, n, c, HS, hcl, rfl, rfl, HO⟩ := hrel
    have HC := Sec.mk (l4Cut_calls cur (by omega) b)
    have hdl : done.length ≤ 16777217 := by
      have h1 := congrArg List.length HS.out
      rw [List.length_append, List.length_map, List.length_map] at h1
      omega
    cases hq : (cutL b cur).2.2
    · have HN := Sec.mk (cutL_no b cur hq)
      have HSP := Sec.mk (splitL_no b cur hq)
      rw [HN.out] at HC
      simp only [Cut3] at HC
      clear hq
      go_wp2_with fail
      refine (HC.out _).mono ?_
      rintro e w2 ⟨rfl, hm2⟩
      have HO2 := Sec.mk (HO.out.step hm2)
      clear hm2
      go_wp2_with (at_builtin; go_loud (refine wpList_app _ rfl (.tmp 16) (.tmp 18) _ rfl Tryd.underlying100 elt_str flat_string rfl rfl (HO2.out.alloc _) (row_str _ _ _) (show done.length + [(⟨cur.toArray⟩ : ByteArray)].length ≤ 34359738368 by simp only [List.length_singleton]; omega) ?_; intro A6 n6 c6 w6 HO6))
      go_wp2
      go_ret
      rw [HS.out, HSP.out]
      exact HO6.ret
    · have HL := cutL_len b cur hq
      have HSP := Sec.mk (splitL_hit b cur hq)
      have HCT : Sec (cutL b cur = ((cutL b cur).1, (cutL b cur).2.1, true)) := ⟨by rw [← hq]⟩
      rw [HCT.out] at HC
      simp only [Cut3] at HC
      generalize (cutL b cur).1 = x at *
      generalize (cutL b cur).2.1 = y at *
      clear hq HCT
      go_wp2_with fail
      refine (HC.out _).mono ?_
      rintro e w2 ⟨rfl, hm2⟩
      have HO2 := Sec.mk (HO.out.step hm2)
      clear hm2
      go_wp2_with (at_builtin; go_loud (refine wpList_app _ rfl (.tmp 16) (.tmp 18) _ rfl Tryd.underlying100 elt_str flat_string rfl rfl (HO2.out.alloc _) (row_str _ _ _) (show done.length + [(⟨x.toArray⟩ : ByteArray)].length ≤ 34359738368 by simp only [List.length_singleton]; omega) ?_; intro A6 n6 c6 w6 HO6))
      have HO6' := Sec.mk HO6
      clear HO6
      go_wp2
      go_roundw
      case rel => exact ⟨done ++ [toS x], y, A6, n6, c6, ⟨by rw [HS.out, HSP.out]; simp⟩, by omega, rfl, rfl, HO6'⟩
      case measure => simp [ByteArray.size]; omega
end Go.Proofs.YtiaknomadhgckaaDoor

namespace Go.Proofs.YtiaknomadhgckaaDoor
open Go.RowKit Mem
set_option linter.unusedVariables false
def BrV (x : Option Bytes) : Value := match x with | none => .tuple #[.string ⟨#[]⟩, .bool false] | some y => .tuple #[.string ⟨y.toArray⟩, .bool true]
set_option maxHeartbeats 1000000 in
set_option maxRecDepth 100000 in
theorem l6Brackets_calls (xs : Bytes) (hx : xs.length ≤ 34359738368) (w : World) : Calls Tryd.prog 62 #[.string ⟨xs.toArray⟩] w (Ret (BrV (brL xs)) w) := by
  have hsz : (⟨xs.toArray⟩ : ByteArray).size = xs.length := by simp [ByteArray.size]
  have HD : Sec (brL xs = if 2 ≤ xs.length ∧ xs[0]? = some 40 ∧ xs[xs.length - 1]? = some 41 then some ((xs.take (xs.length - 1)).drop 1) else none) := ⟨rfl⟩
  by_cases h2 : xs.length < 2
  · have h2i : (xs.length : Int) < 2 := by omega
    have HE : Sec (brL xs = none) := ⟨by rw [HD.out, if_neg (by omega)]⟩
    go_enter Tryd.func62, Tryd.ntmps62
    go_wp2
    go_ret2
    rw [HE.out]
    exact ⟨rfl, Mod.refl _ _⟩
  have h2i : ¬ (xs.length : Int) < 2 := by omega
  have hg0 := strIdx_run xs 0 (by omega)
  have hg1 := strIdx_run xs (xs.length - 1) (by omega)
  rw [show (((xs.length - 1 : Nat)) : Int) = (xs.length : Int) - 1 by omega] at hg1
  simp only [Int.ofNat_zero] at hg0
  have E0 : Sec (xs[0]? = some xs[0]) := ⟨List.getElem?_eq_getElem _⟩
  have E1 : Sec (xs[xs.length - 1]? = some xs[xs.length - 1]) := ⟨List.getElem?_eq_getElem _⟩
  have e3 := ba_ext xs 1 (xs.length - 1)
  generalize xs[0] = b0 at *
  generalize xs[xs.length - 1] = b1 at *
  by_cases h0 : b0 = 40
  · by_cases h1 : b1 = 41
    · subst h0
      subst h1
      have HE : Sec (brL xs = some ((xs.take (xs.length - 1)).drop 1)) := ⟨by rw [HD.out, if_pos ⟨by omega, E0.out, E1.out⟩]⟩
      have hq0 : ((40 : UInt8).toNat : Int) = 40 := rfl
      have hq1 : ((41 : UInt8).toNat : Int) = 41 := rfl
      rw [hq0] at hg0
      rw [hq1] at hg1
      have hb1 : (1 : Int) ≤ (xs.length : Int) - 1 := by omega
      have hb2 : (xs.length : Int) - 1 ≤ (xs.length : Int) := by omega
      have ht : ((xs.length : Int) - 1).toNat = xs.length - 1 := by omega
      go_enter Tryd.func62, Tryd.ntmps62
      go_wp2
      go_ret2
      refine ⟨?_, Mod.refl _ _⟩
      rw [HE.out, List.drop_one]
      rfl
    · have hn : ¬ ((b1.toNat : Int) = 41) := fun h => h1 (UInt8.toNat.inj (by show b1.toNat = 41; omega))
      have HE : Sec (brL xs = none) := ⟨by rw [HD.out, if_neg]; rintro ⟨_, _, h⟩; rw [E1.out] at h; exact h1 (Option.some.inj h)⟩
      subst h0
      clear h1
      go_enter Tryd.func62, Tryd.ntmps62
      go_wp2
      go_ret2
      rw [HE.out]
      exact ⟨rfl, Mod.refl _ _⟩
  · have hn : ¬ ((b0.toNat : Int) = 40) := fun h => h0 (UInt8.toNat.inj (by show b0.toNat = 40; omega))
    have HE : Sec (brL xs = none) := ⟨by rw [HD.out, if_neg]; rintro ⟨_, h, _⟩; rw [E0.out] at h; exact h0 (Option.some.inj h)⟩
    clear h0
    go_enter Tryd.func62, Tryd.ntmps62
    go_wp2
    go_ret2
    rw [HE.out]
    exact ⟨rfl, Mod.refl _ _⟩
set_option maxHeartbeats 1000000 in
set_option maxRecDepth 100000 in
theorem bracketed_calls (xs : Bytes) (hx : xs.length ≤ 34359738368) (w : World) : Calls Tryd.prog 94 #[.string ⟨xs.toArray⟩] w (Ret (BrV (brL xs)) w) := by
  have hsz : (⟨xs.toArray⟩ : ByteArray).size = xs.length := by simp [ByteArray.size]
  have HD : Sec (brL xs = if 2 ≤ xs.length ∧ xs[0]? = some 40 ∧ xs[xs.length - 1]? = some 41 then some ((xs.take (xs.length - 1)).drop 1) else none) := ⟨rfl⟩
  by_cases h2 : xs.length < 2
  · have h2i : (xs.length : Int) < 2 := by omega
    have HE : Sec (brL xs = none) := ⟨by rw [HD.out, if_neg (by omega)]⟩
    go_enter Tryd.func94, Tryd.ntmps94
    go_wp2
    go_ret2
    rw [HE.out]
    exact ⟨rfl, Mod.refl _ _⟩
  have h2i : ¬ (xs.length : Int) < 2 := by omega
  have hg0 := strIdx_run xs 0 (by omega)
  have hg1 := strIdx_run xs (xs.length - 1) (by omega)
  rw [show (((xs.length - 1 : Nat)) : Int) = (xs.length : Int) - 1 by omega] at hg1
  simp only [Int.ofNat_zero] at hg0
  have E0 : Sec (xs[0]? = some xs[0]) := ⟨List.getElem?_eq_getElem _⟩
  have E1 : Sec (xs[xs.length - 1]? = some xs[xs.length - 1]) := ⟨List.getElem?_eq_getElem _⟩
  have e3 := ba_ext xs 1 (xs.length - 1)
  generalize xs[0] = b0 at *
  generalize xs[xs.length - 1] = b1 at *
  by_cases h0 : b0 = 40
  · by_cases h1 : b1 = 41
    · subst h0
      subst h1
      have HE : Sec (brL xs = some ((xs.take (xs.length - 1)).drop 1)) := ⟨by rw [HD.out, if_pos ⟨by omega, E0.out, E1.out⟩]⟩
      have hq0 : ((40 : UInt8).toNat : Int) = 40 := rfl
      have hq1 : ((41 : UInt8).toNat : Int) = 41 := rfl
      rw [hq0] at hg0
      rw [hq1] at hg1
      have hb1 : (1 : Int) ≤ (xs.length : Int) - 1 := by omega
      have hb2 : (xs.length : Int) - 1 ≤ (xs.length : Int) := by omega
      have ht : ((xs.length : Int) - 1).toNat = xs.length - 1 := by omega
      go_enter Tryd.func94, Tryd.ntmps94
      go_wp2
      go_ret2
      refine ⟨?_, Mod.refl _ _⟩
      rw [HE.out, List.drop_one]
      rfl
    · have hn : ¬ ((b1.toNat : Int) = 41) := fun h => h1 (UInt8.toNat.inj (by show b1.toNat = 41; omega))
      have HE : Sec (brL xs = none) := ⟨by rw [HD.out, if_neg]; rintro ⟨_, _, h⟩; rw [E1.out] at h; exact h1 (Option.some.inj h)⟩
      subst h0
      clear h1
      go_enter Tryd.func94, Tryd.ntmps94
      go_wp2
      go_ret2
      rw [HE.out]
      exact ⟨rfl, Mod.refl _ _⟩
  · have hn : ¬ ((b0.toNat : Int) = 40) := fun h => h0 (UInt8.toNat.inj (by show b0.toNat = 40; omega))
    have HE : Sec (brL xs = none) := ⟨by rw [HD.out, if_neg]; rintro ⟨_, h, _⟩; rw [E0.out] at h; exact h0 (Option.some.inj h)⟩
    clear h0
    go_enter Tryd.func94, Tryd.ntmps94
    go_wp2
    go_ret2
    rw [HE.out]
    exact ⟨rfl, Mod.refl _ _⟩
end Go.Proofs.YtiaknomadhgckaaDoor

namespace Go.Proofs.YtiaknomadhgckaaDoor
open Go.RowKit Mem
set_option linter.unusedVariables false
end Go.Proofs.YtiaknomadhgckaaDoor

namespace Go.Proofs.YtiaknomadhgckaaDoor
open Go.RowKit Mem
set_option linter.unusedVariables false
set_option maxRecDepth 100000 in
theorem l6FlagName_calls (k : Nat) (hk : k < 31) (w : World) : Calls Tryd.prog 64 #[.int .i64 (k : Int)] w (Ret (.string ⟨(nameL k).toArray⟩) w) := by
  rcases (show k = 0 ∨ k = 1 ∨ k = 2 ∨ k = 3 ∨ k = 4 ∨ 5 ≤ k by omega) with rfl | rfl | rfl | rfl | rfl | h
  · go_enter Tryd.func64, Tryd.ntmps64
    go_wp2
    go_ret
    exact ⟨rfl, Mod.refl _ _⟩
  · go_enter Tryd.func64, Tryd.ntmps64
    go_wp2
    go_ret
    exact ⟨rfl, Mod.refl _ _⟩
  · go_enter Tryd.func64, Tryd.ntmps64
    go_wp2
    go_ret
    exact ⟨rfl, Mod.refl _ _⟩
  · go_enter Tryd.func64, Tryd.ntmps64
    go_wp2
    go_ret
    exact ⟨rfl, Mod.refl _ _⟩
  · go_enter Tryd.func64, Tryd.ntmps64
    go_wp2
    go_ret
    exact ⟨rfl, Mod.refl _ _⟩
  · have h0 : (k : Int) ≠ 0 := by omega
    have h1 : (k : Int) ≠ 1 := by omega
    have h2 : (k : Int) ≠ 2 := by omega
    have h3 : (k : Int) ≠ 3 := by omega
    have h4 : (k : Int) ≠ 4 := by omega
    have HL : Sec (nameL k = [UInt8.ofNat (97 + k - 5)]) := ⟨by unfold nameL; rw [if_neg (by omega), if_neg (by omega), if_neg (by omega), if_neg (by omega), if_neg (by omega)]⟩
    have HRO := Row.one w 5 (UInt8.ofNat (97 + k - 5)) (97 + (k : Int) - 5) (by rw [UInt8.toNat_ofNat']; omega)
    have hcv := HRO.conv (P := Tryd.prog) Tryd.underlying32 Tryd.underlying5 Tryd.underlying9 1
    clear HRO
    go_enter Tryd.func64, Tryd.ntmps64
    go_wp2
    go_ret
    rw [HL.out]
    exact ⟨rfl, (Mod.refl _ _).alloc _⟩
end Go.Proofs.YtiaknomadhgckaaDoor

namespace Go.Proofs.YtiaknomadhgckaaDoor
open Go.RowKit Mem
set_option linter.unusedVariables false
def NamesAt (w : World) : Prop := ∃ ad c, w.cell? ⟨1, 0, none⟩ = some (.slice (some ad) 5 c) ∧ Row Ty.string w (· < w.heap.size) (some ad) 5 ((List.range 5).map fun k => toS (nameL k))
theorem NamesAt.new {w w' : World} (h : NamesAt w) (hm : New w w') : NamesAt w' := by
  obtain ⟨ad, c, h1, h2⟩ := h
  refine ⟨ad, c, ?_, h2.mod (fun k hk => Nat.lt_of_lt_of_le hk hm.size) (fun k hk => hm.block k hk id)⟩
  rw [← h1]
  exact World.cell?_of_block (hm.block _ (World.block_lt_of_cell? w _ h1) id)
end Go.Proofs.YtiaknomadhgckaaDoor

namespace Go.Proofs.YtiaknomadhgckaaDoor
open Go.RowKit Mem
set_option linter.unusedVariables false
set_option linter.unusedSimpArgs false
theorem or16 : ∀ a : Nat, a < 16 → ∀ b : Nat, b < 16 → bits .or .i64 (a : Int) (b : Int) = ((a ||| b : Nat) : Int) := by decide
theorem itemN_lo (xs : Bytes) : itemN (upL xs) = if loL xs = [98, 111, 100, 121, 91, 93] then 8 else if loL xs = [114, 102, 99, 56, 50, 50, 46, 115, 105, 122, 101] then 4 else if loL xs = [102, 108, 97, 103, 115] then 2 else if loL xs = [117, 105, 100] then 1 else 0 := by
  unfold itemN
  simp only [lo_is xs [85, 73, 68] [117, 105, 100] (by decide) (by decide), lo_is xs [70, 76, 65, 71, 83] [102, 108, 97, 103, 115] (by decide) (by decide), lo_is xs [82, 70, 67, 56, 50, 50, 46, 83, 73, 90, 69] [114, 102, 99, 56, 50, 50, 46, 115, 105, 122, 101] (by decide) (by decide), lo_is xs [66, 79, 68, 89, 91, 93] [98, 111, 100, 121, 91, 93] (by decide) (by decide)]
set_option maxHeartbeats 1000000 in
set_option maxRecDepth 100000 in
theorem l6Item_calls (xs : Bytes) (hx : xs.length ≤ 34359738368) (w : World) : Calls Tryd.prog 92 #[.string ⟨xs.toArray⟩] w (Ret (.int .i64 (itemN (upL xs) : Int)) w) := by
  have HL := Sec.mk (lower_calls xs hx)
  rw [itemN_lo]
  generalize loL xs = lw at *
  by_cases e0 : lw = [117, 105, 100]
  · subst e0
    rw [show (if ([117, 105, 100] : Bytes) = [98, 111, 100, 121, 91, 93] then 8 else if ([117, 105, 100] : Bytes) = [114, 102, 99, 56, 50, 50, 46, 115, 105, 122, 101] then 4 else if ([117, 105, 100] : Bytes) = [102, 108, 97, 103, 115] then 2 else if ([117, 105, 100] : Bytes) = [117, 105, 100] then 1 else 0 : Nat) = 1 by decide]
    go_enter Tryd.func92, Tryd.ntmps92
    go_wp2_with fail
    refine (HL.out _).mono ?_
    rintro e w2 ⟨rfl, hm2⟩
    have HM2 := Sec.mk hm2
    clear hm2
    go_wp2
    go_ret
    exact ⟨rfl, HM2.out⟩
  have x0 : (lw == [117, 105, 100]) = false := by simpa using e0
  by_cases e1 : lw = [102, 108, 97, 103, 115]
  · subst e1
    rw [show (if ([102, 108, 97, 103, 115] : Bytes) = [98, 111, 100, 121, 91, 93] then 8 else if ([102, 108, 97, 103, 115] : Bytes) = [114, 102, 99, 56, 50, 50, 46, 115, 105, 122, 101] then 4 else if ([102, 108, 97, 103, 115] : Bytes) = [102, 108, 97, 103, 115] then 2 else if ([102, 108, 97, 103, 115] : Bytes) = [117, 105, 100] then 1 else 0 : Nat) = 2 by decide]
    clear x0
    go_enter Tryd.func92, Tryd.ntmps92
    go_wp2_with fail
    refine (HL.out _).mono ?_
    rintro e w2 ⟨rfl, hm2⟩
    have HM2 := Sec.mk hm2
    clear hm2
    go_wp2
    go_ret
    exact ⟨rfl, HM2.out⟩
  have x1 : (lw == [102, 108, 97, 103, 115]) = false := by simpa using e1
  by_cases e2 : lw = [114, 102, 99, 56, 50, 50, 46, 115, 105, 122, 101]
  · subst e2
    rw [show (if ([114, 102, 99, 56, 50, 50, 46, 115, 105, 122, 101] : Bytes) = [98, 111, 100, 121, 91, 93] then 8 else if ([114, 102, 99, 56, 50, 50, 46, 115, 105, 122, 101] : Bytes) = [114, 102, 99, 56, 50, 50, 46, 115, 105, 122, 101] then 4 else if ([114, 102, 99, 56, 50, 50, 46, 115, 105, 122, 101] : Bytes) = [102, 108, 97, 103, 115] then 2 else if ([114, 102, 99, 56, 50, 50, 46, 115, 105, 122, 101] : Bytes) = [117, 105, 100] then 1 else 0 : Nat) = 4 by decide]
    clear x0 x1
    go_enter Tryd.func92, Tryd.ntmps92
    go_wp2_with fail
    refine (HL.out _).mono ?_
    rintro e w2 ⟨rfl, hm2⟩
    have HM2 := Sec.mk hm2
    clear hm2
    go_wp2
    go_ret
    exact ⟨rfl, HM2.out⟩
  have x2 : (lw == [114, 102, 99, 56, 50, 50, 46, 115, 105, 122, 101]) = false := by simpa using e2
  by_cases e3 : lw = [98, 111, 100, 121, 91, 93]
  · subst e3
    rw [show (if ([98, 111, 100, 121, 91, 93] : Bytes) = [98, 111, 100, 121, 91, 93] then 8 else if ([98, 111, 100, 121, 91, 93] : Bytes) = [114, 102, 99, 56, 50, 50, 46, 115, 105, 122, 101] then 4 else if ([98, 111, 100, 121, 91, 93] : Bytes) = [102, 108, 97, 103, 115] then 2 else if ([98, 111, 100, 121, 91, 93] : Bytes) = [117, 105, 100] then 1 else 0 : Nat) = 8 by decide]
    clear x0 x1 x2
    go_enter Tryd.func92, Tryd.ntmps92
    go_wp2_with fail
    refine (HL.out _).mono ?_
    rintro e w2 ⟨rfl, hm2⟩
    have HM2 := Sec.mk hm2
    clear hm2
    go_wp2
    go_ret
    exact ⟨rfl, HM2.out⟩
  have x3 : (lw == [98, 111, 100, 121, 91, 93]) = false := by simpa using e3
  rw [if_neg e3, if_neg e2, if_neg e1, if_neg e0]
  clear e0 e1 e2 e3
  go_enter Tryd.func92, Tryd.ntmps92
  go_wp2_with fail
  refine (HL.out _).mono ?_
  rintro e w2 ⟨rfl, hm2⟩
  have HM2 := Sec.mk hm2
  clear hm2
  go_wp2
  go_ret
  exact ⟨rfl, HM2.out⟩
set_option maxHeartbeats 2000000 in
set_option maxRecDepth 100000 in
theorem l6Items_calls (xs : Bytes) (hx : xs.length ≤ 16777216) (w : World) : Calls Tryd.prog 66 #[.string ⟨xs.toArray⟩] w (Ret (.int .i64 (itemsL xs : Int)) w) := by
  have HB := Sec.mk (l6Brackets_calls xs (by omega))
  have HD : Sec (itemsL xs = match brL xs with | none => itemN (upL xs) | some i => itemsN 0 (splitL 32 i)) := ⟨rfl⟩
  have hlen := fun ys => brL_len (xs := xs) (ys := ys)
  have HI := Sec.mk (l6Item_calls xs (by omega))
  cases hq : brL xs with
  | none =>
    rw [hq] at HB HD
    simp only [BrV] at HB HD
    rw [← HD.out] at HI
    clear hlen hq
    go_enter Tryd.func66, Tryd.ntmps66
    go_wp2_with fail
    refine (HB.out _).mono ?_
    rintro e w1 ⟨rfl, hm1⟩
    have HM1 := Sec.mk hm1
    clear hm1
    go_wp2_with fail
    refine (HI.out _).mono ?_
    rintro e w2 ⟨rfl, hm2⟩
    have HM2 := Sec.mk (HM1.out.transN hm2)
    clear hm2
    go_wp2
    go_ret
    exact ⟨rfl, HM2.out⟩
  | some ys =>
    have hyl := hlen ys hq
    rw [hq] at HB HD
    simp only [BrV] at HB HD
    clear hlen hq HI
    have HSP := Sec.mk (l6Split_calls ys (by omega) 32)
    have hwm := splitL_mem 32 ys
    have hwl := splitL_len 32 ys
    generalize splitL 32 ys = ws at *
    go_enter Tryd.func66, Tryd.ntmps66
    go_wp2_with fail
    refine (HB.out _).mono ?_
    rintro e w1 ⟨rfl, hm1⟩
    have HM1 := Sec.mk hm1
    clear hm1
    go_wp2_with fail
    refine (HSP.out _).mono ?_
    intro e w2 hret
    obtain ⟨A, c, rfl, hmine⟩ := hret.mine
    have HM2 := Sec.mk (HM1.out.transN hmine.new)
    have HW := Sec.mk hmine.row
    clear hret hmine HM1 HSP
    rw [List.length_map] at *
    have hwl2 : ws.length ≤ 33554432 := by omega
    go_wp2
    go_loopw [21, 5] (fun i a wr => ∃ (k acc : Nat), k ≤ ws.length ∧ i = .int .i64 (k : Int) ∧ a = .int .i64 (acc : Int) ∧ acc < 16 ∧ Sec (itemsN 0 ws = itemsN acc (ws.drop k)) ∧ Sec (New w2 wr)) (fun i _ _ => ws.length - (intOf i).toNat)
    case atStart => exact ⟨0, 0, Nat.zero_le _, rfl, rfl, by omega, ⟨rfl⟩, ⟨Mod.refl _ _⟩⟩
    case round =>
      obtain ⟨k, acc, hk, rfl, rfl, hacc, HF, HM⟩ := hrel
      by_cases hlt : k < ws.length
      · obtain ⟨ad', cs, hA, hK, hx0, _⟩ := HW.out.cells_at (w' := wr) (fun i hi => HM.out.block i hi.2 id) (k := k) (by simpa using hlt)
        subst hA
        have hK' : cs = [.string (toS ws[k])] := by rw [hK]; simp
        subst hK'
        have h0 := hx0 _ rfl
        rw [show k * Ty.string.sz = k from Nat.mul_one k] at h0
        unfold toS at h0
        have hwk := hwm ws[k] (List.getElem_mem hlt)
        have HDR := Sec.mk (List.drop_eq_getElem_cons hlt)
        have hki : (k : Int) < (ws.length : Int) := by omega
        generalize ws[k] = wd at *
        clear hK hx0
        have HIT := Sec.mk (l6Item_calls wd (by omega))
        have HST : Sec (itemsN acc (wd :: ws.drop (k + 1)) = if itemN (upL wd) = 0 then 0 else itemsN (acc ||| itemN (upL wd)) (ws.drop (k + 1))) := ⟨rfl⟩
        have hin := itemN_lt (upL wd)
        generalize itemN (upL wd) = n at *
        go_wp2_with fail
        refine (HIT.out _).mono ?_
        rintro e w3 ⟨rfl, hm3⟩
        have HM3 := Sec.mk (HM.out.transN hm3)
        clear hm3
        by_cases hz : n = 0
        · have HE : Sec (itemsN 0 ws = 0) := ⟨by rw [HF.out, HDR.out, HST.out, if_pos hz]⟩
          subst hz
          go_wp2
          go_ret
          rw [HD.out, HE.out]
          exact ⟨rfl, HM2.out.transN HM3.out⟩
        · have hzi : ¬ (n : Int) = 0 := by omega
          have HE : Sec (itemsN 0 ws = itemsN (acc ||| n) (ws.drop (k + 1))) := ⟨by rw [HF.out, HDR.out, HST.out, if_neg hz]⟩
          have hol : acc ||| n < 16 := Nat.or_lt_two_pow (n := 4) hacc hin
          clear hz
          go_wp2
          go_roundw
          case rel => exact ⟨k + 1, acc ||| n, by omega, by go_num, by rw [or16 acc hacc n hin], hol, HE, HM3⟩
          case measure => simp [intOf]; omega
      · obtain rfl : k = ws.length := by omega
        have HE : Sec (itemsN 0 ws = acc) := ⟨by rw [HF.out, List.drop_length]; rfl⟩
        go_wp2
        go_ret
        rw [HD.out, HE.out]
        exact ⟨rfl, HM2.out.transN HM.out⟩
end Go.Proofs.YtiaknomadhgckaaDoor

namespace Go.Proofs.YtiaknomadhgckaaDoor
open Go.RowKit Mem
set_option linter.unusedVariables false
theorem indexByte_cut (b : UInt8) : ∀ xs : Bytes, Lib.indexByte xs b = if (cutL b xs).2.2 then ((cutL b xs).1.length : Int) else -1
  | [] => rfl
  | c :: r => by
    have ih := indexByte_cut b r
    unfold cutL
    by_cases hc : c = b
    · subst hc; simp [Lib.indexByte]
    · have hcb : (c == b) = false := by simpa using hc
      simp only [Lib.indexByte, hcb, if_neg hc, ih, Bool.false_eq_true, if_false]
      cases h : (cutL b r).2.2
      · simp
      · simp only [if_pos, List.length_cons]
        rw [if_neg (by simp)]; omega
set_option maxHeartbeats 1000000 in
set_option maxRecDepth 100000 in
theorem cutIn_calls (xs : Bytes) (hx : xs.length ≤ 34359738368) (b : UInt8) (w : World) : Calls Tryd.prog 67 #[.string ⟨xs.toArray⟩, .string ⟨#[b]⟩] w (Ret (.tuple #[.string ⟨(cutL b xs).1.toArray⟩, .string ⟨(cutL b xs).2.1.toArray⟩, .bool (cutL b xs).2.2]) w) := by
  have HI := Sec.mk (fun w => Tryd.stringslite_Index_one ⟨xs.toArray⟩ b w)
  have hsz : (⟨xs.toArray⟩ : ByteArray).size = xs.length := by simp [ByteArray.size]
  have hb1 : (⟨#[b]⟩ : ByteArray).size = 1 := rfl
  have HX := Sec.mk (indexByte_cut b xs)
  cases hq : (cutL b xs).2.2
  · have HN := Sec.mk (cutL_no b xs hq)
    have HX2 : Sec (Lib.indexByte xs b = -1) := ⟨by rw [HX.out, hq]; rfl⟩
    clear HX
    rw [HN.out]
    clear hq HN
    go_enter Tryd.func67, Tryd.ntmps67
    go_wp2_with fail
    refine (HI.out _).mono ?_
    rintro e w1 ⟨rfl, rfl⟩
    rw [HX2.out]
    go_wp2
    go_ret3
    exact ⟨rfl, Mod.refl _ _⟩
  · have HX2 : Sec (Lib.indexByte xs b = ((cutL b xs).1.length : Int)) := ⟨by rw [HX.out, hq]; rfl⟩
    have hl := cutL_len b xs hq
    have HP := Sec.mk (cutL_parts b xs hq)
    clear HX hq
    generalize (cutL b xs).1 = x at *
    generalize (cutL b xs).2.1 = y at *
    have e1 := ba_ext xs 0 x.length
    have e2 := ba_ext xs (x.length + 1) xs.length
    rw [List.drop_zero, HP.out.1] at e1
    rw [List.take_length, HP.out.2] at e2
    have hub : ((x.length : Int) + 1) ≤ (xs.length : Int) := by omega
    have hub2 : (x.length : Int) ≤ (xs.length : Int) := by omega
    clear HP hl
    go_enter Tryd.func67, Tryd.ntmps67
    go_wp2_with fail
    refine (HI.out _).mono ?_
    rintro e w1 ⟨rfl, rfl⟩
    rw [HX2.out]
    go_wp2
    go_quiet (fail)
    go_wp2
    go_ret3
    exact ⟨rfl, (Mod.refl _ _).drewN _⟩
set_option maxHeartbeats 1000000 in
set_option maxRecDepth 100000 in
theorem cut1_calls (xs : Bytes) (hx : xs.length ≤ 34359738368) (b : UInt8) (w : World) : Calls Tryd.prog 42 #[.string ⟨xs.toArray⟩, .string ⟨#[b]⟩] w (Ret (.tuple #[.string ⟨(cutL b xs).1.toArray⟩, .string ⟨(cutL b xs).2.1.toArray⟩, .bool (cutL b xs).2.2]) w) := by
  have HC := Sec.mk (cutIn_calls xs hx b w)
  generalize cutL b xs = c at *
  go_enter Tryd.func42, Tryd.ntmps42
  go_wp2_with fail
  refine HC.out.mono ?_
  rintro e w1 ⟨rfl, hm⟩
  go_wp2
  go_ret3
  exact ⟨rfl, hm⟩
end Go.Proofs.YtiaknomadhgckaaDoor

namespace Go.Proofs.YtiaknomadhgckaaDoor
open Go.RowKit Mem
set_option linter.unusedVariables false
def IntAt (w : World) : Prop := ∃ m, w.cell? ⟨0, 0, none⟩ = some (.int .i64 m)
theorem IntAt.new {w w' : World} (h : IntAt w) (hm : New w w') : IntAt w' := by
  obtain ⟨m, h⟩ := h
  exact ⟨m, hm.cell_of h⟩
set_option maxRecDepth 100000 in
theorem split_calls (ys : Bytes) (hy : ys.length ≤ 16777216) (c : UInt8) {w : World} (hI : IntAt w) : Calls Tryd.prog 95 #[.string ⟨ys.toArray⟩, .string ⟨#[c]⟩] w
    (fun e w' => e = .returned (.slice (some ⟨w.heap.size, 0, none⟩) (splitL c ys).length (splitL c ys).length) ∧ New w w' ∧ w.heap.size < w'.heap.size ∧ Row Ty.string w' (· = w.heap.size) (some ⟨w.heap.size, 0, none⟩) (splitL c ys).length ((splitL c ys).map toS)) := by
  obtain ⟨m, hm⟩ := hI
  have hsz : (⟨ys.toArray⟩ : ByteArray).size = ys.length := by simp [ByteArray.size]
  refine (Tryd.strings_Split ⟨ys.toArray⟩ ⟨#[c]⟩ m w (by omega) hm (by simp [ByteArray.size])).mono ?_
  rintro e w' ⟨rfl, rfl⟩
  have h1 := countB_is c ys
  have h2 := splitB_is c ys
  unfold toSx at h1 h2
  have hl := splitL_len c ys
  refine ⟨by rw [h1], (Mod.refl _ _).alloc _, by simp, ?_⟩
  rw [h2]
  have := row_of_strings w 9 ((splitL c ys).map toS) (by rw [List.length_map]; omega)
  rw [List.length_map] at this
  exact this
theorem cut_is (b : UInt8) (xs : Bytes) : Lib.cut xs [b] = cutL b xs := by
  unfold Lib.cut
  rw [index_cut]
  cases h : (cutL b xs).2.2
  · rw [cutL_no b xs h]; simp
  · have hp := cutL_parts b xs h
    rw [if_pos rfl, if_pos (by omega), Int.toNat_natCast, List.length_singleton, hp.1, hp.2, ← h]
set_option maxRecDepth 100000 in
theorem cut_calls (ys : Bytes) (hy : ys.length ≤ 16777216) (c : UInt8) {w : World} (hI : IntAt w) : Calls Tryd.prog 42 #[.string ⟨ys.toArray⟩, .string ⟨#[c]⟩] w (Ret (.tuple #[.string ⟨(cutL c ys).1.toArray⟩, .string ⟨(cutL c ys).2.1.toArray⟩, .bool (cutL c ys).2.2]) w) := by
  obtain ⟨m, hm⟩ := hI
  have hsz : (⟨ys.toArray⟩ : ByteArray).size = ys.length := by simp [ByteArray.size]
  refine (Tryd.strings_Cut ⟨ys.toArray⟩ ⟨#[c]⟩ m w (by omega) hm).mono ?_
  rintro e w' ⟨rfl, n, rfl⟩
  have h := cut_is c ys
  refine ⟨?_, (Mod.refl _ _).drewN _⟩
  rw [← h]
end Go.Proofs.YtiaknomadhgckaaDoor

namespace Go.Proofs.YtiaknomadhgckaaDoor.Mem
open Go.RowKit Go.Maps
set_option linter.unusedVariables false
structure KeyE (P : Program) (k : TypeId) {κ : Type} (ok : κ → Prop) (kv : κ → Value) (kl : κ → Lit) : Prop where
  keyed : Keyed P k
  key : ∀ x, ok x → keyOf P k (kv x) = some (kl x)
  lit : ∀ x, WideAt.IsKeyLit (kl x)
  inj : ∀ x y, kl x = kl y → x = y
structure ValE (P : Program) (e : TypeId) {ν : Type} (ok : ν → Prop) (ev : ν → Value) (el : ν → Lit) (z : ν) : Prop where
  val : ∀ x, ok x → plainElem (H := Unit) P e (ev x) = some (.lit (el x), [])
  inv : ∀ u x ps, plainElem (H := Unit) P e u = some (.lit (el x), ps) → u = ev x
  zok : ok z
  zero : ∀ w, (zeroValue e).run P w = .ok (ev z) w
def MapOf {κ ν : Type} (P : Program) (k e : TypeId) (kl : κ → Lit) (el : ν → Lit) (z : ν) (w : World) (b n : Nat) (f : κ → ν) : Prop :=
  ∃ D : DataW Unit, w.ownsMap P k (plainElem P e) b n D ∧ IsMap D ∧ ∀ x, D.atKey (kl x) (.lit (el z)) = .lit (el (f x))
section
variable {κ ν : Type} {P : Program} {k e : TypeId} {okk : κ → Prop} {kv : κ → Value} {kl : κ → Lit} {okv : ν → Prop} {ev : ν → Value} {el : ν → Lit} {z : ν} {w w' : World} {b n : Nat} {f : κ → ν}
theorem MapOf.made (w : World) : MapOf P k e kl el z (w.alloc (.map #[] 0)) w.heap.size 0 (fun _ => z) :=
  ⟨_, World.ownsMap_made w P k _, isMap_empty, fun _ => rfl⟩
theorem MapOf.lt (h : MapOf P k e kl el z w b n f) : b < w.heap.size := by obtain ⟨D, h, _⟩ := h; exact h.lt
theorem MapOf.mod {S : Nat → Prop} (h : MapOf P k e kl el z w b n f) (hm : Mod S w w') (hS : ¬ S b) : MapOf P k e kl el z w' b n f := by
  have hlt := h.lt
  obtain ⟨D, ⟨es, clock, hb, hr⟩, h2⟩ := h
  exact ⟨D, ⟨es, clock, (hm.block b hlt hS).trans hb, hr⟩, h2⟩
theorem MapOf.mono (h : MapOf P k e kl el z w b n f) {n' : Nat} (hn : n ≤ n') : MapOf P k e kl el z w b n' f := by
  obtain ⟨D, h, h2⟩ := h; exact ⟨D, h.mono hn, h2⟩
theorem MapOf.look [DecidableEq κ] (K : KeyE P k okk kv kl) (V : ValE P e okv ev el z) (h : MapOf P k e kl el z w b n f) {t : TypeId} (ht : P.underlying t = some (.map k e)) {x : κ} (hx : okk x) :
    (Instr.lookup t (.map (some b)) (kv x) false).run P w = .ok (ev (f x)) w := by
  obtain ⟨D, h, _, hf⟩ := h
  obtain ⟨v, ps, hrun, hv⟩ := h.lookup K.keyed ht (V.zero w) (V.val z V.zok) (K.key x hx)
  rw [hf x] at hv
  rw [hrun, V.inv _ _ _ hv]
theorem MapOf.store [DecidableEq κ] (K : KeyE P k okk kv kl) (V : ValE P e okv ev el z) (h : MapOf P k e kl el z w b n f) (hn : n < maxLen) {t : TypeId} (ht : P.underlying t = some (.map k e)) {x : κ} (hx : okk x) {y : ν} (hy : okv y) :
    ∃ w', (Instr.mapUpdate t (.map (some b)) (kv x) (ev y)).run P w = .ok () w' ∧ MapOf P k e kl el z w' b (n + 1) (fun u => if u = x then y else f u) ∧ Mod (· = b) w w' := by
  obtain ⟨D, h, hD, hf⟩ := h
  obtain ⟨w', hrun, h1, hg⟩ := h.update K.keyed ht hn (K.key x hx) (V.val y hy)
  refine ⟨w', hrun, ⟨_, h1, hD.put _ _, fun u => ?_⟩, (Mod.refl _ _).grown hg fun q hq hl => by injection hq with hq; exact hq.symm⟩
  by_cases hu : u = x
  · subst hu; simp only [if_pos]; rw [atKey_put_same hD (K.lit _)]
  · simp only [if_neg hu]; rw [atKey_put_other (fun h => hu (K.inj _ _ h)), hf u]
theorem wpList_mapSet [DecidableEq κ] {ops : Array Oper} {rest : List Oper} {o : Oper} {a : Act} {Q : Exit → Act → World → Prop} (K : KeyE P k okk kv kl) (V : ValE P e okv ev el z) (hg : o.guard = none) (m x v : Operand) (t : TypeId)
    (hop : o.op = Op.mapUpdate t m x v ∨ o.op = Op.insert t m x v) (ht : P.underlying t = some (.map k e)) (hm : a.eval m = .map (some b)) (h : MapOf P k e kl el z w b n f) (hn : n < maxLen) (kx : κ) (vy : ν) (hx : a.eval x = kv kx) (hv : a.eval v = ev vy) (hkx : okk kx) (hvy : okv vy)
    (hK : ∀ w', MapOf P k e kl el z w' b (n + 1) (fun u => if u = kx then vy else f u) → Mod (· = b) w w' → wpList P ops Q rest (a.put o.dst undef) w') : wpList P ops Q (o :: rest) a w := by
  refine wpList_plain hg fun K' hK' => ?_
  obtain ⟨w', hrun, r1, r2⟩ := h.store K V hn ht hkx hvy
  unfold Oper.wp
  rcases hop with hop | hop
  · simp [execOp, hop, hm, hx, hv, hrun, Result.andThen]
    exact hK' _ _ (hK w' r1 r2)
  · simp [execOp, hop, hm, hx, hv, hrun, Result.andThen]
    exact hK' _ _ (hK w' r1 r2)
theorem wpList_mapGet [DecidableEq κ] {ops : Array Oper} {rest : List Oper} {o : Oper} {a : Act} {Q : Exit → Act → World → Prop} (K : KeyE P k okk kv kl) (V : ValE P e okv ev el z) (hg : o.guard = none) (m x : Operand) (t : TypeId)
    (hop : o.op = Op.lookup t m x false) (ht : P.underlying t = some (.map k e)) (hm : a.eval m = .map (some b)) (h : MapOf P k e kl el z w b n f) (kx : κ) (hx : a.eval x = kv kx) (hkx : okk kx)
    (hK : wpList P ops Q rest (a.put o.dst (ev (f kx))) w) : wpList P ops Q (o :: rest) a w := by
  refine wpList_plain hg fun K' hK' => ?_
  have hrun := h.look K V ht hkx
  unfold Oper.wp
  simp [execOp, hop, hm, hx, hrun, Result.andThen]
  exact hK' _ _ hK
end
theorem keyS {P : Program} {k : TypeId} (hk : P.underlying k = some .string) : KeyE P k (fun x : List UInt8 => x.length ≤ 1048576) (fun x => .string ⟨x.toArray⟩) (fun x => .string x) where
  keyed := string_keyed hk
  key := fun x hx => by have := WideMaps.keyOf_string_mk (P := P) (k := k) hk (s := ⟨x.toArray⟩) (by show x.toArray.size ≤ maxLen; simp only [maxLen, List.size_toArray]; omega); simpa using this
  lit := fun x => by first | trivial | exact ⟨_, rfl⟩ | simp [WideAt.IsKeyLit]
  inj := fun x y h => by injection h
theorem valI {P : Program} {e : TypeId} (he : P.underlying e = some (.int .i64)) (hz : ∀ w, (zeroValue e).run P w = .ok (.int .i64 0) w) : ValE P e (fun x : Int => (Lit.int .i64 x).wf = true) (fun x => .int .i64 x) (fun x => .int .i64 x) 0 where
  val := fun x h => plainElem_int he h
  inv := fun u x ps h => by
    obtain ⟨a, rfl, h1, _⟩ := plainElem_int_inv he h
    injection h1 with h1 _
    injection h1 with h1
    injection h1 with _ h1
    rw [h1]
  zok := by decide
  zero := hz
end Go.Proofs.YtiaknomadhgckaaDoor.Mem
