/- Strings: read at a place, joined, cut; rows of strings. Names and entries: the small functions, both sides. Lists of entries: bound anew, compared, in order. Two lists of entries compared. The specification's test of a list of names. -/
import Derived.Test.YtiaknomadhgckaaDoorPk1
import Derived.Test.YtiaknomadhgckaaDoorPk2
import Derived.Test.YtiaknomadhgckaaDoorProg
import Derived.WalkKit
import Derived.Test.YtiaknomadhgckaaDoorPk6
import Derived.Test.YtiaknomadhgckaaDoorPk4
import Derived.BigQuiet
import Derived.OwnWalk
import Derived.Deep.RegionHeld3
namespace Go.Proofs.YtiaknomadhgckaaDoor
open Go.RowKit Mem
set_option linter.unusedVariables false
theorem strIdx_run (xs : Bytes) (k : Nat) (h : k < xs.length) (w : World) : (Instr.index 9 (.string ⟨xs.toArray⟩) (.int .i64 (k : Int))).run Tryd.prog w = .ok (.int .u8 (xs[k].toNat : Int)) w := by
  have h0 : (0 : Int) ≤ (k : Int) := by omega
  have h1 : (k : Int) < (xs.length : Int) := by omega
  have hsz : (⟨xs.toArray⟩ : ByteArray).size = xs.length := by simp [ByteArray.size]
  have hg : (⟨xs.toArray⟩ : ByteArray).get! k = xs[k] := by simp [ByteArray.get!, h]
  go_simp
  show ((xs.toArray[k]'(by simpa using h)).toNat : Int) = _
  simp
theorem ba_app (xs ys : Bytes) : (⟨xs.toArray⟩ : ByteArray) ++ ⟨ys.toArray⟩ = ⟨(xs ++ ys).toArray⟩ := ByteArray.ext (by rw [ByteArray.data_append]; simp)
theorem elt_str : Elt Tryd.prog 9 Ty.string.sz (.string ⟨#[]⟩) := Elt.of (b := 16) (by kernel_rfl) rfl (by decide) (by decide)
def toS (xs : Bytes) : ByteArray := ⟨xs.toArray⟩
theorem row_str (w : World) (e : TypeId) (s : ByteArray) : Row Ty.string (w.alloc (.cells #[.string s] e)) (· = w.heap.size) (some ⟨w.heap.size, 0, none⟩) 1 [s] := by
  refine ⟨rfl, by omega, fun _ => ⟨_, rfl, rfl, fun j x hj => ?_⟩⟩
  have hj0 : j = 0 := by have := (List.getElem?_eq_some_iff.1 hj).1; simp at this; exact this
  subst hj0
  have hx : x = s := by simpa using hj.symm
  subst hx
  refine ⟨[.string x], rfl, fun i u hu => ?_⟩
  rw [show 0 * Ty.string.sz + i = i by omega, add_own, cell_of_row _ _ i _ e (0, 0) (heap_alloc_new w _)]
  simpa using hu
theorem ba_ext (xs : Bytes) (i j : Nat) : (⟨xs.toArray⟩ : ByteArray).extract i j = ⟨((xs.take j).drop i).toArray⟩ := by
  apply ByteArray.ext
  rw [ByteArray.data_extract]
  simp [List.drop_take]
theorem row_of_strings (w : World) (e : TypeId) (ss : List ByteArray) (h : ss.length ≤ 9223372036854775807) : Row Ty.string (w.alloc (.cells (ss.map Value.string).toArray e)) (· = w.heap.size) (some ⟨w.heap.size, 0, none⟩) ss.length ss := by
  refine ⟨rfl, h, fun _ => ⟨_, rfl, rfl, fun j x hj => ⟨[.string x], rfl, fun i u hu => ?_⟩⟩⟩
  have hi : i = 0 := by have := (List.getElem?_eq_some_iff.1 hu).1; simpa using this
  subst hi
  rw [show j * Ty.string.sz + 0 = j from Nat.mul_one j, add_own, cell_of_row _ _ j _ e (0, 0) (heap_alloc_new w _)]
  rw [List.getElem?_toArray, List.getElem?_map, hj]
  simpa using hu
end Go.Proofs.YtiaknomadhgckaaDoor

namespace Go.Proofs.YtiaknomadhgckaaDoor
open Go.RowKit Mem
set_option linter.unusedVariables false
set_option linter.unusedSimpArgs false
theorem bl_run (xs ys : Bytes) : Op.bytesLess (⟨xs.toArray⟩ : ByteArray).toList (⟨ys.toArray⟩ : ByteArray).toList = decide (xs < ys) := by
  rw [show (⟨xs.toArray⟩ : ByteArray).toList = xs from by rw [ByteArray.toList_eq], show (⟨ys.toArray⟩ : ByteArray).toList = ys from by rw [ByteArray.toList_eq], bl_eq]
/-- the entry at k -/
theorem ent_at {w w' : World} {B : Nat → Prop} {A : Option Addr} {n : Nat} {xs : List EntryT} (h : Row dEntry w B A n xs) (hb : ∀ k, B k → w'.heap[k]? = w.heap[k]?) {k : Nat} (hk : k < xs.length) :
    ∃ ad, A = some ad ∧ w'.cell? (ad.add (k * 2)) = some (.string ⟨xs[k].1.toArray⟩) ∧ w'.cell? ⟨(ad.add (k * 2)).block, (ad.add (k * 2)).off + 1, none⟩ = some (.int .i64 xs[k].2) ∧ xs[k].1.length ≤ 9223372036854775807 ∧ IntKind.i64.wrap xs[k].2 = xs[k].2 := by
  obtain ⟨ad, cs, rfl, hK, h0, h1⟩ := h.cells_at hb hk
  obtain ⟨c0, c1, rfl, ⟨rfl, g0⟩, ⟨rfl, g1⟩⟩ := hK
  exact ⟨ad, rfl, h0 _ rfl, h1 0 _ rfl, g0, g1⟩
theorem rowEnt (w : World) {z : Bytes} {v : Int} (g0 : z.length ≤ 9223372036854775807) (g1 : IntKind.i64.wrap v = v) {g : Nat} (hg : g = w.heap.size) : Row dEntry (w.alloc (.cells #[.string ⟨z.toArray⟩, .int .i64 v] 57)) (· = g) (some ⟨g, 0, none⟩) 1 [((z, v) : EntryT)] := by
  subst hg; exact rowEntry w (x := (z, v)) g0 g1
theorem elt_entry : Elt Tryd.prog 57 dEntry.sz (.agg #[.string ⟨#[]⟩, .int .i64 0]) := eltEntry
theorem goodL_iff (xs : Bytes) : goodL xs = true ↔ 1 ≤ xs.length ∧ xs.length ≤ 80 ∧ ∀ j, (hj : j < xs.length) → 33 ≤ xs[j].toNat ∧ xs[j].toNat ≤ 126 := by
  unfold goodL
  simp only [Bool.and_eq_true, decide_eq_true_eq, List.all_eq_true]
  constructor
  · rintro ⟨⟨h1, h2⟩, h3⟩
    exact ⟨h1, h2, fun j hj => h3 _ (List.getElem_mem hj)⟩
  · rintro ⟨h1, h2, h3⟩
    refine ⟨⟨h1, h2⟩, fun x hx => ?_⟩
    obtain ⟨j, hj, rfl⟩ := List.getElem_of_mem hx
    exact h3 j hj
set_option maxHeartbeats 1000000 in
set_option maxRecDepth 100000 in
theorem goodS_calls (xs : Bytes) (hx : xs.length ≤ 9223372036854775807) (w : World) : Calls Tryd.prog 84 #[.string ⟨xs.toArray⟩] w (fun e w' => e = .returned (.bool (goodL xs)) ∧ w' = w) := by
  have hsz : (⟨xs.toArray⟩ : ByteArray).size = xs.length := by simp [ByteArray.size]
  have HI := Sec.mk (goodL_iff xs)
  have HF : Sec (¬ (1 ≤ xs.length ∧ xs.length ≤ 80 ∧ ∀ j, (hj : j < xs.length) → 33 ≤ xs[j].toNat ∧ xs[j].toNat ≤ 126) → goodL xs = false) := ⟨fun h => by
    cases hg : goodL xs with
    | false => rfl
    | true => exact absurd (HI.out.1 hg) h⟩
  generalize goodL xs = r at *
  by_cases h1 : 1 ≤ xs.length
  rotate_left
  · have HE : Sec (r = false) := ⟨HF.out (fun h => h1 h.1)⟩
    have h1i : (xs.length : Int) < 1 := by omega
    clear h1
    go_enter Tryd.func84, Tryd.ntmps84
    go_wp2
    go_ret
    exact ⟨by rw [HE.out]; rfl, rfl⟩
  by_cases h2 : xs.length ≤ 80
  rotate_left
  · have HE : Sec (r = false) := ⟨HF.out (fun h => h2 h.2.1)⟩
    have h1i : ¬ (xs.length : Int) < 1 := by omega
    have h2i : (80 : Int) < (xs.length : Int) := by omega
    clear h1 h2
    go_enter Tryd.func84, Tryd.ntmps84
    go_wp2
    go_ret
    exact ⟨by rw [HE.out]; rfl, rfl⟩
  have h1i : ¬ (xs.length : Int) < 1 := by omega
  have h2i : ¬ (80 : Int) < (xs.length : Int) := by omega
  go_enter Tryd.func84, Tryd.ntmps84
  go_wp2
  go_loop [3] (fun i => ∃ k : Nat, k ≤ xs.length ∧ i = .int .i64 (k : Int) ∧ Sec (∀ j, (hj : j < xs.length) → j < k → 33 ≤ xs[j].toNat ∧ xs[j].toNat ≤ 126)) (fun i => xs.length - (intOf i).toNat)
  case atStart => exact ⟨0, Nat.zero_le _, rfl, ⟨fun j _ h => absurd h (Nat.not_lt_zero _)⟩⟩
  case round =>
    obtain ⟨k, hk, rfl, HN⟩ := hrel
    by_cases hlt : k < xs.length
    · have hki : (k : Int) < (xs.length : Int) := by omega
      have hgx := strIdx_run xs k hlt
      have HNX : Sec (33 ≤ xs[k].toNat ∧ xs[k].toNat ≤ 126 → ∀ j, (hj : j < xs.length) → j < k + 1 → 33 ≤ xs[j].toNat ∧ xs[j].toNat ≤ 126) := ⟨fun h j hj hjk => by rcases Nat.lt_succ_iff_lt_or_eq.1 hjk with h' | rfl; exact HN.out j hj h'; exact h⟩
      have HBX : Sec (¬ (33 ≤ xs[k].toNat ∧ xs[k].toNat ≤ 126) → r = false) := ⟨fun h => HF.out (fun hh => h (hh.2.2 k hlt))⟩
      generalize xs[k].toNat = z at *
      by_cases ha : z < 33
      · have HE : Sec (r = false) := ⟨HBX.out (by omega)⟩
        have hai : (z : Int) < 33 := by omega
        go_wp2
        go_ret
        exact ⟨by rw [HE.out]; rfl, rfl⟩
      · have hai : ¬ (z : Int) < 33 := by omega
        by_cases hb : 126 < z
        · have HE : Sec (r = false) := ⟨HBX.out (by omega)⟩
          have hbi : (126 : Int) < (z : Int) := by omega
          go_wp2
          go_ret
          exact ⟨by rw [HE.out]; rfl, rfl⟩
        · have hbi : ¬ (126 : Int) < (z : Int) := by omega
          have HN' := Sec.mk (HNX.out ⟨by omega, by omega⟩)
          go_wp2
          go_round
          case rel => exact ⟨k + 1, by omega, by go_num, HN'⟩
          case measure => simp [intOf]; omega
    · obtain rfl : k = xs.length := by omega
      have HE : Sec (r = true) := ⟨HI.out.2 ⟨h1, h2, fun j hj => HN.out j hj hj⟩⟩
      go_wp2
      go_ret
      exact ⟨by rw [HE.out]; rfl, rfl⟩



































































theorem findG_at (n : LB) {l : List EntL} {k : Nat} (hk : k < l.length) : findG n (l.drop k) k = if l[k].1 = n then (k : Int) else findG n (l.drop (k + 1)) (k + 1) := by
  rw [List.drop_eq_getElem_cons hk]; rfl
set_option maxHeartbeats 1000000 in
set_option maxRecDepth 100000 in
theorem l1Find_calls {A : Option Addr} {c : Nat} {xs : List EntryT} {B : Nat → Prop} {w : World} (h : Row dEntry w B A xs.length xs) (nm : Bytes) : Calls Tryd.prog 85 #[.slice A xs.length c, .string ⟨nm.toArray⟩] w (fun e w' => e = .returned (.int .i64 (findE xs nm)) ∧ w' = w) := by
  have hmx := h.2.1
  have HR := Sec.mk h
  have HF : Sec (findE xs nm = findG nm (xs.drop 0) 0) := ⟨rfl⟩
  generalize findE xs nm = r at *
  clear h
  go_enter Tryd.func85, Tryd.ntmps85
  go_wp2
  go_loop [8] (fun i => ∃ k : Nat, k ≤ xs.length ∧ i = .int .i64 (k : Int) ∧ Sec (r = findG nm (xs.drop k) k)) (fun i => xs.length - (intOf i).toNat)
  case atStart => exact ⟨0, Nat.zero_le _, rfl, HF⟩
  case round =>
    obtain ⟨k, hk, rfl, HN⟩ := hrel
    by_cases hlt : k < xs.length
    · obtain ⟨ad, rfl, h0, h1, _, _⟩ := ent_at HR.out (w' := w) (fun _ _ => rfl) hlt
      have HS := Sec.mk (HN.out.trans (findG_at nm hlt))
      have hki : (k : Int) < (xs.length : Int) := by omega
      generalize xs[k].1 = z at *
      by_cases he : z = nm
      · have HE : Sec (r = (k : Int)) := ⟨HS.out.trans (if_pos he)⟩
        have hz : (z == nm) = true := by simp [he]
        clear he
        go_wp2
        go_ret
        exact ⟨by rw [HE.out]; rfl, rfl⟩
      · have HE : Sec (r = findG nm (xs.drop (k + 1)) (k + 1)) := ⟨HS.out.trans (if_neg he)⟩
        have hz : (z == nm) = false := by simpa using he
        clear he
        go_wp2
        go_round
        case rel => exact ⟨k + 1, by omega, by go_num, HE⟩
        case measure => simp [intOf]; omega
    · obtain rfl : k = xs.length := by omega
      have HE : Sec (r = -1) := ⟨by rw [HN.out, List.drop_length]; rfl⟩
      go_wp2
      go_ret
      exact ⟨by rw [HE.out]; rfl, rfl⟩
theorem hasNode_take {l : List EntL} {k : Nat} {v : Int} (hk : k < l.length) : hasNode (l.take (k + 1)) v = (hasNode (l.take k) v || decide (l[k].2 = v)) := by
  unfold hasNode
  rw [List.take_succ_eq_append_getElem hk, List.any_append]; simp only [List.any_cons, List.any_nil, Bool.or_false]
theorem hasNode_mem {l : List EntL} {k : Nat} (hk : k < l.length) : hasNode l l[k].2 = true := by
  unfold hasNode
  rw [List.any_eq_true]
  exact ⟨l[k], List.getElem_mem hk, by simp⟩











































theorem out_take {l : List EntL} {k : Nat} {n : LB} (hk : k < l.length) : outE (l.take (k + 1)) n = outE (l.take k) n ++ (if l[k].1 = n then [] else [l[k]]) := by
  unfold outE
  rw [List.take_succ_eq_append_getElem hk, List.filter_append]
  congr 1
  by_cases h : l[k].1 = n
  · rw [if_pos h, List.filter_cons_of_neg (by simpa using h)]; rfl
  · rw [if_neg h, List.filter_cons_of_pos (by simpa using h)]; rfl
set_option maxHeartbeats 1000000 in
set_option maxRecDepth 100000 in
theorem l1Without_calls {A : Option Addr} {c : Nat} {xs : List EntryT} {B : Nat → Prop} {w : World} (h : Row dEntry w B A xs.length xs) (hB : ∀ k, B k → k < w.heap.size) (hl : xs.length ≤ 1048576) (nm : Bytes) : Calls Tryd.prog 105 #[.slice A xs.length c, .string ⟨nm.toArray⟩] w (RetOwn dEntry 57 w (outE xs nm)) := by
  have HR := Sec.mk h
  have HB := Sec.mk hB
  clear h hB
  go_enter Tryd.func105, Tryd.ntmps105
  go_wp2
  go_loopw [5, 10] (fun o i wr => ∃ (k : Nat) (A' : Option Addr) (n' c' : Nat), k ≤ xs.length ∧ i = .int .i64 (k : Int) ∧ o = .slice A' n' c' ∧ Sec (Mine dEntry 57 w wr (.slice A' n' c') (outE (xs.take k) nm))) (fun _ i _ => xs.length - (intOf i).toNat)
  case atStart => exact ⟨0, none, 0, 0, Nat.zero_le _, rfl, rfl, ⟨Mine.nil _ _ (Mod.refl _ _)⟩⟩
  case round =>
    obtain ⟨k, A', n', c', hk, rfl, rfl, HO⟩ := hrel
    by_cases hlt : k < xs.length
    · obtain ⟨ad, rfl, h0, h1, hn, hw⟩ := ent_at HR.out (w' := wr) (fun i hi => HO.out.new.block i (HB.out i hi) id) hlt
      have HS := Sec.mk (out_take (n := nm) hlt)
      have hol := outE_len (xs.take k) nm
      rw [List.length_take] at hol
      have hki : (k : Int) < (xs.length : Int) := by omega
      have HN := Sec.mk hn
      have HW := Sec.mk hw
      obtain ⟨⟨z, v⟩, hx⟩ : ∃ q, q = xs[k] := ⟨_, rfl⟩
      rw [← hx] at h0 h1 HS HN HW
      clear hx hn hw
      simp only at h0 h1 HS HN HW
      generalize hacc : outE (xs.take k) nm = acc at *
      have HO2 := Sec.mk (HO.out.alloc (.cells #[.string ⟨z.toArray⟩, .int .i64 v] 57))
      clear HO hacc
      by_cases he : z = nm
      · have hz : (z == nm) = true := by simp [he]
        have HA : Sec (outE (xs.take (k + 1)) nm = acc) := ⟨by rw [HS.out, if_pos he, List.append_nil]⟩
        clear he
        go_wp2
        go_roundw
        case rel => exact ⟨k + 1, A', n', c', by omega, by go_num, rfl, ⟨by rw [HA.out]; exact HO2.out⟩⟩
        case measure => simp [intOf]; omega
      · have hz : (z == nm) = false := by simpa using he
        have HA : Sec (outE (xs.take (k + 1)) nm = acc ++ [(z, v)]) := ⟨by rw [HS.out, if_neg he]⟩
        clear he
        go_wp2_with (at_builtin; go_loud (refine wpList_app _ rfl (.tmp 18) (.tmp 20) _ rfl Tryd.underlying24 elt_entry flatEntry rfl rfl (HO2.out.alloc _) (rowEnt _ HN.out HW.out (by simp)) (show acc.length + [((z, v) : EntryT)].length ≤ 34359738368 by simp only [List.length_singleton]; omega) ?_; intro A6 n6 c6 w6 HO6))
        have HO6' := Sec.mk HO6
        clear HO6
        go_roundw
        case rel => exact ⟨k + 1, A6, n6, c6, by omega, by go_num, rfl, ⟨by rw [HA.out]; exact HO6'.out⟩⟩
        case measure => simp [intOf]; omega
    · obtain rfl : k = xs.length := by omega
      rw [List.take_length] at HO
      go_wp2
      go_ret
      exact HO.out.ret
end Go.Proofs.YtiaknomadhgckaaDoor

namespace Go.Proofs.YtiaknomadhgckaaDoor
open Go.RowKit Mem
set_option linter.unusedVariables false
set_option linter.unusedSimpArgs false
theorem strGt (xs ys : Bytes) (w : World) : (binOp .gtr 9 (.string ⟨xs.toArray⟩) (.string ⟨ys.toArray⟩)).run Tryd.prog w = .ok (.bool (decide (ys < xs))) w := by
  have e : binOp .gtr 9 (.string ⟨xs.toArray⟩) (.string ⟨ys.toArray⟩) = pure (.bool !(Op.bytesLess (⟨xs.toArray⟩ : ByteArray).toList (⟨ys.toArray⟩ : ByteArray).toList || (⟨xs.toArray⟩ : ByteArray).toList == (⟨ys.toArray⟩ : ByteArray).toList)) := by simp [binOp, Op.stringOp]
  rw [e, bl_run, show (⟨xs.toArray⟩ : ByteArray).toList = xs from by rw [ByteArray.toList_eq], show (⟨ys.toArray⟩ : ByteArray).toList = ys from by rw [ByteArray.toList_eq], Sem.run_pure]
  congr 2
  by_cases h : ys < xs
  · have h1 : ¬ xs < ys := lb_asym h
    have h2 : (xs == ys) = false := by simp only [beq_eq_false_iff_ne, ne_eq]; intro e; rw [e] at h; exact lb_irr _ h
    simp [h, h1, h2]
  · by_cases h1 : xs < ys
    · simp [h, h1]
    · have h2 : (xs == ys) = true := by simp [lb_tri h1 h]
      simp [h, h1, h2]
theorem strGe (xs ys : Bytes) (w : World) : (binOp .geq 9 (.string ⟨xs.toArray⟩) (.string ⟨ys.toArray⟩)).run Tryd.prog w = .ok (.bool (decide (¬ xs < ys))) w := by
  have e : binOp .geq 9 (.string ⟨xs.toArray⟩) (.string ⟨ys.toArray⟩) = pure (.bool !(Op.bytesLess (⟨xs.toArray⟩ : ByteArray).toList (⟨ys.toArray⟩ : ByteArray).toList)) := by simp [binOp, Op.stringOp]
  rw [e, bl_run, Sem.run_pure]
  by_cases h : xs < ys
  · rw [decide_eq_true h, decide_eq_false (fun hh => hh h)]; rfl
  · rw [decide_eq_false h, decide_eq_true h]; rfl
theorem withG_at (n : LB) (v : Int) {l : List EntL} {k : Nat} (hk : k < l.length) (d : Bool) : withG n v (l.drop k) d = if d = false ∧ n < l[k].1 then (n, v) :: l[k] :: withG n v (l.drop (k + 1)) true else l[k] :: withG n v (l.drop (k + 1)) d := by
  rw [List.drop_eq_getElem_cons hk]; rfl
theorem withG_end (n : LB) (v : Int) (d : Bool) : withG n v [] d = if d then [] else [(n, v)] := rfl
set_option maxHeartbeats 2000000 in
set_option maxRecDepth 100000 in
theorem l1With_calls {A : Option Addr} {c : Nat} {xs : List EntryT} {B : Nat → Prop} {w : World} (h : Row dEntry w B A xs.length xs) (hB : ∀ k, B k → k < w.heap.size) (hl : xs.length ≤ 1048576) (nm : Bytes) (hn : nm.length ≤ 9223372036854775807) (v : Int) (hv : IntKind.i64.wrap v = v) (ho : Ord xs) : Calls Tryd.prog 104 #[.slice A xs.length c, .string ⟨nm.toArray⟩, .int .i64 v] w (RetOwn dEntry 57 w (withE xs nm v)) := by
  have HW := Sec.mk (withS_is ho nm v)
  have HC := Sec.mk (l1Without_calls (c := c) h hB hl nm)
  have hol := outE_len xs nm
  have HN := Sec.mk hn
  have HV := Sec.mk hv
  clear h hB ho hn hv
  go_enter Tryd.func104, Tryd.ntmps104
  go_wp2_with fail
  refine HC.out.mono ?_
  intro e w1 hret
  obtain ⟨A1, c1, rfl, hmine⟩ := hret.mine
  have HR := Sec.mk hmine.row
  have HM1 := Sec.mk hmine.new
  clear hret hmine HC
  generalize outE xs nm = ys at *
  go_wp2
  go_loopw [7, 8, 15] (fun o d i wr => ∃ (k : Nat) (A' : Option Addr) (n' c' : Nat) (acc : List EntryT) (dn : Bool), k ≤ ys.length ∧ i = .int .i64 (k : Int) ∧ o = .slice A' n' c' ∧ d = .bool dn ∧ acc.length ≤ k + dn.toNat ∧ Sec (Mine dEntry 57 w1 wr (.slice A' n' c') acc) ∧ Sec (withG nm v ys false = acc ++ withG nm v (ys.drop k) dn)) (fun _ _ i _ => ys.length - (intOf i).toNat)
  case atStart => exact ⟨0, none, 0, 0, [], false, Nat.zero_le _, rfl, rfl, rfl, by simp, ⟨Mine.nil _ _ (Mod.refl _ _)⟩, ⟨by simp⟩⟩
  case round =>
    obtain ⟨k, A', n', c', acc, dn, hk, rfl, rfl, rfl, hal, HO, HG⟩ := hrel
    by_cases hlt : k < ys.length
    · obtain ⟨ad, rfl, h0, h1, hzn, hzv⟩ := ent_at HR.out (w' := wr) (fun i hi => HO.out.new.block i hi.2 id) hlt
      have HS := Sec.mk (HG.out.trans (congrArg (acc ++ ·) (withG_at nm v hlt dn)))
      have hki : (k : Int) < (ys.length : Int) := by omega
      have HZN := Sec.mk hzn
      have HZV := Sec.mk hzv
      obtain ⟨⟨z, u⟩, hx⟩ : ∃ q, q = ys[k] := ⟨_, rfl⟩
      rw [← hx] at h0 h1 HS HZN HZV
      clear hx hzn hzv HG
      simp only at h0 h1 HS HZN HZV
      have HO2 := Sec.mk (HO.out.alloc (.cells #[.string ⟨z.toArray⟩, .int .i64 u] 57))
      have HOr := HO
      have HM1r := Sec.mk HO.out.new.size
      clear HO
      have hgt := fun w => strGt z nm w
      cases dn
      all_goals simp only [Bool.toNat_false, Bool.toNat_true, Nat.add_zero] at hal
      · by_cases hlt2 : nm < z
        · have HA : Sec (withG nm v ys false = ((acc ++ [(nm, v)]) ++ [(z, u)]) ++ withG nm v (ys.drop (k + 1)) true) := ⟨by rw [HS.out]; show acc ++ (if false = false ∧ nm < z then _ else _) = _; rw [if_pos ⟨rfl, hlt2⟩]; simp⟩
          rw [decide_eq_true hlt2] at hgt
          clear hlt2
          have hsz1 := HM1r.out
          have HP0 : Sec (OwP dEntry 57 (wr.alloc (.cells #[.string ⟨z.toArray⟩, .int .i64 u] 57)) (fun k => w1.heap.size ≤ k ∧ k ≠ wr.heap.size) (.slice A' n' c') acc) := ⟨(HOr.out.owp (X := fun k => w1.heap.size ≤ k ∧ k ≠ wr.heap.size) (fun k h1 h2 => ⟨h1, by omega⟩)).new ((Mod.refl _ _).alloc _)⟩
          have HB0 := Sec.mk (Blk.new wr 57 [.string ⟨z.toArray⟩, .int .i64 u])
          have HN0 := Sec.mk HO2.out.new
          go_wp2_with (first
            | (at_builtin; go_loud (refine wpList_appP (X := fun k => w1.heap.size ≤ k ∧ k ≠ wr.heap.size) _ rfl (.tmp 27) (.tmp 31) _ rfl Tryd.underlying24 elt_entry flatEntry rfl rfl (HP0.out.new ((Mod.refl _ _).alloc _)) (rowEnt _ HN.out HV.out (by simp)) (fun k hk => by simp at hk; exact ⟨by omega, by omega⟩) (show acc.length + [((nm, v) : EntryT)].length ≤ 34359738368 by simp only [List.length_singleton]; omega) ?_; intro A6 n6 c6 w6 ho6 hm6; have HO7 := Sec.mk ho6; have HB7 := Sec.mk ((HB0.out.alloc (.cells #[.string ⟨nm.toArray⟩, .int .i64 v] 57)).mod hm6 (fun h => h.2 rfl)); have HN7 := Sec.mk ((HN0.out.alloc (.cells #[.string ⟨nm.toArray⟩, .int .i64 v] 57)).trans hm6 (fun i hi hl => by have := hi.1; omega)); have y0 : w6.cell? ⟨wr.heap.size, 0, none⟩ = some (.string ⟨z.toArray⟩) := HB7.out.cell 0; have y1 : w6.cell? ⟨wr.heap.size, 1, none⟩ = some (.int .i64 u) := HB7.out.cell 1; have hs6 := hm6.size; simp at hs6; clear ho6 hm6))
            | (at_builtin; go_loud (refine wpList_appP (X := fun k => w1.heap.size ≤ k ∧ k ≠ wr.heap.size) _ rfl (.tmp 33) (.tmp 35) _ rfl Tryd.underlying24 elt_entry flatEntry rfl rfl (HO7.out.new ((Mod.refl _ _).alloc _)) (rowEnt _ HZN.out HZV.out (by simp)) (fun k hk => by simp at hk; exact ⟨by omega, by omega⟩) (show (acc ++ [((nm, v) : EntryT)]).length + [((z, u) : EntryT)].length ≤ 34359738368 by simp only [List.length_append, List.length_singleton]; omega) ?_; intro A8 n8 c8 w8 ho8 hm8; obtain ⟨F8, ho8, hF8⟩ := ho8; have HO9 : Sec (Mine dEntry 57 w1 w8 (.slice A8 n8 c8) ((acc ++ [((nm, v) : EntryT)]) ++ [((z, u) : EntryT)])) := ⟨⟨⟨F8, ho8, fun k hk => (hF8 k hk).1⟩, (HN7.out.alloc (.cells #[.string ⟨z.toArray⟩, .int .i64 u] 57)).trans hm8 (fun i hi hl => by have := hi.1; omega)⟩⟩; clear ho8 hm8 hF8)))
          go_roundw
          case rel => exact ⟨k + 1, A8, n8, c8, _, true, by omega, by go_num, rfl, rfl, by simp; omega, HO9, HA⟩
          case measure => simp [intOf]; omega
        · have HA : Sec (withG nm v ys false = (acc ++ [(z, u)]) ++ withG nm v (ys.drop (k + 1)) false) := ⟨by rw [HS.out]; show acc ++ (if false = false ∧ nm < z then _ else _) = _; rw [if_neg (fun h => hlt2 h.2)]; simp⟩
          rw [decide_eq_false hlt2] at hgt
          clear hlt2
          go_wp2_with (at_builtin; go_loud (refine wpList_app _ rfl (.tmp 33) (.tmp 35) _ rfl Tryd.underlying24 elt_entry flatEntry rfl rfl (HO2.out.alloc _) (rowEnt _ HZN.out HZV.out (by simp)) (show acc.length + [((z, u) : EntryT)].length ≤ 34359738368 by simp only [List.length_singleton]; omega) ?_; intro A8 n8 c8 w8 HO8; have HO9 := Sec.mk HO8; clear HO8))
          go_roundw
          case rel => exact ⟨k + 1, A8, n8, c8, _, false, by omega, by go_num, rfl, rfl, by simp; omega, HO9, HA⟩
          case measure => simp [intOf]; omega
      · have HA : Sec (withG nm v ys false = (acc ++ [(z, u)]) ++ withG nm v (ys.drop (k + 1)) true) := ⟨by rw [HS.out]; show acc ++ (if true = false ∧ nm < z then _ else _) = _; rw [if_neg (fun h => by cases h.1)]; simp⟩
        go_wp2_with (at_builtin; go_loud (refine wpList_app _ rfl (.tmp 33) (.tmp 35) _ rfl Tryd.underlying24 elt_entry flatEntry rfl rfl (HO2.out.alloc _) (rowEnt _ HZN.out HZV.out (by simp)) (show acc.length + [((z, u) : EntryT)].length ≤ 34359738368 by simp only [List.length_singleton]; omega) ?_; intro A8 n8 c8 w8 HO8; have HO9 := Sec.mk HO8; clear HO8))
        go_roundw
        case rel => exact ⟨k + 1, A8, n8, c8, _, true, by omega, by go_num, rfl, rfl, by simp; omega, HO9, HA⟩
        case measure => simp [intOf]; omega
    · obtain rfl : k = ys.length := by omega
      rw [List.drop_length] at HG
      cases dn
      all_goals simp only [Bool.toNat_false, Bool.toNat_true, Nat.add_zero] at hal
      · have HA : Sec (withE xs nm v = acc ++ [(nm, v)]) := ⟨by rw [← HW.out, HG.out]; rfl⟩
        go_wp2_with (at_builtin; go_loud (refine wpList_app _ rfl (.tmp 40) (.tmp 44) _ rfl Tryd.underlying24 elt_entry flatEntry rfl rfl (HO.out.alloc _) (rowEnt _ HN.out HV.out (by simp)) (show acc.length + [((nm, v) : EntryT)].length ≤ 34359738368 by simp only [List.length_singleton]; omega) ?_; intro A8 n8 c8 w8 HO8; have HO9 := Sec.mk HO8; clear HO8))
        go_wp2
        go_ret
        rw [HA.out]
        exact (HO9.out.base HM1.out).ret
      · have HA : Sec (withE xs nm v = acc) := ⟨by rw [← HW.out, HG.out]; simp [withG_end]⟩
        go_wp2
        go_ret
        rw [HA.out]
        exact (HO.out.base HM1.out).ret
end Go.Proofs.YtiaknomadhgckaaDoor

namespace Go.Proofs.YtiaknomadhgckaaDoor
open Go.RowKit Mem
set_option linter.unusedVariables false
set_option linter.unusedSimpArgs false
theorem aggNe (xs ys : Bytes) (a b : Int) (w : World) : (binOp .neq 57 (.agg #[.string ⟨xs.toArray⟩, .int .i64 a]) (.agg #[.string ⟨ys.toArray⟩, .int .i64 b])).run Tryd.prog w = .ok (.bool (decide (((xs, a) : EntryT) ≠ (ys, b)))) w := by
  by_cases h1 : xs = ys
  · by_cases h2 : a = b
    · subst h1; subst h2; simp; go_simp
    · subst h1; have : (a == b) = false := by simpa using h2
      simp [h2]; go_simp
  · have : (xs == ys) = false := by simpa using h1
    simp [h1]; go_simp
set_option maxHeartbeats 2000000 in
set_option maxRecDepth 100000 in
theorem l1Same_calls {A A' : Option Addr} {c c' : Nat} {xs ys : List EntryT} {B : Nat → Prop} {w : World} (h : Row dEntry w B A xs.length xs) (h' : Row dEntry w B A' ys.length ys) (hB : ∀ k, B k → k < w.heap.size) :
    Calls Tryd.prog 81 #[.slice A xs.length c, .slice A' ys.length c'] w (Ret (.bool (decide (xs = ys))) w) := by
  have hl := h.2.1
  have HR := Sec.mk h
  have HR' := Sec.mk h'
  have HB := Sec.mk hB
  clear h h' hB
  by_cases hne : xs.length = ys.length
  rotate_left
  · have hnb : ((xs.length : Int) != (ys.length : Int)) = true := by simp; omega
    have HE : Sec (decide (xs = ys) = false) := ⟨by simp [show xs ≠ ys from fun e => hne (by rw [e])]⟩
    clear hne
    go_enter Tryd.func81, Tryd.ntmps81
    go_wp2
    go_ret
    exact ⟨by rw [HE.out]; rfl, Mod.refl _ _⟩
  have hnb : ((xs.length : Int) != (ys.length : Int)) = false := by simp [hne]
  have HNE := Sec.mk hne
  clear hne
  go_enter Tryd.func81, Tryd.ntmps81
  go_wp2
  go_loopw [13] (fun i wr => ∃ k : Nat, k ≤ xs.length ∧ i = .int .i64 (k : Int) ∧ Sec (xs.take k = ys.take k) ∧ Sec (New w wr)) (fun i _ => xs.length - (intOf i).toNat)
  case atStart => exact ⟨0, Nat.zero_le _, rfl, ⟨by simp⟩, ⟨Mod.refl _ _⟩⟩
  case round =>
    obtain ⟨k, hk, rfl, HT, HM⟩ := hrel
    by_cases hlt : k < xs.length
    · have hlt2 : k < ys.length := by rw [← HNE.out]; exact hlt
      obtain ⟨ad, rfl, hx0, hx1, _, _⟩ := ent_at HR.out (w' := wr) (fun i hi => HM.out.block i (HB.out i hi) id) hlt
      obtain ⟨ad', rfl, hy0, hy1, _, _⟩ := ent_at HR'.out (w' := wr) (fun i hi => HM.out.block i (HB.out i hi) id) hlt2
      have HXY : Sec (xs[k] = ys[k] → xs.take (k + 1) = ys.take (k + 1)) := ⟨fun h => by rw [List.take_succ_eq_append_getElem hlt, List.take_succ_eq_append_getElem hlt2, HT.out, h]⟩
      have HNQ : Sec (xs[k] ≠ ys[k] → decide (xs = ys) = false) := ⟨fun h => by simp only [decide_eq_false_iff_not]; intro e; exact h (by subst e; rfl)⟩
      have hki : (k : Int) < (xs.length : Int) := by omega
      have hkj : (k : Int) < (ys.length : Int) := by omega
      obtain ⟨⟨z, a⟩, hx⟩ : ∃ q, q = xs[k] := ⟨_, rfl⟩
      obtain ⟨⟨z', a'⟩, hy⟩ : ∃ q, q = ys[k] := ⟨_, rfl⟩
      rw [← hx] at hx0 hx1 HXY HNQ
      rw [← hy] at hy0 hy1 HXY HNQ
      simp only at hx0 hx1 hy0 hy1
      clear hx hy HT
      by_cases he : z = z'
      · have hz : (z == z') = true := by simp [he]
        by_cases hv : a = a'
        · have hvb : (a != a') = false := by simp [hv]
          have HT' := Sec.mk (HXY.out (by rw [he, hv]))
          clear he hv HXY HNQ
          go_wp2
          go_quiet (fail)
          go_wp2
          go_roundw
          case rel => exact ⟨k + 1, by omega, by go_num, HT', ⟨HM.out.drewN _⟩⟩
          case measure => simp [intOf]; omega
        · have hvb : (a != a') = true := by simpa using hv
          have HE := Sec.mk (HNQ.out (fun h => hv (congrArg (fun x : EntryT => x.2) h)))
          clear he hv HXY HNQ
          go_wp2
          go_quiet (fail)
          go_wp2
          go_ret
          exact ⟨by rw [HE.out]; rfl, HM.out.drewN _⟩
      · have hz : (z == z') = false := by simpa using he
        have HE := Sec.mk (HNQ.out (fun h => he (congrArg (fun x : EntryT => x.1) h)))
        clear he HXY HNQ
        go_wp2
        go_quiet (fail)
        go_wp2
        go_ret
        exact ⟨by rw [HE.out]; rfl, HM.out.drewN _⟩
    · obtain rfl : k = xs.length := by omega
      have HE : Sec (decide (xs = ys) = true) := ⟨by
        have h1 := HT.out
        rw [List.take_of_length_le (by omega), List.take_of_length_le (by rw [← HNE.out]; omega)] at h1
        simp [h1]⟩
      go_wp2
      go_ret
      exact ⟨by rw [HE.out]; rfl, HM.out⟩




































































end Go.Proofs.YtiaknomadhgckaaDoor

namespace Go.Proofs.YtiaknomadhgckaaDoor
open Go.RowKit Mem
set_option linter.unusedVariables false
set_option linter.unusedSimpArgs false
def atOk (l : List EntL) (nodes : Int) (k : Nat) : Prop := ∀ hk : k < l.length, goodL l[k].1 = true ∧ 0 ≤ l[k].2 ∧ l[k].2 < nodes ∧ ∀ j (hj : j < k), l[j].1 < l[k].1 ∧ l[j].2 ≠ l[k].2
theorem inOrdL_iff (l : List EntL) (nodes : Int) : inOrdL l nodes = true ↔ l.length ≤ 300 ∧ ∀ k, atOk l nodes k := by
  unfold inOrdL atOk
  simp only [Bool.and_eq_true, decide_eq_true_eq, List.all_eq_true, List.pairwise_iff_getElem]
  constructor
  · rintro ⟨⟨h1, h2⟩, h3⟩
    refine ⟨h1, fun k hk => ?_⟩
    have := h2 _ (List.getElem_mem hk)
    exact ⟨this.1, this.2.1, this.2.2, fun j hj => h3 j k (by omega) hk hj⟩
  · rintro ⟨h1, h2⟩
    refine ⟨⟨h1, fun x hx => ?_⟩, fun i j hi hj hij => (h2 j hj).2.2.2 i hij⟩
    obtain ⟨j, hj, rfl⟩ := List.getElem_of_mem hx
    have := h2 j hj
    exact ⟨this.1, this.2.1, this.2.2.1⟩
set_option maxHeartbeats 4000000 in
set_option maxRecDepth 100000 in
theorem l1InOrder_calls {A : Option Addr} {c : Nat} {xs : List EntryT} {B : Nat → Prop} {w : World} (h : Row dEntry w B A xs.length xs) (hB : ∀ k, B k → k < w.heap.size) (nodes : Int) : Calls Tryd.prog 79 #[.slice A xs.length c, .int .i64 nodes] w (Ret (.bool (inOrdL xs nodes)) w) := by
  have hmx := h.2.1
  have HR := Sec.mk h
  have HB := Sec.mk hB
  have HI := Sec.mk (inOrdL_iff xs nodes)
  have HF : Sec (¬ (xs.length ≤ 300 ∧ ∀ k, atOk xs nodes k) → inOrdL xs nodes = false) := ⟨fun h => by
    cases hg : inOrdL xs nodes with
    | false => rfl
    | true => exact absurd (HI.out.1 hg) h⟩
  generalize inOrdL xs nodes = r at *
  clear h hB
  by_cases h3 : xs.length ≤ 300
  rotate_left
  · have HE : Sec (r = false) := ⟨HF.out (fun h => h3 h.1)⟩
    have h3i : (300 : Int) < (xs.length : Int) := by omega
    clear h3
    go_enter Tryd.func79, Tryd.ntmps79
    go_wp2
    go_ret
    exact ⟨by rw [HE.out]; rfl, Mod.refl _ _⟩
  have h3i : ¬ (300 : Int) < (xs.length : Int) := by omega
  go_enter Tryd.func79, Tryd.ntmps79
  go_wp2
  go_loopw [13] (fun i wr => ∃ k : Nat, k ≤ xs.length ∧ i = .int .i64 (k : Int) ∧ Sec (∀ j, j < k → atOk xs nodes j) ∧ Sec (New w wr)) (fun i _ => xs.length - (intOf i).toNat)
  case atStart => exact ⟨0, Nat.zero_le _, rfl, ⟨fun j h => absurd h (Nat.not_lt_zero _)⟩, ⟨Mod.refl _ _⟩⟩
  case round =>
    obtain ⟨k, hk, rfl, HN, HM⟩ := hrel
    by_cases hlt : k < xs.length
    · obtain ⟨ad, rfl, h0, h1, hzn, _⟩ := ent_at HR.out (w' := wr) (fun i hi => HM.out.block i (HB.out i hi) id) hlt
      have hki : (k : Int) < (xs.length : Int) := by omega
      have HAT : Sec (atOk xs nodes k ↔ (goodL xs[k].1 = true ∧ 0 ≤ xs[k].2 ∧ xs[k].2 < nodes ∧ ∀ j (hj : j < k), (xs[j]'(by omega)).1 < xs[k].1 ∧ (xs[j]'(by omega)).2 ≠ xs[k].2)) := ⟨⟨fun h => h hlt, fun h _ => h⟩⟩
      have HBAD : Sec (¬ atOk xs nodes k → r = false) := ⟨fun h => HF.out (fun hh => h (hh.2 k))⟩
      have HNX : Sec (atOk xs nodes k → ∀ j, j < k + 1 → atOk xs nodes j) := ⟨fun h j hj => by rcases Nat.lt_succ_iff_lt_or_eq.1 hj with h' | rfl; exact HN.out j h'; exact h⟩
      obtain ⟨⟨z, u⟩, hx⟩ : ∃ q, q = xs[k] := ⟨_, rfl⟩
      rw [← hx] at h0 h1 HAT hzn
      simp only at h0 h1 HAT hzn
      clear hx
      generalize atOk xs nodes k = OKK at *
      have HBz := Sec.mk (Blk.new wr 57 [.string ⟨z.toArray⟩, .int .i64 u])
      have HMa := Sec.mk (HM.out.alloc (.cells #[.string ⟨z.toArray⟩, .int .i64 u] 57))
      go_wp2_with fail
      refine (goodS_calls z hzn _).mono ?_
      rintro e w2 ⟨rfl, hw2⟩
      have HM2 : Sec (New w w2) := ⟨by rw [hw2]; exact HMa.out⟩
      have HB2 : Sec (Blk w2 wr.heap.size 57 [.string ⟨z.toArray⟩, .int .i64 u]) := ⟨by rw [hw2]; exact HBz.out⟩
      have z0 : w2.cell? ⟨wr.heap.size, 0, none⟩ = some (.string ⟨z.toArray⟩) := HB2.out.cell 0
      have z1 : w2.cell? ⟨wr.heap.size, 1, none⟩ = some (.int .i64 u) := HB2.out.cell 1
      clear hw2 h0 h1 HMa HBz hzn
      by_cases hg : goodL z = true
      rotate_left
      · have HE : Sec (r = false) := ⟨HBAD.out (fun h => hg (HAT.out.1 h).1)⟩
        have hg' : goodL z = false := by simpa using hg
        rw [hg']
        clear hg hg'
        go_wp2
        go_ret
        exact ⟨by rw [HE.out]; rfl, HM2.out⟩
      rw [hg]
      by_cases hn0 : 0 ≤ u
      rotate_left
      · have HE : Sec (r = false) := ⟨HBAD.out (fun h => hn0 (HAT.out.1 h).2.1)⟩
        have hn0' : u < 0 := by omega
        clear hn0
        go_wp2
        go_ret
        exact ⟨by rw [HE.out]; rfl, HM2.out⟩
      have hn0' : ¬ u < 0 := by omega
      by_cases hn1 : u < nodes
      rotate_left
      · have HE : Sec (r = false) := ⟨HBAD.out (fun h => hn1 (HAT.out.1 h).2.2.1)⟩
        have hn1' : nodes ≤ u := by omega
        clear hn1
        go_wp2
        go_ret
        exact ⟨by rw [HE.out]; rfl, HM2.out⟩
      have hn1' : ¬ nodes ≤ u := by omega
      generalize wr.heap.size = O at *
      go_wp2
      go_loopw [7] (fun i wi => ∃ j : Nat, j ≤ k ∧ i = .int .i64 (j : Int) ∧ Sec (∀ t (ht : t < j) (htk : t < k), (xs[t]'(by omega)).1 < z ∧ (xs[t]'(by omega)).2 ≠ u) ∧ Sec (New w2 wi)) (fun i _ => k - (intOf i).toNat)
      case atStart => exact ⟨0, Nat.zero_le _, rfl, ⟨fun t h => absurd h (Nat.not_lt_zero _)⟩, ⟨Mod.refl _ _⟩⟩
      case round =>
        obtain ⟨j, hj, rfl, HJ, HMi⟩ := hrel
        by_cases hjk : j < k
        · obtain ⟨ad', hA, y0, y1, _, _⟩ := ent_at HR.out (w' := wr) (fun i hi => (HMi.out.block i (Nat.lt_of_lt_of_le (HB.out i hi) HM2.out.size) id).trans (HM2.out.block i (HB.out i hi) id)) (k := j) (by omega)
          obtain rfl := Option.some.inj hA
          have x0 : wr.cell? ⟨O, 0, none⟩ = some (.string ⟨z.toArray⟩) := HMi.out.cell_of z0
          have x1 : wr.cell? ⟨O, 1, none⟩ = some (.int .i64 u) := HMi.out.cell_of z1
          have hji : (j : Int) < (k : Int) := by omega
          have hjx : (j : Int) < (xs.length : Int) := by omega
          have hjl : j < xs.length := by omega
          have HBJ : Sec (¬ ((xs[j]'hjl).1 < z ∧ (xs[j]'hjl).2 ≠ u) → r = false) := ⟨fun h => HBAD.out (fun hh => h ((HAT.out.1 hh).2.2.2 j hjk))⟩
          have HJX : Sec ((xs[j]'hjl).1 < z ∧ (xs[j]'hjl).2 ≠ u → ∀ t (ht : t < j + 1) (htk : t < k), (xs[t]'(by omega)).1 < z ∧ (xs[t]'(by omega)).2 ≠ u) := ⟨fun h t ht htk => by rcases Nat.lt_succ_iff_lt_or_eq.1 ht with h' | rfl; exact HJ.out t h' htk; exact h⟩
          generalize (xs[j]'hjl).1 = zj at *
          generalize (xs[j]'hjl).2 = uj at *
          have hge := fun w => strGe zj z w
          clear hA
          by_cases he : zj < z
          rotate_left
          · have HE : Sec (r = false) := ⟨HBJ.out (fun h => he h.1)⟩
            rw [decide_eq_true he] at hge
            clear he
            go_wp2
            go_quiet (fail)
            go_wp2
            go_ret
            exact ⟨by rw [HE.out]; rfl, HM2.out.transN (HMi.out.drewN _)⟩
          rw [decide_eq_false (fun h => h he)] at hge
          by_cases hu : uj = u
          · have HE : Sec (r = false) := ⟨HBJ.out (fun h => h.2 hu)⟩
            have hub : (uj == u) = true := by simp [hu]
            clear he hu
            go_wp2
            go_quiet (fail)
            go_wp2
            go_ret
            exact ⟨by rw [HE.out]; rfl, HM2.out.transN (HMi.out.drewN _)⟩
          have HJ' := Sec.mk (HJX.out ⟨he, hu⟩)
          have hub : (uj == u) = false := by simpa using hu
          clear he hu
          go_wp2
          go_quiet (fail)
          go_wp2
          go_roundw
          case rel => exact ⟨j + 1, by omega, by go_num, HJ', ⟨HMi.out.drewN _⟩⟩
          case measure => simp [intOf]; omega
        · obtain rfl : j = k := by omega
          have HOK : Sec OKK := ⟨HAT.out.2 ⟨hg, hn0, hn1, fun t ht => HJ.out t ht ht⟩⟩
          have hji : ¬ (j : Int) < (j : Int) := by omega
          go_wp2
          go_roundw
          case rel => exact ⟨j + 1, by omega, by go_num, ⟨HNX.out HOK.out⟩, ⟨HM2.out.transN HMi.out⟩⟩
          case measure => simp [intOf]; omega
    · obtain rfl : k = xs.length := by omega
      have HE : Sec (r = true) := ⟨HI.out.2 ⟨h3, fun j hj => HN.out j hj hj⟩⟩
      go_wp2
      go_ret
      exact ⟨by rw [HE.out]; rfl, HM.out⟩
end Go.Proofs.YtiaknomadhgckaaDoor
