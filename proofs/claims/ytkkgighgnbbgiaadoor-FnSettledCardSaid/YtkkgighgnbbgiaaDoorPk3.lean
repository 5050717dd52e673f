/- The laws' helpers over Node and over slices of it. The laws' helpers over Entry and over slices of it. The laws' helpers over DirOp and over slices of it. The laws' helpers over Disk. A directory's entries in order, in plain lists: found, bound, left, replayed. Strings: read at a place, joined, cut; rows of strings. Names and entries: the small functions, both sides. Lists of entries: bound anew, compared, in order. -/
import Derived.Test.YtkkgighgnbbgiaaDoorPk2
import Derived.Test.YtkkgighgnbbgiaaDoorPk1
import Derived.Test.YtkkgighgnbbgiaaDoorProg
import Derived.WalkKit
import Derived.Sort.Walk0
import Derived.BigQuiet
import Derived.OwnWalk
import Derived.Deep.RegionHeld3
namespace Go.Proofs.YtkkgighgnbbgiaaDoor
open Go.RowKit Mem
set_option linter.unusedVariables false
set_option linter.unusedSimpArgs false
abbrev NodeT := Bytes × Int
abbrev dNode : Ty NodeT := Ty.pair dBS (Ty.int .i64)
set_option synthInstance.maxSize 2000
theorem eltNode : Elt Tryd.prog 49 dNode.sz (.agg #[.slice none 0 0, .int .i64 0]) := Elt.of (b := 32) (by kernel_rfl) rfl (by decide) (by decide)
theorem mNode {w : World} {x : NodeT} {F0 : List Nat} {v0 : Value} (g1 : IntKind.i64.wrap x.2 = x.2) (o0 : Own Ty.byte 5 w F0 v0 x.1) : dNode.M w (F0 ++ ([])) x [v0, .int .i64 x.2] :=
  ⟨_, _, F0, _, rfl, rfl, (by simpa using o0.nd), ⟨_, rfl, o0⟩, ⟨rfl, rfl, g1⟩⟩
abbrev NodeST := List NodeT
abbrev dNodeS : Ty NodeST := Ty.slice 49 dNode
theorem idxNodeS (ad : Addr) (m c k : Nat) (h : k < m) (w : World) : (Instr.indexAt 23 (.slice (some ad) m c) (.int .i64 (k : Int))).run Tryd.prog w = .ok (.pointer (some (ad.add (k * 2)))) w := by
  have h0 : (0 : Int) ≤ (k : Int) := by omega
  have h1 : (k : Int) < (m : Int) := by omega
  go_simp
end Go.Proofs.YtkkgighgnbbgiaaDoor

namespace Go.Proofs.YtkkgighgnbbgiaaDoor
open Go.RowKit Mem
set_option linter.unusedVariables false
set_option linter.unusedSimpArgs false
abbrev EntryT := Bytes × Int
abbrev dEntry : Ty EntryT := Ty.pair Ty.str (Ty.int .i64)
set_option synthInstance.maxSize 2000
theorem fldEntry1 : Fld dEntry 1 (Ty.int .i64) (fun x => x.2) (fun x y => (x.1, y)) := (Fld.snd (Fld.one rfl) rfl)
theorem eltEntry : Elt Tryd.prog 37 dEntry.sz (.agg #[.string ⟨#[]⟩, .int .i64 0]) := Elt.of (b := 24) (by kernel_rfl) rfl (by decide) (by decide)
theorem flatEntry : Flat dEntry := by
  rintro w B x cs ⟨c0, c1, rfl, h0, h1⟩
  exact ⟨_, _, [], [], rfl, rfl, List.nodup_nil, ⟨rfl, h0⟩, ⟨rfl, h1⟩⟩
theorem rowEntry (w : World) {x : EntryT} (g0 : x.1.length ≤ 9223372036854775807) (g1 : IntKind.i64.wrap x.2 = x.2) : Row dEntry (w.alloc (.cells #[.string ⟨(x.1).toArray⟩, .int .i64 x.2] 37)) (· = w.heap.size) (some ⟨w.heap.size, 0, none⟩) 1 [x] := by
  refine ⟨rfl, by omega, fun _ => ⟨_, rfl, rfl, fun j y hj => ?_⟩⟩
  have hj0 : j = 0 := by have := (List.getElem?_eq_some_iff.1 hj).1; simp at this; exact this
  subst hj0
  obtain rfl : y = x := by simpa using hj.symm
  refine ⟨[.string ⟨(y.1).toArray⟩, .int .i64 y.2], ⟨_, _, rfl, ⟨rfl, g0⟩, ⟨rfl, g1⟩⟩, fun i u hu => ?_⟩
  rw [Nat.zero_mul, Nat.zero_add, add_own, cell_of_row _ _ i _ _ (0, 0) (heap_alloc_new w _)]
  simpa using hu
theorem mEntry {w : World} {x : EntryT} (g0 : x.1.length ≤ 9223372036854775807) (g1 : IntKind.i64.wrap x.2 = x.2) : dEntry.M w ([]) x [.string ⟨(x.1).toArray⟩, .int .i64 x.2] :=
  ⟨_, _, [], _, rfl, rfl, (by simp), ⟨rfl, rfl, g0⟩, ⟨rfl, rfl, g1⟩⟩
abbrev EntryST := List EntryT
abbrev dEntryS : Ty EntryST := Ty.slice 37 dEntry
theorem idxEntryS (ad : Addr) (m c k : Nat) (h : k < m) (w : World) : (Instr.indexAt 24 (.slice (some ad) m c) (.int .i64 (k : Int))).run Tryd.prog w = .ok (.pointer (some (ad.add (k * 2)))) w := by
  have h0 : (0 : Int) ≤ (k : Int) := by omega
  have h1 : (k : Int) < (m : Int) := by omega
  go_simp
end Go.Proofs.YtkkgighgnbbgiaaDoor

namespace Go.Proofs.YtkkgighgnbbgiaaDoor
open Go.RowKit Mem
set_option linter.unusedVariables false
set_option linter.unusedSimpArgs false
abbrev DirOpT := Int × (Bytes × (Bytes × Int))
abbrev dDirOp : Ty DirOpT := Ty.pair (Ty.int .i64) (Ty.pair Ty.str (Ty.pair Ty.str (Ty.int .i64)))
set_option synthInstance.maxSize 2000
theorem eltDirOp : Elt Tryd.prog 66 dDirOp.sz (.agg #[.int .i64 0, .string ⟨#[]⟩, .string ⟨#[]⟩, .int .i64 0]) := Elt.of (b := 48) (by kernel_rfl) rfl (by decide) (by decide)
theorem flatDirOp : Flat dDirOp := by
  rintro w B x cs ⟨c0, r0, rfl, h0, c1, r1, rfl, h1, c2, c3, rfl, h2, h3⟩
  exact ⟨_, _, [], [], rfl, rfl, List.nodup_nil, ⟨rfl, h0⟩, ⟨_, _, [], [], rfl, rfl, List.nodup_nil, ⟨rfl, h1⟩, ⟨_, _, [], [], rfl, rfl, List.nodup_nil, ⟨rfl, h2⟩, ⟨rfl, h3⟩⟩⟩⟩
theorem rowDirOp (w : World) {x : DirOpT} (g0 : IntKind.i64.wrap x.1 = x.1) (g1 : x.2.1.length ≤ 9223372036854775807) (g2 : x.2.2.1.length ≤ 9223372036854775807) (g3 : IntKind.i64.wrap x.2.2.2 = x.2.2.2) : Row dDirOp (w.alloc (.cells #[.int .i64 x.1, .string ⟨(x.2.1).toArray⟩, .string ⟨(x.2.2.1).toArray⟩, .int .i64 x.2.2.2] 66)) (· = w.heap.size) (some ⟨w.heap.size, 0, none⟩) 1 [x] := by
  refine ⟨rfl, by omega, fun _ => ⟨_, rfl, rfl, fun j y hj => ?_⟩⟩
  have hj0 : j = 0 := by have := (List.getElem?_eq_some_iff.1 hj).1; simp at this; exact this
  subst hj0
  obtain rfl : y = x := by simpa using hj.symm
  refine ⟨[.int .i64 y.1, .string ⟨(y.2.1).toArray⟩, .string ⟨(y.2.2.1).toArray⟩, .int .i64 y.2.2.2], ⟨_, _, rfl, ⟨rfl, g0⟩, ⟨_, _, rfl, ⟨rfl, g1⟩, ⟨_, _, rfl, ⟨rfl, g2⟩, ⟨rfl, g3⟩⟩⟩⟩, fun i u hu => ?_⟩
  rw [Nat.zero_mul, Nat.zero_add, add_own, cell_of_row _ _ i _ _ (0, 0) (heap_alloc_new w _)]
  simpa using hu
abbrev DirOpST := List DirOpT
abbrev dDirOpS : Ty DirOpST := Ty.slice 66 dDirOp
theorem fptDirOp1 (p : Addr) (w : World) : (Instr.fieldAt 66 (.pointer (some p)) 1).run Tryd.prog w = .ok (.pointer (some ⟨p.block, p.off + 1, none⟩)) w := by go_simp
theorem fptDirOp2 (p : Addr) (w : World) : (Instr.fieldAt 66 (.pointer (some p)) 2).run Tryd.prog w = .ok (.pointer (some ⟨p.block, p.off + 2, none⟩)) w := by go_simp
end Go.Proofs.YtkkgighgnbbgiaaDoor

namespace Go.Proofs.YtkkgighgnbbgiaaDoor
open Go.RowKit Mem
set_option linter.unusedVariables false
set_option linter.unusedSimpArgs false
abbrev DiskT := NodeST × (EntryST × (EntryST × (DirOpST × Int)))
abbrev dDisk : Ty DiskT := Ty.pair dNodeS (Ty.pair dEntryS (Ty.pair dEntryS (Ty.pair dDirOpS (Ty.int .i64))))
set_option synthInstance.maxSize 2000
theorem rdDisk {w : World} {v : Value} {x : DiskT} (h : RdV true dDisk w v x) : ∃ v0 v1 v2 v3, v = .agg #[v0, v1, v2, v3, .int .i64 x.2.2.2.2] ∧ RdV false dNodeS w v0 x.1 ∧ RdV false dEntryS w v1 x.2.1 ∧ RdV false dEntryS w v2 x.2.2.1 ∧ RdV false dDirOpS w v3 x.2.2.2.1 := by
  obtain ⟨cs, rfl, c0, r0, rfl, h0, c1, r1, rfl, h1, c2, r2, rfl, h2, c3, c4, rfl, h3, h4⟩ := h
  obtain ⟨A0, cp0, rfl, g0⟩ := h0
  obtain ⟨A1, cp1, rfl, g1⟩ := h1
  obtain ⟨A2, cp2, rfl, g2⟩ := h2
  obtain ⟨A3, cp3, rfl, g3⟩ := h3
  obtain ⟨rfl, g4⟩ := h4
  exact ⟨_, _, _, _, rfl, ⟨_, rfl, A0, cp0, rfl, g0⟩, ⟨_, rfl, A1, cp1, rfl, g1⟩, ⟨_, rfl, A2, cp2, rfl, g2⟩, ⟨_, rfl, A3, cp3, rfl, g3⟩⟩
theorem cellsDisk {w : World} {v : Value} {x : DiskT} (h : RdV true dDisk w v x) : ∃ A0 q0 A1 q1 A2 q2 A3 q3, v = .agg #[.slice A0 x.1.length q0, .slice A1 x.2.1.length q1, .slice A2 x.2.2.1.length q2, .slice A3 x.2.2.2.1.length q3, .int .i64 x.2.2.2.2] := by
  obtain ⟨v0, v1, v2, v3, rfl, k0, k1, k2, k3⟩ := rdDisk h
  obtain ⟨A0, q0, rfl, _⟩ := k0.slice
  obtain ⟨A1, q1, rfl, _⟩ := k1.slice
  obtain ⟨A2, q2, rfl, _⟩ := k2.slice
  obtain ⟨A3, q3, rfl, _⟩ := k3.slice
  exact ⟨A0, q0, A1, q1, A2, q2, A3, q3, rfl⟩
theorem mDisk {w : World} {x : DiskT} {F0 F1 F2 F3 : List Nat} {v0 v1 v2 v3 : Value} (g4 : IntKind.i64.wrap x.2.2.2.2 = x.2.2.2.2) (o0 : Own dNode 49 w F0 v0 x.1) (o1 : Own dEntry 37 w F1 v1 x.2.1) (o2 : Own dEntry 37 w F2 v2 x.2.2.1) (o3 : Own dDirOp 66 w F3 v3 x.2.2.2.1) (n0 : (F0 ++ (F1 ++ (F2 ++ (F3 ++ ([]))))).Nodup) : dDisk.M w (F0 ++ (F1 ++ (F2 ++ (F3 ++ ([]))))) x [v0, v1, v2, v3, .int .i64 x.2.2.2.2] := by
  have n1 := (List.nodup_append.1 n0).2.1
  have n2 := (List.nodup_append.1 n1).2.1
  have n3 := (List.nodup_append.1 n2).2.1
  have n4 := (List.nodup_append.1 n3).2.1
  exact ⟨_, _, F0, _, rfl, rfl, n0, ⟨_, rfl, o0⟩, ⟨_, _, F1, _, rfl, rfl, n1, ⟨_, rfl, o1⟩, ⟨_, _, F2, _, rfl, rfl, n2, ⟨_, rfl, o2⟩, ⟨_, _, F3, _, rfl, rfl, n3, ⟨_, rfl, o3⟩, ⟨rfl, rfl, g4⟩⟩⟩⟩⟩
end Go.Proofs.YtkkgighgnbbgiaaDoor

namespace Go.Proofs.YtkkgighgnbbgiaaDoor
set_option linter.unusedVariables false
abbrev LB := List UInt8
abbrev EntL := LB × Int
abbrev DopL := Int × LB × LB × Int
abbrev NodL := LB × Int
theorem bl_eq (x y : LB) : Op.bytesLess x y = decide (x < y) := bytesLess_eq x y
theorem lb_irr (a : LB) : ¬ a < a := List.lt_irrefl a
theorem lb_trans {a b c : LB} (h : a < b) (k : b < c) : a < c := List.lt_trans h k
theorem lb_tri {a b : LB} (h : ¬ a < b) (k : ¬ b < a) : a = b := List.le_antisymm (List.not_lt.1 k) (List.not_lt.1 h)
theorem lb_asym {a b : LB} (h : a < b) : ¬ b < a := fun k => lb_irr a (lb_trans h k)
def goodL (s : LB) : Bool := decide (1 ≤ s.length) && decide (s.length ≤ 80) && s.all (fun b => decide (33 ≤ b.toNat ∧ b.toNat ≤ 126))
def Ord (l : List EntL) : Prop := l.Pairwise (fun a b => a.1 < b.1)
def lowE (l : List EntL) (n : LB) : List EntL := l.filter (fun e => decide (e.1 < n))
def highE (l : List EntL) (n : LB) : List EntL := l.filter (fun e => decide (n < e.1))
def withE (l : List EntL) (n : LB) (k : Int) : List EntL := lowE l n ++ (n, k) :: highE l n
def outE (l : List EntL) (n : LB) : List EntL := l.filter (fun e => decide (e.1 ≠ n))
def findG (n : LB) : List EntL → Nat → Int
  | [], _ => -1
  | e :: r, i => if e.1 = n then (i : Int) else findG n r (i + 1)
def findE (l : List EntL) (n : LB) : Int := findG n l 0
def placeE (l : List EntL) (n : LB) : Nat := l.countP (fun e => decide (e.1 < n))
def hasE (l : List EntL) (n : LB) : Bool := l.any (fun e => decide (e.1 = n))
def hasNode (l : List EntL) (k : Int) : Bool := l.any (fun e => decide (e.2 = k))
theorem outE_split {l : List EntL} (h : Ord l) (n : LB) : outE l n = lowE l n ++ highE l n := by
  induction l with
  | nil => rfl
  | cons e r ih =>
    have hr := (List.pairwise_cons.1 h).2
    have he := (List.pairwise_cons.1 h).1
    have ih := ih hr
    unfold outE lowE highE at ih ⊢
    by_cases h1 : e.1 < n
    · rw [List.filter_cons_of_pos (by simp; intro hh; rw [hh] at h1; exact lb_irr _ h1), List.filter_cons_of_pos (by simpa using h1), List.filter_cons_of_neg (by simpa using lb_asym h1), ih]; rfl
    · have hlow : r.filter (fun e => decide (e.1 < n)) = [] := by
        rw [List.filter_eq_nil_iff]; intro x hx; simp only [decide_eq_true_eq]; intro hh; exact h1 (lb_trans (he x hx) hh)
      rw [hlow, List.nil_append] at ih
      by_cases h2 : n < e.1
      · rw [List.filter_cons_of_pos (by simp; intro hh; rw [hh] at h2; exact lb_irr _ h2), List.filter_cons_of_neg (by simpa using h1), List.filter_cons_of_pos (by simpa using h2), hlow, ih]; rfl
      · rw [List.filter_cons_of_neg (by simp; exact lb_tri h1 h2), List.filter_cons_of_neg (by simpa using h1), List.filter_cons_of_neg (by simpa using h2), hlow, ih]; rfl
theorem place_take {l : List EntL} (h : Ord l) (n : LB) : l.take (placeE l n) = lowE l n ∧ l.drop (placeE l n) = l.filter (fun e => decide (¬ e.1 < n)) := by
  induction l with
  | nil => exact ⟨rfl, rfl⟩
  | cons e r ih =>
    have hr := (List.pairwise_cons.1 h).2
    have he := (List.pairwise_cons.1 h).1
    have ih := ih hr
    unfold placeE lowE at ih ⊢
    by_cases h1 : e.1 < n
    · rw [List.countP_cons_of_pos (by simpa using h1), List.filter_cons_of_pos (by simpa using h1), List.filter_cons_of_neg (by simpa using h1)]
      exact ⟨by rw [List.take_succ_cons, ih.1], by rw [List.drop_succ_cons, ih.2]⟩
    · have hno : ∀ x ∈ r, ¬ x.1 < n := fun x hx hh => h1 (lb_trans (he x hx) hh)
      have hc : r.countP (fun e => decide (e.1 < n)) = 0 := by rw [List.countP_eq_zero]; intro x hx; simpa using hno x hx
      have hlow : r.filter (fun e => decide (e.1 < n)) = [] := by rw [List.filter_eq_nil_iff]; intro x hx; simpa using hno x hx
      have hhi : r.filter (fun e => decide (¬ e.1 < n)) = r := by rw [List.filter_eq_self]; intro x hx; simpa using hno x hx
      rw [List.countP_cons_of_neg (by simpa using h1), List.filter_cons_of_neg (by simpa using h1), List.filter_cons_of_pos (by simpa using h1), hc, hlow, hhi]
      exact ⟨rfl, rfl⟩
theorem placeE_le (l : List EntL) (n : LB) : placeE l n ≤ l.length := List.countP_le_length
theorem place_at {l : List EntL} (h : Ord l) (n : LB) : (hasE l n = true ↔ ∃ hl : placeE l n < l.length, l[placeE l n].1 = n) ∧ (hasE l n = true → l.drop (placeE l n + 1) = highE l n) ∧ (hasE l n = false → l.drop (placeE l n) = highE l n) := by
  induction l with
  | nil => exact ⟨by simp [hasE], by simp [hasE], by simp [highE]⟩
  | cons e r ih =>
    have hr := (List.pairwise_cons.1 h).2
    have he := (List.pairwise_cons.1 h).1
    obtain ⟨i1, i2, i3⟩ := ih hr
    by_cases h1 : e.1 < n
    · have hp : placeE (e :: r) n = placeE r n + 1 := by unfold placeE; rw [List.countP_cons_of_pos (by simpa using h1)]
      have hh : hasE (e :: r) n = hasE r n := by
        unfold hasE
        rw [List.any_cons, show decide (e.1 = n) = false from by simp; intro hh; rw [hh] at h1; exact lb_irr _ h1, Bool.false_or]
      have hhi : highE (e :: r) n = highE r n := by unfold highE; rw [List.filter_cons_of_neg (by simpa using lb_asym h1)]
      rw [hp, hh, hhi]
      refine ⟨?_, by rw [List.drop_succ_cons]; exact i2, by rw [List.drop_succ_cons]; exact i3⟩
      rw [i1]
      constructor
      · rintro ⟨hl, hx⟩; exact ⟨by simp; omega, by simpa using hx⟩
      · rintro ⟨hl, hx⟩; exact ⟨by simp at hl; omega, by simpa using hx⟩
    · have hno : ∀ x ∈ r, ¬ x.1 < n := fun x hx hh => h1 (lb_trans (he x hx) hh)
      have hp : placeE (e :: r) n = 0 := by
        unfold placeE; rw [List.countP_cons_of_neg (by simpa using h1), List.countP_eq_zero]; intro x hx; simpa using hno x hx
      by_cases h2 : e.1 = n
      · have hall : highE (e :: r) n = r := by
          unfold highE
          rw [List.filter_cons_of_neg (by simp [h2, lb_irr]), List.filter_eq_self]
          intro x hx; have := he x hx; rw [h2] at this; simpa using this
        have hh : hasE (e :: r) n = true := by unfold hasE; simp [h2]
        rw [hp, hh, hall]
        exact ⟨⟨fun _ => ⟨by simp, h2⟩, fun _ => rfl⟩, fun _ => rfl, fun hf => (by cases hf)⟩
      · have hlt : n < e.1 := by
          rcases Decidable.em (n < e.1) with h | h
          · exact h
          · exact absurd (lb_tri h1 h) h2
        have hhi : ∀ x ∈ r, n < x.1 := fun x hx => lb_trans hlt (he x hx)
        have hall : highE (e :: r) n = e :: r := by
          unfold highE
          rw [List.filter_eq_self]
          intro x hx
          rcases List.mem_cons.1 hx with rfl | hx
          · simpa using hlt
          · simpa using hhi x hx
        have hh : hasE (e :: r) n = false := by
          unfold hasE
          rw [List.any_eq_false]
          intro x hx
          rcases List.mem_cons.1 hx with rfl | hx
          · simpa using h2
          · simp only [decide_eq_true_eq]; intro hh; have := hhi x hx; rw [hh] at this; exact lb_irr _ this
        rw [hp, hh, hall]
        refine ⟨⟨fun hf => (by cases hf), ?_⟩, fun hf => (by cases hf), fun _ => rfl⟩
        rintro ⟨hl, hx⟩
        exact absurd hx h2
theorem find_has (n : LB) : ∀ (l : List EntL) (i : Nat), (findG n l i = -1 ∧ hasE l n = false) ∨ (∃ j, j < l.length ∧ findG n l i = ((i + j : Nat) : Int) ∧ hasE l n = true ∧ ∃ e, l[j]? = some e ∧ e.1 = n)
  | [], i => .inl ⟨rfl, rfl⟩
  | e :: r, i => by
    by_cases h : e.1 = n
    · exact .inr ⟨0, by simp, by simp [findG, h], by simp [hasE, h], e, rfl, h⟩
    · have e1 : findG n (e :: r) i = findG n r (i + 1) := by simp [findG, h]
      have e2 : hasE (e :: r) n = hasE r n := by simp [hasE, h]
      rcases find_has n r (i + 1) with ⟨h1, h2⟩ | ⟨j, hj, h1, h2, x, hx, hxn⟩
      · exact .inl ⟨by rw [e1, h1], by rw [e2, h2]⟩
      · exact .inr ⟨j + 1, by simp; omega, by rw [e1, h1]; omega, by rw [e2, h2], x, by simpa using hx, hxn⟩
theorem find_place {l : List EntL} (h : Ord l) (n : LB) : findE l n = if hasE l n then (placeE l n : Int) else -1 := by
  rcases find_has n l 0 with ⟨h1, h2⟩ | ⟨j, hj, h1, h2, x, hx, hxn⟩
  · unfold findE; rw [h1, h2]; rfl
  · unfold findE; rw [h1, h2, if_pos rfl]
    obtain ⟨hp, hpe⟩ := (place_at h n).1.mp h2
    have hx' : l[j].1 = n := by
      have := (List.getElem?_eq_some_iff.1 hx).2; rw [this]; exact hxn
    have hpw := List.pairwise_iff_getElem.1 h
    rcases Nat.lt_trichotomy j (placeE l n) with hlt | heq | hgt
    · have := hpw j _ hj hp hlt; rw [hx', hpe] at this; exact absurd this (lb_irr _)
    · rw [heq]; simp
    · have := hpw _ j hp hj hgt; rw [hx', hpe] at this; exact absurd this (lb_irr _)
def withG (n : LB) (k : Int) : List EntL → Bool → List EntL
  | [], done => if done then [] else [(n, k)]
  | e :: r, done => if done = false ∧ n < e.1 then (n, k) :: e :: withG n k r true else e :: withG n k r done
theorem withG_true (n : LB) (k : Int) : ∀ l, withG n k l true = l
  | [] => rfl
  | e :: r => by unfold withG; rw [if_neg (by simp), withG_true n k r]
theorem withG_is {l : List EntL} (h : Ord l) (n : LB) (k : Int) (hno : hasE l n = false) : withG n k l false = withE l n k := by
  induction l with
  | nil => rfl
  | cons e r ih =>
    have hr := (List.pairwise_cons.1 h).2
    have he := (List.pairwise_cons.1 h).1
    have hne : e.1 ≠ n := by unfold hasE at hno; rw [List.any_cons, Bool.or_eq_false_iff] at hno; simpa using hno.1
    have hno2 : hasE r n = false := by unfold hasE at hno; rw [List.any_cons, Bool.or_eq_false_iff] at hno; exact hno.2
    have ih := ih hr hno2
    unfold withG
    by_cases h1 : n < e.1
    · rw [if_pos ⟨rfl, h1⟩, withG_true]
      unfold withE lowE highE
      have hlow : (e :: r).filter (fun x => decide (x.1 < n)) = [] := by
        rw [List.filter_eq_nil_iff]; intro x hx; simp only [decide_eq_true_eq]
        rcases List.mem_cons.1 hx with rfl | hx
        · exact lb_asym h1
        · exact lb_asym (lb_trans h1 (he x hx))
      have hhi : (e :: r).filter (fun x => decide (n < x.1)) = e :: r := by
        rw [List.filter_eq_self]; intro x hx
        rcases List.mem_cons.1 hx with rfl | hx
        · simpa using h1
        · simpa using lb_trans h1 (he x hx)
      rw [hlow, hhi]; rfl
    · have hlt : e.1 < n := by
        rcases Decidable.em (e.1 < n) with h | h
        · exact h
        · exact absurd (lb_tri h h1) hne
      rw [if_neg (fun hh => h1 hh.2), ih]
      unfold withE lowE highE
      rw [List.filter_cons_of_pos (by simpa using hlt), List.filter_cons_of_neg (by simpa using h1)]; rfl
theorem ord_sub {l m : List EntL} (h : Ord l) (hs : m.Sublist l) : Ord m := List.Pairwise.sublist hs h
theorem ord_out {l : List EntL} (h : Ord l) (n : LB) : Ord (outE l n) := ord_sub h List.filter_sublist
theorem ord_low {l : List EntL} (h : Ord l) (n : LB) : Ord (lowE l n) := ord_sub h List.filter_sublist
theorem ord_high {l : List EntL} (h : Ord l) (n : LB) : Ord (highE l n) := ord_sub h List.filter_sublist
theorem ord_with {l : List EntL} (h : Ord l) (n : LB) (k : Int) : Ord (withE l n k) := by
  unfold withE Ord
  rw [List.pairwise_append]
  have hl : ∀ x ∈ lowE l n, x.1 < n := fun x hx => by simpa using (List.mem_filter.1 hx).2
  have hh : ∀ x ∈ highE l n, n < x.1 := fun x hx => by simpa using (List.mem_filter.1 hx).2
  refine ⟨ord_low h n, List.pairwise_cons.2 ⟨fun x hx => hh x hx, ord_high h n⟩, fun a ha b hb => ?_⟩
  rcases List.mem_cons.1 hb with rfl | hb
  · exact hl a ha
  · exact lb_trans (hl a ha) (hh b hb)
theorem outE_has (l : List EntL) (n : LB) : hasE (outE l n) n = false := by
  unfold hasE outE
  rw [List.any_eq_false]
  intro x hx
  have := (List.mem_filter.1 hx).2
  simpa using this
theorem low_out (l : List EntL) (n : LB) : lowE (outE l n) n = lowE l n := by
  unfold lowE outE; rw [List.filter_filter]
  congr 1; funext e
  by_cases h : e.1 < n
  · have : e.1 ≠ n := fun hh => by rw [hh] at h; exact lb_irr _ h
    simp [h, this]
  · simp [h]
theorem high_out (l : List EntL) (n : LB) : highE (outE l n) n = highE l n := by
  unfold highE outE; rw [List.filter_filter]
  congr 1; funext e
  by_cases h : n < e.1
  · have : e.1 ≠ n := fun hh => by rw [hh] at h; exact lb_irr _ h
    simp [h, this]
  · simp [h]
theorem withS_is {l : List EntL} (h : Ord l) (n : LB) (k : Int) : withG n k (outE l n) false = withE l n k := by
  rw [withG_is (ord_out h n) n k (outE_has l n)]
  unfold withE; rw [low_out, high_out]
theorem bind_there {l : List EntL} (h : Ord l) (n : LB) (k : Int) (ht : hasE l n = true) : l.set (placeE l n) (n, k) = withE l n k := by
  obtain ⟨hp, hpe⟩ := (place_at h n).1.mp ht
  rw [List.set_eq_take_append_cons_drop, if_pos hp, (place_take h n).1, (place_at h n).2.1 ht]; rfl
theorem bind_not {l : List EntL} (h : Ord l) (n : LB) (k : Int) (ht : hasE l n = false) : l.take (placeE l n) ++ (n, k) :: l.drop (placeE l n) = withE l n k := by
  rw [(place_take h n).1, (place_at h n).2.2 ht]; rfl
theorem leave_is {l : List EntL} (h : Ord l) (n : LB) (ht : hasE l n = true) : l.take (placeE l n) ++ l.drop (placeE l n + 1) = outE l n := by
  rw [(place_take h n).1, (place_at h n).2.1 ht, outE_split h n]
theorem withE_len {l : List EntL} (n : LB) (k : Int) : (withE l n k).length ≤ l.length + 1 := by
  unfold withE lowE highE
  rw [List.length_append, List.length_cons]
  have : (l.filter (fun e => decide (e.1 < n))).length + (l.filter (fun e => decide (n < e.1))).length ≤ l.length := by
    induction l with
    | nil => simp
    | cons e r ih =>
      by_cases h1 : e.1 < n
      · rw [List.filter_cons_of_pos (by simpa using h1), List.filter_cons_of_neg (by simpa using lb_asym h1)]; simp; omega
      · rw [List.filter_cons_of_neg (by simpa using h1), List.filter_cons]; split <;> simp <;> omega
  omega
theorem outE_len (l : List EntL) (n : LB) : (outE l n).length ≤ l.length := List.length_filter_le _ _
def replayL (l : List EntL) (o : DopL) (nodes : Int) : Option (List EntL) :=
  if o.1 = 1 then (if goodL o.2.1 = true ∧ o.2.2.1 = [] ∧ 0 ≤ o.2.2.2 ∧ o.2.2.2 < nodes ∧ hasNode l o.2.2.2 = false then some (withE l o.2.1 o.2.2.2) else none)
  else if o.1 = 4 then (if hasE l o.2.1 = true ∧ goodL o.2.2.1 = true ∧ o.2.2.1 ≠ o.2.1 ∧ o.2.2.2 = 0 then some (withE (outE l o.2.1) o.2.2.1 ((l[placeE l o.2.1]?.getD ([], 0)).2)) else none)
  else if o.1 = 5 then (if hasE l o.2.1 = true ∧ o.2.2.1 = [] ∧ o.2.2.2 = 0 then some (outE l o.2.1) else none)
  else none
theorem replayL_ord {l m : List EntL} {o : DopL} {nodes : Int} (h : Ord l) (hr : replayL l o nodes = some m) : Ord m := by
  unfold replayL at hr
  split at hr
  · split at hr
    · obtain rfl := Option.some.inj hr; exact ord_with h _ _
    · cases hr
  · split at hr
    · split at hr
      · obtain rfl := Option.some.inj hr; exact ord_with (ord_out h _) _ _
      · cases hr
    · split at hr
      · split at hr
        · obtain rfl := Option.some.inj hr; exact ord_out h _
        · cases hr
      · cases hr
theorem replayL_len {l m : List EntL} {o : DopL} {nodes : Int} (hr : replayL l o nodes = some m) : m.length ≤ l.length + 1 := by
  unfold replayL at hr
  split at hr
  · split at hr
    · obtain rfl := Option.some.inj hr; exact withE_len _ _
    · cases hr
  · split at hr
    · split at hr
      · obtain rfl := Option.some.inj hr
        refine Nat.le_trans (withE_len _ _) ?_
        have := outE_len l o.2.1; omega
      · cases hr
    · split at hr
      · split at hr
        · obtain rfl := Option.some.inj hr; have := outE_len l o.2.1; omega
        · cases hr
      · cases hr
def inOrdL (l : List EntL) (nodes : Int) : Bool := decide (l.length ≤ 300) && l.all (fun e => goodL e.1 && decide (0 ≤ e.2 ∧ e.2 < nodes)) && decide (l.Pairwise (fun a b => a.1 < b.1 ∧ a.2 ≠ b.2))
theorem inOrdL_ord {l : List EntL} {nodes : Int} (h : inOrdL l nodes = true) : Ord l := by
  unfold inOrdL at h
  simp only [Bool.and_eq_true, decide_eq_true_eq] at h
  exact h.2.imp fun h => h.1
def replaysL (nodes : Int) : List EntL → List DopL → Option (List EntL)
  | l, [] => some l
  | l, o :: r => match replayL l o nodes with
    | none => none
    | some m => if m.length ≤ 300 then replaysL nodes m r else none
abbrev DiskL := List NodL × (List EntL × (List EntL × (List DopL × Int)))
def sumD (l : List NodL) : Nat := (l.map fun n => n.1.length).sum
def nodeOk (n : NodL) : Bool := decide (n.1.length ≤ 40000 ∧ 0 ≤ n.2 ∧ n.2 ≤ n.1.length)
def DiskValidL (d : DiskL) : Bool :=
  decide (0 ≤ d.2.2.2.2 ∧ d.2.2.2.2 ≤ 1000000 ∧ d.1.length ≤ 600 ∧ d.2.2.2.1.length ≤ 1000) && d.1.all nodeOk && decide (sumD d.1 ≤ 200000) && inOrdL d.2.1 d.1.length && inOrdL d.2.2.1 d.1.length &&
    (match replaysL d.1.length d.2.2.1 d.2.2.2.1 with | none => false | some l => decide (l = d.2.1))
end Go.Proofs.YtkkgighgnbbgiaaDoor

namespace Go.Proofs.YtkkgighgnbbgiaaDoor
open Go.RowKit Mem
set_option linter.unusedVariables false
theorem strIdx_run (xs : Bytes) (k : Nat) (h : k < xs.length) (w : World) : (Instr.index 9 (.string ⟨xs.toArray⟩) (.int .i64 (k : Int))).run Tryd.prog w = .ok (.int .u8 (xs[k].toNat : Int)) w := by
  have h0 : (0 : Int) ≤ (k : Int) := by omega
  have h1 : (k : Int) < (xs.length : Int) := by omega
  have hsz : (⟨xs.toArray⟩ : ByteArray).size = xs.length := by simp [ByteArray.size]
  have hg : (⟨xs.toArray⟩ : ByteArray).get! k = xs[k] := by simp [ByteArray.get!, h]
  go_simp
  show ((xs.toArray[k]'(by simpa using h)).toNat : Int) = _
  simp
end Go.Proofs.YtkkgighgnbbgiaaDoor

namespace Go.Proofs.YtkkgighgnbbgiaaDoor
open Go.RowKit Mem
set_option linter.unusedVariables false
set_option linter.unusedSimpArgs false
theorem bl_run (xs ys : Bytes) : Op.bytesLess (⟨xs.toArray⟩ : ByteArray).toList (⟨ys.toArray⟩ : ByteArray).toList = decide (xs < ys) := by
  rw [show (⟨xs.toArray⟩ : ByteArray).toList = xs from by rw [ByteArray.toList_eq], show (⟨ys.toArray⟩ : ByteArray).toList = ys from by rw [ByteArray.toList_eq], bl_eq]
theorem ent_at {w w' : World} {B : Nat → Prop} {A : Option Addr} {n : Nat} {xs : List EntryT} (h : Row dEntry w B A n xs) (hb : ∀ k, B k → w'.heap[k]? = w.heap[k]?) {k : Nat} (hk : k < xs.length) :
    ∃ ad, A = some ad ∧ w'.cell? (ad.add (k * 2)) = some (.string ⟨xs[k].1.toArray⟩) ∧ w'.cell? ⟨(ad.add (k * 2)).block, (ad.add (k * 2)).off + 1, none⟩ = some (.int .i64 xs[k].2) ∧ xs[k].1.length ≤ 9223372036854775807 ∧ IntKind.i64.wrap xs[k].2 = xs[k].2 := by
  obtain ⟨ad, cs, rfl, hK, h0, h1⟩ := h.cells_at hb hk
  obtain ⟨c0, c1, rfl, ⟨rfl, g0⟩, ⟨rfl, g1⟩⟩ := hK
  exact ⟨ad, rfl, h0 _ rfl, h1 0 _ rfl, g0, g1⟩
theorem rowEnt (w : World) {z : Bytes} {v : Int} (g0 : z.length ≤ 9223372036854775807) (g1 : IntKind.i64.wrap v = v) {g : Nat} (hg : g = w.heap.size) : Row dEntry (w.alloc (.cells #[.string ⟨z.toArray⟩, .int .i64 v] 37)) (· = g) (some ⟨g, 0, none⟩) 1 [((z, v) : EntryT)] := by
  subst hg; exact rowEntry w (x := (z, v)) g0 g1
theorem elt_entry : Elt Tryd.prog 37 dEntry.sz (.agg #[.string ⟨#[]⟩, .int .i64 0]) := eltEntry
theorem goodL_iff (xs : Bytes) : goodL xs = true ↔ 1 ≤ xs.length ∧ xs.length ≤ 80 ∧ ∀ j, (hj : j < xs.length) → 33 ≤ xs[j].toNat ∧ xs[j].toNat ≤ 126 := by
  unfold goodL
  simp only [Bool.and_eq_true, decide_eq_true_eq, List.all_eq_true]
  constructor
  · rintro ⟨⟨h1, h2⟩, h3⟩
    exact ⟨h1, h2, fun j hj => h3 _ (List.getElem_mem hj)⟩
  · rintro ⟨h1, h2, h3⟩
    refine ⟨⟨h1, h2⟩, fun x hx => ?_⟩
    obtain ⟨j, hj, rfl⟩ := List.getElem_of_mem hx
    exact h3 j hj
set_option maxHeartbeats 1000000 in
set_option maxRecDepth 100000 in
theorem goodS_calls (xs : Bytes) (hx : xs.length ≤ 9223372036854775807) (w : World) : Calls Tryd.prog 39 #[.string ⟨xs.toArray⟩] w (fun e w' => e = .returned (.bool (goodL xs)) ∧ w' = w) := by
  have hsz : (⟨xs.toArray⟩ : ByteArray).size = xs.length := by simp [ByteArray.size]
  have HI := Sec.mk (goodL_iff xs)
  have HF : Sec (¬ (1 ≤ xs.length ∧ xs.length ≤ 80 ∧ ∀ j, (hj : j < xs.length) → 33 ≤ xs[j].toNat ∧ xs[j].toNat ≤ 126) → goodL xs = false) := ⟨fun h => by
    cases hg : goodL xs with
    | false => rfl
    | true => exact absurd (HI.out.1 hg) h⟩
  generalize goodL xs = r at *
  by_cases h1 : 1 ≤ xs.length
  rotate_left
  · have HE : Sec (r = false) := ⟨HF.out (fun h => h1 h.1)⟩
    have h1i : (xs.length : Int) < 1 := by omega
    clear h1
    go_enter Tryd.func39, Tryd.ntmps39
    go_wp2
    go_ret
    exact ⟨by rw [HE.out]; rfl, rfl⟩
  by_cases h2 : xs.length ≤ 80
  rotate_left
  · have HE : Sec (r = false) := ⟨HF.out (fun h => h2 h.2.1)⟩
    have h1i : ¬ (xs.length : Int) < 1 := by omega
    have h2i : (80 : Int) < (xs.length : Int) := by omega
    clear h1 h2
    go_enter Tryd.func39, Tryd.ntmps39
    go_wp2
    go_ret
    exact ⟨by rw [HE.out]; rfl, rfl⟩
  have h1i : ¬ (xs.length : Int) < 1 := by omega
  have h2i : ¬ (80 : Int) < (xs.length : Int) := by omega
  go_enter Tryd.func39, Tryd.ntmps39
  go_wp2
  go_loop [3] (fun i => ∃ k : Nat, k ≤ xs.length ∧ i = .int .i64 (k : Int) ∧ Sec (∀ j, (hj : j < xs.length) → j < k → 33 ≤ xs[j].toNat ∧ xs[j].toNat ≤ 126)) (fun i => xs.length - (intOf i).toNat)
  case atStart => exact ⟨0, Nat.zero_le _, rfl, ⟨fun j _ h => absurd h (Nat.not_lt_zero _)⟩⟩
  case round =>
    obtain ⟨k, hk, rfl, HN⟩ := hrel
    by_cases hlt : k < xs.length
    · have hki : (k : Int) < (xs.length : Int) := by omega
      have hgx := strIdx_run xs k hlt
      have HNX : Sec (33 ≤ xs[k].toNat ∧ xs[k].toNat ≤ 126 → ∀ j, (hj : j < xs.length) → j < k + 1 → 33 ≤ xs[j].toNat ∧ xs[j].toNat ≤ 126) := ⟨fun h j hj hjk => by rcases Nat.lt_succ_iff_lt_or_eq.1 hjk with h' | rfl; exact HN.out j hj h'; exact h⟩
      have HBX : Sec (¬ (33 ≤ xs[k].toNat ∧ xs[k].toNat ≤ 126) → r = false) := ⟨fun h => HF.out (fun hh => h (hh.2.2 k hlt))⟩
      generalize xs[k].toNat = z at *
      by_cases ha : z < 33
      · have HE : Sec (r = false) := ⟨HBX.out (by omega)⟩
        have hai : (z : Int) < 33 := by omega
        go_wp2
        go_ret
        exact ⟨by rw [HE.out]; rfl, rfl⟩
      · have hai : ¬ (z : Int) < 33 := by omega
        by_cases hb : 126 < z
        · have HE : Sec (r = false) := ⟨HBX.out (by omega)⟩
          have hbi : (126 : Int) < (z : Int) := by omega
          go_wp2
          go_ret
          exact ⟨by rw [HE.out]; rfl, rfl⟩
        · have hbi : ¬ (126 : Int) < (z : Int) := by omega
          have HN' := Sec.mk (HNX.out ⟨by omega, by omega⟩)
          go_wp2
          go_round
          case rel => exact ⟨k + 1, by omega, by go_num, HN'⟩
          case measure => simp [intOf]; omega
    · obtain rfl : k = xs.length := by omega
      have HE : Sec (r = true) := ⟨HI.out.2 ⟨h1, h2, fun j hj => HN.out j hj hj⟩⟩
      go_wp2
      go_ret
      exact ⟨by rw [HE.out]; rfl, rfl⟩
set_option maxHeartbeats 1000000 in
set_option maxRecDepth 100000 in
theorem goodI_calls (xs : Bytes) (hx : xs.length ≤ 9223372036854775807) (w : World) : Calls Tryd.prog 45 #[.string ⟨xs.toArray⟩] w (fun e w' => e = .returned (.bool (goodL xs)) ∧ w' = w) := by
  have hsz : (⟨xs.toArray⟩ : ByteArray).size = xs.length := by simp [ByteArray.size]
  have HI := Sec.mk (goodL_iff xs)
  have HF : Sec (¬ (1 ≤ xs.length ∧ xs.length ≤ 80 ∧ ∀ j, (hj : j < xs.length) → 33 ≤ xs[j].toNat ∧ xs[j].toNat ≤ 126) → goodL xs = false) := ⟨fun h => by
    cases hg : goodL xs with
    | false => rfl
    | true => exact absurd (HI.out.1 hg) h⟩
  generalize goodL xs = r at *
  by_cases h1 : 1 ≤ xs.length
  rotate_left
  · have HE : Sec (r = false) := ⟨HF.out (fun h => h1 h.1)⟩
    have h1i : (xs.length : Int) < 1 := by omega
    clear h1
    go_enter Tryd.func45, Tryd.ntmps45
    go_wp2
    go_ret
    exact ⟨by rw [HE.out]; rfl, rfl⟩
  by_cases h2 : xs.length ≤ 80
  rotate_left
  · have HE : Sec (r = false) := ⟨HF.out (fun h => h2 h.2.1)⟩
    have h1i : ¬ (xs.length : Int) < 1 := by omega
    have h2i : (80 : Int) < (xs.length : Int) := by omega
    clear h1 h2
    go_enter Tryd.func45, Tryd.ntmps45
    go_wp2
    go_ret
    exact ⟨by rw [HE.out]; rfl, rfl⟩
  have h1i : ¬ (xs.length : Int) < 1 := by omega
  have h2i : ¬ (80 : Int) < (xs.length : Int) := by omega
  go_enter Tryd.func45, Tryd.ntmps45
  go_wp2
  go_loop [14] (fun i => ∃ k : Nat, k ≤ xs.length ∧ i = .int .i64 (k : Int) ∧ Sec (∀ j, (hj : j < xs.length) → j < k → 33 ≤ xs[j].toNat ∧ xs[j].toNat ≤ 126)) (fun i => xs.length - (intOf i).toNat)
  case atStart => exact ⟨0, Nat.zero_le _, rfl, ⟨fun j _ h => absurd h (Nat.not_lt_zero _)⟩⟩
  case round =>
    obtain ⟨k, hk, rfl, HN⟩ := hrel
    by_cases hlt : k < xs.length
    · have hki : (k : Int) < (xs.length : Int) := by omega
      have hgx := strIdx_run xs k hlt
      have HNX : Sec (33 ≤ xs[k].toNat ∧ xs[k].toNat ≤ 126 → ∀ j, (hj : j < xs.length) → j < k + 1 → 33 ≤ xs[j].toNat ∧ xs[j].toNat ≤ 126) := ⟨fun h j hj hjk => by rcases Nat.lt_succ_iff_lt_or_eq.1 hjk with h' | rfl; exact HN.out j hj h'; exact h⟩
      have HBX : Sec (¬ (33 ≤ xs[k].toNat ∧ xs[k].toNat ≤ 126) → r = false) := ⟨fun h => HF.out (fun hh => h (hh.2.2 k hlt))⟩
      generalize xs[k].toNat = z at *
      by_cases ha : z < 33
      · have HE : Sec (r = false) := ⟨HBX.out (by omega)⟩
        have hai : (z : Int) < 33 := by omega
        go_wp2
        go_ret
        exact ⟨by rw [HE.out]; rfl, rfl⟩
      · have hai : ¬ (z : Int) < 33 := by omega
        by_cases hb : 126 < z
        · have HE : Sec (r = false) := ⟨HBX.out (by omega)⟩
          have hbi : (126 : Int) < (z : Int) := by omega
          go_wp2
          go_ret
          exact ⟨by rw [HE.out]; rfl, rfl⟩
        · have hbi : ¬ (126 : Int) < (z : Int) := by omega
          have HN' := Sec.mk (HNX.out ⟨by omega, by omega⟩)
          go_wp2
          go_round
          case rel => exact ⟨k + 1, by omega, by go_num, HN'⟩
          case measure => simp [intOf]; omega
    · obtain rfl : k = xs.length := by omega
      have HE : Sec (r = true) := ⟨HI.out.2 ⟨h1, h2, fun j hj => HN.out j hj hj⟩⟩
      go_wp2
      go_ret
      exact ⟨by rw [HE.out]; rfl, rfl⟩
theorem findG_at (n : LB) {l : List EntL} {k : Nat} (hk : k < l.length) : findG n (l.drop k) k = if l[k].1 = n then (k : Int) else findG n (l.drop (k + 1)) (k + 1) := by
  rw [List.drop_eq_getElem_cons hk]; rfl
set_option maxHeartbeats 1000000 in
set_option maxRecDepth 100000 in
theorem l1Find_calls {A : Option Addr} {c : Nat} {xs : List EntryT} {B : Nat → Prop} {w : World} (h : Row dEntry w B A xs.length xs) (nm : Bytes) : Calls Tryd.prog 40 #[.slice A xs.length c, .string ⟨nm.toArray⟩] w (fun e w' => e = .returned (.int .i64 (findE xs nm)) ∧ w' = w) := by
  have hmx := h.2.1
  have HR := Sec.mk h
  have HF : Sec (findE xs nm = findG nm (xs.drop 0) 0) := ⟨rfl⟩
  generalize findE xs nm = r at *
  clear h
  go_enter Tryd.func40, Tryd.ntmps40
  go_wp2
  go_loop [8] (fun i => ∃ k : Nat, k ≤ xs.length ∧ i = .int .i64 (k : Int) ∧ Sec (r = findG nm (xs.drop k) k)) (fun i => xs.length - (intOf i).toNat)
  case atStart => exact ⟨0, Nat.zero_le _, rfl, HF⟩
  case round =>
    obtain ⟨k, hk, rfl, HN⟩ := hrel
    by_cases hlt : k < xs.length
    · obtain ⟨ad, rfl, h0, h1, _, _⟩ := ent_at HR.out (w' := w) (fun _ _ => rfl) hlt
      have HS := Sec.mk (HN.out.trans (findG_at nm hlt))
      have hki : (k : Int) < (xs.length : Int) := by omega
      generalize xs[k].1 = z at *
      by_cases he : z = nm
      · have HE : Sec (r = (k : Int)) := ⟨HS.out.trans (if_pos he)⟩
        have hz : (z == nm) = true := by simp [he]
        clear he
        go_wp2
        go_ret
        exact ⟨by rw [HE.out]; rfl, rfl⟩
      · have HE : Sec (r = findG nm (xs.drop (k + 1)) (k + 1)) := ⟨HS.out.trans (if_neg he)⟩
        have hz : (z == nm) = false := by simpa using he
        clear he
        go_wp2
        go_round
        case rel => exact ⟨k + 1, by omega, by go_num, HE⟩
        case measure => simp [intOf]; omega
    · obtain rfl : k = xs.length := by omega
      have HE : Sec (r = -1) := ⟨by rw [HN.out, List.drop_length]; rfl⟩
      go_wp2
      go_ret
      exact ⟨by rw [HE.out]; rfl, rfl⟩
theorem hasNode_take {l : List EntL} {k : Nat} {v : Int} (hk : k < l.length) : hasNode (l.take (k + 1)) v = (hasNode (l.take k) v || decide (l[k].2 = v)) := by
  unfold hasNode
  rw [List.take_succ_eq_append_getElem hk, List.any_append]; simp only [List.any_cons, List.any_nil, Bool.or_false]
theorem hasNode_mem {l : List EntL} {k : Nat} (hk : k < l.length) : hasNode l l[k].2 = true := by
  unfold hasNode
  rw [List.any_eq_true]
  exact ⟨l[k], List.getElem_mem hk, by simp⟩
set_option maxHeartbeats 1000000 in
set_option maxRecDepth 100000 in
theorem boundTo_calls {A : Option Addr} {c : Nat} {xs : List EntryT} {B : Nat → Prop} {w : World} (h : Row dEntry w B A xs.length xs) (hB : ∀ k, B k → k < w.heap.size) (v : Int) : Calls Tryd.prog 52 #[.slice A xs.length c, .int .i64 v] w (Ret (.bool (hasNode xs v)) w) := by
  have hmx := h.2.1
  have HR := Sec.mk h
  have HB := Sec.mk hB
  have HT := Sec.mk (fun k (hk : k < xs.length) (hv : xs[k].2 = v) => (hv ▸ hasNode_mem hk : hasNode xs v = true))
  have HF : Sec (hasNode (xs.take xs.length) v = hasNode xs v) := ⟨by rw [List.take_length]⟩
  generalize hasNode xs v = r at *
  clear h hB
  go_enter Tryd.func52, Tryd.ntmps52
  go_wp2
  go_loopw [9] (fun i wr => ∃ k : Nat, k ≤ xs.length ∧ i = .int .i64 (k : Int) ∧ Sec (hasNode (xs.take k) v = false) ∧ Sec (New w wr)) (fun i _ => xs.length - (intOf i).toNat)
  case atStart => exact ⟨0, Nat.zero_le _, rfl, ⟨rfl⟩, ⟨Mod.refl _ _⟩⟩
  case round =>
    obtain ⟨k, hk, rfl, HN, HM⟩ := hrel
    by_cases hlt : k < xs.length
    · obtain ⟨ad, rfl, h0, h1, _, _⟩ := ent_at HR.out (w' := wr) (fun i hi => HM.out.block i (HB.out i hi) id) hlt
      have HS := Sec.mk (hasNode_take (v := v) hlt)
      have HTk := Sec.mk (HT.out k hlt)
      have hki : (k : Int) < (xs.length : Int) := by omega
      have HM2 := Sec.mk (HM.out.alloc (.cells #[.string ⟨xs[k].1.toArray⟩, .int .i64 xs[k].2] 37))
      generalize xs[k].1 = nm at *
      generalize xs[k].2 = z at *
      by_cases he : z = v
      · have HE := Sec.mk (HTk.out he)
        have hz : (z == v) = true := by simp [he]
        clear he
        go_wp2
        go_ret
        exact ⟨by rw [HE.out]; rfl, HM2.out⟩
      · have hz : (z == v) = false := by simpa using he
        have HN' : Sec (hasNode (xs.take (k + 1)) v = false) := ⟨by rw [HS.out, HN.out, decide_eq_false he]; rfl⟩
        clear he
        go_wp2
        go_roundw
        case rel => exact ⟨k + 1, by omega, by go_num, HN', HM2⟩
        case measure => simp [intOf]; omega
    · obtain rfl : k = xs.length := by omega
      have HE : Sec (r = false) := ⟨HF.out.symm.trans HN.out⟩
      go_wp2
      go_ret
      exact ⟨by rw [HE.out]; rfl, HM.out⟩
theorem out_take {l : List EntL} {k : Nat} {n : LB} (hk : k < l.length) : outE (l.take (k + 1)) n = outE (l.take k) n ++ (if l[k].1 = n then [] else [l[k]]) := by
  unfold outE
  rw [List.take_succ_eq_append_getElem hk, List.filter_append]
  congr 1
  by_cases h : l[k].1 = n
  · rw [if_pos h, List.filter_cons_of_neg (by simpa using h)]; rfl
  · rw [if_neg h, List.filter_cons_of_pos (by simpa using h)]; rfl
set_option maxHeartbeats 1000000 in
set_option maxRecDepth 100000 in
theorem l1Without_calls {A : Option Addr} {c : Nat} {xs : List EntryT} {B : Nat → Prop} {w : World} (h : Row dEntry w B A xs.length xs) (hB : ∀ k, B k → k < w.heap.size) (hl : xs.length ≤ 1048576) (nm : Bytes) : Calls Tryd.prog 56 #[.slice A xs.length c, .string ⟨nm.toArray⟩] w (RetOwn dEntry 37 w (outE xs nm)) := by
  have HR := Sec.mk h
  have HB := Sec.mk hB
  clear h hB
  go_enter Tryd.func56, Tryd.ntmps56
  go_wp2
  go_loopw [5, 10] (fun o i wr => ∃ (k : Nat) (A' : Option Addr) (n' c' : Nat), k ≤ xs.length ∧ i = .int .i64 (k : Int) ∧ o = .slice A' n' c' ∧ Sec (Mine dEntry 37 w wr (.slice A' n' c') (outE (xs.take k) nm))) (fun _ i _ => xs.length - (intOf i).toNat)
  case atStart => exact ⟨0, none, 0, 0, Nat.zero_le _, rfl, rfl, ⟨Mine.nil _ _ (Mod.refl _ _)⟩⟩
  case round =>
    obtain ⟨k, A', n', c', hk, rfl, rfl, HO⟩ := hrel
    by_cases hlt : k < xs.length
    · obtain ⟨ad, rfl, h0, h1, hn, hw⟩ := ent_at HR.out (w' := wr) (fun i hi => HO.out.new.block i (HB.out i hi) id) hlt
      have HS := Sec.mk (out_take (n := nm) hlt)
      have hol := outE_len (xs.take k) nm
      rw [List.length_take] at hol
      have hki : (k : Int) < (xs.length : Int) := by omega
      have HN := Sec.mk hn
      have HW := Sec.mk hw
      obtain ⟨⟨z, v⟩, hx⟩ : ∃ q, q = xs[k] := ⟨_, rfl⟩
      rw [← hx] at h0 h1 HS HN HW
      clear hx hn hw
      simp only at h0 h1 HS HN HW
      generalize hacc : outE (xs.take k) nm = acc at *
      have HO2 := Sec.mk (HO.out.alloc (.cells #[.string ⟨z.toArray⟩, .int .i64 v] 37))
      clear HO hacc
      by_cases he : z = nm
      · have hz : (z == nm) = true := by simp [he]
        have HA : Sec (outE (xs.take (k + 1)) nm = acc) := ⟨by rw [HS.out, if_pos he, List.append_nil]⟩
        clear he
        go_wp2
        go_roundw
        case rel => exact ⟨k + 1, A', n', c', by omega, by go_num, rfl, ⟨by rw [HA.out]; exact HO2.out⟩⟩
        case measure => simp [intOf]; omega
      · have hz : (z == nm) = false := by simpa using he
        have HA : Sec (outE (xs.take (k + 1)) nm = acc ++ [(z, v)]) := ⟨by rw [HS.out, if_neg he]⟩
        clear he
        go_wp2_with (at_builtin; go_loud (refine wpList_app _ rfl (.tmp 18) (.tmp 20) _ rfl Tryd.underlying24 elt_entry flatEntry rfl rfl (HO2.out.alloc _) (rowEnt _ HN.out HW.out (by simp)) (show acc.length + [((z, v) : EntryT)].length ≤ 34359738368 by simp only [List.length_singleton]; omega) ?_; intro A6 n6 c6 w6 HO6))
        have HO6' := Sec.mk HO6
        clear HO6
        go_roundw
        case rel => exact ⟨k + 1, A6, n6, c6, by omega, by go_num, rfl, ⟨by rw [HA.out]; exact HO6'.out⟩⟩
        case measure => simp [intOf]; omega
    · obtain rfl : k = xs.length := by omega
      rw [List.take_length] at HO
      go_wp2
      go_ret
      exact HO.out.ret
end Go.Proofs.YtkkgighgnbbgiaaDoor

namespace Go.Proofs.YtkkgighgnbbgiaaDoor
open Go.RowKit Mem
set_option linter.unusedVariables false
set_option linter.unusedSimpArgs false
theorem strGt (xs ys : Bytes) (w : World) : (binOp .gtr 9 (.string ⟨xs.toArray⟩) (.string ⟨ys.toArray⟩)).run Tryd.prog w = .ok (.bool (decide (ys < xs))) w := by
  have e : binOp .gtr 9 (.string ⟨xs.toArray⟩) (.string ⟨ys.toArray⟩) = pure (.bool !(Op.bytesLess (⟨xs.toArray⟩ : ByteArray).toList (⟨ys.toArray⟩ : ByteArray).toList || (⟨xs.toArray⟩ : ByteArray).toList == (⟨ys.toArray⟩ : ByteArray).toList)) := by simp [binOp, Op.stringOp]
  rw [e, bl_run, show (⟨xs.toArray⟩ : ByteArray).toList = xs from by rw [ByteArray.toList_eq], show (⟨ys.toArray⟩ : ByteArray).toList = ys from by rw [ByteArray.toList_eq], Sem.run_pure]
  congr 2
  by_cases h : ys < xs
  · have h1 : ¬ xs < ys := lb_asym h
    have h2 : (xs == ys) = false := by simp only [beq_eq_false_iff_ne, ne_eq]; intro e; rw [e] at h; exact lb_irr _ h
    simp [h, h1, h2]
  · by_cases h1 : xs < ys
    · simp [h, h1]
    · have h2 : (xs == ys) = true := by simp [lb_tri h1 h]
      simp [h, h1, h2]
theorem strGe (xs ys : Bytes) (w : World) : (binOp .geq 9 (.string ⟨xs.toArray⟩) (.string ⟨ys.toArray⟩)).run Tryd.prog w = .ok (.bool (decide (¬ xs < ys))) w := by
  have e : binOp .geq 9 (.string ⟨xs.toArray⟩) (.string ⟨ys.toArray⟩) = pure (.bool !(Op.bytesLess (⟨xs.toArray⟩ : ByteArray).toList (⟨ys.toArray⟩ : ByteArray).toList)) := by simp [binOp, Op.stringOp]
  rw [e, bl_run, Sem.run_pure]
  by_cases h : xs < ys
  · rw [decide_eq_true h, decide_eq_false (fun hh => hh h)]; rfl
  · rw [decide_eq_false h, decide_eq_true h]; rfl
theorem withG_at (n : LB) (v : Int) {l : List EntL} {k : Nat} (hk : k < l.length) (d : Bool) : withG n v (l.drop k) d = if d = false ∧ n < l[k].1 then (n, v) :: l[k] :: withG n v (l.drop (k + 1)) true else l[k] :: withG n v (l.drop (k + 1)) d := by
  rw [List.drop_eq_getElem_cons hk]; rfl
theorem withG_end (n : LB) (v : Int) (d : Bool) : withG n v [] d = if d then [] else [(n, v)] := rfl
set_option maxHeartbeats 2000000 in
set_option maxRecDepth 100000 in
theorem l1With_calls {A : Option Addr} {c : Nat} {xs : List EntryT} {B : Nat → Prop} {w : World} (h : Row dEntry w B A xs.length xs) (hB : ∀ k, B k → k < w.heap.size) (hl : xs.length ≤ 1048576) (nm : Bytes) (hn : nm.length ≤ 9223372036854775807) (v : Int) (hv : IntKind.i64.wrap v = v) (ho : Ord xs) : Calls Tryd.prog 55 #[.slice A xs.length c, .string ⟨nm.toArray⟩, .int .i64 v] w (RetOwn dEntry 37 w (withE xs nm v)) := by
  have HW := Sec.mk (withS_is ho nm v)
  have HC := Sec.mk (l1Without_calls (c := c) h hB hl nm)
  have hol := outE_len xs nm
  have HN := Sec.mk hn
  have HV := Sec.mk hv
  clear h hB ho hn hv
  go_enter Tryd.func55, Tryd.ntmps55
  go_wp2_with fail
  refine HC.out.mono ?_
  intro e w1 hret
  obtain ⟨A1, c1, rfl, hmine⟩ := hret.mine
  have HR := Sec.mk hmine.row
  have HM1 := Sec.mk hmine.new
  clear hret hmine HC
  generalize outE xs nm = ys at *
  go_wp2
  go_loopw [7, 8, 15] (fun o d i wr => ∃ (k : Nat) (A' : Option Addr) (n' c' : Nat) (acc : List EntryT) (dn : Bool), k ≤ ys.length ∧ i = .int .i64 (k : Int) ∧ o = .slice A' n' c' ∧ d = .bool dn ∧ acc.length ≤ k + dn.toNat ∧ Sec (Mine dEntry 37 w1 wr (.slice A' n' c') acc) ∧ Sec (withG nm v ys false = acc ++ withG nm v (ys.drop k) dn)) (fun _ _ i _ => ys.length - (intOf i).toNat)
  case atStart => exact ⟨0, none, 0, 0, [], false, Nat.zero_le _, rfl, rfl, rfl, by simp, ⟨Mine.nil _ _ (Mod.refl _ _)⟩, ⟨by simp⟩⟩
  case round =>
    obtain ⟨k, A', n', c', acc, dn, hk, rfl, rfl, rfl, hal, HO, HG⟩ := hrel
    by_cases hlt : k < ys.length
    · obtain ⟨ad, rfl, h0, h1, hzn, hzv⟩ := ent_at HR.out (w' := wr) (fun i hi => HO.out.new.block i hi.2 id) hlt
      have HS := Sec.mk (HG.out.trans (congrArg (acc ++ ·) (withG_at nm v hlt dn)))
      have hki : (k : Int) < (ys.length : Int) := by omega
      have HZN := Sec.mk hzn
      have HZV := Sec.mk hzv
      obtain ⟨⟨z, u⟩, hx⟩ : ∃ q, q = ys[k] := ⟨_, rfl⟩
      rw [← hx] at h0 h1 HS HZN HZV
      clear hx hzn hzv HG
      simp only at h0 h1 HS HZN HZV
      have HO2 := Sec.mk (HO.out.alloc (.cells #[.string ⟨z.toArray⟩, .int .i64 u] 37))
      have HOr := HO
      have HM1r := Sec.mk HO.out.new.size
      clear HO
      have hgt := fun w => strGt z nm w
      cases dn
      all_goals simp only [Bool.toNat_false, Bool.toNat_true, Nat.add_zero] at hal
      · by_cases hlt2 : nm < z
        · have HA : Sec (withG nm v ys false = ((acc ++ [(nm, v)]) ++ [(z, u)]) ++ withG nm v (ys.drop (k + 1)) true) := ⟨by rw [HS.out]; show acc ++ (if false = false ∧ nm < z then _ else _) = _; rw [if_pos ⟨rfl, hlt2⟩]; simp⟩
          rw [decide_eq_true hlt2] at hgt
          clear hlt2
          have hsz1 := HM1r.out
          have HP0 : Sec (OwP dEntry 37 (wr.alloc (.cells #[.string ⟨z.toArray⟩, .int .i64 u] 37)) (fun k => w1.heap.size ≤ k ∧ k ≠ wr.heap.size) (.slice A' n' c') acc) := ⟨(HOr.out.owp (X := fun k => w1.heap.size ≤ k ∧ k ≠ wr.heap.size) (fun k h1 h2 => ⟨h1, by omega⟩)).new ((Mod.refl _ _).alloc _)⟩
          have HB0 := Sec.mk (Blk.new wr 37 [.string ⟨z.toArray⟩, .int .i64 u])
          have HN0 := Sec.mk HO2.out.new
          go_wp2_with (first
            | (at_builtin; go_loud (refine wpList_appP (X := fun k => w1.heap.size ≤ k ∧ k ≠ wr.heap.size) _ rfl (.tmp 27) (.tmp 31) _ rfl Tryd.underlying24 elt_entry flatEntry rfl rfl (HP0.out.new ((Mod.refl _ _).alloc _)) (rowEnt _ HN.out HV.out (by simp)) (fun k hk => by simp at hk; exact ⟨by omega, by omega⟩) (show acc.length + [((nm, v) : EntryT)].length ≤ 34359738368 by simp only [List.length_singleton]; omega) ?_; intro A6 n6 c6 w6 ho6 hm6; have HO7 := Sec.mk ho6; have HB7 := Sec.mk ((HB0.out.alloc (.cells #[.string ⟨nm.toArray⟩, .int .i64 v] 37)).mod hm6 (fun h => h.2 rfl)); have HN7 := Sec.mk ((HN0.out.alloc (.cells #[.string ⟨nm.toArray⟩, .int .i64 v] 37)).trans hm6 (fun i hi hl => by have := hi.1; omega)); have y0 : w6.cell? ⟨wr.heap.size, 0, none⟩ = some (.string ⟨z.toArray⟩) := HB7.out.cell 0; have y1 : w6.cell? ⟨wr.heap.size, 1, none⟩ = some (.int .i64 u) := HB7.out.cell 1; have hs6 := hm6.size; simp at hs6; clear ho6 hm6))
            | (at_builtin; go_loud (refine wpList_appP (X := fun k => w1.heap.size ≤ k ∧ k ≠ wr.heap.size) _ rfl (.tmp 33) (.tmp 35) _ rfl Tryd.underlying24 elt_entry flatEntry rfl rfl (HO7.out.new ((Mod.refl _ _).alloc _)) (rowEnt _ HZN.out HZV.out (by simp)) (fun k hk => by simp at hk; exact ⟨by omega, by omega⟩) (show (acc ++ [((nm, v) : EntryT)]).length + [((z, u) : EntryT)].length ≤ 34359738368 by simp only [List.length_append, List.length_singleton]; omega) ?_; intro A8 n8 c8 w8 ho8 hm8; obtain ⟨F8, ho8, hF8⟩ := ho8; have HO9 : Sec (Mine dEntry 37 w1 w8 (.slice A8 n8 c8) ((acc ++ [((nm, v) : EntryT)]) ++ [((z, u) : EntryT)])) := ⟨⟨⟨F8, ho8, fun k hk => (hF8 k hk).1⟩, (HN7.out.alloc (.cells #[.string ⟨z.toArray⟩, .int .i64 u] 37)).trans hm8 (fun i hi hl => by have := hi.1; omega)⟩⟩; clear ho8 hm8 hF8)))
          go_roundw
          case rel => exact ⟨k + 1, A8, n8, c8, _, true, by omega, by go_num, rfl, rfl, by simp; omega, HO9, HA⟩
          case measure => simp [intOf]; omega
        · have HA : Sec (withG nm v ys false = (acc ++ [(z, u)]) ++ withG nm v (ys.drop (k + 1)) false) := ⟨by rw [HS.out]; show acc ++ (if false = false ∧ nm < z then _ else _) = _; rw [if_neg (fun h => hlt2 h.2)]; simp⟩
          rw [decide_eq_false hlt2] at hgt
          clear hlt2
          go_wp2_with (at_builtin; go_loud (refine wpList_app _ rfl (.tmp 33) (.tmp 35) _ rfl Tryd.underlying24 elt_entry flatEntry rfl rfl (HO2.out.alloc _) (rowEnt _ HZN.out HZV.out (by simp)) (show acc.length + [((z, u) : EntryT)].length ≤ 34359738368 by simp only [List.length_singleton]; omega) ?_; intro A8 n8 c8 w8 HO8; have HO9 := Sec.mk HO8; clear HO8))
          go_roundw
          case rel => exact ⟨k + 1, A8, n8, c8, _, false, by omega, by go_num, rfl, rfl, by simp; omega, HO9, HA⟩
          case measure => simp [intOf]; omega
      · have HA : Sec (withG nm v ys false = (acc ++ [(z, u)]) ++ withG nm v (ys.drop (k + 1)) true) := ⟨by rw [HS.out]; show acc ++ (if true = false ∧ nm < z then _ else _) = _; rw [if_neg (fun h => by cases h.1)]; simp⟩
        go_wp2_with (at_builtin; go_loud (refine wpList_app _ rfl (.tmp 33) (.tmp 35) _ rfl Tryd.underlying24 elt_entry flatEntry rfl rfl (HO2.out.alloc _) (rowEnt _ HZN.out HZV.out (by simp)) (show acc.length + [((z, u) : EntryT)].length ≤ 34359738368 by simp only [List.length_singleton]; omega) ?_; intro A8 n8 c8 w8 HO8; have HO9 := Sec.mk HO8; clear HO8))
        go_roundw
        case rel => exact ⟨k + 1, A8, n8, c8, _, true, by omega, by go_num, rfl, rfl, by simp; omega, HO9, HA⟩
        case measure => simp [intOf]; omega
    · obtain rfl : k = ys.length := by omega
      rw [List.drop_length] at HG
      cases dn
      all_goals simp only [Bool.toNat_false, Bool.toNat_true, Nat.add_zero] at hal
      · have HA : Sec (withE xs nm v = acc ++ [(nm, v)]) := ⟨by rw [← HW.out, HG.out]; rfl⟩
        go_wp2_with (at_builtin; go_loud (refine wpList_app _ rfl (.tmp 40) (.tmp 44) _ rfl Tryd.underlying24 elt_entry flatEntry rfl rfl (HO.out.alloc _) (rowEnt _ HN.out HV.out (by simp)) (show acc.length + [((nm, v) : EntryT)].length ≤ 34359738368 by simp only [List.length_singleton]; omega) ?_; intro A8 n8 c8 w8 HO8; have HO9 := Sec.mk HO8; clear HO8))
        go_wp2
        go_ret
        rw [HA.out]
        exact (HO9.out.base HM1.out).ret
      · have HA : Sec (withE xs nm v = acc) := ⟨by rw [← HW.out, HG.out]; simp [withG_end]⟩
        go_wp2
        go_ret
        rw [HA.out]
        exact (HO.out.base HM1.out).ret
end Go.Proofs.YtkkgighgnbbgiaaDoor
