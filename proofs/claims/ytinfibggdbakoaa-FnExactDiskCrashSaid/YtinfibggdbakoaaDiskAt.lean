/- Elements of a disk's rows; when a disk is valid. -/
import Derived.Test.YtinfibggdbakoaaSDisk
import Derived.Test.YtinfibggdbakoaaOrderS
namespace Go.Proofs.Ytinfibggdbakoaa
open Go.RowKit Mem
set_option linter.unusedVariables false
theorem node_at {w w' : World} {B : Nat → Prop} {A : Option Addr} {n : Nat} {xs : List NodeT} (h : Row dNode w B A n xs) (hb : ∀ k, B k → w'.heap[k]? = w.heap[k]?) {k : Nat} (hk : k < xs.length) :
    ∃ ad A' c', A = some ad ∧ w'.cell? (ad.add (k * 2)) = some (.slice A' xs[k].1.length c') ∧ w'.cell? ⟨(ad.add (k * 2)).block, (ad.add (k * 2)).off + 1, none⟩ = some (.int .i64 xs[k].2) ∧ xs[k].1.length ≤ c' ∧ c' ≤ 9223372036854775807 ∧ Row Ty.byte w' B A' xs[k].1.length xs[k].1 ∧ IntKind.i64.wrap xs[k].2 = xs[k].2 := by
  obtain ⟨ad, cs, rfl, hK, h0, h1⟩ := h.cells_at hb hk
  obtain ⟨c0, c1, rfl, ⟨A', c', rfl, g1, g2, g3⟩, ⟨rfl, g4⟩⟩ := hK
  exact ⟨ad, A', c', rfl, h0 _ rfl, h1 0 _ rfl, g1, g2, g3.mod (fun _ h => h) hb, g4⟩
theorem dop_at {w w' : World} {B : Nat → Prop} {A : Option Addr} {n : Nat} {xs : List DirOpT} (h : Row dDirOp w B A n xs) (hb : ∀ k, B k → w'.heap[k]? = w.heap[k]?) {k : Nat} (hk : k < xs.length) :
    ∃ ad, A = some ad ∧ w'.cell? (ad.add (k * 4)) = some (.int .i64 xs[k].1) ∧ w'.cell? ⟨(ad.add (k * 4)).block, (ad.add (k * 4)).off + 1, none⟩ = some (.string ⟨xs[k].2.1.toArray⟩) ∧ w'.cell? ⟨(ad.add (k * 4)).block, (ad.add (k * 4)).off + 2, none⟩ = some (.string ⟨xs[k].2.2.1.toArray⟩) ∧ w'.cell? ⟨(ad.add (k * 4)).block, (ad.add (k * 4)).off + 3, none⟩ = some (.int .i64 xs[k].2.2.2) ∧
      IntKind.i64.wrap xs[k].1 = xs[k].1 ∧ xs[k].2.1.length ≤ 9223372036854775807 ∧ xs[k].2.2.1.length ≤ 9223372036854775807 ∧ IntKind.i64.wrap xs[k].2.2.2 = xs[k].2.2.2 := by
  obtain ⟨ad, cs, rfl, hK, h0, h1⟩ := h.cells_at hb hk
  obtain ⟨c0, r0, rfl, ⟨rfl, g0⟩, c1, r1, rfl, ⟨rfl, g1⟩, c2, c3, rfl, ⟨rfl, g2⟩, ⟨rfl, g3⟩⟩ := hK
  exact ⟨ad, rfl, h0 _ rfl, h1 0 _ rfl, h1 1 _ rfl, h1 2 _ rfl, g0, g1, g2, g3⟩
def diskOk (d : DiskL) : Prop := 0 ≤ d.2.2.2.2 ∧ d.2.2.2.2 ≤ 1000000 ∧ d.1.length ≤ 600 ∧ d.2.2.2.1.length ≤ 1000 ∧ (∀ k, (hk : k < d.1.length) → nodeOk d.1[k] = true) ∧ sumD d.1 ≤ 200000 ∧ inOrdL d.2.1 d.1.length = true ∧ inOrdL d.2.2.1 d.1.length = true ∧ replaysL d.1.length d.2.2.1 d.2.2.2.1 = some d.2.1
theorem DiskValidL_iff (d : DiskL) : DiskValidL d = true ↔ diskOk d := by
  unfold DiskValidL diskOk
  simp only [Bool.and_eq_true, decide_eq_true_eq, List.all_eq_true]
  constructor
  · rintro ⟨⟨⟨⟨⟨h1, h2⟩, h3⟩, h4⟩, h5⟩, h6⟩
    refine ⟨h1.1, h1.2.1, h1.2.2.1, h1.2.2.2, fun k hk => h2 _ (List.getElem_mem hk), h3, h4, h5, ?_⟩
    cases hr : replaysL d.1.length d.2.2.1 d.2.2.2.1 with
    | none => rw [hr] at h6; cases h6
    | some l => rw [hr] at h6; rw [of_decide_eq_true h6]
  · rintro ⟨h1, h1b, h1c, h1d, h2, h3, h4, h5, h6⟩
    refine ⟨⟨⟨⟨⟨⟨h1, h1b, h1c, h1d⟩, fun x hx => ?_⟩, h3⟩, h4⟩, h5⟩, ?_⟩
    · obtain ⟨j, hj, rfl⟩ := List.getElem_of_mem hx
      exact h2 j hj
    · rw [h6]; simp
theorem DiskValidL_not {d : DiskL} (h : ¬ diskOk d) : DiskValidL d = false := by
  cases hg : DiskValidL d with
  | false => rfl
  | true => exact absurd ((DiskValidL_iff d).1 hg) h
theorem sumD_take {l : List NodL} {k : Nat} (hk : k < l.length) : sumD (l.take (k + 1)) = sumD (l.take k) + l[k].1.length := by
  unfold sumD
  rw [List.take_succ_eq_append_getElem hk, List.map_append, List.sum_append, List.map_cons, List.map_nil, List.sum_cons, List.sum_nil, Nat.add_zero]
theorem replaysL_at {nodes : Int} {l : List EntL} {p : List DopL} {k : Nat} (hk : k < p.length) : replaysL nodes l (p.drop k) = match replayL l p[k] nodes with | none => none | some m => if m.length ≤ 300 then replaysL nodes m (p.drop (k + 1)) else none := by
  rw [List.drop_eq_getElem_cons hk]; rfl
end Go.Proofs.Ytinfibggdbakoaa
