/- Openers: an argument that can be read as data reads as an abstract value. -/
import Derived.Test.YtciiejkfppnimaaProg
import Derived.Test.YtciiejkfppnimaaMem
import Derived.KernelRfl
import Derived.Deep.Slices
import Derived.ChangeArms
import Derived.ChangeSame
import Derived.RowKit3
namespace Go.Proofs.Ytciiejkfppnimaa.Mem
open Go.RowKit Go.Deep
set_option linter.unusedVariables false

theorem wf_wrap {k : IntKind} {n : Int} (h : (Lit.int k n).wf = true) : k.wrap n = n := by
  simp only [Lit.wf, Bool.and_eq_true, decide_eq_true_eq] at h
  cases k <;> simp [IntKind.wrap, IntKind.bits, IntKind.signed, IntKind.min, IntKind.max] at h ⊢ <;> (try split) <;> omega

def Opens {α : Type} (P : Program) (d : Ty α) (t : TypeId) : Prop :=
  P.cellsOf t = d.sz ∧ 0 < d.sz ∧ ∀ {H : Type} (enc : TypeId × Value → H) (w : World) (base : Nat) (spare : Nat → Bool) (held : Bool) (fuel : Nat) (cs : List Value) (x : DataW H × List MemPlace),
    DataW.trod enc P w base spare held fuel t cs = some x → ∃ a, d.K w (· < w.heap.size) a cs

theorem Opens.int {P : Program} {t : TypeId} {k : IntKind} (ht : P.underlying t = some (.int k)) (hc : P.cellsOf t = 1) : Opens P (Ty.int k) t :=
  ⟨hc, Nat.one_pos, fun enc w base spare held fuel cs x h => by
    obtain ⟨n, rfl, _, hw⟩ := DataW.trod_int ht h
    exact ⟨n, rfl, wf_wrap hw⟩⟩
theorem Opens.byte {P : Program} {t : TypeId} (ht : P.underlying t = some (.int .u8)) (hc : P.cellsOf t = 1) : Opens P Ty.byte t :=
  ⟨hc, Nat.one_pos, fun enc w base spare held fuel cs x h => by
    obtain ⟨n, rfl, _, hw⟩ := DataW.trod_int ht h
    have h1 := wf_wrap hw
    rw [IntKind.wrap_u8] at h1
    refine ⟨UInt8.ofNat n.toNat, ?_⟩
    show [_] = [Value.int .u8 _]
    rw [UInt8.toNat_ofNat']
    congr 2
    omega⟩
theorem Opens.bool {P : Program} {t : TypeId} (ht : P.underlying t = some .bool) (hc : P.cellsOf t = 1) : Opens P Ty.bool t :=
  ⟨hc, Nat.one_pos, fun enc w base spare held fuel cs x h => by
    obtain ⟨n, rfl, _⟩ := DataW.trod_bool ht h
    exact ⟨n, rfl⟩⟩
theorem Opens.string {P : Program} {t : TypeId} (ht : P.underlying t = some .string) (hc : P.cellsOf t = 1) : Opens P Ty.string t :=
  ⟨hc, Nat.one_pos, fun enc w base spare held fuel cs x h => by
    obtain ⟨n, rfl, _, _⟩ := DataW.trod_string ht h
    exact ⟨n, rfl⟩⟩
theorem Opens.slice {α : Type} {P : Program} {t e : TypeId} {d : Ty α} (ht : P.underlying t = some (.slice e)) (hc : P.cellsOf t = 1) (hd : Opens P d e) : Opens P (Ty.slice e d) t :=
  ⟨hc, Nat.one_pos, fun enc w base spare held fuel cs x h => by
    obtain ⟨h1, h2, h3⟩ := hd
    rcases open_slice ht h with ⟨rfl, _⟩ | ⟨a, len, cap, m, n, D, Pl, rfl, hb, hl, hm, hmm, _, hi⟩
    · exact ⟨[], none, 0, rfl, by simp, by omega, Row.none_ _ _ _ _⟩
    · have hlm : len ≤ m := by rw [hmm]; split <;> omega
      have key : ∀ k, k ≤ len → ∃ xs : List α, xs.length = k ∧ ∀ j y, xs[j]? = some y → ∃ c, d.K w (· < w.heap.size) y c ∧ ∀ i u, c[i]? = some u → w.cell? (a.add (j * d.sz + i)) = some u := by
        intro k
        induction k with
        | zero => intro _; exact ⟨[], rfl, fun j y hj => by simp at hj⟩
        | succ k ih =>
          intro hk
          obtain ⟨xs, hxl, hx⟩ := ih (by omega)
          obtain ⟨cs', hcs, htr⟩ := hi k (by omega)
          rw [h1] at hcs
          obtain ⟨_, hcl, hat⟩ := World.cells?_some hcs
          obtain ⟨y, hy⟩ := h3 enc w base spare held n cs' _ htr
          refine ⟨xs ++ [y], by simp [hxl], fun j z hj => ?_⟩
          rcases Nat.lt_or_ge j xs.length with hlt | hge
          · rw [List.getElem?_append_left hlt] at hj; exact hx j z hj
          · rw [List.getElem?_append_right hge] at hj
            have hj0 : j - xs.length = 0 := by
              have := (List.getElem?_eq_some_iff.1 hj).1
              simp at this; omega
            rw [hj0] at hj
            obtain rfl : y = z := by simpa using hj
            refine ⟨cs', hy, fun i u hu => ?_⟩
            have hlt : i < d.sz := by rw [← hcl]; exact (List.getElem?_eq_some_iff.1 hu).1
            rw [show j = k by omega, ← add_add, hat i hlt]
            exact hu
      obtain ⟨xs, hxl, hx⟩ := key len (Nat.le_refl _)
      refine ⟨xs, some a, cap, by rw [hxl], by omega, by unfold maxLen at hm; omega, rfl, by unfold maxLen at hm; omega, fun hn => ⟨a, rfl, ?_, hx⟩⟩
      obtain ⟨c, hK, hc'⟩ := hx 0 xs[0] (List.getElem?_eq_getElem (by omega))
      have hcl := d.K_len hK
      have := World.block_lt_of_cell? w _ (hc' 0 c[0] (List.getElem?_eq_getElem (by omega)))
      rwa [add_block] at this⟩
/-- the fields of a struct from a place on -/
def OpensF {α : Type} (P : Program) (d : Ty α) (fs : List Field) (off : Nat) : Prop :=
  0 < d.sz ∧ ∀ {H : Type} (enc : TypeId × Value → H) (w : World) (base : Nat) (spare : Nat → Bool) (held : Bool) (n : Nat) (cs : List Value), cs.length = off + d.sz →
    (∀ (i : Nat) (f : Field), fs[i]? = some f → ∃ y, DataW.trod enc P w base spare held n f.type ((cs.drop f.offset).take (P.cellsOf f.type)) = some y) → ∃ a, d.K w (· < w.heap.size) a (cs.drop off)
theorem OpensF.last {α : Type} {P : Program} {d : Ty α} {f : Field} {off : Nat} (ho : f.offset = off) (hd : Opens P d f.type) : OpensF P d [f] off :=
  ⟨hd.2.1, fun enc w base spare held n cs hl h => by
    obtain ⟨y, hy⟩ := h 0 f rfl
    rw [ho, hd.1, List.take_of_length_le (by rw [List.length_drop]; omega)] at hy
    exact hd.2.2 enc w base spare held n _ y hy⟩
theorem OpensF.cons {α β : Type} {P : Program} {d : Ty α} {d' : Ty β} {f : Field} {fs : List Field} {off : Nat} (ho : f.offset = off) (hd : Opens P d f.type) (hr : OpensF P d' fs (off + d.sz)) : OpensF P (Ty.pair d d') (f :: fs) off :=
  ⟨by show 0 < d.sz + d'.sz; have := hd.2.1; omega, fun enc w base spare held n cs hl h => by
    have hl' : cs.length = off + (d.sz + d'.sz) := hl
    obtain ⟨y, hy⟩ := h 0 f rfl
    rw [ho, hd.1] at hy
    obtain ⟨a, ha⟩ := hd.2.2 enc w base spare held n _ y hy
    obtain ⟨b, hb⟩ := hr.2 enc w base spare held n cs (by omega) (fun i g hg => h (i + 1) g (by simpa using hg))
    refine ⟨(a, b), _, _, ?_, ha, hb⟩
    rw [← List.drop_drop, List.take_append_drop]⟩
theorem Opens.struct {α : Type} {P : Program} {t : TypeId} {fs : List Field} {d : Ty α} (ht : P.underlying t = some (.struct fs.toArray)) (hc : P.cellsOf t = d.sz) (hd : OpensF P d fs 0) : Opens P d t :=
  ⟨hc, hd.1, fun enc w base spare held fuel cs x h => by
    obtain ⟨xs, n, _, _, hl, hlen, hf⟩ := DataW.trod_struct ht h
    obtain ⟨a, ha⟩ := hd.2 enc w base spare held n cs (by omega) (fun i f hi => by
      have hi' : i < xs.length := by rw [hlen]; have := (List.getElem?_eq_some_iff.1 hi).1; simpa using this
      exact ⟨xs[i], by rw [hf i f (by simpa using hi), List.getElem?_eq_getElem hi']⟩)
    exact ⟨a, by simpa using ha⟩⟩
theorem Opens.iso {α β : Type} {P : Program} {t : TypeId} {d : Ty α} (f : β → α) (g : α → β) (hg : ∀ a, f (g a) = a) (h : Opens P d t) : Opens P (Ty.iso d f) t :=
  ⟨h.1, h.2.1, fun enc w base spare held fuel cs x hx => by
    obtain ⟨a, ha⟩ := h.2.2 enc w base spare held fuel cs x hx
    exact ⟨g a, by show d.K w _ (f (g a)) cs; rw [hg]; exact ha⟩⟩
end Go.Proofs.Ytciiejkfppnimaa.Mem
namespace Go.Proofs.Ytciiejkfppnimaa
open Mem
theorem opens_byte : Opens Try.prog Ty.byte 5 := Opens.byte Try.underlying5 (by kernel_rfl)
theorem opens_bytes : Opens Try.prog (Ty.slice 5 Ty.byte) 22 := Opens.slice Try.underlying22 (by kernel_rfl) opens_byte
end Go.Proofs.Ytciiejkfppnimaa
