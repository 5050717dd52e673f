/- Rows of rows of bytes: the laws' helpers. -/
import Derived.Test.YtciiejkfppnimaaMarks
import Derived.Test.YtciiejkfppnimaaMarkL
import Derived.Deep.RegionHeld3
namespace Go.Proofs.Ytciiejkfppnimaa
open Go.RowKit Mem
set_option linter.unusedVariables false

def tB : Ty Bytes := Ty.slice 5 Ty.byte
theorem elt_b : Elt Try.prog 22 tB.sz (.slice none 0 0) := Elt.of (b := 24) (by kernel_rfl) rfl (by decide) (by decide)
theorem bss_at {w w' : World} {B : Nat → Prop} {A : Option Addr} {n : Nat} {xs : List Bytes} (h : Row tB w B A n xs) (hb : ∀ k, B k → w'.heap[k]? = w.heap[k]?) {k : Nat} (hk : k < xs.length) :
    ∃ ad A' c', A = some ad ∧ w'.cell? (ad.add k) = some (.slice A' xs[k].length c') ∧ xs[k].length ≤ c' ∧ Row Ty.byte w' B A' xs[k].length xs[k] := by
  obtain ⟨ad, c, rfl, ⟨A', c', rfl, h1, h2, h3⟩, h0, _⟩ := h.cells_at hb hk
  have := h0 _ rfl
  rw [show k * tB.sz = k from by show k * 1 = k; omega] at this
  exact ⟨ad, A', c', rfl, this, h1, h3.mod (fun _ h => h) hb⟩

def szB (xs : List Bytes) : Nat := xs.length + preS List.length xs xs.length
theorem eqByteS_as (r : Bool) {A A' : Option Addr} {c c' n n' : Nat} {xs ys : Bytes} {B : Nat → Prop} {w : World} (h : Sec (Row Ty.byte w B A n xs)) (h' : Sec (Row Ty.byte w B A' n' ys)) (hB : Sec (∀ k, B k → k < w.heap.size)) (hr : Sec (decide (xs = ys) = r)) :
    Calls Try.prog 16 #[.slice A n c, .slice A' n' c'] w (Ret (.bool r) w) := by
  obtain rfl := h.out.1
  obtain rfl := h'.out.1
  rw [← hr.out]; exact eqByteS_calls h.out h'.out hB.out
def mkBS (k : Nat) (xs : List Bytes) : List Bytes := markL (fun k x => mkB k x.length) List.length k xs
theorem mkBS_len (k : Nat) (xs : List Bytes) : (mkBS k xs).length = xs.length := markL_len _ _ _ _
theorem mkBS_at (k : Nat) (xs : List Bytes) {i : Nat} (h : i < (mkBS k xs).length) : (mkBS k xs)[i] = mkB (k + preS List.length xs i) (xs[i]'(by rw [mkBS_len] at h; exact h)).length := markL_at _ _ _ _ _
theorem mkBS_pre (k : Nat) (xs : List Bytes) (i : Nat) : preS List.length (mkBS k xs) i = preS List.length xs i := preS_mark _ _ (fun k x => mkB_len _ _) _ _ _
theorem mkBS_idem (k k' : Nat) (xs : List Bytes) : mkBS k' (mkBS k xs) = mkBS k' xs := markL_idem _ _ (fun k x => mkB_len _ _) (fun k k' x => by simp [mkB_len]) _ _ _
end Go.Proofs.Ytciiejkfppnimaa
