/- Values of any type as the laws hold them: read, and owned in a range of blocks. -/
import Derived.Test.YtciiejkfppnimaaMem2
namespace Go.Proofs.Ytciiejkfppnimaa.Mem
open Go.RowKit
set_option linter.unusedVariables false

/-- a value of these cells: a struct's, or one cell -/
def enc (str : Bool) (cs : List Value) : Value := match str with
  | true => .agg cs.toArray
  | false => cs.headD default
def RdV {α : Type} (str : Bool) (d : Ty α) (w : World) (v : Value) (x : α) : Prop := ∃ cs, v = enc str cs ∧ d.K w (· < w.heap.size) x cs
/-- all its blocks lie from lo on and below hi -/
def OwV {α : Type} (str : Bool) (d : Ty α) (w : World) (lo hi : Nat) (v : Value) (x : α) : Prop := ∃ cs F, v = enc str cs ∧ d.M w F x cs ∧ ∀ k, k ∈ F → lo ≤ k ∧ k < hi
def RetV {α : Type} (str : Bool) (d : Ty α) (w : World) (x : α) (e : Ending) (w' : World) : Prop := ∃ v, e = .returned v ∧ OwV str d w' w.heap.size w'.heap.size v x ∧ New w w'
section
variable {α : Type} {str : Bool} {d : Ty α} {w w' : World} {lo hi : Nat} {v : Value} {x : α}
theorem RdV.step (h : RdV str d w v x) (hm : New w w') : RdV str d w' v x := by
  obtain ⟨cs, rfl, hK⟩ := h
  exact ⟨cs, rfl, d.K_mod hK (fun k hk => Nat.lt_of_lt_of_le hk hm.size) (fun k hk => hm.block k hk id)⟩
theorem OwV.rd (h : OwV str d w lo hi v x) : RdV str d w v x := by
  obtain ⟨cs, F, rfl, hM, hF⟩ := h
  exact ⟨cs, rfl, d.K_mod (d.M_K hM) (fun k hk => d.M_lt hM k hk) (fun _ _ => rfl)⟩
theorem OwV.keep {S : Nat → Prop} (h : OwV str d w lo hi v x) (hm : Mod S w w') (hS : ∀ k, lo ≤ k → k < hi → ¬ S k) : OwV str d w' lo hi v x := by
  obtain ⟨cs, F, rfl, hM, hF⟩ := h
  exact ⟨cs, F, rfl, d.M_mod hM (fun k hk => hm.block k (d.M_lt hM k hk) (hS k (hF k hk).1 (hF k hk).2)), hF⟩
theorem OwV.step (h : OwV str d w lo hi v x) (hm : New w w') : OwV str d w' lo hi v x := h.keep hm fun _ _ _ h => h
end
/-! slices -/
theorem RdV.slice {α : Type} {d : Ty α} {e : TypeId} {w : World} {v : Value} {xs : List α} (h : RdV false (Ty.slice e d) w v xs) : ∃ A c, v = .slice A xs.length c ∧ xs.length ≤ c ∧ Row d w (· < w.heap.size) A xs.length xs := by
  obtain ⟨cs, rfl, A, c, rfl, h1, h2, h3⟩ := h
  exact ⟨A, c, rfl, h1, h3⟩
theorem RdV.slice3 {α : Type} {d : Ty α} {e : TypeId} {w : World} {v : Value} {xs : List α} (h : RdV false (Ty.slice e d) w v xs) : ∃ A c, v = .slice A xs.length c ∧ xs.length ≤ c ∧ c ≤ 9223372036854775807 ∧ Row d w (· < w.heap.size) A xs.length xs := by
  obtain ⟨cs, rfl, A, c, rfl, h1, h2, h3⟩ := h
  exact ⟨A, c, rfl, h1, h2, h3⟩
theorem OwV.slice {α : Type} {d : Ty α} {e : TypeId} {w : World} {lo hi : Nat} {v : Value} {xs : List α} (h : OwV false (Ty.slice e d) w lo hi v xs) : ∃ A c F, v = .slice A xs.length c ∧ Own d e w F v xs ∧ ∀ k, k ∈ F → lo ≤ k ∧ k < hi := by
  obtain ⟨cs, F, rfl, ⟨v', rfl, h⟩, hF⟩ := h
  obtain ⟨A, c, rfl, _⟩ := h.form
  exact ⟨A, c, F, rfl, h, hF⟩
theorem OwV.of_slice {α : Type} {d : Ty α} {e : TypeId} {w : World} {lo hi : Nat} {v : Value} {xs : List α} {F : List Nat} (h : Own d e w F v xs) (hF : ∀ k, k ∈ F → lo ≤ k ∧ k < hi) : OwV false (Ty.slice e d) w lo hi v xs := ⟨[v], F, rfl, ⟨v, rfl, h⟩, hF⟩
theorem RetOwn.toV {α : Type} {d : Ty α} {t : TypeId} {w w' : World} {xs : List α} {e : Ending} (h : RetOwn d t w xs e w') : RetV false (Ty.slice t d) w xs e w' := by
  obtain ⟨A, c, F, rfl, ho, hF, hm⟩ := h
  exact ⟨_, rfl, OwV.of_slice ho fun k hk => ⟨hF k hk, ho.lt k hk⟩, hm⟩
theorem RdV.of_row {α : Type} {d : Ty α} {e : TypeId} {w : World} {A : Option Addr} {c : Nat} {xs : List α} (h : Row d w (· < w.heap.size) A xs.length xs) (hc : xs.length ≤ c) (hm : c ≤ 9223372036854775807) : RdV false (Ty.slice e d) w (.slice A xs.length c) xs := ⟨_, rfl, A, c, rfl, hc, hm, h⟩
/-- owned with these blocks -/
def OwF {α : Type} (str : Bool) (d : Ty α) (w : World) (F : List Nat) (v : Value) (x : α) : Prop := ∃ cs, v = enc str cs ∧ d.M w F x cs
/-- what a function that marks comes to -/
def Marks {α : Type} (str : Bool) (d : Ty α) (w : World) (F : List Nat) (v : Value) (k : Nat) (y : α) (e : Ending) (w' : World) : Prop :=
  e = .returned (.int .i64 (k : Int)) ∧ (∃ F', OwF str d w' F' v y ∧ ∀ i, i ∈ F' → i ∈ F) ∧ Mod (· ∈ F) w w'
theorem OwV.mark {α : Type} {str : Bool} {d : Ty α} {w : World} {lo hi : Nat} {v : Value} {x y : α} {P : Program} {f : Nat} {args : Array Value} {k : Nat}
    (hc : ∀ F, OwF str d w F v x → Calls P f args w (Marks str d w F v k y)) (h : OwV str d w lo hi v x) :
    Calls P f args w fun e w' => e = .returned (.int .i64 (k : Int)) ∧ OwV str d w' lo hi v y ∧ Mod (fun i => lo ≤ i ∧ i < hi) w w' := by
  obtain ⟨cs, F, rfl, hM, hF⟩ := h
  refine (hc F ⟨cs, rfl, hM⟩).mono ?_
  rintro e w' ⟨rfl, ⟨F', ⟨cs', hv, hM'⟩, hF'⟩, hm⟩
  exact ⟨rfl, ⟨cs', F', hv, hM', fun i hi => hF i (hF' i hi)⟩, hm.mono fun i _ hi => hF i hi⟩
theorem OwF.slice {α : Type} {d : Ty α} {e : TypeId} {w : World} {F : List Nat} {v : Value} {xs : List α} (h : OwF false (Ty.slice e d) w F v xs) : ∃ A c, v = .slice A xs.length c ∧ Own d e w F v xs := by
  obtain ⟨cs, rfl, v', rfl, h⟩ := h
  obtain ⟨A, c, rfl, _⟩ := h.form
  exact ⟨A, c, rfl, h⟩
theorem OwF.of_slice {α : Type} {d : Ty α} {e : TypeId} {w : World} {F : List Nat} {v : Value} {xs : List α} (h : Own d e w F v xs) : OwF false (Ty.slice e d) w F v xs := ⟨[v], rfl, v, rfl, h⟩
end Go.Proofs.Ytciiejkfppnimaa.Mem
