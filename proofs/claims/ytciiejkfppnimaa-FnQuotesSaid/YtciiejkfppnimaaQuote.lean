/- Quote and Unquote of the program: what the closures do with a captured row of bytes. -/
import Derived.Test.YtciiejkfppnimaaEach
namespace Go.Proofs.Ytciiejkfppnimaa
open Go.RowKit Mem
set_option linter.unusedVariables false

/-- a captured row of bytes in the variable g, all of it younger than w0 -/
structure QF (w0 : World) (g : Nat) (v : Value) (F : List Nat) (zs : Bytes) (w : World) : Prop where
  blk : Blk w g 22 [v]
  own : Own Ty.byte 5 w F v zs
  far : ∀ k, k ∈ F → w0.heap.size ≤ k ∧ k ≠ g
  base : w0.heap.size ≤ g
  new : New w0 w
def QI (w0 : World) (g : Nat) (zs : Bytes) (w : World) : Prop := ∃ A n c F, QF w0 g (.slice A n c) F zs w

theorem QF.move {w0 w w' : World} {g : Nat} {v : Value} {F : List Nat} {zs : Bytes} (h : QF w0 g v F zs w) (hm : New w w') : QF w0 g v F zs w' :=
  ⟨h.blk.mod hm id, h.own.new hm, h.far, h.base, h.new.transN hm⟩
/-- one append to it, and the store of what came back -/
theorem QF.app {w0 w w' : World} {g : Nat} {zs ys : Bytes} {v : Value} {A' : Option Addr} {n' c' : Nat} {F F' : List Nat} (h : QF w0 g v F zs w)
    (ho' : Own Ty.byte 5 w' F' (.slice A' n' c') ys) (hm : Mod (fun k => v.ownBlock = some k) w w') (hF' : ∀ k, k ∈ F' → k ∈ F ∨ k ∈ ([] : List Nat) ∨ w.heap.size ≤ k) :
    Blk w' g 22 [v] ∧ QF w0 g (.slice A' n' c') F' ys (w'.setCell ⟨g, 0, none⟩ (.slice A' n' c')) := by
  have hbl : Blk w' g 22 [v] := h.blk.mod hm (fun e => (h.far g (h.own.own_mem g e)).2 rfl)
  have hF2 : ∀ k, k ∈ F' → w0.heap.size ≤ k ∧ k ≠ g := fun k hk => by
    rcases hF' k hk with h1 | h1 | h1
    · exact h.far k h1
    · cases h1
    · have := h.blk.lt; have := h.new.size; omega
  have hb := h.base
  refine ⟨hbl, by simpa using hbl.set_ 0 (.slice A' n' c'), ho'.mod (fun k hk => Below.heap_setCell _ _ _ _ (hF2 k hk).2), hF2, h.base, ?_⟩
  exact (h.new.trans hm (fun i hi hlt => by have := (h.far i (h.own.own_mem i hi)).1; omega)).setCell (fun h => by simp at h; omega) _
/-- what is older than w0 still reads -/
theorem QF.row {w0 w w' : World} {g : Nat} {v : Value} {F : List Nat} {zs : Bytes} {B : Nat → Prop} {A' : Option Addr} {n : Nat} {l : Bytes} (h : QF w0 g v F zs w) (h' : New w0 w') (hB : ∀ k, B k → k < w0.heap.size) (hr : Row Ty.byte w B A' n l) : Row Ty.byte w' B A' n l :=
  hr.mod (fun _ h => h) fun k hk => (h'.block k (hB k hk) id).trans (h.new.block k (hB k hk) id).symm

set_option maxHeartbeats 400000 in
set_option maxRecDepth 100000 in
theorem quote1_calls {w0 w : World} {g n c' : Nat} {A' : Option Addr} {l zs : Bytes} {B : Nat → Prop} (hB : ∀ k, B k → k < w0.heap.size) (hr : Row Ty.byte w B A' n l) (hln : l.length = n) (hc : n ≤ c') (hq : QI w0 g zs w) (hlen : zs.length + n + 1 ≤ 34359738368) :
    Calls Try.prog 26 #[.slice A' n c', .pointer (some ⟨g, 0, none⟩)] w (fun e w'' => e = .returned (.tuple #[]) ∧ QI w0 g (zs ++ quoteL l) w'') := by
  subst hln
  obtain ⟨A1, n1, c1, F, hq⟩ := hq
  have HR := Sec.mk hr
  have HQ := Sec.mk hq
  clear hr hq
  have hnw : w0.heap.size ≤ w.heap.size := HQ.out.new.size
  go_enter Try.func26, Try.ntmps26
  go_wp2_with fail
  refine (quotes_calls HR.out (fun k hk => Nat.lt_of_lt_of_le (hB k hk) hnw) hc (by omega)).mono ?_
  rintro e w1 ⟨rfl, hm1⟩
  have HQ1 := Sec.mk (HQ.out.move hm1)
  have HR1 := Sec.mk (HQ.out.row HQ1.out.new hB HR.out)
  clear hm1 HR HQ hnw
  have hv := (HQ1.out.blk.cell 0).trans rfl
  have hfz := HQ1.out.blk.frozen 0
  by_cases hm : 0 ≤ marks l
  · have HQL : Sec (quoteL l = [62] ++ l) := ⟨by unfold quoteL; rw [if_pos hm]; rfl⟩
    go_wp2_with (first
      | (at_builtin; refine wpList_append _ rfl (.tmp 6) (.tmp 7) _ rfl Ty.byte 5 Try.underlying22 elt_byte rfl (HQ1.out.move ((Mod.refl _ _).alloc _)).own rfl (Elems.byte1 _ 62 62 rfl) rfl (fun _ => ⟨_, rfl, cell_one_new _ _ _⟩) List.nodup_nil (by intro k hk; cases hk) (by simp; omega) ?_; intro A2 n2 c2 w2 F2 ho2 hn2 hm2 hF2; clear hn2; obtain ⟨hb2, hq2⟩ := (HQ1.out.move ((Mod.refl _ _).alloc _)).app ho2 hm2 hF2; have hv2 := (hb2.cell 0).trans rfl; have hfz2 := hb2.frozen 0; have HQ2 := Sec.mk hq2; have HR2 := Sec.mk (HQ1.out.row HQ2.out.new hB HR1.out); clear ho2 hm2 hF2 hb2 hq2 hv hfz)
      | (at_builtin; obtain ⟨news, hE, hA⟩ := HR2.out.flat flat_byte; refine wpList_append _ rfl (.tmp 9) (.tmp 10) _ rfl Ty.byte 5 Try.underlying22 elt_byte rfl HQ2.out.own rfl hE rfl hA (by rw [flat_nil]; exact List.nodup_nil) (by rw [flat_nil]; intro k hk; cases hk) (by simp; omega) ?_; intro A3 n3 c3 w3 F3 ho3 hn3 hm3 hF3; clear hn3 hE hA; rw [flat_nil] at hF3; obtain ⟨hb3, hq3⟩ := HQ2.out.app ho3 hm3 hF3; have hv3 := (hb3.cell 0).trans rfl; have hfz3 := hb3.frozen 0; have HQ3 := Sec.mk hq3; clear ho3 hm3 hF3 hb3 hq3 hv2 hfz2))
    go_end0
    exact ⟨rfl, by rw [HQL.out, ← List.append_assoc]; exact ⟨_, _, _, _, HQ3.out⟩⟩
  · have HQL : Sec (quoteL l = l) := ⟨by unfold quoteL; rw [if_neg hm]⟩
    obtain ⟨news, hE, hA⟩ := HR1.out.flat flat_byte
    have HE := Sec.mk hE; have HA := Sec.mk hA
    clear hE hA
    go_wp2_with (at_builtin; refine wpList_append _ rfl (.tmp 9) (.tmp 10) _ rfl Ty.byte 5 Try.underlying22 elt_byte rfl HQ1.out.own rfl HE.out rfl HA.out (by rw [flat_nil]; exact List.nodup_nil) (by rw [flat_nil]; intro k hk; cases hk) (by omega) ?_; intro A2 n2 c2 w2 F2 ho2 hn2 hm2 hF2; clear hn2; rw [flat_nil] at hF2; obtain ⟨hb2, hq2⟩ := HQ1.out.app ho2 hm2 hF2; have hv2 := (hb2.cell 0).trans rfl; have hfz2 := hb2.frozen 0; have HQ2 := Sec.mk hq2; clear ho2 hm2 hF2 hb2 hq2)
    go_end0
    exact ⟨rfl, by rw [HQL.out]; exact ⟨_, _, _, _, HQ2.out⟩⟩

theorem QI.start (w : World) : QI w (w.heap.size + 1) [] ((w.alloc (.cells #[] 5)).alloc (.cells #[.slice (some ⟨w.heap.size, 0, none⟩) 0 0] 22)) := by
  refine ⟨_, _, _, [w.heap.size], ?_, (Own.lit w 5 [] (by decide)).new ((Mod.refl _ _).alloc _), by simp, by omega, ((Mod.refl _ _).alloc _).alloc _⟩
  have := Blk.new (w.alloc (.cells #[] 5)) 22 [.slice (some ⟨w.heap.size, 0, none⟩) 0 0]
  simpa using this
theorem QI.row {w0 w w' : World} {g : Nat} {zs : Bytes} {B : Nat → Prop} {A' : Option Addr} {n : Nat} {l : Bytes} (h : QI w0 g zs w') (hB : ∀ k, B k → k < w0.heap.size) (hr : Row Ty.byte w0 B A' n l) : Row Ty.byte w' B A' n l := by
  obtain ⟨_, _, _, _, h⟩ := h
  exact hr.mod (fun _ h => h) fun k hk => h.new.block k (hB k hk) id

set_option maxHeartbeats 400000 in
set_option maxRecDepth 100000 in
theorem quoteImpl_calls {A : Option Addr} {c : Nat} {xs : Bytes} {B : Nat → Prop} {w : World} (h : Row Ty.byte w B A xs.length xs) (hB : ∀ k, B k → k < w.heap.size) (hc : xs.length ≤ c) (hl : xs.length ≤ 4294967296) :
    Calls Try.prog 9 #[.slice A xs.length c] w (RetOwn Ty.byte 5 w (quote xs)) := by
  have HR := Sec.mk h
  clear h
  go_enter Try.func9, Try.ntmps9
  go_wp2_with fail
  refine (eachLineQ (B := B) (fun i w' => QI w (w.heap.size + 1) (((lines xs).take i).flatMap quoteL) w') (by omega) hc (QI.start w) (fun i w' h => h.row (w := w) hB HR.out) ?_).mono ?_
  · intro i w' l n A' c' hi hln hq hr hc'
    have hlen := lines_prefix quoteL_len hi
    refine (quote1_calls hB hr hln hc' hq (by omega)).mono ?_
    rintro e w'' ⟨rfl, hq'⟩
    exact ⟨rfl, by rw [flatMap_snoc hi]; exact hq'⟩
  · rintro e w1 ⟨rfl, hq1⟩
    rw [List.take_length] at hq1
    obtain ⟨A1, n1, c1, F, hq⟩ := hq1
    have HQ := Sec.mk hq
    have hv := (hq.blk.cell 0).trans rfl
    clear hq
    go_wp2
    go_ret
    exact RetOwn.of HQ.out.own (fun k hk => (HQ.out.far k hk).1) HQ.out.new
end Go.Proofs.Ytciiejkfppnimaa
