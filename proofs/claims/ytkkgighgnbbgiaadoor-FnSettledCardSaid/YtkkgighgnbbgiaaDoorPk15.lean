/- The program's copy of a disk: three rows copied and a cell made, in any order. -/
import Derived.Test.YtkkgighgnbbgiaaDoorPk14
namespace Go.Proofs.YtkkgighgnbbgiaaDoor
open Go.RowKit Mem
set_option linter.unusedVariables false
set_option linter.unusedSimpArgs false
structure CpOps (ops : Array Oper) : Prop where
  e0 : ∃ ty pos af, ops[0]? = some ⟨some 6, .buildSlice 24 0 #[], ty, pos, af, none⟩
  e3 : ∃ ty pos af, ops[3]? = some ⟨some 9, .call { callee := .builtin .append, args := #[.tmp 6, .tmp 8], argTypes := #[24, 24] }, ty, pos, af, none⟩
  e4 : ∃ ty pos af, ops[4]? = some ⟨some 10, .buildSlice 24 0 #[], ty, pos, af, none⟩
  e7 : ∃ ty pos af, ops[7]? = some ⟨some 13, .call { callee := .builtin .append, args := #[.tmp 10, .tmp 12], argTypes := #[24, 24] }, ty, pos, af, none⟩
  e8 : ∃ ty pos af, ops[8]? = some ⟨some 14, .buildSlice 25 0 #[], ty, pos, af, none⟩
  e11 : ∃ ty pos af, ops[11]? = some ⟨some 17, .call { callee := .builtin .append, args := #[.tmp 14, .tmp 16], argTypes := #[25, 25] }, ty, pos, af, none⟩
  e14 : ∃ ty pos af, ops[14]? = some ⟨some 20, .build 27 #[(1, .tmp 9), (2, .tmp 13), (3, .tmp 17), (4, .tmp 19)], ty, pos, af, none⟩
  e15 : ∃ ty pos af, ops[15]? = some ⟨some 3, .alloc 27, ty, pos, af, none⟩
  e16 : ∃ ty pos af, ops[16]? = some ⟨none, .store 27 (.tmp 3) (.tmp 20), ty, pos, af, none⟩
  r311111 : Region.ready .any ops #[true, true, true, true, true, true, true, true, true, true, true, true, true, true, true, true, false] = [16]
  r311101 : Region.ready .any ops #[true, true, true, true, true, true, true, true, true, true, true, true, true, true, true, false, false] = [15]
  r311110 : Region.ready .any ops #[true, true, true, true, true, true, true, true, true, true, true, true, true, true, false, true, false] = [14]
  r211110 : Region.ready .any ops #[true, true, true, true, true, true, true, true, true, true, true, false, true, true, false, true, false] = [11]
  r311100 : Region.ready .any ops #[true, true, true, true, true, true, true, true, true, true, true, true, true, true, false, false, false] = [14, 15]
  r111110 : Region.ready .any ops #[true, true, true, true, true, true, true, false, true, true, true, false, true, true, false, true, false] = [7]
  r211010 : Region.ready .any ops #[true, true, true, true, true, true, true, true, false, true, true, false, true, true, false, true, false] = [8]
  r211100 : Region.ready .any ops #[true, true, true, true, true, true, true, true, true, true, true, false, true, true, false, false, false] = [11, 15]
  r011110 : Region.ready .any ops #[true, true, true, false, true, true, true, false, true, true, true, false, true, true, false, true, false] = [3]
  r110110 : Region.ready .any ops #[true, true, true, true, false, true, true, false, true, true, true, false, true, true, false, true, false] = [4]
  r111010 : Region.ready .any ops #[true, true, true, true, true, true, true, false, false, true, true, false, true, true, false, true, false] = [7, 8]
  r111100 : Region.ready .any ops #[true, true, true, true, true, true, true, false, true, true, true, false, true, true, false, false, false] = [7, 15]
  r211000 : Region.ready .any ops #[true, true, true, true, true, true, true, true, false, true, true, false, true, true, false, false, false] = [8, 15]
  r001110 : Region.ready .any ops #[false, true, true, false, true, true, true, false, true, true, true, false, true, true, false, true, false] = [0]
  r010110 : Region.ready .any ops #[true, true, true, false, false, true, true, false, true, true, true, false, true, true, false, true, false] = [3, 4]
  r011010 : Region.ready .any ops #[true, true, true, false, true, true, true, false, false, true, true, false, true, true, false, true, false] = [3, 8]
  r011100 : Region.ready .any ops #[true, true, true, false, true, true, true, false, true, true, true, false, true, true, false, false, false] = [3, 15]
  r110010 : Region.ready .any ops #[true, true, true, true, false, true, true, false, false, true, true, false, true, true, false, true, false] = [4, 8]
  r110100 : Region.ready .any ops #[true, true, true, true, false, true, true, false, true, true, true, false, true, true, false, false, false] = [4, 15]
  r111000 : Region.ready .any ops #[true, true, true, true, true, true, true, false, false, true, true, false, true, true, false, false, false] = [7, 8, 15]
  r000110 : Region.ready .any ops #[false, true, true, false, false, true, true, false, true, true, true, false, true, true, false, true, false] = [0, 4]
  r001010 : Region.ready .any ops #[false, true, true, false, true, true, true, false, false, true, true, false, true, true, false, true, false] = [0, 8]
  r001100 : Region.ready .any ops #[false, true, true, false, true, true, true, false, true, true, true, false, true, true, false, false, false] = [0, 15]
  r010010 : Region.ready .any ops #[true, true, true, false, false, true, true, false, false, true, true, false, true, true, false, true, false] = [3, 4, 8]
  r010100 : Region.ready .any ops #[true, true, true, false, false, true, true, false, true, true, true, false, true, true, false, false, false] = [3, 4, 15]
  r011000 : Region.ready .any ops #[true, true, true, false, true, true, true, false, false, true, true, false, true, true, false, false, false] = [3, 8, 15]
  r110000 : Region.ready .any ops #[true, true, true, true, false, true, true, false, false, true, true, false, true, true, false, false, false] = [4, 8, 15]
  r000010 : Region.ready .any ops #[false, true, true, false, false, true, true, false, false, true, true, false, true, true, false, true, false] = [0, 4, 8]
  r000100 : Region.ready .any ops #[false, true, true, false, false, true, true, false, true, true, true, false, true, true, false, false, false] = [0, 4, 15]
  r001000 : Region.ready .any ops #[false, true, true, false, true, true, true, false, false, true, true, false, true, true, false, false, false] = [0, 8, 15]
  r010000 : Region.ready .any ops #[true, true, true, false, false, true, true, false, false, true, true, false, true, true, false, false, false] = [3, 4, 8, 15]
  r000000 : Region.ready .any ops #[false, true, true, false, false, true, true, false, false, true, true, false, true, true, false, false, false] = [0, 4, 8, 15]
  rend : Region.ready .any ops #[true, true, true, true, true, true, true, true, true, true, true, true, true, true, true, true, true] = []
def cpAct (x0 : Value) (g1 g2 : Nat) (A1 A2 A3 : Option Addr) (n1 c1 n2 c2 n3 c3 : Nat) (q : Int) (u3 u6 u9 u10 u13 u14 u17 u20 : Value) : Act :=
  { tmps := #[x0, .pointer (some ⟨g1, 0, none⟩), .pointer (some ⟨g2, 0, none⟩), u3, undef, undef, u6, .pointer (some ⟨g1, 1, none⟩), .slice A1 n1 c1, u9, u10, .pointer (some ⟨g1, 2, none⟩), .slice A2 n2 c2, u13, u14, .pointer (some ⟨g1, 3, none⟩), .slice A3 n3 c3, u17, .pointer (some ⟨g1, 4, none⟩), .int .i64 q, u20, undef, undef, undef, undef, undef, undef, undef, undef, undef, undef, undef, undef, undef, undef, undef, undef, undef, undef, undef, undef, undef], defers := [] }
theorem wp_appFD {P : Program} (w : World) {o : Oper} {a : Act} {K : Act → World → Prop} {Q : Exit → Act → World → Prop} (s x : Operand) (t : TypeId)
    (ho : o.op = .call { callee := .builtin .append, args := #[s, x], argTypes := #[t, t] })
    {α : Type} {d : Ty α} {e : TypeId} {z : Value} (ht : P.underlying t = some (.slice e)) (hE : Elt P e d.sz z) (hf : Flat d)
    {A A' : Option Addr} {n m c c' : Nat} {xs ys : List α} {B : Nat → Prop} {F : List Nat} (hs : a.eval s = .slice A n c) (hx : a.eval x = .slice A' m c') (hown : Own d e w F (.slice A n c) xs) (hy : Row d w B A' m ys)
    (hlen : xs.length + ys.length ≤ 34359738368)
    (h : ∀ A' n' c' w' F', Own d e w' F' (.slice A' n' c') (xs ++ ys) → (∀ k, k ∈ F' → k ∈ F ∨ w.heap.size ≤ k) → Mod (fun k => k ∈ F) w w' → K (a.put o.dst (.slice A' n' c')) w') : o.wp P a w K Q := by
  obtain ⟨news, hel, hA⟩ := hy.flat hf
  refine wp_append w s x t ho d e ht hE hs hown hx hel hy.1 hA (by rw [flat_nil]; exact List.nodup_nil) (by rw [flat_nil]; intro k hk; cases hk) (by have := hy.1; omega) ?_
  intro A2 n2 c2 w2 F2 ho3 hn2 hm2 hF2
  refine h _ _ _ _ F2 ho3 (fun k hk => ?_) (hm2.mono fun i _ hi => hown.own_mem i hi)
  rcases hF2 k hk with h1 | h1 | h1
  · exact .inl h1
  · rw [flat_nil] at h1; cases h1
  · exact .inr h1
theorem bldDop0I (w : World) : (Instr.buildSlice 25 0 #[]).run Tryd.prog w = .ok (.slice (some ⟨w.heap.size, 0, none⟩) 0 0) (w.alloc (.cells #[] 66)) := by go_simp
theorem bldDiskI (A1 A2 A3 : Option Addr) (n1 c1 n2 c2 n3 c3 : Nat) (q : Int) (w : World) : (Instr.build 27 #[(1, .slice A1 n1 c1), (2, .slice A2 n2 c2), (3, .slice A3 n3 c3), (4, .int .i64 q)]).run Tryd.prog w = .ok (.agg #[.slice none 0 0, .slice A1 n1 c1, .slice A2 n2 c2, .slice A3 n3 c3, .int .i64 q]) w := by go_simp
theorem Own.empty0 {α : Type} (d : Ty α) (e : TypeId) (w : World) : Own d e (w.alloc (.cells #[] e)) [w.heap.size] (.slice (some ⟨w.heap.size, 0, none⟩) 0 0) [] := by
  obtain ⟨⟨F, h1, h2⟩, -⟩ := Mine.empty (w0 := w) d e (w := w) rfl (Mod.refl _ _)
  obtain ⟨inner, Fs, h3, h4, h5, h6⟩ := h1
  obtain ⟨css, rfl, e1, e2, e3⟩ := h4
  have : Fs = [] := List.eq_nil_of_length_eq_zero e2
  subst this
  refine ⟨_, [], h3, ⟨css, rfl, e1, e2, e3⟩, ?_, ?_⟩
  · simp [Value.ownBlock]
  · simp
def In4B (lo : Nat) (w : World) (FA FB FC FG : List Nat) : Prop := Dis4 FA FB FC FG ∧ ∀ k, In4 FA FB FC FG k → lo ≤ k ∧ k < w.heap.size
theorem in4_new0 {lo : Nat} {w : World} {FA FB FC FG : List Nat} (h : In4B lo w FA FB FC FG) (hlo : lo ≤ w.heap.size) {o : Obj} : In4B lo (w.alloc o) [w.heap.size] FB FC FG := by
  refine ⟨h.1.upd0 (fun k hk => Or.inr (by have := List.mem_singleton.1 hk; subst this; exact ⟨fun hh => by have := (h.2 _ (Or.inr (Or.inl hh))).2; omega, fun hh => by have := (h.2 _ (Or.inr (Or.inr (Or.inl hh)))).2; omega, fun hh => by have := (h.2 _ (Or.inr (Or.inr (Or.inr hh)))).2; omega⟩)), ?_⟩
  have hs : (w.alloc o).heap.size = w.heap.size + 1 := by simp
  rintro k (hk | hk | hk | hk)
  · have := List.mem_singleton.1 hk; omega
  · have := h.2 k (Or.inr (Or.inl hk)); omega
  · have := h.2 k (Or.inr (Or.inr (Or.inl hk))); omega
  · have := h.2 k (Or.inr (Or.inr (Or.inr hk))); omega
theorem in4_app0 {lo : Nat} {w w' : World} {FA FB FC FG F9 : List Nat} (h : In4B lo w FA FB FC FG) (hlo : lo ≤ w.heap.size) (hs : w.heap.size ≤ w'.heap.size) (hl : ∀ k, k ∈ F9 → k < w'.heap.size) (h9 : ∀ k, k ∈ F9 → k ∈ FA ∨ w.heap.size ≤ k) : In4B lo w' F9 FB FC FG := by
  refine ⟨h.1.upd0 (fun k hk => (h9 k hk).imp id (fun h1 => ⟨fun hh => by have := (h.2 _ (Or.inr (Or.inl hh))).2; omega, fun hh => by have := (h.2 _ (Or.inr (Or.inr (Or.inl hh)))).2; omega, fun hh => by have := (h.2 _ (Or.inr (Or.inr (Or.inr hh)))).2; omega⟩)), ?_⟩
  rintro k (hk | hk | hk | hk)
  · rcases h9 k hk with h1 | h1
    · have h2 := (h.2 k (Or.inl h1)).1; have h3 := hl k hk; omega
    · have h3 := hl k hk; omega
  · have := h.2 k (Or.inr (Or.inl hk)); omega
  · have := h.2 k (Or.inr (Or.inr (Or.inl hk))); omega
  · have := h.2 k (Or.inr (Or.inr (Or.inr hk))); omega
theorem in4_new1 {lo : Nat} {w : World} {FA FB FC FG : List Nat} (h : In4B lo w FA FB FC FG) (hlo : lo ≤ w.heap.size) {o : Obj} : In4B lo (w.alloc o) FA [w.heap.size] FC FG := by
  refine ⟨h.1.upd1 (fun k hk => Or.inr (by have := List.mem_singleton.1 hk; subst this; exact ⟨fun hh => by have := (h.2 _ (Or.inl hh)).2; omega, fun hh => by have := (h.2 _ (Or.inr (Or.inr (Or.inl hh)))).2; omega, fun hh => by have := (h.2 _ (Or.inr (Or.inr (Or.inr hh)))).2; omega⟩)), ?_⟩
  have hs : (w.alloc o).heap.size = w.heap.size + 1 := by simp
  rintro k (hk | hk | hk | hk)
  · have := h.2 k (Or.inl hk); omega
  · have := List.mem_singleton.1 hk; omega
  · have := h.2 k (Or.inr (Or.inr (Or.inl hk))); omega
  · have := h.2 k (Or.inr (Or.inr (Or.inr hk))); omega
theorem in4_app1 {lo : Nat} {w w' : World} {FA FB FC FG F9 : List Nat} (h : In4B lo w FA FB FC FG) (hlo : lo ≤ w.heap.size) (hs : w.heap.size ≤ w'.heap.size) (hl : ∀ k, k ∈ F9 → k < w'.heap.size) (h9 : ∀ k, k ∈ F9 → k ∈ FB ∨ w.heap.size ≤ k) : In4B lo w' FA F9 FC FG := by
  refine ⟨h.1.upd1 (fun k hk => (h9 k hk).imp id (fun h1 => ⟨fun hh => by have := (h.2 _ (Or.inl hh)).2; omega, fun hh => by have := (h.2 _ (Or.inr (Or.inr (Or.inl hh)))).2; omega, fun hh => by have := (h.2 _ (Or.inr (Or.inr (Or.inr hh)))).2; omega⟩)), ?_⟩
  rintro k (hk | hk | hk | hk)
  · have := h.2 k (Or.inl hk); omega
  · rcases h9 k hk with h1 | h1
    · have h2 := (h.2 k (Or.inr (Or.inl h1))).1; have h3 := hl k hk; omega
    · have h3 := hl k hk; omega
  · have := h.2 k (Or.inr (Or.inr (Or.inl hk))); omega
  · have := h.2 k (Or.inr (Or.inr (Or.inr hk))); omega
theorem in4_new2 {lo : Nat} {w : World} {FA FB FC FG : List Nat} (h : In4B lo w FA FB FC FG) (hlo : lo ≤ w.heap.size) {o : Obj} : In4B lo (w.alloc o) FA FB [w.heap.size] FG := by
  refine ⟨h.1.upd2 (fun k hk => Or.inr (by have := List.mem_singleton.1 hk; subst this; exact ⟨fun hh => by have := (h.2 _ (Or.inl hh)).2; omega, fun hh => by have := (h.2 _ (Or.inr (Or.inl hh))).2; omega, fun hh => by have := (h.2 _ (Or.inr (Or.inr (Or.inr hh)))).2; omega⟩)), ?_⟩
  have hs : (w.alloc o).heap.size = w.heap.size + 1 := by simp
  rintro k (hk | hk | hk | hk)
  · have := h.2 k (Or.inl hk); omega
  · have := h.2 k (Or.inr (Or.inl hk)); omega
  · have := List.mem_singleton.1 hk; omega
  · have := h.2 k (Or.inr (Or.inr (Or.inr hk))); omega
theorem in4_app2 {lo : Nat} {w w' : World} {FA FB FC FG F9 : List Nat} (h : In4B lo w FA FB FC FG) (hlo : lo ≤ w.heap.size) (hs : w.heap.size ≤ w'.heap.size) (hl : ∀ k, k ∈ F9 → k < w'.heap.size) (h9 : ∀ k, k ∈ F9 → k ∈ FC ∨ w.heap.size ≤ k) : In4B lo w' FA FB F9 FG := by
  refine ⟨h.1.upd2 (fun k hk => (h9 k hk).imp id (fun h1 => ⟨fun hh => by have := (h.2 _ (Or.inl hh)).2; omega, fun hh => by have := (h.2 _ (Or.inr (Or.inl hh))).2; omega, fun hh => by have := (h.2 _ (Or.inr (Or.inr (Or.inr hh)))).2; omega⟩)), ?_⟩
  rintro k (hk | hk | hk | hk)
  · have := h.2 k (Or.inl hk); omega
  · have := h.2 k (Or.inr (Or.inl hk)); omega
  · rcases h9 k hk with h1 | h1
    · have h2 := (h.2 k (Or.inr (Or.inr (Or.inl h1)))).1; have h3 := hl k hk; omega
    · have h3 := hl k hk; omega
  · have := h.2 k (Or.inr (Or.inr (Or.inr hk))); omega
theorem in4_newG {lo : Nat} {w : World} {FA FB FC FG : List Nat} (h : In4B lo w FA FB FC FG) (hlo : lo ≤ w.heap.size) {o : Obj} : In4B lo (w.alloc o) FA FB FC [w.heap.size] := by
  refine ⟨h.1.upd3 (fun k hk => Or.inr (by have := List.mem_singleton.1 hk; subst this; exact ⟨fun hh => by have := (h.2 _ (Or.inl hh)).2; omega, fun hh => by have := (h.2 _ (Or.inr (Or.inl hh))).2; omega, fun hh => by have := (h.2 _ (Or.inr (Or.inr (Or.inl hh)))).2; omega⟩)), ?_⟩
  have hs : (w.alloc o).heap.size = w.heap.size + 1 := by simp
  rintro k (hk | hk | hk | hk)
  · have := h.2 k (Or.inl hk); omega
  · have := h.2 k (Or.inr (Or.inl hk)); omega
  · have := h.2 k (Or.inr (Or.inr (Or.inl hk))); omega
  · have := List.mem_singleton.1 hk; omega
section
variable {P : Program} {md : Region.Mode} {ops : Array Oper} {T : World → Prop} {L : List Nat} {Q : Exit → Act → World → Prop} {a : Act} {w : World}
theorem reg_all2 {i0 : Nat} {d0 : Option Nat} {op0 : Op} {ty0 : TypeId} {pos0 : String} {af0 : Array Edge} {i1 : Nat} {d1 : Option Nat} {op1 : Op} {ty1 : TypeId} {pos1 : String} {af1 : Array Edge} {fuel : Nat} {ls : Array Bool} (hi0 : ops[i0]? = some ⟨d0, op0, ty0, pos0, af0, none⟩) (hi1 : ops[i1]? = some ⟨d1, op1, ty1, pos1, af1, none⟩) (hr : Region.ready md ops ls = [i0, i1]) (h0 : ∀ K : Act → World → Prop, Shut (∀ a w, (i0 ∉ L → T w) → RegR P md ops Q L T fuel (ls.setIfInBounds i0 true) a w → K a w) → Oper.wp P ⟨d0, op0, ty0, pos0, af0, none⟩ a w K Q) (h1 : ∀ K : Act → World → Prop, Shut (∀ a w, (i1 ∉ L → T w) → RegR P md ops Q L T fuel (ls.setIfInBounds i1 true) a w → K a w) → Oper.wp P ⟨d1, op1, ty1, pos1, af1, none⟩ a w K Q) : RegR P md ops Q L T (fuel + 1) ls a w := by
  refine ⟨fun h0 => absurd (hr.symm.trans h0) (by simp), ?_⟩
  rw [hr]
  intro x hx
  rcases List.mem_cons.1 hx with rfl | hx
  · refine wpOp_step hi0 fun K' hK => ?_
    rw [if_pos (by simp [Region.wanted])]
    exact h0 K' fun a w h1 h2 => hK a w ⟨h1, h2⟩
  · obtain rfl := List.mem_singleton.1 hx
    refine wpOp_step hi1 fun K' hK => ?_
    rw [if_pos (by simp [Region.wanted])]
    exact h1 K' fun a w h1 h2 => hK a w ⟨h1, h2⟩
theorem reg_all3 {i0 : Nat} {d0 : Option Nat} {op0 : Op} {ty0 : TypeId} {pos0 : String} {af0 : Array Edge} {i1 : Nat} {d1 : Option Nat} {op1 : Op} {ty1 : TypeId} {pos1 : String} {af1 : Array Edge} {i2 : Nat} {d2 : Option Nat} {op2 : Op} {ty2 : TypeId} {pos2 : String} {af2 : Array Edge} {fuel : Nat} {ls : Array Bool} (hi0 : ops[i0]? = some ⟨d0, op0, ty0, pos0, af0, none⟩) (hi1 : ops[i1]? = some ⟨d1, op1, ty1, pos1, af1, none⟩) (hi2 : ops[i2]? = some ⟨d2, op2, ty2, pos2, af2, none⟩) (hr : Region.ready md ops ls = [i0, i1, i2]) (h0 : ∀ K : Act → World → Prop, Shut (∀ a w, (i0 ∉ L → T w) → RegR P md ops Q L T fuel (ls.setIfInBounds i0 true) a w → K a w) → Oper.wp P ⟨d0, op0, ty0, pos0, af0, none⟩ a w K Q) (h1 : ∀ K : Act → World → Prop, Shut (∀ a w, (i1 ∉ L → T w) → RegR P md ops Q L T fuel (ls.setIfInBounds i1 true) a w → K a w) → Oper.wp P ⟨d1, op1, ty1, pos1, af1, none⟩ a w K Q) (h2 : ∀ K : Act → World → Prop, Shut (∀ a w, (i2 ∉ L → T w) → RegR P md ops Q L T fuel (ls.setIfInBounds i2 true) a w → K a w) → Oper.wp P ⟨d2, op2, ty2, pos2, af2, none⟩ a w K Q) : RegR P md ops Q L T (fuel + 1) ls a w := by
  refine ⟨fun h0 => absurd (hr.symm.trans h0) (by simp), ?_⟩
  rw [hr]
  intro x hx
  rcases List.mem_cons.1 hx with rfl | hx
  · refine wpOp_step hi0 fun K' hK => ?_
    rw [if_pos (by simp [Region.wanted])]
    exact h0 K' fun a w h1 h2 => hK a w ⟨h1, h2⟩
  rcases List.mem_cons.1 hx with rfl | hx
  · refine wpOp_step hi1 fun K' hK => ?_
    rw [if_pos (by simp [Region.wanted])]
    exact h1 K' fun a w h1 h2 => hK a w ⟨h1, h2⟩
  · obtain rfl := List.mem_singleton.1 hx
    refine wpOp_step hi2 fun K' hK => ?_
    rw [if_pos (by simp [Region.wanted])]
    exact h2 K' fun a w h1 h2 => hK a w ⟨h1, h2⟩
theorem reg_all4 {i0 : Nat} {d0 : Option Nat} {op0 : Op} {ty0 : TypeId} {pos0 : String} {af0 : Array Edge} {i1 : Nat} {d1 : Option Nat} {op1 : Op} {ty1 : TypeId} {pos1 : String} {af1 : Array Edge} {i2 : Nat} {d2 : Option Nat} {op2 : Op} {ty2 : TypeId} {pos2 : String} {af2 : Array Edge} {i3 : Nat} {d3 : Option Nat} {op3 : Op} {ty3 : TypeId} {pos3 : String} {af3 : Array Edge} {fuel : Nat} {ls : Array Bool} (hi0 : ops[i0]? = some ⟨d0, op0, ty0, pos0, af0, none⟩) (hi1 : ops[i1]? = some ⟨d1, op1, ty1, pos1, af1, none⟩) (hi2 : ops[i2]? = some ⟨d2, op2, ty2, pos2, af2, none⟩) (hi3 : ops[i3]? = some ⟨d3, op3, ty3, pos3, af3, none⟩) (hr : Region.ready md ops ls = [i0, i1, i2, i3]) (h0 : ∀ K : Act → World → Prop, Shut (∀ a w, (i0 ∉ L → T w) → RegR P md ops Q L T fuel (ls.setIfInBounds i0 true) a w → K a w) → Oper.wp P ⟨d0, op0, ty0, pos0, af0, none⟩ a w K Q) (h1 : ∀ K : Act → World → Prop, Shut (∀ a w, (i1 ∉ L → T w) → RegR P md ops Q L T fuel (ls.setIfInBounds i1 true) a w → K a w) → Oper.wp P ⟨d1, op1, ty1, pos1, af1, none⟩ a w K Q) (h2 : ∀ K : Act → World → Prop, Shut (∀ a w, (i2 ∉ L → T w) → RegR P md ops Q L T fuel (ls.setIfInBounds i2 true) a w → K a w) → Oper.wp P ⟨d2, op2, ty2, pos2, af2, none⟩ a w K Q) (h3 : ∀ K : Act → World → Prop, Shut (∀ a w, (i3 ∉ L → T w) → RegR P md ops Q L T fuel (ls.setIfInBounds i3 true) a w → K a w) → Oper.wp P ⟨d3, op3, ty3, pos3, af3, none⟩ a w K Q) : RegR P md ops Q L T (fuel + 1) ls a w := by
  refine ⟨fun h0 => absurd (hr.symm.trans h0) (by simp), ?_⟩
  rw [hr]
  intro x hx
  rcases List.mem_cons.1 hx with rfl | hx
  · refine wpOp_step hi0 fun K' hK => ?_
    rw [if_pos (by simp [Region.wanted])]
    exact h0 K' fun a w h1 h2 => hK a w ⟨h1, h2⟩
  rcases List.mem_cons.1 hx with rfl | hx
  · refine wpOp_step hi1 fun K' hK => ?_
    rw [if_pos (by simp [Region.wanted])]
    exact h1 K' fun a w h1 h2 => hK a w ⟨h1, h2⟩
  rcases List.mem_cons.1 hx with rfl | hx
  · refine wpOp_step hi2 fun K' hK => ?_
    rw [if_pos (by simp [Region.wanted])]
    exact h2 K' fun a w h1 h2 => hK a w ⟨h1, h2⟩
  · obtain rfl := List.mem_singleton.1 hx
    refine wpOp_step hi3 fun K' hK => ?_
    rw [if_pos (by simp [Region.wanted])]
    exact h3 K' fun a w h1 h2 => hK a w ⟨h1, h2⟩
end
set_option maxHeartbeats 2000000 in
set_option maxRecDepth 100000 in
theorem cp_311111 {ops : Array Oper} (HC : CpOps ops) {x0 : Value} {g1 g2 : Nat} {A1 A2 A3 : Option Addr} {n1 c1 n2 c2 n3 c3 : Nat} {q : Int} {xs0 xs1 : EntryST} {xs2 : DirOpST} {w1 : World} {Q : Exit → Act → World → Prop} (HR0 : Sec (Row dEntry w1 (· < w1.heap.size) A1 n1 xs0)) (HR1 : Sec (Row dEntry w1 (· < w1.heap.size) A2 n2 xs1)) (HR2 : Sec (Row dDirOp w1 (· < w1.heap.size) A3 n3 xs2)) (hl0 : xs0.length ≤ 1048576) (hl1 : xs1.length ≤ 1048576) (hl2 : xs2.length ≤ 1048576) (HQ : Sec (∀ (g3 : Nat) (R0 R1 R2 : Option Addr) (m0 e0 m1 e1 m2 e2 : Nat) (u6 u10 u14 u20 : Value) (W : World) (FA FB FC : List Nat), New w1 W → In4B w1.heap.size W FA FB FC [g3] → Own dEntry 37 W FA (.slice R0 m0 e0) xs0 → Own dEntry 37 W FB (.slice R1 m1 e1) xs1 → Own dDirOp 66 W FC (.slice R2 m2 e2) xs2 → Blk W g3 27 [.slice none 0 0, .slice none 0 0, .slice none 0 0, .slice none 0 0, .int .i64 0] → Q .normal (cpAct x0 g1 g2 A1 A2 A3 n1 c1 n2 c2 n3 c3 q (.pointer (some ⟨g3, 0, none⟩)) u6 (.slice R0 m0 e0) u10 (.slice R1 m1 e1) u14 (.slice R2 m2 e2) u20) (set5 W g3 (.slice none 0 0) (.slice R0 m0 e0) (.slice R1 m1 e1) (.slice R2 m2 e2) (.int .i64 q)))) {W : World} {FA FB FC FG : List Nat} (HN : Sec (New w1 W)) (HI : Sec (In4B w1.heap.size W FA FB FC FG)) {R0 : Option Addr} {m0 e0 : Nat} (HO0 : Sec (Own dEntry 37 W FA (.slice R0 m0 e0) xs0)) {R1 : Option Addr} {m1 e1 : Nat} (HO1 : Sec (Own dEntry 37 W FB (.slice R1 m1 e1) xs1)) {R2 : Option Addr} {m2 e2 : Nat} (HO2 : Sec (Own dDirOp 66 W FC (.slice R2 m2 e2) xs2)) {g3 : Nat} (HB3 : Sec (Blk W g3 27 [.slice none 0 0, .slice none 0 0, .slice none 0 0, .slice none 0 0, .int .i64 0])) (hFG : FG = [g3]) {u6 u10 u14 : Value} : RegR Tryd.prog .any ops Q [16] (fun W => Sec (New w1 W)) 1 #[true, true, true, true, true, true, true, true, true, true, true, true, true, true, true, true, false] (cpAct x0 g1 g2 A1 A2 A3 n1 c1 n2 c2 n3 c3 q (.pointer (some ⟨g3, 0, none⟩)) (u6) (.slice R0 m0 e0) (u10) (.slice R1 m1 e1) (u14) (.slice R2 m2 e2) (.agg #[.slice none 0 0, .slice R0 m0 e0, .slice R1 m1 e1, .slice R2 m2 e2, .int .i64 q])) W := by
  obtain ⟨ty16, pos16, af16, q16⟩ := HC.e16
  refine reg_step (i := 16) q16 HC.r311111 (fun K hK => ?_)
  subst hFG
  refine wp_store rfl rfl rfl rfl (stDisk HB3.out none R0 R1 R2 0 0 m0 e0 m1 e1 m2 e2 q) (hK.out _ _ (fun h => absurd (List.mem_singleton.2 rfl) h) ?_)
  exact reg_done HC.rend (HQ.out _ _ _ _ _ _ _ _ _ _ _ _ _ _ _ _ _ _ HN.out HI.out HO0.out HO1.out HO2.out HB3.out) _
set_option maxHeartbeats 2000000 in
set_option maxRecDepth 100000 in
theorem cp_311101 {ops : Array Oper} (HC : CpOps ops) {x0 : Value} {g1 g2 : Nat} {A1 A2 A3 : Option Addr} {n1 c1 n2 c2 n3 c3 : Nat} {q : Int} {xs0 xs1 : EntryST} {xs2 : DirOpST} {w1 : World} {Q : Exit → Act → World → Prop} (HR0 : Sec (Row dEntry w1 (· < w1.heap.size) A1 n1 xs0)) (HR1 : Sec (Row dEntry w1 (· < w1.heap.size) A2 n2 xs1)) (HR2 : Sec (Row dDirOp w1 (· < w1.heap.size) A3 n3 xs2)) (hl0 : xs0.length ≤ 1048576) (hl1 : xs1.length ≤ 1048576) (hl2 : xs2.length ≤ 1048576) (HQ : Sec (∀ (g3 : Nat) (R0 R1 R2 : Option Addr) (m0 e0 m1 e1 m2 e2 : Nat) (u6 u10 u14 u20 : Value) (W : World) (FA FB FC : List Nat), New w1 W → In4B w1.heap.size W FA FB FC [g3] → Own dEntry 37 W FA (.slice R0 m0 e0) xs0 → Own dEntry 37 W FB (.slice R1 m1 e1) xs1 → Own dDirOp 66 W FC (.slice R2 m2 e2) xs2 → Blk W g3 27 [.slice none 0 0, .slice none 0 0, .slice none 0 0, .slice none 0 0, .int .i64 0] → Q .normal (cpAct x0 g1 g2 A1 A2 A3 n1 c1 n2 c2 n3 c3 q (.pointer (some ⟨g3, 0, none⟩)) u6 (.slice R0 m0 e0) u10 (.slice R1 m1 e1) u14 (.slice R2 m2 e2) u20) (set5 W g3 (.slice none 0 0) (.slice R0 m0 e0) (.slice R1 m1 e1) (.slice R2 m2 e2) (.int .i64 q)))) {W : World} {FA FB FC FG : List Nat} (HN : Sec (New w1 W)) (HI : Sec (In4B w1.heap.size W FA FB FC FG)) {R0 : Option Addr} {m0 e0 : Nat} (HO0 : Sec (Own dEntry 37 W FA (.slice R0 m0 e0) xs0)) {R1 : Option Addr} {m1 e1 : Nat} (HO1 : Sec (Own dEntry 37 W FB (.slice R1 m1 e1) xs1)) {R2 : Option Addr} {m2 e2 : Nat} (HO2 : Sec (Own dDirOp 66 W FC (.slice R2 m2 e2) xs2)) {u3 u6 u10 u14 : Value} : RegR Tryd.prog .any ops Q [16] (fun W => Sec (New w1 W)) 2 #[true, true, true, true, true, true, true, true, true, true, true, true, true, true, true, false, false] (cpAct x0 g1 g2 A1 A2 A3 n1 c1 n2 c2 n3 c3 q (u3) (u6) (.slice R0 m0 e0) (u10) (.slice R1 m1 e1) (u14) (.slice R2 m2 e2) (.agg #[.slice none 0 0, .slice R0 m0 e0, .slice R1 m1 e1, .slice R2 m2 e2, .int .i64 q])) W := by
  obtain ⟨ty15, pos15, af15, q15⟩ := HC.e15
  refine reg_step (i := 15) q15 HC.r311101 (fun K hK => ?_)
  have hma : New W (W.alloc (.cells zDisk.toArray 27)) := (Mod.refl _ _).alloc _
  have HN2 : Sec (New w1 (W.alloc (.cells zDisk.toArray 27))) := ⟨HN.out.transN hma⟩
  have hI2 : In4B w1.heap.size (W.alloc (.cells zDisk.toArray 27)) FA FB FC [W.heap.size] := in4_newG HI.out HN.out.size
  refine wp_valw (n := 3) (v := .pointer (some ⟨W.heap.size, 0, none⟩)) (w' := W.alloc (.cells zDisk.toArray 27)) (exec_allocDisk rfl) rfl ?_
  exact hK.out _ _ (fun _ => HN2) (cp_311111 HC HR0 HR1 HR2 hl0 hl1 hl2 HQ HN2 ⟨hI2⟩ ⟨HO0.out.keep hma (fun _ _ h => h)⟩ ⟨HO1.out.keep hma (fun _ _ h => h)⟩ ⟨HO2.out.keep hma (fun _ _ h => h)⟩ ⟨Blk.new W 27 zDisk⟩ rfl)
set_option maxHeartbeats 2000000 in
set_option maxRecDepth 100000 in
theorem cp_311110 {ops : Array Oper} (HC : CpOps ops) {x0 : Value} {g1 g2 : Nat} {A1 A2 A3 : Option Addr} {n1 c1 n2 c2 n3 c3 : Nat} {q : Int} {xs0 xs1 : EntryST} {xs2 : DirOpST} {w1 : World} {Q : Exit → Act → World → Prop} (HR0 : Sec (Row dEntry w1 (· < w1.heap.size) A1 n1 xs0)) (HR1 : Sec (Row dEntry w1 (· < w1.heap.size) A2 n2 xs1)) (HR2 : Sec (Row dDirOp w1 (· < w1.heap.size) A3 n3 xs2)) (hl0 : xs0.length ≤ 1048576) (hl1 : xs1.length ≤ 1048576) (hl2 : xs2.length ≤ 1048576) (HQ : Sec (∀ (g3 : Nat) (R0 R1 R2 : Option Addr) (m0 e0 m1 e1 m2 e2 : Nat) (u6 u10 u14 u20 : Value) (W : World) (FA FB FC : List Nat), New w1 W → In4B w1.heap.size W FA FB FC [g3] → Own dEntry 37 W FA (.slice R0 m0 e0) xs0 → Own dEntry 37 W FB (.slice R1 m1 e1) xs1 → Own dDirOp 66 W FC (.slice R2 m2 e2) xs2 → Blk W g3 27 [.slice none 0 0, .slice none 0 0, .slice none 0 0, .slice none 0 0, .int .i64 0] → Q .normal (cpAct x0 g1 g2 A1 A2 A3 n1 c1 n2 c2 n3 c3 q (.pointer (some ⟨g3, 0, none⟩)) u6 (.slice R0 m0 e0) u10 (.slice R1 m1 e1) u14 (.slice R2 m2 e2) u20) (set5 W g3 (.slice none 0 0) (.slice R0 m0 e0) (.slice R1 m1 e1) (.slice R2 m2 e2) (.int .i64 q)))) {W : World} {FA FB FC FG : List Nat} (HN : Sec (New w1 W)) (HI : Sec (In4B w1.heap.size W FA FB FC FG)) {R0 : Option Addr} {m0 e0 : Nat} (HO0 : Sec (Own dEntry 37 W FA (.slice R0 m0 e0) xs0)) {R1 : Option Addr} {m1 e1 : Nat} (HO1 : Sec (Own dEntry 37 W FB (.slice R1 m1 e1) xs1)) {R2 : Option Addr} {m2 e2 : Nat} (HO2 : Sec (Own dDirOp 66 W FC (.slice R2 m2 e2) xs2)) {g3 : Nat} (HB3 : Sec (Blk W g3 27 [.slice none 0 0, .slice none 0 0, .slice none 0 0, .slice none 0 0, .int .i64 0])) (hFG : FG = [g3]) {u6 u10 u14 u20 : Value} : RegR Tryd.prog .any ops Q [16] (fun W => Sec (New w1 W)) 2 #[true, true, true, true, true, true, true, true, true, true, true, true, true, true, false, true, false] (cpAct x0 g1 g2 A1 A2 A3 n1 c1 n2 c2 n3 c3 q (.pointer (some ⟨g3, 0, none⟩)) (u6) (.slice R0 m0 e0) (u10) (.slice R1 m1 e1) (u14) (.slice R2 m2 e2) (u20)) W := by
  obtain ⟨ty14, pos14, af14, q14⟩ := HC.e14
  refine reg_step (i := 14) q14 HC.r311110 (fun K hK => ?_)
  refine wp_val (n := 20) (v := .agg #[.slice none 0 0, .slice R0 m0 e0, .slice R1 m1 e1, .slice R2 m2 e2, .int .i64 q]) (exec_build (parts := [(1, .tmp 9), (2, .tmp 13), (3, .tmp 17), (4, .tmp 19)]) (vs := [(1, .slice R0 m0 e0), (2, .slice R1 m1 e1), (3, .slice R2 m2 e2), (4, .int .i64 q)]) rfl rfl (bldDiskI R0 R1 R2 m0 e0 m1 e1 m2 e2 q W)) rfl ?_
  exact hK.out _ _ (fun _ => HN) (cp_311111 HC HR0 HR1 HR2 hl0 hl1 hl2 HQ HN HI HO0 HO1 HO2 HB3 hFG)
set_option maxHeartbeats 2000000 in
set_option maxRecDepth 100000 in
theorem cp_211110 {ops : Array Oper} (HC : CpOps ops) {x0 : Value} {g1 g2 : Nat} {A1 A2 A3 : Option Addr} {n1 c1 n2 c2 n3 c3 : Nat} {q : Int} {xs0 xs1 : EntryST} {xs2 : DirOpST} {w1 : World} {Q : Exit → Act → World → Prop} (HR0 : Sec (Row dEntry w1 (· < w1.heap.size) A1 n1 xs0)) (HR1 : Sec (Row dEntry w1 (· < w1.heap.size) A2 n2 xs1)) (HR2 : Sec (Row dDirOp w1 (· < w1.heap.size) A3 n3 xs2)) (hl0 : xs0.length ≤ 1048576) (hl1 : xs1.length ≤ 1048576) (hl2 : xs2.length ≤ 1048576) (HQ : Sec (∀ (g3 : Nat) (R0 R1 R2 : Option Addr) (m0 e0 m1 e1 m2 e2 : Nat) (u6 u10 u14 u20 : Value) (W : World) (FA FB FC : List Nat), New w1 W → In4B w1.heap.size W FA FB FC [g3] → Own dEntry 37 W FA (.slice R0 m0 e0) xs0 → Own dEntry 37 W FB (.slice R1 m1 e1) xs1 → Own dDirOp 66 W FC (.slice R2 m2 e2) xs2 → Blk W g3 27 [.slice none 0 0, .slice none 0 0, .slice none 0 0, .slice none 0 0, .int .i64 0] → Q .normal (cpAct x0 g1 g2 A1 A2 A3 n1 c1 n2 c2 n3 c3 q (.pointer (some ⟨g3, 0, none⟩)) u6 (.slice R0 m0 e0) u10 (.slice R1 m1 e1) u14 (.slice R2 m2 e2) u20) (set5 W g3 (.slice none 0 0) (.slice R0 m0 e0) (.slice R1 m1 e1) (.slice R2 m2 e2) (.int .i64 q)))) {W : World} {FA FB FC FG : List Nat} (HN : Sec (New w1 W)) (HI : Sec (In4B w1.heap.size W FA FB FC FG)) {R0 : Option Addr} {m0 e0 : Nat} (HO0 : Sec (Own dEntry 37 W FA (.slice R0 m0 e0) xs0)) {R1 : Option Addr} {m1 e1 : Nat} (HO1 : Sec (Own dEntry 37 W FB (.slice R1 m1 e1) xs1)) {B2 : Option Addr} (HO2 : Sec (Own dDirOp 66 W FC (.slice B2 0 0) [])) {g3 : Nat} (HB3 : Sec (Blk W g3 27 [.slice none 0 0, .slice none 0 0, .slice none 0 0, .slice none 0 0, .int .i64 0])) (hFG : FG = [g3]) {u6 u10 u17 u20 : Value} : RegR Tryd.prog .any ops Q [16] (fun W => Sec (New w1 W)) 3 #[true, true, true, true, true, true, true, true, true, true, true, false, true, true, false, true, false] (cpAct x0 g1 g2 A1 A2 A3 n1 c1 n2 c2 n3 c3 q (.pointer (some ⟨g3, 0, none⟩)) (u6) (.slice R0 m0 e0) (u10) (.slice R1 m1 e1) (.slice B2 0 0) (u17) (u20)) W := by
  obtain ⟨ty11, pos11, af11, q11⟩ := HC.e11
  refine reg_step (i := 11) q11 HC.r211110 (fun K hK => ?_)
  have hFGn : ∀ k, k ∈ FC → k ∉ FG := fun k h => HI.out.1.2.2 k h
  refine wp_appFD _ (.tmp 14) (.tmp 16) _ rfl Tryd.underlying25 eltDirOp flatDirOp rfl rfl HO2.out (HR2.out.mod (w' := W) (B' := (· < w1.heap.size)) (fun _ h => h) (fun i hi => HN.out.block i hi id)) (by simp; omega) ?_
  intro A9 n9 c9 W2 F9 ho2 hF9 hm2
  rw [List.nil_append] at ho2
  have HN2 : Sec (New w1 W2) := ⟨HN.out.trans hm2 (fun k hk hlt => by have := (HI.out.2 k (Or.inr (Or.inr (Or.inl hk)))).1; omega)⟩
  have hI2 : In4B w1.heap.size W2 FA FB F9 FG := in4_app2 HI.out HN.out.size hm2.size (fun k hk => ho2.lt k hk) hF9
  exact hK.out _ _ (fun _ => HN2) (cp_311110 HC HR0 HR1 HR2 hl0 hl1 hl2 HQ HN2 ⟨hI2⟩ ⟨HO0.out.keep hm2 (fun k hk h => (HI.out.1.1 k hk).2.1 h)⟩ ⟨HO1.out.keep hm2 (fun k hk h => (HI.out.1.2.1 k hk).1 h)⟩ ⟨ho2⟩ ⟨HB3.out.mod hm2 (fun h => hFGn g3 h (by rw [hFG]; simp))⟩ hFG)
set_option maxHeartbeats 2000000 in
set_option maxRecDepth 100000 in
theorem cp_311100 {ops : Array Oper} (HC : CpOps ops) {x0 : Value} {g1 g2 : Nat} {A1 A2 A3 : Option Addr} {n1 c1 n2 c2 n3 c3 : Nat} {q : Int} {xs0 xs1 : EntryST} {xs2 : DirOpST} {w1 : World} {Q : Exit → Act → World → Prop} (HR0 : Sec (Row dEntry w1 (· < w1.heap.size) A1 n1 xs0)) (HR1 : Sec (Row dEntry w1 (· < w1.heap.size) A2 n2 xs1)) (HR2 : Sec (Row dDirOp w1 (· < w1.heap.size) A3 n3 xs2)) (hl0 : xs0.length ≤ 1048576) (hl1 : xs1.length ≤ 1048576) (hl2 : xs2.length ≤ 1048576) (HQ : Sec (∀ (g3 : Nat) (R0 R1 R2 : Option Addr) (m0 e0 m1 e1 m2 e2 : Nat) (u6 u10 u14 u20 : Value) (W : World) (FA FB FC : List Nat), New w1 W → In4B w1.heap.size W FA FB FC [g3] → Own dEntry 37 W FA (.slice R0 m0 e0) xs0 → Own dEntry 37 W FB (.slice R1 m1 e1) xs1 → Own dDirOp 66 W FC (.slice R2 m2 e2) xs2 → Blk W g3 27 [.slice none 0 0, .slice none 0 0, .slice none 0 0, .slice none 0 0, .int .i64 0] → Q .normal (cpAct x0 g1 g2 A1 A2 A3 n1 c1 n2 c2 n3 c3 q (.pointer (some ⟨g3, 0, none⟩)) u6 (.slice R0 m0 e0) u10 (.slice R1 m1 e1) u14 (.slice R2 m2 e2) u20) (set5 W g3 (.slice none 0 0) (.slice R0 m0 e0) (.slice R1 m1 e1) (.slice R2 m2 e2) (.int .i64 q)))) {W : World} {FA FB FC FG : List Nat} (HN : Sec (New w1 W)) (HI : Sec (In4B w1.heap.size W FA FB FC FG)) {R0 : Option Addr} {m0 e0 : Nat} (HO0 : Sec (Own dEntry 37 W FA (.slice R0 m0 e0) xs0)) {R1 : Option Addr} {m1 e1 : Nat} (HO1 : Sec (Own dEntry 37 W FB (.slice R1 m1 e1) xs1)) {R2 : Option Addr} {m2 e2 : Nat} (HO2 : Sec (Own dDirOp 66 W FC (.slice R2 m2 e2) xs2)) {u3 u6 u10 u14 u20 : Value} : RegR Tryd.prog .any ops Q [16] (fun W => Sec (New w1 W)) 3 #[true, true, true, true, true, true, true, true, true, true, true, true, true, true, false, false, false] (cpAct x0 g1 g2 A1 A2 A3 n1 c1 n2 c2 n3 c3 q (u3) (u6) (.slice R0 m0 e0) (u10) (.slice R1 m1 e1) (u14) (.slice R2 m2 e2) (u20)) W := by
  obtain ⟨ty14, pos14, af14, q14⟩ := HC.e14
  obtain ⟨ty15, pos15, af15, q15⟩ := HC.e15
  refine reg_all2 (i0 := 14) (i1 := 15) q14 q15 HC.r311100 (fun K hK => ?_) (fun K hK => ?_)
  · refine wp_val (n := 20) (v := .agg #[.slice none 0 0, .slice R0 m0 e0, .slice R1 m1 e1, .slice R2 m2 e2, .int .i64 q]) (exec_build (parts := [(1, .tmp 9), (2, .tmp 13), (3, .tmp 17), (4, .tmp 19)]) (vs := [(1, .slice R0 m0 e0), (2, .slice R1 m1 e1), (3, .slice R2 m2 e2), (4, .int .i64 q)]) rfl rfl (bldDiskI R0 R1 R2 m0 e0 m1 e1 m2 e2 q W)) rfl ?_
    exact hK.out _ _ (fun _ => HN) (cp_311101 HC HR0 HR1 HR2 hl0 hl1 hl2 HQ HN HI HO0 HO1 HO2)
  · have hma : New W (W.alloc (.cells zDisk.toArray 27)) := (Mod.refl _ _).alloc _
    have HN2 : Sec (New w1 (W.alloc (.cells zDisk.toArray 27))) := ⟨HN.out.transN hma⟩
    have hI2 : In4B w1.heap.size (W.alloc (.cells zDisk.toArray 27)) FA FB FC [W.heap.size] := in4_newG HI.out HN.out.size
    refine wp_valw (n := 3) (v := .pointer (some ⟨W.heap.size, 0, none⟩)) (w' := W.alloc (.cells zDisk.toArray 27)) (exec_allocDisk rfl) rfl ?_
    exact hK.out _ _ (fun _ => HN2) (cp_311110 HC HR0 HR1 HR2 hl0 hl1 hl2 HQ HN2 ⟨hI2⟩ ⟨HO0.out.keep hma (fun _ _ h => h)⟩ ⟨HO1.out.keep hma (fun _ _ h => h)⟩ ⟨HO2.out.keep hma (fun _ _ h => h)⟩ ⟨Blk.new W 27 zDisk⟩ rfl)
set_option maxHeartbeats 2000000 in
set_option maxRecDepth 100000 in
theorem cp_111110 {ops : Array Oper} (HC : CpOps ops) {x0 : Value} {g1 g2 : Nat} {A1 A2 A3 : Option Addr} {n1 c1 n2 c2 n3 c3 : Nat} {q : Int} {xs0 xs1 : EntryST} {xs2 : DirOpST} {w1 : World} {Q : Exit → Act → World → Prop} (HR0 : Sec (Row dEntry w1 (· < w1.heap.size) A1 n1 xs0)) (HR1 : Sec (Row dEntry w1 (· < w1.heap.size) A2 n2 xs1)) (HR2 : Sec (Row dDirOp w1 (· < w1.heap.size) A3 n3 xs2)) (hl0 : xs0.length ≤ 1048576) (hl1 : xs1.length ≤ 1048576) (hl2 : xs2.length ≤ 1048576) (HQ : Sec (∀ (g3 : Nat) (R0 R1 R2 : Option Addr) (m0 e0 m1 e1 m2 e2 : Nat) (u6 u10 u14 u20 : Value) (W : World) (FA FB FC : List Nat), New w1 W → In4B w1.heap.size W FA FB FC [g3] → Own dEntry 37 W FA (.slice R0 m0 e0) xs0 → Own dEntry 37 W FB (.slice R1 m1 e1) xs1 → Own dDirOp 66 W FC (.slice R2 m2 e2) xs2 → Blk W g3 27 [.slice none 0 0, .slice none 0 0, .slice none 0 0, .slice none 0 0, .int .i64 0] → Q .normal (cpAct x0 g1 g2 A1 A2 A3 n1 c1 n2 c2 n3 c3 q (.pointer (some ⟨g3, 0, none⟩)) u6 (.slice R0 m0 e0) u10 (.slice R1 m1 e1) u14 (.slice R2 m2 e2) u20) (set5 W g3 (.slice none 0 0) (.slice R0 m0 e0) (.slice R1 m1 e1) (.slice R2 m2 e2) (.int .i64 q)))) {W : World} {FA FB FC FG : List Nat} (HN : Sec (New w1 W)) (HI : Sec (In4B w1.heap.size W FA FB FC FG)) {R0 : Option Addr} {m0 e0 : Nat} (HO0 : Sec (Own dEntry 37 W FA (.slice R0 m0 e0) xs0)) {B1 : Option Addr} (HO1 : Sec (Own dEntry 37 W FB (.slice B1 0 0) [])) {B2 : Option Addr} (HO2 : Sec (Own dDirOp 66 W FC (.slice B2 0 0) [])) {g3 : Nat} (HB3 : Sec (Blk W g3 27 [.slice none 0 0, .slice none 0 0, .slice none 0 0, .slice none 0 0, .int .i64 0])) (hFG : FG = [g3]) {u6 u13 u17 u20 : Value} : RegR Tryd.prog .any ops Q [16] (fun W => Sec (New w1 W)) 4 #[true, true, true, true, true, true, true, false, true, true, true, false, true, true, false, true, false] (cpAct x0 g1 g2 A1 A2 A3 n1 c1 n2 c2 n3 c3 q (.pointer (some ⟨g3, 0, none⟩)) (u6) (.slice R0 m0 e0) (.slice B1 0 0) (u13) (.slice B2 0 0) (u17) (u20)) W := by
  obtain ⟨ty7, pos7, af7, q7⟩ := HC.e7
  refine reg_step (i := 7) q7 HC.r111110 (fun K hK => ?_)
  have hFGn : ∀ k, k ∈ FB → k ∉ FG := fun k h => (HI.out.1.2.1 k h).2
  refine wp_appFD _ (.tmp 10) (.tmp 12) _ rfl Tryd.underlying24 elt_entry flatEntry rfl rfl HO1.out (HR1.out.mod (w' := W) (B' := (· < w1.heap.size)) (fun _ h => h) (fun i hi => HN.out.block i hi id)) (by simp; omega) ?_
  intro A9 n9 c9 W2 F9 ho2 hF9 hm2
  rw [List.nil_append] at ho2
  have HN2 : Sec (New w1 W2) := ⟨HN.out.trans hm2 (fun k hk hlt => by have := (HI.out.2 k (Or.inr (Or.inl hk))).1; omega)⟩
  have hI2 : In4B w1.heap.size W2 FA F9 FC FG := in4_app1 HI.out HN.out.size hm2.size (fun k hk => ho2.lt k hk) hF9
  exact hK.out _ _ (fun _ => HN2) (cp_211110 HC HR0 HR1 HR2 hl0 hl1 hl2 HQ HN2 ⟨hI2⟩ ⟨HO0.out.keep hm2 (fun k hk h => (HI.out.1.1 k hk).1 h)⟩ ⟨ho2⟩ ⟨HO2.out.keep hm2 (fun k hk h => (HI.out.1.2.1 k h).1 hk)⟩ ⟨HB3.out.mod hm2 (fun h => hFGn g3 h (by rw [hFG]; simp))⟩ hFG)
set_option maxHeartbeats 2000000 in
set_option maxRecDepth 100000 in
theorem cp_211010 {ops : Array Oper} (HC : CpOps ops) {x0 : Value} {g1 g2 : Nat} {A1 A2 A3 : Option Addr} {n1 c1 n2 c2 n3 c3 : Nat} {q : Int} {xs0 xs1 : EntryST} {xs2 : DirOpST} {w1 : World} {Q : Exit → Act → World → Prop} (HR0 : Sec (Row dEntry w1 (· < w1.heap.size) A1 n1 xs0)) (HR1 : Sec (Row dEntry w1 (· < w1.heap.size) A2 n2 xs1)) (HR2 : Sec (Row dDirOp w1 (· < w1.heap.size) A3 n3 xs2)) (hl0 : xs0.length ≤ 1048576) (hl1 : xs1.length ≤ 1048576) (hl2 : xs2.length ≤ 1048576) (HQ : Sec (∀ (g3 : Nat) (R0 R1 R2 : Option Addr) (m0 e0 m1 e1 m2 e2 : Nat) (u6 u10 u14 u20 : Value) (W : World) (FA FB FC : List Nat), New w1 W → In4B w1.heap.size W FA FB FC [g3] → Own dEntry 37 W FA (.slice R0 m0 e0) xs0 → Own dEntry 37 W FB (.slice R1 m1 e1) xs1 → Own dDirOp 66 W FC (.slice R2 m2 e2) xs2 → Blk W g3 27 [.slice none 0 0, .slice none 0 0, .slice none 0 0, .slice none 0 0, .int .i64 0] → Q .normal (cpAct x0 g1 g2 A1 A2 A3 n1 c1 n2 c2 n3 c3 q (.pointer (some ⟨g3, 0, none⟩)) u6 (.slice R0 m0 e0) u10 (.slice R1 m1 e1) u14 (.slice R2 m2 e2) u20) (set5 W g3 (.slice none 0 0) (.slice R0 m0 e0) (.slice R1 m1 e1) (.slice R2 m2 e2) (.int .i64 q)))) {W : World} {FA FB FC FG : List Nat} (HN : Sec (New w1 W)) (HI : Sec (In4B w1.heap.size W FA FB FC FG)) {R0 : Option Addr} {m0 e0 : Nat} (HO0 : Sec (Own dEntry 37 W FA (.slice R0 m0 e0) xs0)) {R1 : Option Addr} {m1 e1 : Nat} (HO1 : Sec (Own dEntry 37 W FB (.slice R1 m1 e1) xs1)) {g3 : Nat} (HB3 : Sec (Blk W g3 27 [.slice none 0 0, .slice none 0 0, .slice none 0 0, .slice none 0 0, .int .i64 0])) (hFG : FG = [g3]) {u6 u10 u14 u17 u20 : Value} : RegR Tryd.prog .any ops Q [16] (fun W => Sec (New w1 W)) 4 #[true, true, true, true, true, true, true, true, false, true, true, false, true, true, false, true, false] (cpAct x0 g1 g2 A1 A2 A3 n1 c1 n2 c2 n3 c3 q (.pointer (some ⟨g3, 0, none⟩)) (u6) (.slice R0 m0 e0) (u10) (.slice R1 m1 e1) (u14) (u17) (u20)) W := by
  obtain ⟨ty8, pos8, af8, q8⟩ := HC.e8
  refine reg_step (i := 8) q8 HC.r211010 (fun K hK => ?_)
  have hma : New W (W.alloc (.cells #[] 66)) := (Mod.refl _ _).alloc _
  have HN2 : Sec (New w1 (W.alloc (.cells #[] 66))) := ⟨HN.out.transN hma⟩
  have hI2 : In4B w1.heap.size (W.alloc (.cells #[] 66)) FA FB [W.heap.size] FG := in4_new2 HI.out HN.out.size
  refine wp_valw (n := 14) (v := .slice (some ⟨W.heap.size, 0, none⟩) 0 0) (w' := W.alloc (.cells #[] 66)) (exec_buildSlice (parts := []) (vs := []) rfl rfl (bldDop0I _)) rfl ?_
  exact hK.out _ _ (fun _ => HN2) (cp_211110 HC HR0 HR1 HR2 hl0 hl1 hl2 HQ HN2 ⟨hI2⟩ ⟨HO0.out.keep hma (fun _ _ h => h)⟩ ⟨HO1.out.keep hma (fun _ _ h => h)⟩ ⟨Own.empty0 _ _ _⟩ ⟨HB3.out.mod hma id⟩ hFG)
set_option maxHeartbeats 2000000 in
set_option maxRecDepth 100000 in
theorem cp_211100 {ops : Array Oper} (HC : CpOps ops) {x0 : Value} {g1 g2 : Nat} {A1 A2 A3 : Option Addr} {n1 c1 n2 c2 n3 c3 : Nat} {q : Int} {xs0 xs1 : EntryST} {xs2 : DirOpST} {w1 : World} {Q : Exit → Act → World → Prop} (HR0 : Sec (Row dEntry w1 (· < w1.heap.size) A1 n1 xs0)) (HR1 : Sec (Row dEntry w1 (· < w1.heap.size) A2 n2 xs1)) (HR2 : Sec (Row dDirOp w1 (· < w1.heap.size) A3 n3 xs2)) (hl0 : xs0.length ≤ 1048576) (hl1 : xs1.length ≤ 1048576) (hl2 : xs2.length ≤ 1048576) (HQ : Sec (∀ (g3 : Nat) (R0 R1 R2 : Option Addr) (m0 e0 m1 e1 m2 e2 : Nat) (u6 u10 u14 u20 : Value) (W : World) (FA FB FC : List Nat), New w1 W → In4B w1.heap.size W FA FB FC [g3] → Own dEntry 37 W FA (.slice R0 m0 e0) xs0 → Own dEntry 37 W FB (.slice R1 m1 e1) xs1 → Own dDirOp 66 W FC (.slice R2 m2 e2) xs2 → Blk W g3 27 [.slice none 0 0, .slice none 0 0, .slice none 0 0, .slice none 0 0, .int .i64 0] → Q .normal (cpAct x0 g1 g2 A1 A2 A3 n1 c1 n2 c2 n3 c3 q (.pointer (some ⟨g3, 0, none⟩)) u6 (.slice R0 m0 e0) u10 (.slice R1 m1 e1) u14 (.slice R2 m2 e2) u20) (set5 W g3 (.slice none 0 0) (.slice R0 m0 e0) (.slice R1 m1 e1) (.slice R2 m2 e2) (.int .i64 q)))) {W : World} {FA FB FC FG : List Nat} (HN : Sec (New w1 W)) (HI : Sec (In4B w1.heap.size W FA FB FC FG)) {R0 : Option Addr} {m0 e0 : Nat} (HO0 : Sec (Own dEntry 37 W FA (.slice R0 m0 e0) xs0)) {R1 : Option Addr} {m1 e1 : Nat} (HO1 : Sec (Own dEntry 37 W FB (.slice R1 m1 e1) xs1)) {B2 : Option Addr} (HO2 : Sec (Own dDirOp 66 W FC (.slice B2 0 0) [])) {u3 u6 u10 u17 u20 : Value} : RegR Tryd.prog .any ops Q [16] (fun W => Sec (New w1 W)) 4 #[true, true, true, true, true, true, true, true, true, true, true, false, true, true, false, false, false] (cpAct x0 g1 g2 A1 A2 A3 n1 c1 n2 c2 n3 c3 q (u3) (u6) (.slice R0 m0 e0) (u10) (.slice R1 m1 e1) (.slice B2 0 0) (u17) (u20)) W := by
  obtain ⟨ty11, pos11, af11, q11⟩ := HC.e11
  obtain ⟨ty15, pos15, af15, q15⟩ := HC.e15
  refine reg_all2 (i0 := 11) (i1 := 15) q11 q15 HC.r211100 (fun K hK => ?_) (fun K hK => ?_)
  · have hFGn : ∀ k, k ∈ FC → k ∉ FG := fun k h => HI.out.1.2.2 k h
    refine wp_appFD _ (.tmp 14) (.tmp 16) _ rfl Tryd.underlying25 eltDirOp flatDirOp rfl rfl HO2.out (HR2.out.mod (w' := W) (B' := (· < w1.heap.size)) (fun _ h => h) (fun i hi => HN.out.block i hi id)) (by simp; omega) ?_
    intro A9 n9 c9 W2 F9 ho2 hF9 hm2
    rw [List.nil_append] at ho2
    have HN2 : Sec (New w1 W2) := ⟨HN.out.trans hm2 (fun k hk hlt => by have := (HI.out.2 k (Or.inr (Or.inr (Or.inl hk)))).1; omega)⟩
    have hI2 : In4B w1.heap.size W2 FA FB F9 FG := in4_app2 HI.out HN.out.size hm2.size (fun k hk => ho2.lt k hk) hF9
    exact hK.out _ _ (fun _ => HN2) (cp_311100 HC HR0 HR1 HR2 hl0 hl1 hl2 HQ HN2 ⟨hI2⟩ ⟨HO0.out.keep hm2 (fun k hk h => (HI.out.1.1 k hk).2.1 h)⟩ ⟨HO1.out.keep hm2 (fun k hk h => (HI.out.1.2.1 k hk).1 h)⟩ ⟨ho2⟩)
  · have hma : New W (W.alloc (.cells zDisk.toArray 27)) := (Mod.refl _ _).alloc _
    have HN2 : Sec (New w1 (W.alloc (.cells zDisk.toArray 27))) := ⟨HN.out.transN hma⟩
    have hI2 : In4B w1.heap.size (W.alloc (.cells zDisk.toArray 27)) FA FB FC [W.heap.size] := in4_newG HI.out HN.out.size
    refine wp_valw (n := 3) (v := .pointer (some ⟨W.heap.size, 0, none⟩)) (w' := W.alloc (.cells zDisk.toArray 27)) (exec_allocDisk rfl) rfl ?_
    exact hK.out _ _ (fun _ => HN2) (cp_211110 HC HR0 HR1 HR2 hl0 hl1 hl2 HQ HN2 ⟨hI2⟩ ⟨HO0.out.keep hma (fun _ _ h => h)⟩ ⟨HO1.out.keep hma (fun _ _ h => h)⟩ ⟨HO2.out.keep hma (fun _ _ h => h)⟩ ⟨Blk.new W 27 zDisk⟩ rfl)
set_option maxHeartbeats 2000000 in
set_option maxRecDepth 100000 in
theorem cp_011110 {ops : Array Oper} (HC : CpOps ops) {x0 : Value} {g1 g2 : Nat} {A1 A2 A3 : Option Addr} {n1 c1 n2 c2 n3 c3 : Nat} {q : Int} {xs0 xs1 : EntryST} {xs2 : DirOpST} {w1 : World} {Q : Exit → Act → World → Prop} (HR0 : Sec (Row dEntry w1 (· < w1.heap.size) A1 n1 xs0)) (HR1 : Sec (Row dEntry w1 (· < w1.heap.size) A2 n2 xs1)) (HR2 : Sec (Row dDirOp w1 (· < w1.heap.size) A3 n3 xs2)) (hl0 : xs0.length ≤ 1048576) (hl1 : xs1.length ≤ 1048576) (hl2 : xs2.length ≤ 1048576) (HQ : Sec (∀ (g3 : Nat) (R0 R1 R2 : Option Addr) (m0 e0 m1 e1 m2 e2 : Nat) (u6 u10 u14 u20 : Value) (W : World) (FA FB FC : List Nat), New w1 W → In4B w1.heap.size W FA FB FC [g3] → Own dEntry 37 W FA (.slice R0 m0 e0) xs0 → Own dEntry 37 W FB (.slice R1 m1 e1) xs1 → Own dDirOp 66 W FC (.slice R2 m2 e2) xs2 → Blk W g3 27 [.slice none 0 0, .slice none 0 0, .slice none 0 0, .slice none 0 0, .int .i64 0] → Q .normal (cpAct x0 g1 g2 A1 A2 A3 n1 c1 n2 c2 n3 c3 q (.pointer (some ⟨g3, 0, none⟩)) u6 (.slice R0 m0 e0) u10 (.slice R1 m1 e1) u14 (.slice R2 m2 e2) u20) (set5 W g3 (.slice none 0 0) (.slice R0 m0 e0) (.slice R1 m1 e1) (.slice R2 m2 e2) (.int .i64 q)))) {W : World} {FA FB FC FG : List Nat} (HN : Sec (New w1 W)) (HI : Sec (In4B w1.heap.size W FA FB FC FG)) {B0 : Option Addr} (HO0 : Sec (Own dEntry 37 W FA (.slice B0 0 0) [])) {B1 : Option Addr} (HO1 : Sec (Own dEntry 37 W FB (.slice B1 0 0) [])) {B2 : Option Addr} (HO2 : Sec (Own dDirOp 66 W FC (.slice B2 0 0) [])) {g3 : Nat} (HB3 : Sec (Blk W g3 27 [.slice none 0 0, .slice none 0 0, .slice none 0 0, .slice none 0 0, .int .i64 0])) (hFG : FG = [g3]) {u9 u13 u17 u20 : Value} : RegR Tryd.prog .any ops Q [16] (fun W => Sec (New w1 W)) 5 #[true, true, true, false, true, true, true, false, true, true, true, false, true, true, false, true, false] (cpAct x0 g1 g2 A1 A2 A3 n1 c1 n2 c2 n3 c3 q (.pointer (some ⟨g3, 0, none⟩)) (.slice B0 0 0) (u9) (.slice B1 0 0) (u13) (.slice B2 0 0) (u17) (u20)) W := by
  obtain ⟨ty3, pos3, af3, q3⟩ := HC.e3
  refine reg_step (i := 3) q3 HC.r011110 (fun K hK => ?_)
  have hFGn : ∀ k, k ∈ FA → k ∉ FG := fun k h => (HI.out.1.1 k h).2.2
  refine wp_appFD _ (.tmp 6) (.tmp 8) _ rfl Tryd.underlying24 elt_entry flatEntry rfl rfl HO0.out (HR0.out.mod (w' := W) (B' := (· < w1.heap.size)) (fun _ h => h) (fun i hi => HN.out.block i hi id)) (by simp; omega) ?_
  intro A9 n9 c9 W2 F9 ho2 hF9 hm2
  rw [List.nil_append] at ho2
  have HN2 : Sec (New w1 W2) := ⟨HN.out.trans hm2 (fun k hk hlt => by have := (HI.out.2 k (Or.inl hk)).1; omega)⟩
  have hI2 : In4B w1.heap.size W2 F9 FB FC FG := in4_app0 HI.out HN.out.size hm2.size (fun k hk => ho2.lt k hk) hF9
  exact hK.out _ _ (fun _ => HN2) (cp_111110 HC HR0 HR1 HR2 hl0 hl1 hl2 HQ HN2 ⟨hI2⟩ ⟨ho2⟩ ⟨HO1.out.keep hm2 (fun k hk h => (HI.out.1.1 k h).1 hk)⟩ ⟨HO2.out.keep hm2 (fun k hk h => (HI.out.1.1 k h).2.1 hk)⟩ ⟨HB3.out.mod hm2 (fun h => hFGn g3 h (by rw [hFG]; simp))⟩ hFG)
set_option maxHeartbeats 2000000 in
set_option maxRecDepth 100000 in
theorem cp_110110 {ops : Array Oper} (HC : CpOps ops) {x0 : Value} {g1 g2 : Nat} {A1 A2 A3 : Option Addr} {n1 c1 n2 c2 n3 c3 : Nat} {q : Int} {xs0 xs1 : EntryST} {xs2 : DirOpST} {w1 : World} {Q : Exit → Act → World → Prop} (HR0 : Sec (Row dEntry w1 (· < w1.heap.size) A1 n1 xs0)) (HR1 : Sec (Row dEntry w1 (· < w1.heap.size) A2 n2 xs1)) (HR2 : Sec (Row dDirOp w1 (· < w1.heap.size) A3 n3 xs2)) (hl0 : xs0.length ≤ 1048576) (hl1 : xs1.length ≤ 1048576) (hl2 : xs2.length ≤ 1048576) (HQ : Sec (∀ (g3 : Nat) (R0 R1 R2 : Option Addr) (m0 e0 m1 e1 m2 e2 : Nat) (u6 u10 u14 u20 : Value) (W : World) (FA FB FC : List Nat), New w1 W → In4B w1.heap.size W FA FB FC [g3] → Own dEntry 37 W FA (.slice R0 m0 e0) xs0 → Own dEntry 37 W FB (.slice R1 m1 e1) xs1 → Own dDirOp 66 W FC (.slice R2 m2 e2) xs2 → Blk W g3 27 [.slice none 0 0, .slice none 0 0, .slice none 0 0, .slice none 0 0, .int .i64 0] → Q .normal (cpAct x0 g1 g2 A1 A2 A3 n1 c1 n2 c2 n3 c3 q (.pointer (some ⟨g3, 0, none⟩)) u6 (.slice R0 m0 e0) u10 (.slice R1 m1 e1) u14 (.slice R2 m2 e2) u20) (set5 W g3 (.slice none 0 0) (.slice R0 m0 e0) (.slice R1 m1 e1) (.slice R2 m2 e2) (.int .i64 q)))) {W : World} {FA FB FC FG : List Nat} (HN : Sec (New w1 W)) (HI : Sec (In4B w1.heap.size W FA FB FC FG)) {R0 : Option Addr} {m0 e0 : Nat} (HO0 : Sec (Own dEntry 37 W FA (.slice R0 m0 e0) xs0)) {B2 : Option Addr} (HO2 : Sec (Own dDirOp 66 W FC (.slice B2 0 0) [])) {g3 : Nat} (HB3 : Sec (Blk W g3 27 [.slice none 0 0, .slice none 0 0, .slice none 0 0, .slice none 0 0, .int .i64 0])) (hFG : FG = [g3]) {u6 u10 u13 u17 u20 : Value} : RegR Tryd.prog .any ops Q [16] (fun W => Sec (New w1 W)) 5 #[true, true, true, true, false, true, true, false, true, true, true, false, true, true, false, true, false] (cpAct x0 g1 g2 A1 A2 A3 n1 c1 n2 c2 n3 c3 q (.pointer (some ⟨g3, 0, none⟩)) (u6) (.slice R0 m0 e0) (u10) (u13) (.slice B2 0 0) (u17) (u20)) W := by
  obtain ⟨ty4, pos4, af4, q4⟩ := HC.e4
  refine reg_step (i := 4) q4 HC.r110110 (fun K hK => ?_)
  have hma : New W (W.alloc (.cells #[] 37)) := (Mod.refl _ _).alloc _
  have HN2 : Sec (New w1 (W.alloc (.cells #[] 37))) := ⟨HN.out.transN hma⟩
  have hI2 : In4B w1.heap.size (W.alloc (.cells #[] 37)) FA [W.heap.size] FC FG := in4_new1 HI.out HN.out.size
  refine wp_valw (n := 10) (v := .slice (some ⟨W.heap.size, 0, none⟩) 0 0) (w' := W.alloc (.cells #[] 37)) (exec_buildSlice (parts := []) (vs := []) rfl rfl (buildEnt0 _)) rfl ?_
  exact hK.out _ _ (fun _ => HN2) (cp_111110 HC HR0 HR1 HR2 hl0 hl1 hl2 HQ HN2 ⟨hI2⟩ ⟨HO0.out.keep hma (fun _ _ h => h)⟩ ⟨Own.empty0 _ _ _⟩ ⟨HO2.out.keep hma (fun _ _ h => h)⟩ ⟨HB3.out.mod hma id⟩ hFG)
set_option maxHeartbeats 2000000 in
set_option maxRecDepth 100000 in
theorem cp_111010 {ops : Array Oper} (HC : CpOps ops) {x0 : Value} {g1 g2 : Nat} {A1 A2 A3 : Option Addr} {n1 c1 n2 c2 n3 c3 : Nat} {q : Int} {xs0 xs1 : EntryST} {xs2 : DirOpST} {w1 : World} {Q : Exit → Act → World → Prop} (HR0 : Sec (Row dEntry w1 (· < w1.heap.size) A1 n1 xs0)) (HR1 : Sec (Row dEntry w1 (· < w1.heap.size) A2 n2 xs1)) (HR2 : Sec (Row dDirOp w1 (· < w1.heap.size) A3 n3 xs2)) (hl0 : xs0.length ≤ 1048576) (hl1 : xs1.length ≤ 1048576) (hl2 : xs2.length ≤ 1048576) (HQ : Sec (∀ (g3 : Nat) (R0 R1 R2 : Option Addr) (m0 e0 m1 e1 m2 e2 : Nat) (u6 u10 u14 u20 : Value) (W : World) (FA FB FC : List Nat), New w1 W → In4B w1.heap.size W FA FB FC [g3] → Own dEntry 37 W FA (.slice R0 m0 e0) xs0 → Own dEntry 37 W FB (.slice R1 m1 e1) xs1 → Own dDirOp 66 W FC (.slice R2 m2 e2) xs2 → Blk W g3 27 [.slice none 0 0, .slice none 0 0, .slice none 0 0, .slice none 0 0, .int .i64 0] → Q .normal (cpAct x0 g1 g2 A1 A2 A3 n1 c1 n2 c2 n3 c3 q (.pointer (some ⟨g3, 0, none⟩)) u6 (.slice R0 m0 e0) u10 (.slice R1 m1 e1) u14 (.slice R2 m2 e2) u20) (set5 W g3 (.slice none 0 0) (.slice R0 m0 e0) (.slice R1 m1 e1) (.slice R2 m2 e2) (.int .i64 q)))) {W : World} {FA FB FC FG : List Nat} (HN : Sec (New w1 W)) (HI : Sec (In4B w1.heap.size W FA FB FC FG)) {R0 : Option Addr} {m0 e0 : Nat} (HO0 : Sec (Own dEntry 37 W FA (.slice R0 m0 e0) xs0)) {B1 : Option Addr} (HO1 : Sec (Own dEntry 37 W FB (.slice B1 0 0) [])) {g3 : Nat} (HB3 : Sec (Blk W g3 27 [.slice none 0 0, .slice none 0 0, .slice none 0 0, .slice none 0 0, .int .i64 0])) (hFG : FG = [g3]) {u6 u13 u14 u17 u20 : Value} : RegR Tryd.prog .any ops Q [16] (fun W => Sec (New w1 W)) 5 #[true, true, true, true, true, true, true, false, false, true, true, false, true, true, false, true, false] (cpAct x0 g1 g2 A1 A2 A3 n1 c1 n2 c2 n3 c3 q (.pointer (some ⟨g3, 0, none⟩)) (u6) (.slice R0 m0 e0) (.slice B1 0 0) (u13) (u14) (u17) (u20)) W := by
  obtain ⟨ty7, pos7, af7, q7⟩ := HC.e7
  obtain ⟨ty8, pos8, af8, q8⟩ := HC.e8
  refine reg_all2 (i0 := 7) (i1 := 8) q7 q8 HC.r111010 (fun K hK => ?_) (fun K hK => ?_)
  · have hFGn : ∀ k, k ∈ FB → k ∉ FG := fun k h => (HI.out.1.2.1 k h).2
    refine wp_appFD _ (.tmp 10) (.tmp 12) _ rfl Tryd.underlying24 elt_entry flatEntry rfl rfl HO1.out (HR1.out.mod (w' := W) (B' := (· < w1.heap.size)) (fun _ h => h) (fun i hi => HN.out.block i hi id)) (by simp; omega) ?_
    intro A9 n9 c9 W2 F9 ho2 hF9 hm2
    rw [List.nil_append] at ho2
    have HN2 : Sec (New w1 W2) := ⟨HN.out.trans hm2 (fun k hk hlt => by have := (HI.out.2 k (Or.inr (Or.inl hk))).1; omega)⟩
    have hI2 : In4B w1.heap.size W2 FA F9 FC FG := in4_app1 HI.out HN.out.size hm2.size (fun k hk => ho2.lt k hk) hF9
    exact hK.out _ _ (fun _ => HN2) (cp_211010 HC HR0 HR1 HR2 hl0 hl1 hl2 HQ HN2 ⟨hI2⟩ ⟨HO0.out.keep hm2 (fun k hk h => (HI.out.1.1 k hk).1 h)⟩ ⟨ho2⟩ ⟨HB3.out.mod hm2 (fun h => hFGn g3 h (by rw [hFG]; simp))⟩ hFG)
  · have hma : New W (W.alloc (.cells #[] 66)) := (Mod.refl _ _).alloc _
    have HN2 : Sec (New w1 (W.alloc (.cells #[] 66))) := ⟨HN.out.transN hma⟩
    have hI2 : In4B w1.heap.size (W.alloc (.cells #[] 66)) FA FB [W.heap.size] FG := in4_new2 HI.out HN.out.size
    refine wp_valw (n := 14) (v := .slice (some ⟨W.heap.size, 0, none⟩) 0 0) (w' := W.alloc (.cells #[] 66)) (exec_buildSlice (parts := []) (vs := []) rfl rfl (bldDop0I _)) rfl ?_
    exact hK.out _ _ (fun _ => HN2) (cp_111110 HC HR0 HR1 HR2 hl0 hl1 hl2 HQ HN2 ⟨hI2⟩ ⟨HO0.out.keep hma (fun _ _ h => h)⟩ ⟨HO1.out.keep hma (fun _ _ h => h)⟩ ⟨Own.empty0 _ _ _⟩ ⟨HB3.out.mod hma id⟩ hFG)
set_option maxHeartbeats 2000000 in
set_option maxRecDepth 100000 in
theorem cp_111100 {ops : Array Oper} (HC : CpOps ops) {x0 : Value} {g1 g2 : Nat} {A1 A2 A3 : Option Addr} {n1 c1 n2 c2 n3 c3 : Nat} {q : Int} {xs0 xs1 : EntryST} {xs2 : DirOpST} {w1 : World} {Q : Exit → Act → World → Prop} (HR0 : Sec (Row dEntry w1 (· < w1.heap.size) A1 n1 xs0)) (HR1 : Sec (Row dEntry w1 (· < w1.heap.size) A2 n2 xs1)) (HR2 : Sec (Row dDirOp w1 (· < w1.heap.size) A3 n3 xs2)) (hl0 : xs0.length ≤ 1048576) (hl1 : xs1.length ≤ 1048576) (hl2 : xs2.length ≤ 1048576) (HQ : Sec (∀ (g3 : Nat) (R0 R1 R2 : Option Addr) (m0 e0 m1 e1 m2 e2 : Nat) (u6 u10 u14 u20 : Value) (W : World) (FA FB FC : List Nat), New w1 W → In4B w1.heap.size W FA FB FC [g3] → Own dEntry 37 W FA (.slice R0 m0 e0) xs0 → Own dEntry 37 W FB (.slice R1 m1 e1) xs1 → Own dDirOp 66 W FC (.slice R2 m2 e2) xs2 → Blk W g3 27 [.slice none 0 0, .slice none 0 0, .slice none 0 0, .slice none 0 0, .int .i64 0] → Q .normal (cpAct x0 g1 g2 A1 A2 A3 n1 c1 n2 c2 n3 c3 q (.pointer (some ⟨g3, 0, none⟩)) u6 (.slice R0 m0 e0) u10 (.slice R1 m1 e1) u14 (.slice R2 m2 e2) u20) (set5 W g3 (.slice none 0 0) (.slice R0 m0 e0) (.slice R1 m1 e1) (.slice R2 m2 e2) (.int .i64 q)))) {W : World} {FA FB FC FG : List Nat} (HN : Sec (New w1 W)) (HI : Sec (In4B w1.heap.size W FA FB FC FG)) {R0 : Option Addr} {m0 e0 : Nat} (HO0 : Sec (Own dEntry 37 W FA (.slice R0 m0 e0) xs0)) {B1 : Option Addr} (HO1 : Sec (Own dEntry 37 W FB (.slice B1 0 0) [])) {B2 : Option Addr} (HO2 : Sec (Own dDirOp 66 W FC (.slice B2 0 0) [])) {u3 u6 u13 u17 u20 : Value} : RegR Tryd.prog .any ops Q [16] (fun W => Sec (New w1 W)) 5 #[true, true, true, true, true, true, true, false, true, true, true, false, true, true, false, false, false] (cpAct x0 g1 g2 A1 A2 A3 n1 c1 n2 c2 n3 c3 q (u3) (u6) (.slice R0 m0 e0) (.slice B1 0 0) (u13) (.slice B2 0 0) (u17) (u20)) W := by
  obtain ⟨ty7, pos7, af7, q7⟩ := HC.e7
  obtain ⟨ty15, pos15, af15, q15⟩ := HC.e15
  refine reg_all2 (i0 := 7) (i1 := 15) q7 q15 HC.r111100 (fun K hK => ?_) (fun K hK => ?_)
  · have hFGn : ∀ k, k ∈ FB → k ∉ FG := fun k h => (HI.out.1.2.1 k h).2
    refine wp_appFD _ (.tmp 10) (.tmp 12) _ rfl Tryd.underlying24 elt_entry flatEntry rfl rfl HO1.out (HR1.out.mod (w' := W) (B' := (· < w1.heap.size)) (fun _ h => h) (fun i hi => HN.out.block i hi id)) (by simp; omega) ?_
    intro A9 n9 c9 W2 F9 ho2 hF9 hm2
    rw [List.nil_append] at ho2
    have HN2 : Sec (New w1 W2) := ⟨HN.out.trans hm2 (fun k hk hlt => by have := (HI.out.2 k (Or.inr (Or.inl hk))).1; omega)⟩
    have hI2 : In4B w1.heap.size W2 FA F9 FC FG := in4_app1 HI.out HN.out.size hm2.size (fun k hk => ho2.lt k hk) hF9
    exact hK.out _ _ (fun _ => HN2) (cp_211100 HC HR0 HR1 HR2 hl0 hl1 hl2 HQ HN2 ⟨hI2⟩ ⟨HO0.out.keep hm2 (fun k hk h => (HI.out.1.1 k hk).1 h)⟩ ⟨ho2⟩ ⟨HO2.out.keep hm2 (fun k hk h => (HI.out.1.2.1 k h).1 hk)⟩)
  · have hma : New W (W.alloc (.cells zDisk.toArray 27)) := (Mod.refl _ _).alloc _
    have HN2 : Sec (New w1 (W.alloc (.cells zDisk.toArray 27))) := ⟨HN.out.transN hma⟩
    have hI2 : In4B w1.heap.size (W.alloc (.cells zDisk.toArray 27)) FA FB FC [W.heap.size] := in4_newG HI.out HN.out.size
    refine wp_valw (n := 3) (v := .pointer (some ⟨W.heap.size, 0, none⟩)) (w' := W.alloc (.cells zDisk.toArray 27)) (exec_allocDisk rfl) rfl ?_
    exact hK.out _ _ (fun _ => HN2) (cp_111110 HC HR0 HR1 HR2 hl0 hl1 hl2 HQ HN2 ⟨hI2⟩ ⟨HO0.out.keep hma (fun _ _ h => h)⟩ ⟨HO1.out.keep hma (fun _ _ h => h)⟩ ⟨HO2.out.keep hma (fun _ _ h => h)⟩ ⟨Blk.new W 27 zDisk⟩ rfl)
set_option maxHeartbeats 2000000 in
set_option maxRecDepth 100000 in
theorem cp_211000 {ops : Array Oper} (HC : CpOps ops) {x0 : Value} {g1 g2 : Nat} {A1 A2 A3 : Option Addr} {n1 c1 n2 c2 n3 c3 : Nat} {q : Int} {xs0 xs1 : EntryST} {xs2 : DirOpST} {w1 : World} {Q : Exit → Act → World → Prop} (HR0 : Sec (Row dEntry w1 (· < w1.heap.size) A1 n1 xs0)) (HR1 : Sec (Row dEntry w1 (· < w1.heap.size) A2 n2 xs1)) (HR2 : Sec (Row dDirOp w1 (· < w1.heap.size) A3 n3 xs2)) (hl0 : xs0.length ≤ 1048576) (hl1 : xs1.length ≤ 1048576) (hl2 : xs2.length ≤ 1048576) (HQ : Sec (∀ (g3 : Nat) (R0 R1 R2 : Option Addr) (m0 e0 m1 e1 m2 e2 : Nat) (u6 u10 u14 u20 : Value) (W : World) (FA FB FC : List Nat), New w1 W → In4B w1.heap.size W FA FB FC [g3] → Own dEntry 37 W FA (.slice R0 m0 e0) xs0 → Own dEntry 37 W FB (.slice R1 m1 e1) xs1 → Own dDirOp 66 W FC (.slice R2 m2 e2) xs2 → Blk W g3 27 [.slice none 0 0, .slice none 0 0, .slice none 0 0, .slice none 0 0, .int .i64 0] → Q .normal (cpAct x0 g1 g2 A1 A2 A3 n1 c1 n2 c2 n3 c3 q (.pointer (some ⟨g3, 0, none⟩)) u6 (.slice R0 m0 e0) u10 (.slice R1 m1 e1) u14 (.slice R2 m2 e2) u20) (set5 W g3 (.slice none 0 0) (.slice R0 m0 e0) (.slice R1 m1 e1) (.slice R2 m2 e2) (.int .i64 q)))) {W : World} {FA FB FC FG : List Nat} (HN : Sec (New w1 W)) (HI : Sec (In4B w1.heap.size W FA FB FC FG)) {R0 : Option Addr} {m0 e0 : Nat} (HO0 : Sec (Own dEntry 37 W FA (.slice R0 m0 e0) xs0)) {R1 : Option Addr} {m1 e1 : Nat} (HO1 : Sec (Own dEntry 37 W FB (.slice R1 m1 e1) xs1)) {u3 u6 u10 u14 u17 u20 : Value} : RegR Tryd.prog .any ops Q [16] (fun W => Sec (New w1 W)) 5 #[true, true, true, true, true, true, true, true, false, true, true, false, true, true, false, false, false] (cpAct x0 g1 g2 A1 A2 A3 n1 c1 n2 c2 n3 c3 q (u3) (u6) (.slice R0 m0 e0) (u10) (.slice R1 m1 e1) (u14) (u17) (u20)) W := by
  obtain ⟨ty8, pos8, af8, q8⟩ := HC.e8
  obtain ⟨ty15, pos15, af15, q15⟩ := HC.e15
  refine reg_all2 (i0 := 8) (i1 := 15) q8 q15 HC.r211000 (fun K hK => ?_) (fun K hK => ?_)
  · have hma : New W (W.alloc (.cells #[] 66)) := (Mod.refl _ _).alloc _
    have HN2 : Sec (New w1 (W.alloc (.cells #[] 66))) := ⟨HN.out.transN hma⟩
    have hI2 : In4B w1.heap.size (W.alloc (.cells #[] 66)) FA FB [W.heap.size] FG := in4_new2 HI.out HN.out.size
    refine wp_valw (n := 14) (v := .slice (some ⟨W.heap.size, 0, none⟩) 0 0) (w' := W.alloc (.cells #[] 66)) (exec_buildSlice (parts := []) (vs := []) rfl rfl (bldDop0I _)) rfl ?_
    exact hK.out _ _ (fun _ => HN2) (cp_211100 HC HR0 HR1 HR2 hl0 hl1 hl2 HQ HN2 ⟨hI2⟩ ⟨HO0.out.keep hma (fun _ _ h => h)⟩ ⟨HO1.out.keep hma (fun _ _ h => h)⟩ ⟨Own.empty0 _ _ _⟩)
  · have hma : New W (W.alloc (.cells zDisk.toArray 27)) := (Mod.refl _ _).alloc _
    have HN2 : Sec (New w1 (W.alloc (.cells zDisk.toArray 27))) := ⟨HN.out.transN hma⟩
    have hI2 : In4B w1.heap.size (W.alloc (.cells zDisk.toArray 27)) FA FB FC [W.heap.size] := in4_newG HI.out HN.out.size
    refine wp_valw (n := 3) (v := .pointer (some ⟨W.heap.size, 0, none⟩)) (w' := W.alloc (.cells zDisk.toArray 27)) (exec_allocDisk rfl) rfl ?_
    exact hK.out _ _ (fun _ => HN2) (cp_211010 HC HR0 HR1 HR2 hl0 hl1 hl2 HQ HN2 ⟨hI2⟩ ⟨HO0.out.keep hma (fun _ _ h => h)⟩ ⟨HO1.out.keep hma (fun _ _ h => h)⟩ ⟨Blk.new W 27 zDisk⟩ rfl)
set_option maxHeartbeats 2000000 in
set_option maxRecDepth 100000 in
theorem cp_001110 {ops : Array Oper} (HC : CpOps ops) {x0 : Value} {g1 g2 : Nat} {A1 A2 A3 : Option Addr} {n1 c1 n2 c2 n3 c3 : Nat} {q : Int} {xs0 xs1 : EntryST} {xs2 : DirOpST} {w1 : World} {Q : Exit → Act → World → Prop} (HR0 : Sec (Row dEntry w1 (· < w1.heap.size) A1 n1 xs0)) (HR1 : Sec (Row dEntry w1 (· < w1.heap.size) A2 n2 xs1)) (HR2 : Sec (Row dDirOp w1 (· < w1.heap.size) A3 n3 xs2)) (hl0 : xs0.length ≤ 1048576) (hl1 : xs1.length ≤ 1048576) (hl2 : xs2.length ≤ 1048576) (HQ : Sec (∀ (g3 : Nat) (R0 R1 R2 : Option Addr) (m0 e0 m1 e1 m2 e2 : Nat) (u6 u10 u14 u20 : Value) (W : World) (FA FB FC : List Nat), New w1 W → In4B w1.heap.size W FA FB FC [g3] → Own dEntry 37 W FA (.slice R0 m0 e0) xs0 → Own dEntry 37 W FB (.slice R1 m1 e1) xs1 → Own dDirOp 66 W FC (.slice R2 m2 e2) xs2 → Blk W g3 27 [.slice none 0 0, .slice none 0 0, .slice none 0 0, .slice none 0 0, .int .i64 0] → Q .normal (cpAct x0 g1 g2 A1 A2 A3 n1 c1 n2 c2 n3 c3 q (.pointer (some ⟨g3, 0, none⟩)) u6 (.slice R0 m0 e0) u10 (.slice R1 m1 e1) u14 (.slice R2 m2 e2) u20) (set5 W g3 (.slice none 0 0) (.slice R0 m0 e0) (.slice R1 m1 e1) (.slice R2 m2 e2) (.int .i64 q)))) {W : World} {FA FB FC FG : List Nat} (HN : Sec (New w1 W)) (HI : Sec (In4B w1.heap.size W FA FB FC FG)) {B1 : Option Addr} (HO1 : Sec (Own dEntry 37 W FB (.slice B1 0 0) [])) {B2 : Option Addr} (HO2 : Sec (Own dDirOp 66 W FC (.slice B2 0 0) [])) {g3 : Nat} (HB3 : Sec (Blk W g3 27 [.slice none 0 0, .slice none 0 0, .slice none 0 0, .slice none 0 0, .int .i64 0])) (hFG : FG = [g3]) {u6 u9 u13 u17 u20 : Value} : RegR Tryd.prog .any ops Q [16] (fun W => Sec (New w1 W)) 6 #[false, true, true, false, true, true, true, false, true, true, true, false, true, true, false, true, false] (cpAct x0 g1 g2 A1 A2 A3 n1 c1 n2 c2 n3 c3 q (.pointer (some ⟨g3, 0, none⟩)) (u6) (u9) (.slice B1 0 0) (u13) (.slice B2 0 0) (u17) (u20)) W := by
  obtain ⟨ty0, pos0, af0, q0⟩ := HC.e0
  refine reg_step (i := 0) q0 HC.r001110 (fun K hK => ?_)
  have hma : New W (W.alloc (.cells #[] 37)) := (Mod.refl _ _).alloc _
  have HN2 : Sec (New w1 (W.alloc (.cells #[] 37))) := ⟨HN.out.transN hma⟩
  have hI2 : In4B w1.heap.size (W.alloc (.cells #[] 37)) [W.heap.size] FB FC FG := in4_new0 HI.out HN.out.size
  refine wp_valw (n := 6) (v := .slice (some ⟨W.heap.size, 0, none⟩) 0 0) (w' := W.alloc (.cells #[] 37)) (exec_buildSlice (parts := []) (vs := []) rfl rfl (buildEnt0 _)) rfl ?_
  exact hK.out _ _ (fun _ => HN2) (cp_011110 HC HR0 HR1 HR2 hl0 hl1 hl2 HQ HN2 ⟨hI2⟩ ⟨Own.empty0 _ _ _⟩ ⟨HO1.out.keep hma (fun _ _ h => h)⟩ ⟨HO2.out.keep hma (fun _ _ h => h)⟩ ⟨HB3.out.mod hma id⟩ hFG)
set_option maxHeartbeats 2000000 in
set_option maxRecDepth 100000 in
theorem cp_010110 {ops : Array Oper} (HC : CpOps ops) {x0 : Value} {g1 g2 : Nat} {A1 A2 A3 : Option Addr} {n1 c1 n2 c2 n3 c3 : Nat} {q : Int} {xs0 xs1 : EntryST} {xs2 : DirOpST} {w1 : World} {Q : Exit → Act → World → Prop} (HR0 : Sec (Row dEntry w1 (· < w1.heap.size) A1 n1 xs0)) (HR1 : Sec (Row dEntry w1 (· < w1.heap.size) A2 n2 xs1)) (HR2 : Sec (Row dDirOp w1 (· < w1.heap.size) A3 n3 xs2)) (hl0 : xs0.length ≤ 1048576) (hl1 : xs1.length ≤ 1048576) (hl2 : xs2.length ≤ 1048576) (HQ : Sec (∀ (g3 : Nat) (R0 R1 R2 : Option Addr) (m0 e0 m1 e1 m2 e2 : Nat) (u6 u10 u14 u20 : Value) (W : World) (FA FB FC : List Nat), New w1 W → In4B w1.heap.size W FA FB FC [g3] → Own dEntry 37 W FA (.slice R0 m0 e0) xs0 → Own dEntry 37 W FB (.slice R1 m1 e1) xs1 → Own dDirOp 66 W FC (.slice R2 m2 e2) xs2 → Blk W g3 27 [.slice none 0 0, .slice none 0 0, .slice none 0 0, .slice none 0 0, .int .i64 0] → Q .normal (cpAct x0 g1 g2 A1 A2 A3 n1 c1 n2 c2 n3 c3 q (.pointer (some ⟨g3, 0, none⟩)) u6 (.slice R0 m0 e0) u10 (.slice R1 m1 e1) u14 (.slice R2 m2 e2) u20) (set5 W g3 (.slice none 0 0) (.slice R0 m0 e0) (.slice R1 m1 e1) (.slice R2 m2 e2) (.int .i64 q)))) {W : World} {FA FB FC FG : List Nat} (HN : Sec (New w1 W)) (HI : Sec (In4B w1.heap.size W FA FB FC FG)) {B0 : Option Addr} (HO0 : Sec (Own dEntry 37 W FA (.slice B0 0 0) [])) {B2 : Option Addr} (HO2 : Sec (Own dDirOp 66 W FC (.slice B2 0 0) [])) {g3 : Nat} (HB3 : Sec (Blk W g3 27 [.slice none 0 0, .slice none 0 0, .slice none 0 0, .slice none 0 0, .int .i64 0])) (hFG : FG = [g3]) {u9 u10 u13 u17 u20 : Value} : RegR Tryd.prog .any ops Q [16] (fun W => Sec (New w1 W)) 6 #[true, true, true, false, false, true, true, false, true, true, true, false, true, true, false, true, false] (cpAct x0 g1 g2 A1 A2 A3 n1 c1 n2 c2 n3 c3 q (.pointer (some ⟨g3, 0, none⟩)) (.slice B0 0 0) (u9) (u10) (u13) (.slice B2 0 0) (u17) (u20)) W := by
  obtain ⟨ty3, pos3, af3, q3⟩ := HC.e3
  obtain ⟨ty4, pos4, af4, q4⟩ := HC.e4
  refine reg_all2 (i0 := 3) (i1 := 4) q3 q4 HC.r010110 (fun K hK => ?_) (fun K hK => ?_)
  · have hFGn : ∀ k, k ∈ FA → k ∉ FG := fun k h => (HI.out.1.1 k h).2.2
    refine wp_appFD _ (.tmp 6) (.tmp 8) _ rfl Tryd.underlying24 elt_entry flatEntry rfl rfl HO0.out (HR0.out.mod (w' := W) (B' := (· < w1.heap.size)) (fun _ h => h) (fun i hi => HN.out.block i hi id)) (by simp; omega) ?_
    intro A9 n9 c9 W2 F9 ho2 hF9 hm2
    rw [List.nil_append] at ho2
    have HN2 : Sec (New w1 W2) := ⟨HN.out.trans hm2 (fun k hk hlt => by have := (HI.out.2 k (Or.inl hk)).1; omega)⟩
    have hI2 : In4B w1.heap.size W2 F9 FB FC FG := in4_app0 HI.out HN.out.size hm2.size (fun k hk => ho2.lt k hk) hF9
    exact hK.out _ _ (fun _ => HN2) (cp_110110 HC HR0 HR1 HR2 hl0 hl1 hl2 HQ HN2 ⟨hI2⟩ ⟨ho2⟩ ⟨HO2.out.keep hm2 (fun k hk h => (HI.out.1.1 k h).2.1 hk)⟩ ⟨HB3.out.mod hm2 (fun h => hFGn g3 h (by rw [hFG]; simp))⟩ hFG)
  · have hma : New W (W.alloc (.cells #[] 37)) := (Mod.refl _ _).alloc _
    have HN2 : Sec (New w1 (W.alloc (.cells #[] 37))) := ⟨HN.out.transN hma⟩
    have hI2 : In4B w1.heap.size (W.alloc (.cells #[] 37)) FA [W.heap.size] FC FG := in4_new1 HI.out HN.out.size
    refine wp_valw (n := 10) (v := .slice (some ⟨W.heap.size, 0, none⟩) 0 0) (w' := W.alloc (.cells #[] 37)) (exec_buildSlice (parts := []) (vs := []) rfl rfl (buildEnt0 _)) rfl ?_
    exact hK.out _ _ (fun _ => HN2) (cp_011110 HC HR0 HR1 HR2 hl0 hl1 hl2 HQ HN2 ⟨hI2⟩ ⟨HO0.out.keep hma (fun _ _ h => h)⟩ ⟨Own.empty0 _ _ _⟩ ⟨HO2.out.keep hma (fun _ _ h => h)⟩ ⟨HB3.out.mod hma id⟩ hFG)
set_option maxHeartbeats 2000000 in
set_option maxRecDepth 100000 in
theorem cp_011010 {ops : Array Oper} (HC : CpOps ops) {x0 : Value} {g1 g2 : Nat} {A1 A2 A3 : Option Addr} {n1 c1 n2 c2 n3 c3 : Nat} {q : Int} {xs0 xs1 : EntryST} {xs2 : DirOpST} {w1 : World} {Q : Exit → Act → World → Prop} (HR0 : Sec (Row dEntry w1 (· < w1.heap.size) A1 n1 xs0)) (HR1 : Sec (Row dEntry w1 (· < w1.heap.size) A2 n2 xs1)) (HR2 : Sec (Row dDirOp w1 (· < w1.heap.size) A3 n3 xs2)) (hl0 : xs0.length ≤ 1048576) (hl1 : xs1.length ≤ 1048576) (hl2 : xs2.length ≤ 1048576) (HQ : Sec (∀ (g3 : Nat) (R0 R1 R2 : Option Addr) (m0 e0 m1 e1 m2 e2 : Nat) (u6 u10 u14 u20 : Value) (W : World) (FA FB FC : List Nat), New w1 W → In4B w1.heap.size W FA FB FC [g3] → Own dEntry 37 W FA (.slice R0 m0 e0) xs0 → Own dEntry 37 W FB (.slice R1 m1 e1) xs1 → Own dDirOp 66 W FC (.slice R2 m2 e2) xs2 → Blk W g3 27 [.slice none 0 0, .slice none 0 0, .slice none 0 0, .slice none 0 0, .int .i64 0] → Q .normal (cpAct x0 g1 g2 A1 A2 A3 n1 c1 n2 c2 n3 c3 q (.pointer (some ⟨g3, 0, none⟩)) u6 (.slice R0 m0 e0) u10 (.slice R1 m1 e1) u14 (.slice R2 m2 e2) u20) (set5 W g3 (.slice none 0 0) (.slice R0 m0 e0) (.slice R1 m1 e1) (.slice R2 m2 e2) (.int .i64 q)))) {W : World} {FA FB FC FG : List Nat} (HN : Sec (New w1 W)) (HI : Sec (In4B w1.heap.size W FA FB FC FG)) {B0 : Option Addr} (HO0 : Sec (Own dEntry 37 W FA (.slice B0 0 0) [])) {B1 : Option Addr} (HO1 : Sec (Own dEntry 37 W FB (.slice B1 0 0) [])) {g3 : Nat} (HB3 : Sec (Blk W g3 27 [.slice none 0 0, .slice none 0 0, .slice none 0 0, .slice none 0 0, .int .i64 0])) (hFG : FG = [g3]) {u9 u13 u14 u17 u20 : Value} : RegR Tryd.prog .any ops Q [16] (fun W => Sec (New w1 W)) 6 #[true, true, true, false, true, true, true, false, false, true, true, false, true, true, false, true, false] (cpAct x0 g1 g2 A1 A2 A3 n1 c1 n2 c2 n3 c3 q (.pointer (some ⟨g3, 0, none⟩)) (.slice B0 0 0) (u9) (.slice B1 0 0) (u13) (u14) (u17) (u20)) W := by
  obtain ⟨ty3, pos3, af3, q3⟩ := HC.e3
  obtain ⟨ty8, pos8, af8, q8⟩ := HC.e8
  refine reg_all2 (i0 := 3) (i1 := 8) q3 q8 HC.r011010 (fun K hK => ?_) (fun K hK => ?_)
  · have hFGn : ∀ k, k ∈ FA → k ∉ FG := fun k h => (HI.out.1.1 k h).2.2
    refine wp_appFD _ (.tmp 6) (.tmp 8) _ rfl Tryd.underlying24 elt_entry flatEntry rfl rfl HO0.out (HR0.out.mod (w' := W) (B' := (· < w1.heap.size)) (fun _ h => h) (fun i hi => HN.out.block i hi id)) (by simp; omega) ?_
    intro A9 n9 c9 W2 F9 ho2 hF9 hm2
    rw [List.nil_append] at ho2
    have HN2 : Sec (New w1 W2) := ⟨HN.out.trans hm2 (fun k hk hlt => by have := (HI.out.2 k (Or.inl hk)).1; omega)⟩
    have hI2 : In4B w1.heap.size W2 F9 FB FC FG := in4_app0 HI.out HN.out.size hm2.size (fun k hk => ho2.lt k hk) hF9
    exact hK.out _ _ (fun _ => HN2) (cp_111010 HC HR0 HR1 HR2 hl0 hl1 hl2 HQ HN2 ⟨hI2⟩ ⟨ho2⟩ ⟨HO1.out.keep hm2 (fun k hk h => (HI.out.1.1 k h).1 hk)⟩ ⟨HB3.out.mod hm2 (fun h => hFGn g3 h (by rw [hFG]; simp))⟩ hFG)
  · have hma : New W (W.alloc (.cells #[] 66)) := (Mod.refl _ _).alloc _
    have HN2 : Sec (New w1 (W.alloc (.cells #[] 66))) := ⟨HN.out.transN hma⟩
    have hI2 : In4B w1.heap.size (W.alloc (.cells #[] 66)) FA FB [W.heap.size] FG := in4_new2 HI.out HN.out.size
    refine wp_valw (n := 14) (v := .slice (some ⟨W.heap.size, 0, none⟩) 0 0) (w' := W.alloc (.cells #[] 66)) (exec_buildSlice (parts := []) (vs := []) rfl rfl (bldDop0I _)) rfl ?_
    exact hK.out _ _ (fun _ => HN2) (cp_011110 HC HR0 HR1 HR2 hl0 hl1 hl2 HQ HN2 ⟨hI2⟩ ⟨HO0.out.keep hma (fun _ _ h => h)⟩ ⟨HO1.out.keep hma (fun _ _ h => h)⟩ ⟨Own.empty0 _ _ _⟩ ⟨HB3.out.mod hma id⟩ hFG)
set_option maxHeartbeats 2000000 in
set_option maxRecDepth 100000 in
theorem cp_011100 {ops : Array Oper} (HC : CpOps ops) {x0 : Value} {g1 g2 : Nat} {A1 A2 A3 : Option Addr} {n1 c1 n2 c2 n3 c3 : Nat} {q : Int} {xs0 xs1 : EntryST} {xs2 : DirOpST} {w1 : World} {Q : Exit → Act → World → Prop} (HR0 : Sec (Row dEntry w1 (· < w1.heap.size) A1 n1 xs0)) (HR1 : Sec (Row dEntry w1 (· < w1.heap.size) A2 n2 xs1)) (HR2 : Sec (Row dDirOp w1 (· < w1.heap.size) A3 n3 xs2)) (hl0 : xs0.length ≤ 1048576) (hl1 : xs1.length ≤ 1048576) (hl2 : xs2.length ≤ 1048576) (HQ : Sec (∀ (g3 : Nat) (R0 R1 R2 : Option Addr) (m0 e0 m1 e1 m2 e2 : Nat) (u6 u10 u14 u20 : Value) (W : World) (FA FB FC : List Nat), New w1 W → In4B w1.heap.size W FA FB FC [g3] → Own dEntry 37 W FA (.slice R0 m0 e0) xs0 → Own dEntry 37 W FB (.slice R1 m1 e1) xs1 → Own dDirOp 66 W FC (.slice R2 m2 e2) xs2 → Blk W g3 27 [.slice none 0 0, .slice none 0 0, .slice none 0 0, .slice none 0 0, .int .i64 0] → Q .normal (cpAct x0 g1 g2 A1 A2 A3 n1 c1 n2 c2 n3 c3 q (.pointer (some ⟨g3, 0, none⟩)) u6 (.slice R0 m0 e0) u10 (.slice R1 m1 e1) u14 (.slice R2 m2 e2) u20) (set5 W g3 (.slice none 0 0) (.slice R0 m0 e0) (.slice R1 m1 e1) (.slice R2 m2 e2) (.int .i64 q)))) {W : World} {FA FB FC FG : List Nat} (HN : Sec (New w1 W)) (HI : Sec (In4B w1.heap.size W FA FB FC FG)) {B0 : Option Addr} (HO0 : Sec (Own dEntry 37 W FA (.slice B0 0 0) [])) {B1 : Option Addr} (HO1 : Sec (Own dEntry 37 W FB (.slice B1 0 0) [])) {B2 : Option Addr} (HO2 : Sec (Own dDirOp 66 W FC (.slice B2 0 0) [])) {u3 u9 u13 u17 u20 : Value} : RegR Tryd.prog .any ops Q [16] (fun W => Sec (New w1 W)) 6 #[true, true, true, false, true, true, true, false, true, true, true, false, true, true, false, false, false] (cpAct x0 g1 g2 A1 A2 A3 n1 c1 n2 c2 n3 c3 q (u3) (.slice B0 0 0) (u9) (.slice B1 0 0) (u13) (.slice B2 0 0) (u17) (u20)) W := by
  obtain ⟨ty3, pos3, af3, q3⟩ := HC.e3
  obtain ⟨ty15, pos15, af15, q15⟩ := HC.e15
  refine reg_all2 (i0 := 3) (i1 := 15) q3 q15 HC.r011100 (fun K hK => ?_) (fun K hK => ?_)
  · have hFGn : ∀ k, k ∈ FA → k ∉ FG := fun k h => (HI.out.1.1 k h).2.2
    refine wp_appFD _ (.tmp 6) (.tmp 8) _ rfl Tryd.underlying24 elt_entry flatEntry rfl rfl HO0.out (HR0.out.mod (w' := W) (B' := (· < w1.heap.size)) (fun _ h => h) (fun i hi => HN.out.block i hi id)) (by simp; omega) ?_
    intro A9 n9 c9 W2 F9 ho2 hF9 hm2
    rw [List.nil_append] at ho2
    have HN2 : Sec (New w1 W2) := ⟨HN.out.trans hm2 (fun k hk hlt => by have := (HI.out.2 k (Or.inl hk)).1; omega)⟩
    have hI2 : In4B w1.heap.size W2 F9 FB FC FG := in4_app0 HI.out HN.out.size hm2.size (fun k hk => ho2.lt k hk) hF9
    exact hK.out _ _ (fun _ => HN2) (cp_111100 HC HR0 HR1 HR2 hl0 hl1 hl2 HQ HN2 ⟨hI2⟩ ⟨ho2⟩ ⟨HO1.out.keep hm2 (fun k hk h => (HI.out.1.1 k h).1 hk)⟩ ⟨HO2.out.keep hm2 (fun k hk h => (HI.out.1.1 k h).2.1 hk)⟩)
  · have hma : New W (W.alloc (.cells zDisk.toArray 27)) := (Mod.refl _ _).alloc _
    have HN2 : Sec (New w1 (W.alloc (.cells zDisk.toArray 27))) := ⟨HN.out.transN hma⟩
    have hI2 : In4B w1.heap.size (W.alloc (.cells zDisk.toArray 27)) FA FB FC [W.heap.size] := in4_newG HI.out HN.out.size
    refine wp_valw (n := 3) (v := .pointer (some ⟨W.heap.size, 0, none⟩)) (w' := W.alloc (.cells zDisk.toArray 27)) (exec_allocDisk rfl) rfl ?_
    exact hK.out _ _ (fun _ => HN2) (cp_011110 HC HR0 HR1 HR2 hl0 hl1 hl2 HQ HN2 ⟨hI2⟩ ⟨HO0.out.keep hma (fun _ _ h => h)⟩ ⟨HO1.out.keep hma (fun _ _ h => h)⟩ ⟨HO2.out.keep hma (fun _ _ h => h)⟩ ⟨Blk.new W 27 zDisk⟩ rfl)
set_option maxHeartbeats 2000000 in
set_option maxRecDepth 100000 in
theorem cp_110010 {ops : Array Oper} (HC : CpOps ops) {x0 : Value} {g1 g2 : Nat} {A1 A2 A3 : Option Addr} {n1 c1 n2 c2 n3 c3 : Nat} {q : Int} {xs0 xs1 : EntryST} {xs2 : DirOpST} {w1 : World} {Q : Exit → Act → World → Prop} (HR0 : Sec (Row dEntry w1 (· < w1.heap.size) A1 n1 xs0)) (HR1 : Sec (Row dEntry w1 (· < w1.heap.size) A2 n2 xs1)) (HR2 : Sec (Row dDirOp w1 (· < w1.heap.size) A3 n3 xs2)) (hl0 : xs0.length ≤ 1048576) (hl1 : xs1.length ≤ 1048576) (hl2 : xs2.length ≤ 1048576) (HQ : Sec (∀ (g3 : Nat) (R0 R1 R2 : Option Addr) (m0 e0 m1 e1 m2 e2 : Nat) (u6 u10 u14 u20 : Value) (W : World) (FA FB FC : List Nat), New w1 W → In4B w1.heap.size W FA FB FC [g3] → Own dEntry 37 W FA (.slice R0 m0 e0) xs0 → Own dEntry 37 W FB (.slice R1 m1 e1) xs1 → Own dDirOp 66 W FC (.slice R2 m2 e2) xs2 → Blk W g3 27 [.slice none 0 0, .slice none 0 0, .slice none 0 0, .slice none 0 0, .int .i64 0] → Q .normal (cpAct x0 g1 g2 A1 A2 A3 n1 c1 n2 c2 n3 c3 q (.pointer (some ⟨g3, 0, none⟩)) u6 (.slice R0 m0 e0) u10 (.slice R1 m1 e1) u14 (.slice R2 m2 e2) u20) (set5 W g3 (.slice none 0 0) (.slice R0 m0 e0) (.slice R1 m1 e1) (.slice R2 m2 e2) (.int .i64 q)))) {W : World} {FA FB FC FG : List Nat} (HN : Sec (New w1 W)) (HI : Sec (In4B w1.heap.size W FA FB FC FG)) {R0 : Option Addr} {m0 e0 : Nat} (HO0 : Sec (Own dEntry 37 W FA (.slice R0 m0 e0) xs0)) {g3 : Nat} (HB3 : Sec (Blk W g3 27 [.slice none 0 0, .slice none 0 0, .slice none 0 0, .slice none 0 0, .int .i64 0])) (hFG : FG = [g3]) {u6 u10 u13 u14 u17 u20 : Value} : RegR Tryd.prog .any ops Q [16] (fun W => Sec (New w1 W)) 6 #[true, true, true, true, false, true, true, false, false, true, true, false, true, true, false, true, false] (cpAct x0 g1 g2 A1 A2 A3 n1 c1 n2 c2 n3 c3 q (.pointer (some ⟨g3, 0, none⟩)) (u6) (.slice R0 m0 e0) (u10) (u13) (u14) (u17) (u20)) W := by
  obtain ⟨ty4, pos4, af4, q4⟩ := HC.e4
  obtain ⟨ty8, pos8, af8, q8⟩ := HC.e8
  refine reg_all2 (i0 := 4) (i1 := 8) q4 q8 HC.r110010 (fun K hK => ?_) (fun K hK => ?_)
  · have hma : New W (W.alloc (.cells #[] 37)) := (Mod.refl _ _).alloc _
    have HN2 : Sec (New w1 (W.alloc (.cells #[] 37))) := ⟨HN.out.transN hma⟩
    have hI2 : In4B w1.heap.size (W.alloc (.cells #[] 37)) FA [W.heap.size] FC FG := in4_new1 HI.out HN.out.size
    refine wp_valw (n := 10) (v := .slice (some ⟨W.heap.size, 0, none⟩) 0 0) (w' := W.alloc (.cells #[] 37)) (exec_buildSlice (parts := []) (vs := []) rfl rfl (buildEnt0 _)) rfl ?_
    exact hK.out _ _ (fun _ => HN2) (cp_111010 HC HR0 HR1 HR2 hl0 hl1 hl2 HQ HN2 ⟨hI2⟩ ⟨HO0.out.keep hma (fun _ _ h => h)⟩ ⟨Own.empty0 _ _ _⟩ ⟨HB3.out.mod hma id⟩ hFG)
  · have hma : New W (W.alloc (.cells #[] 66)) := (Mod.refl _ _).alloc _
    have HN2 : Sec (New w1 (W.alloc (.cells #[] 66))) := ⟨HN.out.transN hma⟩
    have hI2 : In4B w1.heap.size (W.alloc (.cells #[] 66)) FA FB [W.heap.size] FG := in4_new2 HI.out HN.out.size
    refine wp_valw (n := 14) (v := .slice (some ⟨W.heap.size, 0, none⟩) 0 0) (w' := W.alloc (.cells #[] 66)) (exec_buildSlice (parts := []) (vs := []) rfl rfl (bldDop0I _)) rfl ?_
    exact hK.out _ _ (fun _ => HN2) (cp_110110 HC HR0 HR1 HR2 hl0 hl1 hl2 HQ HN2 ⟨hI2⟩ ⟨HO0.out.keep hma (fun _ _ h => h)⟩ ⟨Own.empty0 _ _ _⟩ ⟨HB3.out.mod hma id⟩ hFG)
set_option maxHeartbeats 2000000 in
set_option maxRecDepth 100000 in
theorem cp_110100 {ops : Array Oper} (HC : CpOps ops) {x0 : Value} {g1 g2 : Nat} {A1 A2 A3 : Option Addr} {n1 c1 n2 c2 n3 c3 : Nat} {q : Int} {xs0 xs1 : EntryST} {xs2 : DirOpST} {w1 : World} {Q : Exit → Act → World → Prop} (HR0 : Sec (Row dEntry w1 (· < w1.heap.size) A1 n1 xs0)) (HR1 : Sec (Row dEntry w1 (· < w1.heap.size) A2 n2 xs1)) (HR2 : Sec (Row dDirOp w1 (· < w1.heap.size) A3 n3 xs2)) (hl0 : xs0.length ≤ 1048576) (hl1 : xs1.length ≤ 1048576) (hl2 : xs2.length ≤ 1048576) (HQ : Sec (∀ (g3 : Nat) (R0 R1 R2 : Option Addr) (m0 e0 m1 e1 m2 e2 : Nat) (u6 u10 u14 u20 : Value) (W : World) (FA FB FC : List Nat), New w1 W → In4B w1.heap.size W FA FB FC [g3] → Own dEntry 37 W FA (.slice R0 m0 e0) xs0 → Own dEntry 37 W FB (.slice R1 m1 e1) xs1 → Own dDirOp 66 W FC (.slice R2 m2 e2) xs2 → Blk W g3 27 [.slice none 0 0, .slice none 0 0, .slice none 0 0, .slice none 0 0, .int .i64 0] → Q .normal (cpAct x0 g1 g2 A1 A2 A3 n1 c1 n2 c2 n3 c3 q (.pointer (some ⟨g3, 0, none⟩)) u6 (.slice R0 m0 e0) u10 (.slice R1 m1 e1) u14 (.slice R2 m2 e2) u20) (set5 W g3 (.slice none 0 0) (.slice R0 m0 e0) (.slice R1 m1 e1) (.slice R2 m2 e2) (.int .i64 q)))) {W : World} {FA FB FC FG : List Nat} (HN : Sec (New w1 W)) (HI : Sec (In4B w1.heap.size W FA FB FC FG)) {R0 : Option Addr} {m0 e0 : Nat} (HO0 : Sec (Own dEntry 37 W FA (.slice R0 m0 e0) xs0)) {B2 : Option Addr} (HO2 : Sec (Own dDirOp 66 W FC (.slice B2 0 0) [])) {u3 u6 u10 u13 u17 u20 : Value} : RegR Tryd.prog .any ops Q [16] (fun W => Sec (New w1 W)) 6 #[true, true, true, true, false, true, true, false, true, true, true, false, true, true, false, false, false] (cpAct x0 g1 g2 A1 A2 A3 n1 c1 n2 c2 n3 c3 q (u3) (u6) (.slice R0 m0 e0) (u10) (u13) (.slice B2 0 0) (u17) (u20)) W := by
  obtain ⟨ty4, pos4, af4, q4⟩ := HC.e4
  obtain ⟨ty15, pos15, af15, q15⟩ := HC.e15
  refine reg_all2 (i0 := 4) (i1 := 15) q4 q15 HC.r110100 (fun K hK => ?_) (fun K hK => ?_)
  · have hma : New W (W.alloc (.cells #[] 37)) := (Mod.refl _ _).alloc _
    have HN2 : Sec (New w1 (W.alloc (.cells #[] 37))) := ⟨HN.out.transN hma⟩
    have hI2 : In4B w1.heap.size (W.alloc (.cells #[] 37)) FA [W.heap.size] FC FG := in4_new1 HI.out HN.out.size
    refine wp_valw (n := 10) (v := .slice (some ⟨W.heap.size, 0, none⟩) 0 0) (w' := W.alloc (.cells #[] 37)) (exec_buildSlice (parts := []) (vs := []) rfl rfl (buildEnt0 _)) rfl ?_
    exact hK.out _ _ (fun _ => HN2) (cp_111100 HC HR0 HR1 HR2 hl0 hl1 hl2 HQ HN2 ⟨hI2⟩ ⟨HO0.out.keep hma (fun _ _ h => h)⟩ ⟨Own.empty0 _ _ _⟩ ⟨HO2.out.keep hma (fun _ _ h => h)⟩)
  · have hma : New W (W.alloc (.cells zDisk.toArray 27)) := (Mod.refl _ _).alloc _
    have HN2 : Sec (New w1 (W.alloc (.cells zDisk.toArray 27))) := ⟨HN.out.transN hma⟩
    have hI2 : In4B w1.heap.size (W.alloc (.cells zDisk.toArray 27)) FA FB FC [W.heap.size] := in4_newG HI.out HN.out.size
    refine wp_valw (n := 3) (v := .pointer (some ⟨W.heap.size, 0, none⟩)) (w' := W.alloc (.cells zDisk.toArray 27)) (exec_allocDisk rfl) rfl ?_
    exact hK.out _ _ (fun _ => HN2) (cp_110110 HC HR0 HR1 HR2 hl0 hl1 hl2 HQ HN2 ⟨hI2⟩ ⟨HO0.out.keep hma (fun _ _ h => h)⟩ ⟨HO2.out.keep hma (fun _ _ h => h)⟩ ⟨Blk.new W 27 zDisk⟩ rfl)
set_option maxHeartbeats 2000000 in
set_option maxRecDepth 100000 in
theorem cp_111000 {ops : Array Oper} (HC : CpOps ops) {x0 : Value} {g1 g2 : Nat} {A1 A2 A3 : Option Addr} {n1 c1 n2 c2 n3 c3 : Nat} {q : Int} {xs0 xs1 : EntryST} {xs2 : DirOpST} {w1 : World} {Q : Exit → Act → World → Prop} (HR0 : Sec (Row dEntry w1 (· < w1.heap.size) A1 n1 xs0)) (HR1 : Sec (Row dEntry w1 (· < w1.heap.size) A2 n2 xs1)) (HR2 : Sec (Row dDirOp w1 (· < w1.heap.size) A3 n3 xs2)) (hl0 : xs0.length ≤ 1048576) (hl1 : xs1.length ≤ 1048576) (hl2 : xs2.length ≤ 1048576) (HQ : Sec (∀ (g3 : Nat) (R0 R1 R2 : Option Addr) (m0 e0 m1 e1 m2 e2 : Nat) (u6 u10 u14 u20 : Value) (W : World) (FA FB FC : List Nat), New w1 W → In4B w1.heap.size W FA FB FC [g3] → Own dEntry 37 W FA (.slice R0 m0 e0) xs0 → Own dEntry 37 W FB (.slice R1 m1 e1) xs1 → Own dDirOp 66 W FC (.slice R2 m2 e2) xs2 → Blk W g3 27 [.slice none 0 0, .slice none 0 0, .slice none 0 0, .slice none 0 0, .int .i64 0] → Q .normal (cpAct x0 g1 g2 A1 A2 A3 n1 c1 n2 c2 n3 c3 q (.pointer (some ⟨g3, 0, none⟩)) u6 (.slice R0 m0 e0) u10 (.slice R1 m1 e1) u14 (.slice R2 m2 e2) u20) (set5 W g3 (.slice none 0 0) (.slice R0 m0 e0) (.slice R1 m1 e1) (.slice R2 m2 e2) (.int .i64 q)))) {W : World} {FA FB FC FG : List Nat} (HN : Sec (New w1 W)) (HI : Sec (In4B w1.heap.size W FA FB FC FG)) {R0 : Option Addr} {m0 e0 : Nat} (HO0 : Sec (Own dEntry 37 W FA (.slice R0 m0 e0) xs0)) {B1 : Option Addr} (HO1 : Sec (Own dEntry 37 W FB (.slice B1 0 0) [])) {u3 u6 u13 u14 u17 u20 : Value} : RegR Tryd.prog .any ops Q [16] (fun W => Sec (New w1 W)) 6 #[true, true, true, true, true, true, true, false, false, true, true, false, true, true, false, false, false] (cpAct x0 g1 g2 A1 A2 A3 n1 c1 n2 c2 n3 c3 q (u3) (u6) (.slice R0 m0 e0) (.slice B1 0 0) (u13) (u14) (u17) (u20)) W := by
  obtain ⟨ty7, pos7, af7, q7⟩ := HC.e7
  obtain ⟨ty8, pos8, af8, q8⟩ := HC.e8
  obtain ⟨ty15, pos15, af15, q15⟩ := HC.e15
  refine reg_all3 (i0 := 7) (i1 := 8) (i2 := 15) q7 q8 q15 HC.r111000 (fun K hK => ?_) (fun K hK => ?_) (fun K hK => ?_)
  · have hFGn : ∀ k, k ∈ FB → k ∉ FG := fun k h => (HI.out.1.2.1 k h).2
    refine wp_appFD _ (.tmp 10) (.tmp 12) _ rfl Tryd.underlying24 elt_entry flatEntry rfl rfl HO1.out (HR1.out.mod (w' := W) (B' := (· < w1.heap.size)) (fun _ h => h) (fun i hi => HN.out.block i hi id)) (by simp; omega) ?_
    intro A9 n9 c9 W2 F9 ho2 hF9 hm2
    rw [List.nil_append] at ho2
    have HN2 : Sec (New w1 W2) := ⟨HN.out.trans hm2 (fun k hk hlt => by have := (HI.out.2 k (Or.inr (Or.inl hk))).1; omega)⟩
    have hI2 : In4B w1.heap.size W2 FA F9 FC FG := in4_app1 HI.out HN.out.size hm2.size (fun k hk => ho2.lt k hk) hF9
    exact hK.out _ _ (fun _ => HN2) (cp_211000 HC HR0 HR1 HR2 hl0 hl1 hl2 HQ HN2 ⟨hI2⟩ ⟨HO0.out.keep hm2 (fun k hk h => (HI.out.1.1 k hk).1 h)⟩ ⟨ho2⟩)
  · have hma : New W (W.alloc (.cells #[] 66)) := (Mod.refl _ _).alloc _
    have HN2 : Sec (New w1 (W.alloc (.cells #[] 66))) := ⟨HN.out.transN hma⟩
    have hI2 : In4B w1.heap.size (W.alloc (.cells #[] 66)) FA FB [W.heap.size] FG := in4_new2 HI.out HN.out.size
    refine wp_valw (n := 14) (v := .slice (some ⟨W.heap.size, 0, none⟩) 0 0) (w' := W.alloc (.cells #[] 66)) (exec_buildSlice (parts := []) (vs := []) rfl rfl (bldDop0I _)) rfl ?_
    exact hK.out _ _ (fun _ => HN2) (cp_111100 HC HR0 HR1 HR2 hl0 hl1 hl2 HQ HN2 ⟨hI2⟩ ⟨HO0.out.keep hma (fun _ _ h => h)⟩ ⟨HO1.out.keep hma (fun _ _ h => h)⟩ ⟨Own.empty0 _ _ _⟩)
  · have hma : New W (W.alloc (.cells zDisk.toArray 27)) := (Mod.refl _ _).alloc _
    have HN2 : Sec (New w1 (W.alloc (.cells zDisk.toArray 27))) := ⟨HN.out.transN hma⟩
    have hI2 : In4B w1.heap.size (W.alloc (.cells zDisk.toArray 27)) FA FB FC [W.heap.size] := in4_newG HI.out HN.out.size
    refine wp_valw (n := 3) (v := .pointer (some ⟨W.heap.size, 0, none⟩)) (w' := W.alloc (.cells zDisk.toArray 27)) (exec_allocDisk rfl) rfl ?_
    exact hK.out _ _ (fun _ => HN2) (cp_111010 HC HR0 HR1 HR2 hl0 hl1 hl2 HQ HN2 ⟨hI2⟩ ⟨HO0.out.keep hma (fun _ _ h => h)⟩ ⟨HO1.out.keep hma (fun _ _ h => h)⟩ ⟨Blk.new W 27 zDisk⟩ rfl)
set_option maxHeartbeats 2000000 in
set_option maxRecDepth 100000 in
theorem cp_000110 {ops : Array Oper} (HC : CpOps ops) {x0 : Value} {g1 g2 : Nat} {A1 A2 A3 : Option Addr} {n1 c1 n2 c2 n3 c3 : Nat} {q : Int} {xs0 xs1 : EntryST} {xs2 : DirOpST} {w1 : World} {Q : Exit → Act → World → Prop} (HR0 : Sec (Row dEntry w1 (· < w1.heap.size) A1 n1 xs0)) (HR1 : Sec (Row dEntry w1 (· < w1.heap.size) A2 n2 xs1)) (HR2 : Sec (Row dDirOp w1 (· < w1.heap.size) A3 n3 xs2)) (hl0 : xs0.length ≤ 1048576) (hl1 : xs1.length ≤ 1048576) (hl2 : xs2.length ≤ 1048576) (HQ : Sec (∀ (g3 : Nat) (R0 R1 R2 : Option Addr) (m0 e0 m1 e1 m2 e2 : Nat) (u6 u10 u14 u20 : Value) (W : World) (FA FB FC : List Nat), New w1 W → In4B w1.heap.size W FA FB FC [g3] → Own dEntry 37 W FA (.slice R0 m0 e0) xs0 → Own dEntry 37 W FB (.slice R1 m1 e1) xs1 → Own dDirOp 66 W FC (.slice R2 m2 e2) xs2 → Blk W g3 27 [.slice none 0 0, .slice none 0 0, .slice none 0 0, .slice none 0 0, .int .i64 0] → Q .normal (cpAct x0 g1 g2 A1 A2 A3 n1 c1 n2 c2 n3 c3 q (.pointer (some ⟨g3, 0, none⟩)) u6 (.slice R0 m0 e0) u10 (.slice R1 m1 e1) u14 (.slice R2 m2 e2) u20) (set5 W g3 (.slice none 0 0) (.slice R0 m0 e0) (.slice R1 m1 e1) (.slice R2 m2 e2) (.int .i64 q)))) {W : World} {FA FB FC FG : List Nat} (HN : Sec (New w1 W)) (HI : Sec (In4B w1.heap.size W FA FB FC FG)) {B2 : Option Addr} (HO2 : Sec (Own dDirOp 66 W FC (.slice B2 0 0) [])) {g3 : Nat} (HB3 : Sec (Blk W g3 27 [.slice none 0 0, .slice none 0 0, .slice none 0 0, .slice none 0 0, .int .i64 0])) (hFG : FG = [g3]) {u6 u9 u10 u13 u17 u20 : Value} : RegR Tryd.prog .any ops Q [16] (fun W => Sec (New w1 W)) 7 #[false, true, true, false, false, true, true, false, true, true, true, false, true, true, false, true, false] (cpAct x0 g1 g2 A1 A2 A3 n1 c1 n2 c2 n3 c3 q (.pointer (some ⟨g3, 0, none⟩)) (u6) (u9) (u10) (u13) (.slice B2 0 0) (u17) (u20)) W := by
  obtain ⟨ty0, pos0, af0, q0⟩ := HC.e0
  obtain ⟨ty4, pos4, af4, q4⟩ := HC.e4
  refine reg_all2 (i0 := 0) (i1 := 4) q0 q4 HC.r000110 (fun K hK => ?_) (fun K hK => ?_)
  · have hma : New W (W.alloc (.cells #[] 37)) := (Mod.refl _ _).alloc _
    have HN2 : Sec (New w1 (W.alloc (.cells #[] 37))) := ⟨HN.out.transN hma⟩
    have hI2 : In4B w1.heap.size (W.alloc (.cells #[] 37)) [W.heap.size] FB FC FG := in4_new0 HI.out HN.out.size
    refine wp_valw (n := 6) (v := .slice (some ⟨W.heap.size, 0, none⟩) 0 0) (w' := W.alloc (.cells #[] 37)) (exec_buildSlice (parts := []) (vs := []) rfl rfl (buildEnt0 _)) rfl ?_
    exact hK.out _ _ (fun _ => HN2) (cp_010110 HC HR0 HR1 HR2 hl0 hl1 hl2 HQ HN2 ⟨hI2⟩ ⟨Own.empty0 _ _ _⟩ ⟨HO2.out.keep hma (fun _ _ h => h)⟩ ⟨HB3.out.mod hma id⟩ hFG)
  · have hma : New W (W.alloc (.cells #[] 37)) := (Mod.refl _ _).alloc _
    have HN2 : Sec (New w1 (W.alloc (.cells #[] 37))) := ⟨HN.out.transN hma⟩
    have hI2 : In4B w1.heap.size (W.alloc (.cells #[] 37)) FA [W.heap.size] FC FG := in4_new1 HI.out HN.out.size
    refine wp_valw (n := 10) (v := .slice (some ⟨W.heap.size, 0, none⟩) 0 0) (w' := W.alloc (.cells #[] 37)) (exec_buildSlice (parts := []) (vs := []) rfl rfl (buildEnt0 _)) rfl ?_
    exact hK.out _ _ (fun _ => HN2) (cp_001110 HC HR0 HR1 HR2 hl0 hl1 hl2 HQ HN2 ⟨hI2⟩ ⟨Own.empty0 _ _ _⟩ ⟨HO2.out.keep hma (fun _ _ h => h)⟩ ⟨HB3.out.mod hma id⟩ hFG)
set_option maxHeartbeats 2000000 in
set_option maxRecDepth 100000 in
theorem cp_001010 {ops : Array Oper} (HC : CpOps ops) {x0 : Value} {g1 g2 : Nat} {A1 A2 A3 : Option Addr} {n1 c1 n2 c2 n3 c3 : Nat} {q : Int} {xs0 xs1 : EntryST} {xs2 : DirOpST} {w1 : World} {Q : Exit → Act → World → Prop} (HR0 : Sec (Row dEntry w1 (· < w1.heap.size) A1 n1 xs0)) (HR1 : Sec (Row dEntry w1 (· < w1.heap.size) A2 n2 xs1)) (HR2 : Sec (Row dDirOp w1 (· < w1.heap.size) A3 n3 xs2)) (hl0 : xs0.length ≤ 1048576) (hl1 : xs1.length ≤ 1048576) (hl2 : xs2.length ≤ 1048576) (HQ : Sec (∀ (g3 : Nat) (R0 R1 R2 : Option Addr) (m0 e0 m1 e1 m2 e2 : Nat) (u6 u10 u14 u20 : Value) (W : World) (FA FB FC : List Nat), New w1 W → In4B w1.heap.size W FA FB FC [g3] → Own dEntry 37 W FA (.slice R0 m0 e0) xs0 → Own dEntry 37 W FB (.slice R1 m1 e1) xs1 → Own dDirOp 66 W FC (.slice R2 m2 e2) xs2 → Blk W g3 27 [.slice none 0 0, .slice none 0 0, .slice none 0 0, .slice none 0 0, .int .i64 0] → Q .normal (cpAct x0 g1 g2 A1 A2 A3 n1 c1 n2 c2 n3 c3 q (.pointer (some ⟨g3, 0, none⟩)) u6 (.slice R0 m0 e0) u10 (.slice R1 m1 e1) u14 (.slice R2 m2 e2) u20) (set5 W g3 (.slice none 0 0) (.slice R0 m0 e0) (.slice R1 m1 e1) (.slice R2 m2 e2) (.int .i64 q)))) {W : World} {FA FB FC FG : List Nat} (HN : Sec (New w1 W)) (HI : Sec (In4B w1.heap.size W FA FB FC FG)) {B1 : Option Addr} (HO1 : Sec (Own dEntry 37 W FB (.slice B1 0 0) [])) {g3 : Nat} (HB3 : Sec (Blk W g3 27 [.slice none 0 0, .slice none 0 0, .slice none 0 0, .slice none 0 0, .int .i64 0])) (hFG : FG = [g3]) {u6 u9 u13 u14 u17 u20 : Value} : RegR Tryd.prog .any ops Q [16] (fun W => Sec (New w1 W)) 7 #[false, true, true, false, true, true, true, false, false, true, true, false, true, true, false, true, false] (cpAct x0 g1 g2 A1 A2 A3 n1 c1 n2 c2 n3 c3 q (.pointer (some ⟨g3, 0, none⟩)) (u6) (u9) (.slice B1 0 0) (u13) (u14) (u17) (u20)) W := by
  obtain ⟨ty0, pos0, af0, q0⟩ := HC.e0
  obtain ⟨ty8, pos8, af8, q8⟩ := HC.e8
  refine reg_all2 (i0 := 0) (i1 := 8) q0 q8 HC.r001010 (fun K hK => ?_) (fun K hK => ?_)
  · have hma : New W (W.alloc (.cells #[] 37)) := (Mod.refl _ _).alloc _
    have HN2 : Sec (New w1 (W.alloc (.cells #[] 37))) := ⟨HN.out.transN hma⟩
    have hI2 : In4B w1.heap.size (W.alloc (.cells #[] 37)) [W.heap.size] FB FC FG := in4_new0 HI.out HN.out.size
    refine wp_valw (n := 6) (v := .slice (some ⟨W.heap.size, 0, none⟩) 0 0) (w' := W.alloc (.cells #[] 37)) (exec_buildSlice (parts := []) (vs := []) rfl rfl (buildEnt0 _)) rfl ?_
    exact hK.out _ _ (fun _ => HN2) (cp_011010 HC HR0 HR1 HR2 hl0 hl1 hl2 HQ HN2 ⟨hI2⟩ ⟨Own.empty0 _ _ _⟩ ⟨HO1.out.keep hma (fun _ _ h => h)⟩ ⟨HB3.out.mod hma id⟩ hFG)
  · have hma : New W (W.alloc (.cells #[] 66)) := (Mod.refl _ _).alloc _
    have HN2 : Sec (New w1 (W.alloc (.cells #[] 66))) := ⟨HN.out.transN hma⟩
    have hI2 : In4B w1.heap.size (W.alloc (.cells #[] 66)) FA FB [W.heap.size] FG := in4_new2 HI.out HN.out.size
    refine wp_valw (n := 14) (v := .slice (some ⟨W.heap.size, 0, none⟩) 0 0) (w' := W.alloc (.cells #[] 66)) (exec_buildSlice (parts := []) (vs := []) rfl rfl (bldDop0I _)) rfl ?_
    exact hK.out _ _ (fun _ => HN2) (cp_001110 HC HR0 HR1 HR2 hl0 hl1 hl2 HQ HN2 ⟨hI2⟩ ⟨HO1.out.keep hma (fun _ _ h => h)⟩ ⟨Own.empty0 _ _ _⟩ ⟨HB3.out.mod hma id⟩ hFG)
set_option maxHeartbeats 2000000 in
set_option maxRecDepth 100000 in
theorem cp_001100 {ops : Array Oper} (HC : CpOps ops) {x0 : Value} {g1 g2 : Nat} {A1 A2 A3 : Option Addr} {n1 c1 n2 c2 n3 c3 : Nat} {q : Int} {xs0 xs1 : EntryST} {xs2 : DirOpST} {w1 : World} {Q : Exit → Act → World → Prop} (HR0 : Sec (Row dEntry w1 (· < w1.heap.size) A1 n1 xs0)) (HR1 : Sec (Row dEntry w1 (· < w1.heap.size) A2 n2 xs1)) (HR2 : Sec (Row dDirOp w1 (· < w1.heap.size) A3 n3 xs2)) (hl0 : xs0.length ≤ 1048576) (hl1 : xs1.length ≤ 1048576) (hl2 : xs2.length ≤ 1048576) (HQ : Sec (∀ (g3 : Nat) (R0 R1 R2 : Option Addr) (m0 e0 m1 e1 m2 e2 : Nat) (u6 u10 u14 u20 : Value) (W : World) (FA FB FC : List Nat), New w1 W → In4B w1.heap.size W FA FB FC [g3] → Own dEntry 37 W FA (.slice R0 m0 e0) xs0 → Own dEntry 37 W FB (.slice R1 m1 e1) xs1 → Own dDirOp 66 W FC (.slice R2 m2 e2) xs2 → Blk W g3 27 [.slice none 0 0, .slice none 0 0, .slice none 0 0, .slice none 0 0, .int .i64 0] → Q .normal (cpAct x0 g1 g2 A1 A2 A3 n1 c1 n2 c2 n3 c3 q (.pointer (some ⟨g3, 0, none⟩)) u6 (.slice R0 m0 e0) u10 (.slice R1 m1 e1) u14 (.slice R2 m2 e2) u20) (set5 W g3 (.slice none 0 0) (.slice R0 m0 e0) (.slice R1 m1 e1) (.slice R2 m2 e2) (.int .i64 q)))) {W : World} {FA FB FC FG : List Nat} (HN : Sec (New w1 W)) (HI : Sec (In4B w1.heap.size W FA FB FC FG)) {B1 : Option Addr} (HO1 : Sec (Own dEntry 37 W FB (.slice B1 0 0) [])) {B2 : Option Addr} (HO2 : Sec (Own dDirOp 66 W FC (.slice B2 0 0) [])) {u3 u6 u9 u13 u17 u20 : Value} : RegR Tryd.prog .any ops Q [16] (fun W => Sec (New w1 W)) 7 #[false, true, true, false, true, true, true, false, true, true, true, false, true, true, false, false, false] (cpAct x0 g1 g2 A1 A2 A3 n1 c1 n2 c2 n3 c3 q (u3) (u6) (u9) (.slice B1 0 0) (u13) (.slice B2 0 0) (u17) (u20)) W := by
  obtain ⟨ty0, pos0, af0, q0⟩ := HC.e0
  obtain ⟨ty15, pos15, af15, q15⟩ := HC.e15
  refine reg_all2 (i0 := 0) (i1 := 15) q0 q15 HC.r001100 (fun K hK => ?_) (fun K hK => ?_)
  · have hma : New W (W.alloc (.cells #[] 37)) := (Mod.refl _ _).alloc _
    have HN2 : Sec (New w1 (W.alloc (.cells #[] 37))) := ⟨HN.out.transN hma⟩
    have hI2 : In4B w1.heap.size (W.alloc (.cells #[] 37)) [W.heap.size] FB FC FG := in4_new0 HI.out HN.out.size
    refine wp_valw (n := 6) (v := .slice (some ⟨W.heap.size, 0, none⟩) 0 0) (w' := W.alloc (.cells #[] 37)) (exec_buildSlice (parts := []) (vs := []) rfl rfl (buildEnt0 _)) rfl ?_
    exact hK.out _ _ (fun _ => HN2) (cp_011100 HC HR0 HR1 HR2 hl0 hl1 hl2 HQ HN2 ⟨hI2⟩ ⟨Own.empty0 _ _ _⟩ ⟨HO1.out.keep hma (fun _ _ h => h)⟩ ⟨HO2.out.keep hma (fun _ _ h => h)⟩)
  · have hma : New W (W.alloc (.cells zDisk.toArray 27)) := (Mod.refl _ _).alloc _
    have HN2 : Sec (New w1 (W.alloc (.cells zDisk.toArray 27))) := ⟨HN.out.transN hma⟩
    have hI2 : In4B w1.heap.size (W.alloc (.cells zDisk.toArray 27)) FA FB FC [W.heap.size] := in4_newG HI.out HN.out.size
    refine wp_valw (n := 3) (v := .pointer (some ⟨W.heap.size, 0, none⟩)) (w' := W.alloc (.cells zDisk.toArray 27)) (exec_allocDisk rfl) rfl ?_
    exact hK.out _ _ (fun _ => HN2) (cp_001110 HC HR0 HR1 HR2 hl0 hl1 hl2 HQ HN2 ⟨hI2⟩ ⟨HO1.out.keep hma (fun _ _ h => h)⟩ ⟨HO2.out.keep hma (fun _ _ h => h)⟩ ⟨Blk.new W 27 zDisk⟩ rfl)
set_option maxHeartbeats 2000000 in
set_option maxRecDepth 100000 in
theorem cp_010010 {ops : Array Oper} (HC : CpOps ops) {x0 : Value} {g1 g2 : Nat} {A1 A2 A3 : Option Addr} {n1 c1 n2 c2 n3 c3 : Nat} {q : Int} {xs0 xs1 : EntryST} {xs2 : DirOpST} {w1 : World} {Q : Exit → Act → World → Prop} (HR0 : Sec (Row dEntry w1 (· < w1.heap.size) A1 n1 xs0)) (HR1 : Sec (Row dEntry w1 (· < w1.heap.size) A2 n2 xs1)) (HR2 : Sec (Row dDirOp w1 (· < w1.heap.size) A3 n3 xs2)) (hl0 : xs0.length ≤ 1048576) (hl1 : xs1.length ≤ 1048576) (hl2 : xs2.length ≤ 1048576) (HQ : Sec (∀ (g3 : Nat) (R0 R1 R2 : Option Addr) (m0 e0 m1 e1 m2 e2 : Nat) (u6 u10 u14 u20 : Value) (W : World) (FA FB FC : List Nat), New w1 W → In4B w1.heap.size W FA FB FC [g3] → Own dEntry 37 W FA (.slice R0 m0 e0) xs0 → Own dEntry 37 W FB (.slice R1 m1 e1) xs1 → Own dDirOp 66 W FC (.slice R2 m2 e2) xs2 → Blk W g3 27 [.slice none 0 0, .slice none 0 0, .slice none 0 0, .slice none 0 0, .int .i64 0] → Q .normal (cpAct x0 g1 g2 A1 A2 A3 n1 c1 n2 c2 n3 c3 q (.pointer (some ⟨g3, 0, none⟩)) u6 (.slice R0 m0 e0) u10 (.slice R1 m1 e1) u14 (.slice R2 m2 e2) u20) (set5 W g3 (.slice none 0 0) (.slice R0 m0 e0) (.slice R1 m1 e1) (.slice R2 m2 e2) (.int .i64 q)))) {W : World} {FA FB FC FG : List Nat} (HN : Sec (New w1 W)) (HI : Sec (In4B w1.heap.size W FA FB FC FG)) {B0 : Option Addr} (HO0 : Sec (Own dEntry 37 W FA (.slice B0 0 0) [])) {g3 : Nat} (HB3 : Sec (Blk W g3 27 [.slice none 0 0, .slice none 0 0, .slice none 0 0, .slice none 0 0, .int .i64 0])) (hFG : FG = [g3]) {u9 u10 u13 u14 u17 u20 : Value} : RegR Tryd.prog .any ops Q [16] (fun W => Sec (New w1 W)) 7 #[true, true, true, false, false, true, true, false, false, true, true, false, true, true, false, true, false] (cpAct x0 g1 g2 A1 A2 A3 n1 c1 n2 c2 n3 c3 q (.pointer (some ⟨g3, 0, none⟩)) (.slice B0 0 0) (u9) (u10) (u13) (u14) (u17) (u20)) W := by
  obtain ⟨ty3, pos3, af3, q3⟩ := HC.e3
  obtain ⟨ty4, pos4, af4, q4⟩ := HC.e4
  obtain ⟨ty8, pos8, af8, q8⟩ := HC.e8
  refine reg_all3 (i0 := 3) (i1 := 4) (i2 := 8) q3 q4 q8 HC.r010010 (fun K hK => ?_) (fun K hK => ?_) (fun K hK => ?_)
  · have hFGn : ∀ k, k ∈ FA → k ∉ FG := fun k h => (HI.out.1.1 k h).2.2
    refine wp_appFD _ (.tmp 6) (.tmp 8) _ rfl Tryd.underlying24 elt_entry flatEntry rfl rfl HO0.out (HR0.out.mod (w' := W) (B' := (· < w1.heap.size)) (fun _ h => h) (fun i hi => HN.out.block i hi id)) (by simp; omega) ?_
    intro A9 n9 c9 W2 F9 ho2 hF9 hm2
    rw [List.nil_append] at ho2
    have HN2 : Sec (New w1 W2) := ⟨HN.out.trans hm2 (fun k hk hlt => by have := (HI.out.2 k (Or.inl hk)).1; omega)⟩
    have hI2 : In4B w1.heap.size W2 F9 FB FC FG := in4_app0 HI.out HN.out.size hm2.size (fun k hk => ho2.lt k hk) hF9
    exact hK.out _ _ (fun _ => HN2) (cp_110010 HC HR0 HR1 HR2 hl0 hl1 hl2 HQ HN2 ⟨hI2⟩ ⟨ho2⟩ ⟨HB3.out.mod hm2 (fun h => hFGn g3 h (by rw [hFG]; simp))⟩ hFG)
  · have hma : New W (W.alloc (.cells #[] 37)) := (Mod.refl _ _).alloc _
    have HN2 : Sec (New w1 (W.alloc (.cells #[] 37))) := ⟨HN.out.transN hma⟩
    have hI2 : In4B w1.heap.size (W.alloc (.cells #[] 37)) FA [W.heap.size] FC FG := in4_new1 HI.out HN.out.size
    refine wp_valw (n := 10) (v := .slice (some ⟨W.heap.size, 0, none⟩) 0 0) (w' := W.alloc (.cells #[] 37)) (exec_buildSlice (parts := []) (vs := []) rfl rfl (buildEnt0 _)) rfl ?_
    exact hK.out _ _ (fun _ => HN2) (cp_011010 HC HR0 HR1 HR2 hl0 hl1 hl2 HQ HN2 ⟨hI2⟩ ⟨HO0.out.keep hma (fun _ _ h => h)⟩ ⟨Own.empty0 _ _ _⟩ ⟨HB3.out.mod hma id⟩ hFG)
  · have hma : New W (W.alloc (.cells #[] 66)) := (Mod.refl _ _).alloc _
    have HN2 : Sec (New w1 (W.alloc (.cells #[] 66))) := ⟨HN.out.transN hma⟩
    have hI2 : In4B w1.heap.size (W.alloc (.cells #[] 66)) FA FB [W.heap.size] FG := in4_new2 HI.out HN.out.size
    refine wp_valw (n := 14) (v := .slice (some ⟨W.heap.size, 0, none⟩) 0 0) (w' := W.alloc (.cells #[] 66)) (exec_buildSlice (parts := []) (vs := []) rfl rfl (bldDop0I _)) rfl ?_
    exact hK.out _ _ (fun _ => HN2) (cp_010110 HC HR0 HR1 HR2 hl0 hl1 hl2 HQ HN2 ⟨hI2⟩ ⟨HO0.out.keep hma (fun _ _ h => h)⟩ ⟨Own.empty0 _ _ _⟩ ⟨HB3.out.mod hma id⟩ hFG)
set_option maxHeartbeats 2000000 in
set_option maxRecDepth 100000 in
theorem cp_010100 {ops : Array Oper} (HC : CpOps ops) {x0 : Value} {g1 g2 : Nat} {A1 A2 A3 : Option Addr} {n1 c1 n2 c2 n3 c3 : Nat} {q : Int} {xs0 xs1 : EntryST} {xs2 : DirOpST} {w1 : World} {Q : Exit → Act → World → Prop} (HR0 : Sec (Row dEntry w1 (· < w1.heap.size) A1 n1 xs0)) (HR1 : Sec (Row dEntry w1 (· < w1.heap.size) A2 n2 xs1)) (HR2 : Sec (Row dDirOp w1 (· < w1.heap.size) A3 n3 xs2)) (hl0 : xs0.length ≤ 1048576) (hl1 : xs1.length ≤ 1048576) (hl2 : xs2.length ≤ 1048576) (HQ : Sec (∀ (g3 : Nat) (R0 R1 R2 : Option Addr) (m0 e0 m1 e1 m2 e2 : Nat) (u6 u10 u14 u20 : Value) (W : World) (FA FB FC : List Nat), New w1 W → In4B w1.heap.size W FA FB FC [g3] → Own dEntry 37 W FA (.slice R0 m0 e0) xs0 → Own dEntry 37 W FB (.slice R1 m1 e1) xs1 → Own dDirOp 66 W FC (.slice R2 m2 e2) xs2 → Blk W g3 27 [.slice none 0 0, .slice none 0 0, .slice none 0 0, .slice none 0 0, .int .i64 0] → Q .normal (cpAct x0 g1 g2 A1 A2 A3 n1 c1 n2 c2 n3 c3 q (.pointer (some ⟨g3, 0, none⟩)) u6 (.slice R0 m0 e0) u10 (.slice R1 m1 e1) u14 (.slice R2 m2 e2) u20) (set5 W g3 (.slice none 0 0) (.slice R0 m0 e0) (.slice R1 m1 e1) (.slice R2 m2 e2) (.int .i64 q)))) {W : World} {FA FB FC FG : List Nat} (HN : Sec (New w1 W)) (HI : Sec (In4B w1.heap.size W FA FB FC FG)) {B0 : Option Addr} (HO0 : Sec (Own dEntry 37 W FA (.slice B0 0 0) [])) {B2 : Option Addr} (HO2 : Sec (Own dDirOp 66 W FC (.slice B2 0 0) [])) {u3 u9 u10 u13 u17 u20 : Value} : RegR Tryd.prog .any ops Q [16] (fun W => Sec (New w1 W)) 7 #[true, true, true, false, false, true, true, false, true, true, true, false, true, true, false, false, false] (cpAct x0 g1 g2 A1 A2 A3 n1 c1 n2 c2 n3 c3 q (u3) (.slice B0 0 0) (u9) (u10) (u13) (.slice B2 0 0) (u17) (u20)) W := by
  obtain ⟨ty3, pos3, af3, q3⟩ := HC.e3
  obtain ⟨ty4, pos4, af4, q4⟩ := HC.e4
  obtain ⟨ty15, pos15, af15, q15⟩ := HC.e15
  refine reg_all3 (i0 := 3) (i1 := 4) (i2 := 15) q3 q4 q15 HC.r010100 (fun K hK => ?_) (fun K hK => ?_) (fun K hK => ?_)
  · have hFGn : ∀ k, k ∈ FA → k ∉ FG := fun k h => (HI.out.1.1 k h).2.2
    refine wp_appFD _ (.tmp 6) (.tmp 8) _ rfl Tryd.underlying24 elt_entry flatEntry rfl rfl HO0.out (HR0.out.mod (w' := W) (B' := (· < w1.heap.size)) (fun _ h => h) (fun i hi => HN.out.block i hi id)) (by simp; omega) ?_
    intro A9 n9 c9 W2 F9 ho2 hF9 hm2
    rw [List.nil_append] at ho2
    have HN2 : Sec (New w1 W2) := ⟨HN.out.trans hm2 (fun k hk hlt => by have := (HI.out.2 k (Or.inl hk)).1; omega)⟩
    have hI2 : In4B w1.heap.size W2 F9 FB FC FG := in4_app0 HI.out HN.out.size hm2.size (fun k hk => ho2.lt k hk) hF9
    exact hK.out _ _ (fun _ => HN2) (cp_110100 HC HR0 HR1 HR2 hl0 hl1 hl2 HQ HN2 ⟨hI2⟩ ⟨ho2⟩ ⟨HO2.out.keep hm2 (fun k hk h => (HI.out.1.1 k h).2.1 hk)⟩)
  · have hma : New W (W.alloc (.cells #[] 37)) := (Mod.refl _ _).alloc _
    have HN2 : Sec (New w1 (W.alloc (.cells #[] 37))) := ⟨HN.out.transN hma⟩
    have hI2 : In4B w1.heap.size (W.alloc (.cells #[] 37)) FA [W.heap.size] FC FG := in4_new1 HI.out HN.out.size
    refine wp_valw (n := 10) (v := .slice (some ⟨W.heap.size, 0, none⟩) 0 0) (w' := W.alloc (.cells #[] 37)) (exec_buildSlice (parts := []) (vs := []) rfl rfl (buildEnt0 _)) rfl ?_
    exact hK.out _ _ (fun _ => HN2) (cp_011100 HC HR0 HR1 HR2 hl0 hl1 hl2 HQ HN2 ⟨hI2⟩ ⟨HO0.out.keep hma (fun _ _ h => h)⟩ ⟨Own.empty0 _ _ _⟩ ⟨HO2.out.keep hma (fun _ _ h => h)⟩)
  · have hma : New W (W.alloc (.cells zDisk.toArray 27)) := (Mod.refl _ _).alloc _
    have HN2 : Sec (New w1 (W.alloc (.cells zDisk.toArray 27))) := ⟨HN.out.transN hma⟩
    have hI2 : In4B w1.heap.size (W.alloc (.cells zDisk.toArray 27)) FA FB FC [W.heap.size] := in4_newG HI.out HN.out.size
    refine wp_valw (n := 3) (v := .pointer (some ⟨W.heap.size, 0, none⟩)) (w' := W.alloc (.cells zDisk.toArray 27)) (exec_allocDisk rfl) rfl ?_
    exact hK.out _ _ (fun _ => HN2) (cp_010110 HC HR0 HR1 HR2 hl0 hl1 hl2 HQ HN2 ⟨hI2⟩ ⟨HO0.out.keep hma (fun _ _ h => h)⟩ ⟨HO2.out.keep hma (fun _ _ h => h)⟩ ⟨Blk.new W 27 zDisk⟩ rfl)
set_option maxHeartbeats 2000000 in
set_option maxRecDepth 100000 in
theorem cp_011000 {ops : Array Oper} (HC : CpOps ops) {x0 : Value} {g1 g2 : Nat} {A1 A2 A3 : Option Addr} {n1 c1 n2 c2 n3 c3 : Nat} {q : Int} {xs0 xs1 : EntryST} {xs2 : DirOpST} {w1 : World} {Q : Exit → Act → World → Prop} (HR0 : Sec (Row dEntry w1 (· < w1.heap.size) A1 n1 xs0)) (HR1 : Sec (Row dEntry w1 (· < w1.heap.size) A2 n2 xs1)) (HR2 : Sec (Row dDirOp w1 (· < w1.heap.size) A3 n3 xs2)) (hl0 : xs0.length ≤ 1048576) (hl1 : xs1.length ≤ 1048576) (hl2 : xs2.length ≤ 1048576) (HQ : Sec (∀ (g3 : Nat) (R0 R1 R2 : Option Addr) (m0 e0 m1 e1 m2 e2 : Nat) (u6 u10 u14 u20 : Value) (W : World) (FA FB FC : List Nat), New w1 W → In4B w1.heap.size W FA FB FC [g3] → Own dEntry 37 W FA (.slice R0 m0 e0) xs0 → Own dEntry 37 W FB (.slice R1 m1 e1) xs1 → Own dDirOp 66 W FC (.slice R2 m2 e2) xs2 → Blk W g3 27 [.slice none 0 0, .slice none 0 0, .slice none 0 0, .slice none 0 0, .int .i64 0] → Q .normal (cpAct x0 g1 g2 A1 A2 A3 n1 c1 n2 c2 n3 c3 q (.pointer (some ⟨g3, 0, none⟩)) u6 (.slice R0 m0 e0) u10 (.slice R1 m1 e1) u14 (.slice R2 m2 e2) u20) (set5 W g3 (.slice none 0 0) (.slice R0 m0 e0) (.slice R1 m1 e1) (.slice R2 m2 e2) (.int .i64 q)))) {W : World} {FA FB FC FG : List Nat} (HN : Sec (New w1 W)) (HI : Sec (In4B w1.heap.size W FA FB FC FG)) {B0 : Option Addr} (HO0 : Sec (Own dEntry 37 W FA (.slice B0 0 0) [])) {B1 : Option Addr} (HO1 : Sec (Own dEntry 37 W FB (.slice B1 0 0) [])) {u3 u9 u13 u14 u17 u20 : Value} : RegR Tryd.prog .any ops Q [16] (fun W => Sec (New w1 W)) 7 #[true, true, true, false, true, true, true, false, false, true, true, false, true, true, false, false, false] (cpAct x0 g1 g2 A1 A2 A3 n1 c1 n2 c2 n3 c3 q (u3) (.slice B0 0 0) (u9) (.slice B1 0 0) (u13) (u14) (u17) (u20)) W := by
  obtain ⟨ty3, pos3, af3, q3⟩ := HC.e3
  obtain ⟨ty8, pos8, af8, q8⟩ := HC.e8
  obtain ⟨ty15, pos15, af15, q15⟩ := HC.e15
  refine reg_all3 (i0 := 3) (i1 := 8) (i2 := 15) q3 q8 q15 HC.r011000 (fun K hK => ?_) (fun K hK => ?_) (fun K hK => ?_)
  · have hFGn : ∀ k, k ∈ FA → k ∉ FG := fun k h => (HI.out.1.1 k h).2.2
    refine wp_appFD _ (.tmp 6) (.tmp 8) _ rfl Tryd.underlying24 elt_entry flatEntry rfl rfl HO0.out (HR0.out.mod (w' := W) (B' := (· < w1.heap.size)) (fun _ h => h) (fun i hi => HN.out.block i hi id)) (by simp; omega) ?_
    intro A9 n9 c9 W2 F9 ho2 hF9 hm2
    rw [List.nil_append] at ho2
    have HN2 : Sec (New w1 W2) := ⟨HN.out.trans hm2 (fun k hk hlt => by have := (HI.out.2 k (Or.inl hk)).1; omega)⟩
    have hI2 : In4B w1.heap.size W2 F9 FB FC FG := in4_app0 HI.out HN.out.size hm2.size (fun k hk => ho2.lt k hk) hF9
    exact hK.out _ _ (fun _ => HN2) (cp_111000 HC HR0 HR1 HR2 hl0 hl1 hl2 HQ HN2 ⟨hI2⟩ ⟨ho2⟩ ⟨HO1.out.keep hm2 (fun k hk h => (HI.out.1.1 k h).1 hk)⟩)
  · have hma : New W (W.alloc (.cells #[] 66)) := (Mod.refl _ _).alloc _
    have HN2 : Sec (New w1 (W.alloc (.cells #[] 66))) := ⟨HN.out.transN hma⟩
    have hI2 : In4B w1.heap.size (W.alloc (.cells #[] 66)) FA FB [W.heap.size] FG := in4_new2 HI.out HN.out.size
    refine wp_valw (n := 14) (v := .slice (some ⟨W.heap.size, 0, none⟩) 0 0) (w' := W.alloc (.cells #[] 66)) (exec_buildSlice (parts := []) (vs := []) rfl rfl (bldDop0I _)) rfl ?_
    exact hK.out _ _ (fun _ => HN2) (cp_011100 HC HR0 HR1 HR2 hl0 hl1 hl2 HQ HN2 ⟨hI2⟩ ⟨HO0.out.keep hma (fun _ _ h => h)⟩ ⟨HO1.out.keep hma (fun _ _ h => h)⟩ ⟨Own.empty0 _ _ _⟩)
  · have hma : New W (W.alloc (.cells zDisk.toArray 27)) := (Mod.refl _ _).alloc _
    have HN2 : Sec (New w1 (W.alloc (.cells zDisk.toArray 27))) := ⟨HN.out.transN hma⟩
    have hI2 : In4B w1.heap.size (W.alloc (.cells zDisk.toArray 27)) FA FB FC [W.heap.size] := in4_newG HI.out HN.out.size
    refine wp_valw (n := 3) (v := .pointer (some ⟨W.heap.size, 0, none⟩)) (w' := W.alloc (.cells zDisk.toArray 27)) (exec_allocDisk rfl) rfl ?_
    exact hK.out _ _ (fun _ => HN2) (cp_011010 HC HR0 HR1 HR2 hl0 hl1 hl2 HQ HN2 ⟨hI2⟩ ⟨HO0.out.keep hma (fun _ _ h => h)⟩ ⟨HO1.out.keep hma (fun _ _ h => h)⟩ ⟨Blk.new W 27 zDisk⟩ rfl)
set_option maxHeartbeats 2000000 in
set_option maxRecDepth 100000 in
theorem cp_110000 {ops : Array Oper} (HC : CpOps ops) {x0 : Value} {g1 g2 : Nat} {A1 A2 A3 : Option Addr} {n1 c1 n2 c2 n3 c3 : Nat} {q : Int} {xs0 xs1 : EntryST} {xs2 : DirOpST} {w1 : World} {Q : Exit → Act → World → Prop} (HR0 : Sec (Row dEntry w1 (· < w1.heap.size) A1 n1 xs0)) (HR1 : Sec (Row dEntry w1 (· < w1.heap.size) A2 n2 xs1)) (HR2 : Sec (Row dDirOp w1 (· < w1.heap.size) A3 n3 xs2)) (hl0 : xs0.length ≤ 1048576) (hl1 : xs1.length ≤ 1048576) (hl2 : xs2.length ≤ 1048576) (HQ : Sec (∀ (g3 : Nat) (R0 R1 R2 : Option Addr) (m0 e0 m1 e1 m2 e2 : Nat) (u6 u10 u14 u20 : Value) (W : World) (FA FB FC : List Nat), New w1 W → In4B w1.heap.size W FA FB FC [g3] → Own dEntry 37 W FA (.slice R0 m0 e0) xs0 → Own dEntry 37 W FB (.slice R1 m1 e1) xs1 → Own dDirOp 66 W FC (.slice R2 m2 e2) xs2 → Blk W g3 27 [.slice none 0 0, .slice none 0 0, .slice none 0 0, .slice none 0 0, .int .i64 0] → Q .normal (cpAct x0 g1 g2 A1 A2 A3 n1 c1 n2 c2 n3 c3 q (.pointer (some ⟨g3, 0, none⟩)) u6 (.slice R0 m0 e0) u10 (.slice R1 m1 e1) u14 (.slice R2 m2 e2) u20) (set5 W g3 (.slice none 0 0) (.slice R0 m0 e0) (.slice R1 m1 e1) (.slice R2 m2 e2) (.int .i64 q)))) {W : World} {FA FB FC FG : List Nat} (HN : Sec (New w1 W)) (HI : Sec (In4B w1.heap.size W FA FB FC FG)) {R0 : Option Addr} {m0 e0 : Nat} (HO0 : Sec (Own dEntry 37 W FA (.slice R0 m0 e0) xs0)) {u3 u6 u10 u13 u14 u17 u20 : Value} : RegR Tryd.prog .any ops Q [16] (fun W => Sec (New w1 W)) 7 #[true, true, true, true, false, true, true, false, false, true, true, false, true, true, false, false, false] (cpAct x0 g1 g2 A1 A2 A3 n1 c1 n2 c2 n3 c3 q (u3) (u6) (.slice R0 m0 e0) (u10) (u13) (u14) (u17) (u20)) W := by
  obtain ⟨ty4, pos4, af4, q4⟩ := HC.e4
  obtain ⟨ty8, pos8, af8, q8⟩ := HC.e8
  obtain ⟨ty15, pos15, af15, q15⟩ := HC.e15
  refine reg_all3 (i0 := 4) (i1 := 8) (i2 := 15) q4 q8 q15 HC.r110000 (fun K hK => ?_) (fun K hK => ?_) (fun K hK => ?_)
  · have hma : New W (W.alloc (.cells #[] 37)) := (Mod.refl _ _).alloc _
    have HN2 : Sec (New w1 (W.alloc (.cells #[] 37))) := ⟨HN.out.transN hma⟩
    have hI2 : In4B w1.heap.size (W.alloc (.cells #[] 37)) FA [W.heap.size] FC FG := in4_new1 HI.out HN.out.size
    refine wp_valw (n := 10) (v := .slice (some ⟨W.heap.size, 0, none⟩) 0 0) (w' := W.alloc (.cells #[] 37)) (exec_buildSlice (parts := []) (vs := []) rfl rfl (buildEnt0 _)) rfl ?_
    exact hK.out _ _ (fun _ => HN2) (cp_111000 HC HR0 HR1 HR2 hl0 hl1 hl2 HQ HN2 ⟨hI2⟩ ⟨HO0.out.keep hma (fun _ _ h => h)⟩ ⟨Own.empty0 _ _ _⟩)
  · have hma : New W (W.alloc (.cells #[] 66)) := (Mod.refl _ _).alloc _
    have HN2 : Sec (New w1 (W.alloc (.cells #[] 66))) := ⟨HN.out.transN hma⟩
    have hI2 : In4B w1.heap.size (W.alloc (.cells #[] 66)) FA FB [W.heap.size] FG := in4_new2 HI.out HN.out.size
    refine wp_valw (n := 14) (v := .slice (some ⟨W.heap.size, 0, none⟩) 0 0) (w' := W.alloc (.cells #[] 66)) (exec_buildSlice (parts := []) (vs := []) rfl rfl (bldDop0I _)) rfl ?_
    exact hK.out _ _ (fun _ => HN2) (cp_110100 HC HR0 HR1 HR2 hl0 hl1 hl2 HQ HN2 ⟨hI2⟩ ⟨HO0.out.keep hma (fun _ _ h => h)⟩ ⟨Own.empty0 _ _ _⟩)
  · have hma : New W (W.alloc (.cells zDisk.toArray 27)) := (Mod.refl _ _).alloc _
    have HN2 : Sec (New w1 (W.alloc (.cells zDisk.toArray 27))) := ⟨HN.out.transN hma⟩
    have hI2 : In4B w1.heap.size (W.alloc (.cells zDisk.toArray 27)) FA FB FC [W.heap.size] := in4_newG HI.out HN.out.size
    refine wp_valw (n := 3) (v := .pointer (some ⟨W.heap.size, 0, none⟩)) (w' := W.alloc (.cells zDisk.toArray 27)) (exec_allocDisk rfl) rfl ?_
    exact hK.out _ _ (fun _ => HN2) (cp_110010 HC HR0 HR1 HR2 hl0 hl1 hl2 HQ HN2 ⟨hI2⟩ ⟨HO0.out.keep hma (fun _ _ h => h)⟩ ⟨Blk.new W 27 zDisk⟩ rfl)
set_option maxHeartbeats 2000000 in
set_option maxRecDepth 100000 in
theorem cp_000010 {ops : Array Oper} (HC : CpOps ops) {x0 : Value} {g1 g2 : Nat} {A1 A2 A3 : Option Addr} {n1 c1 n2 c2 n3 c3 : Nat} {q : Int} {xs0 xs1 : EntryST} {xs2 : DirOpST} {w1 : World} {Q : Exit → Act → World → Prop} (HR0 : Sec (Row dEntry w1 (· < w1.heap.size) A1 n1 xs0)) (HR1 : Sec (Row dEntry w1 (· < w1.heap.size) A2 n2 xs1)) (HR2 : Sec (Row dDirOp w1 (· < w1.heap.size) A3 n3 xs2)) (hl0 : xs0.length ≤ 1048576) (hl1 : xs1.length ≤ 1048576) (hl2 : xs2.length ≤ 1048576) (HQ : Sec (∀ (g3 : Nat) (R0 R1 R2 : Option Addr) (m0 e0 m1 e1 m2 e2 : Nat) (u6 u10 u14 u20 : Value) (W : World) (FA FB FC : List Nat), New w1 W → In4B w1.heap.size W FA FB FC [g3] → Own dEntry 37 W FA (.slice R0 m0 e0) xs0 → Own dEntry 37 W FB (.slice R1 m1 e1) xs1 → Own dDirOp 66 W FC (.slice R2 m2 e2) xs2 → Blk W g3 27 [.slice none 0 0, .slice none 0 0, .slice none 0 0, .slice none 0 0, .int .i64 0] → Q .normal (cpAct x0 g1 g2 A1 A2 A3 n1 c1 n2 c2 n3 c3 q (.pointer (some ⟨g3, 0, none⟩)) u6 (.slice R0 m0 e0) u10 (.slice R1 m1 e1) u14 (.slice R2 m2 e2) u20) (set5 W g3 (.slice none 0 0) (.slice R0 m0 e0) (.slice R1 m1 e1) (.slice R2 m2 e2) (.int .i64 q)))) {W : World} {FA FB FC FG : List Nat} (HN : Sec (New w1 W)) (HI : Sec (In4B w1.heap.size W FA FB FC FG)) {g3 : Nat} (HB3 : Sec (Blk W g3 27 [.slice none 0 0, .slice none 0 0, .slice none 0 0, .slice none 0 0, .int .i64 0])) (hFG : FG = [g3]) {u6 u9 u10 u13 u14 u17 u20 : Value} : RegR Tryd.prog .any ops Q [16] (fun W => Sec (New w1 W)) 8 #[false, true, true, false, false, true, true, false, false, true, true, false, true, true, false, true, false] (cpAct x0 g1 g2 A1 A2 A3 n1 c1 n2 c2 n3 c3 q (.pointer (some ⟨g3, 0, none⟩)) (u6) (u9) (u10) (u13) (u14) (u17) (u20)) W := by
  obtain ⟨ty0, pos0, af0, q0⟩ := HC.e0
  obtain ⟨ty4, pos4, af4, q4⟩ := HC.e4
  obtain ⟨ty8, pos8, af8, q8⟩ := HC.e8
  refine reg_all3 (i0 := 0) (i1 := 4) (i2 := 8) q0 q4 q8 HC.r000010 (fun K hK => ?_) (fun K hK => ?_) (fun K hK => ?_)
  · have hma : New W (W.alloc (.cells #[] 37)) := (Mod.refl _ _).alloc _
    have HN2 : Sec (New w1 (W.alloc (.cells #[] 37))) := ⟨HN.out.transN hma⟩
    have hI2 : In4B w1.heap.size (W.alloc (.cells #[] 37)) [W.heap.size] FB FC FG := in4_new0 HI.out HN.out.size
    refine wp_valw (n := 6) (v := .slice (some ⟨W.heap.size, 0, none⟩) 0 0) (w' := W.alloc (.cells #[] 37)) (exec_buildSlice (parts := []) (vs := []) rfl rfl (buildEnt0 _)) rfl ?_
    exact hK.out _ _ (fun _ => HN2) (cp_010010 HC HR0 HR1 HR2 hl0 hl1 hl2 HQ HN2 ⟨hI2⟩ ⟨Own.empty0 _ _ _⟩ ⟨HB3.out.mod hma id⟩ hFG)
  · have hma : New W (W.alloc (.cells #[] 37)) := (Mod.refl _ _).alloc _
    have HN2 : Sec (New w1 (W.alloc (.cells #[] 37))) := ⟨HN.out.transN hma⟩
    have hI2 : In4B w1.heap.size (W.alloc (.cells #[] 37)) FA [W.heap.size] FC FG := in4_new1 HI.out HN.out.size
    refine wp_valw (n := 10) (v := .slice (some ⟨W.heap.size, 0, none⟩) 0 0) (w' := W.alloc (.cells #[] 37)) (exec_buildSlice (parts := []) (vs := []) rfl rfl (buildEnt0 _)) rfl ?_
    exact hK.out _ _ (fun _ => HN2) (cp_001010 HC HR0 HR1 HR2 hl0 hl1 hl2 HQ HN2 ⟨hI2⟩ ⟨Own.empty0 _ _ _⟩ ⟨HB3.out.mod hma id⟩ hFG)
  · have hma : New W (W.alloc (.cells #[] 66)) := (Mod.refl _ _).alloc _
    have HN2 : Sec (New w1 (W.alloc (.cells #[] 66))) := ⟨HN.out.transN hma⟩
    have hI2 : In4B w1.heap.size (W.alloc (.cells #[] 66)) FA FB [W.heap.size] FG := in4_new2 HI.out HN.out.size
    refine wp_valw (n := 14) (v := .slice (some ⟨W.heap.size, 0, none⟩) 0 0) (w' := W.alloc (.cells #[] 66)) (exec_buildSlice (parts := []) (vs := []) rfl rfl (bldDop0I _)) rfl ?_
    exact hK.out _ _ (fun _ => HN2) (cp_000110 HC HR0 HR1 HR2 hl0 hl1 hl2 HQ HN2 ⟨hI2⟩ ⟨Own.empty0 _ _ _⟩ ⟨HB3.out.mod hma id⟩ hFG)
set_option maxHeartbeats 2000000 in
set_option maxRecDepth 100000 in
theorem cp_000100 {ops : Array Oper} (HC : CpOps ops) {x0 : Value} {g1 g2 : Nat} {A1 A2 A3 : Option Addr} {n1 c1 n2 c2 n3 c3 : Nat} {q : Int} {xs0 xs1 : EntryST} {xs2 : DirOpST} {w1 : World} {Q : Exit → Act → World → Prop} (HR0 : Sec (Row dEntry w1 (· < w1.heap.size) A1 n1 xs0)) (HR1 : Sec (Row dEntry w1 (· < w1.heap.size) A2 n2 xs1)) (HR2 : Sec (Row dDirOp w1 (· < w1.heap.size) A3 n3 xs2)) (hl0 : xs0.length ≤ 1048576) (hl1 : xs1.length ≤ 1048576) (hl2 : xs2.length ≤ 1048576) (HQ : Sec (∀ (g3 : Nat) (R0 R1 R2 : Option Addr) (m0 e0 m1 e1 m2 e2 : Nat) (u6 u10 u14 u20 : Value) (W : World) (FA FB FC : List Nat), New w1 W → In4B w1.heap.size W FA FB FC [g3] → Own dEntry 37 W FA (.slice R0 m0 e0) xs0 → Own dEntry 37 W FB (.slice R1 m1 e1) xs1 → Own dDirOp 66 W FC (.slice R2 m2 e2) xs2 → Blk W g3 27 [.slice none 0 0, .slice none 0 0, .slice none 0 0, .slice none 0 0, .int .i64 0] → Q .normal (cpAct x0 g1 g2 A1 A2 A3 n1 c1 n2 c2 n3 c3 q (.pointer (some ⟨g3, 0, none⟩)) u6 (.slice R0 m0 e0) u10 (.slice R1 m1 e1) u14 (.slice R2 m2 e2) u20) (set5 W g3 (.slice none 0 0) (.slice R0 m0 e0) (.slice R1 m1 e1) (.slice R2 m2 e2) (.int .i64 q)))) {W : World} {FA FB FC FG : List Nat} (HN : Sec (New w1 W)) (HI : Sec (In4B w1.heap.size W FA FB FC FG)) {B2 : Option Addr} (HO2 : Sec (Own dDirOp 66 W FC (.slice B2 0 0) [])) {u3 u6 u9 u10 u13 u17 u20 : Value} : RegR Tryd.prog .any ops Q [16] (fun W => Sec (New w1 W)) 8 #[false, true, true, false, false, true, true, false, true, true, true, false, true, true, false, false, false] (cpAct x0 g1 g2 A1 A2 A3 n1 c1 n2 c2 n3 c3 q (u3) (u6) (u9) (u10) (u13) (.slice B2 0 0) (u17) (u20)) W := by
  obtain ⟨ty0, pos0, af0, q0⟩ := HC.e0
  obtain ⟨ty4, pos4, af4, q4⟩ := HC.e4
  obtain ⟨ty15, pos15, af15, q15⟩ := HC.e15
  refine reg_all3 (i0 := 0) (i1 := 4) (i2 := 15) q0 q4 q15 HC.r000100 (fun K hK => ?_) (fun K hK => ?_) (fun K hK => ?_)
  · have hma : New W (W.alloc (.cells #[] 37)) := (Mod.refl _ _).alloc _
    have HN2 : Sec (New w1 (W.alloc (.cells #[] 37))) := ⟨HN.out.transN hma⟩
    have hI2 : In4B w1.heap.size (W.alloc (.cells #[] 37)) [W.heap.size] FB FC FG := in4_new0 HI.out HN.out.size
    refine wp_valw (n := 6) (v := .slice (some ⟨W.heap.size, 0, none⟩) 0 0) (w' := W.alloc (.cells #[] 37)) (exec_buildSlice (parts := []) (vs := []) rfl rfl (buildEnt0 _)) rfl ?_
    exact hK.out _ _ (fun _ => HN2) (cp_010100 HC HR0 HR1 HR2 hl0 hl1 hl2 HQ HN2 ⟨hI2⟩ ⟨Own.empty0 _ _ _⟩ ⟨HO2.out.keep hma (fun _ _ h => h)⟩)
  · have hma : New W (W.alloc (.cells #[] 37)) := (Mod.refl _ _).alloc _
    have HN2 : Sec (New w1 (W.alloc (.cells #[] 37))) := ⟨HN.out.transN hma⟩
    have hI2 : In4B w1.heap.size (W.alloc (.cells #[] 37)) FA [W.heap.size] FC FG := in4_new1 HI.out HN.out.size
    refine wp_valw (n := 10) (v := .slice (some ⟨W.heap.size, 0, none⟩) 0 0) (w' := W.alloc (.cells #[] 37)) (exec_buildSlice (parts := []) (vs := []) rfl rfl (buildEnt0 _)) rfl ?_
    exact hK.out _ _ (fun _ => HN2) (cp_001100 HC HR0 HR1 HR2 hl0 hl1 hl2 HQ HN2 ⟨hI2⟩ ⟨Own.empty0 _ _ _⟩ ⟨HO2.out.keep hma (fun _ _ h => h)⟩)
  · have hma : New W (W.alloc (.cells zDisk.toArray 27)) := (Mod.refl _ _).alloc _
    have HN2 : Sec (New w1 (W.alloc (.cells zDisk.toArray 27))) := ⟨HN.out.transN hma⟩
    have hI2 : In4B w1.heap.size (W.alloc (.cells zDisk.toArray 27)) FA FB FC [W.heap.size] := in4_newG HI.out HN.out.size
    refine wp_valw (n := 3) (v := .pointer (some ⟨W.heap.size, 0, none⟩)) (w' := W.alloc (.cells zDisk.toArray 27)) (exec_allocDisk rfl) rfl ?_
    exact hK.out _ _ (fun _ => HN2) (cp_000110 HC HR0 HR1 HR2 hl0 hl1 hl2 HQ HN2 ⟨hI2⟩ ⟨HO2.out.keep hma (fun _ _ h => h)⟩ ⟨Blk.new W 27 zDisk⟩ rfl)
set_option maxHeartbeats 2000000 in
set_option maxRecDepth 100000 in
theorem cp_001000 {ops : Array Oper} (HC : CpOps ops) {x0 : Value} {g1 g2 : Nat} {A1 A2 A3 : Option Addr} {n1 c1 n2 c2 n3 c3 : Nat} {q : Int} {xs0 xs1 : EntryST} {xs2 : DirOpST} {w1 : World} {Q : Exit → Act → World → Prop} (HR0 : Sec (Row dEntry w1 (· < w1.heap.size) A1 n1 xs0)) (HR1 : Sec (Row dEntry w1 (· < w1.heap.size) A2 n2 xs1)) (HR2 : Sec (Row dDirOp w1 (· < w1.heap.size) A3 n3 xs2)) (hl0 : xs0.length ≤ 1048576) (hl1 : xs1.length ≤ 1048576) (hl2 : xs2.length ≤ 1048576) (HQ : Sec (∀ (g3 : Nat) (R0 R1 R2 : Option Addr) (m0 e0 m1 e1 m2 e2 : Nat) (u6 u10 u14 u20 : Value) (W : World) (FA FB FC : List Nat), New w1 W → In4B w1.heap.size W FA FB FC [g3] → Own dEntry 37 W FA (.slice R0 m0 e0) xs0 → Own dEntry 37 W FB (.slice R1 m1 e1) xs1 → Own dDirOp 66 W FC (.slice R2 m2 e2) xs2 → Blk W g3 27 [.slice none 0 0, .slice none 0 0, .slice none 0 0, .slice none 0 0, .int .i64 0] → Q .normal (cpAct x0 g1 g2 A1 A2 A3 n1 c1 n2 c2 n3 c3 q (.pointer (some ⟨g3, 0, none⟩)) u6 (.slice R0 m0 e0) u10 (.slice R1 m1 e1) u14 (.slice R2 m2 e2) u20) (set5 W g3 (.slice none 0 0) (.slice R0 m0 e0) (.slice R1 m1 e1) (.slice R2 m2 e2) (.int .i64 q)))) {W : World} {FA FB FC FG : List Nat} (HN : Sec (New w1 W)) (HI : Sec (In4B w1.heap.size W FA FB FC FG)) {B1 : Option Addr} (HO1 : Sec (Own dEntry 37 W FB (.slice B1 0 0) [])) {u3 u6 u9 u13 u14 u17 u20 : Value} : RegR Tryd.prog .any ops Q [16] (fun W => Sec (New w1 W)) 8 #[false, true, true, false, true, true, true, false, false, true, true, false, true, true, false, false, false] (cpAct x0 g1 g2 A1 A2 A3 n1 c1 n2 c2 n3 c3 q (u3) (u6) (u9) (.slice B1 0 0) (u13) (u14) (u17) (u20)) W := by
  obtain ⟨ty0, pos0, af0, q0⟩ := HC.e0
  obtain ⟨ty8, pos8, af8, q8⟩ := HC.e8
  obtain ⟨ty15, pos15, af15, q15⟩ := HC.e15
  refine reg_all3 (i0 := 0) (i1 := 8) (i2 := 15) q0 q8 q15 HC.r001000 (fun K hK => ?_) (fun K hK => ?_) (fun K hK => ?_)
  · have hma : New W (W.alloc (.cells #[] 37)) := (Mod.refl _ _).alloc _
    have HN2 : Sec (New w1 (W.alloc (.cells #[] 37))) := ⟨HN.out.transN hma⟩
    have hI2 : In4B w1.heap.size (W.alloc (.cells #[] 37)) [W.heap.size] FB FC FG := in4_new0 HI.out HN.out.size
    refine wp_valw (n := 6) (v := .slice (some ⟨W.heap.size, 0, none⟩) 0 0) (w' := W.alloc (.cells #[] 37)) (exec_buildSlice (parts := []) (vs := []) rfl rfl (buildEnt0 _)) rfl ?_
    exact hK.out _ _ (fun _ => HN2) (cp_011000 HC HR0 HR1 HR2 hl0 hl1 hl2 HQ HN2 ⟨hI2⟩ ⟨Own.empty0 _ _ _⟩ ⟨HO1.out.keep hma (fun _ _ h => h)⟩)
  · have hma : New W (W.alloc (.cells #[] 66)) := (Mod.refl _ _).alloc _
    have HN2 : Sec (New w1 (W.alloc (.cells #[] 66))) := ⟨HN.out.transN hma⟩
    have hI2 : In4B w1.heap.size (W.alloc (.cells #[] 66)) FA FB [W.heap.size] FG := in4_new2 HI.out HN.out.size
    refine wp_valw (n := 14) (v := .slice (some ⟨W.heap.size, 0, none⟩) 0 0) (w' := W.alloc (.cells #[] 66)) (exec_buildSlice (parts := []) (vs := []) rfl rfl (bldDop0I _)) rfl ?_
    exact hK.out _ _ (fun _ => HN2) (cp_001100 HC HR0 HR1 HR2 hl0 hl1 hl2 HQ HN2 ⟨hI2⟩ ⟨HO1.out.keep hma (fun _ _ h => h)⟩ ⟨Own.empty0 _ _ _⟩)
  · have hma : New W (W.alloc (.cells zDisk.toArray 27)) := (Mod.refl _ _).alloc _
    have HN2 : Sec (New w1 (W.alloc (.cells zDisk.toArray 27))) := ⟨HN.out.transN hma⟩
    have hI2 : In4B w1.heap.size (W.alloc (.cells zDisk.toArray 27)) FA FB FC [W.heap.size] := in4_newG HI.out HN.out.size
    refine wp_valw (n := 3) (v := .pointer (some ⟨W.heap.size, 0, none⟩)) (w' := W.alloc (.cells zDisk.toArray 27)) (exec_allocDisk rfl) rfl ?_
    exact hK.out _ _ (fun _ => HN2) (cp_001010 HC HR0 HR1 HR2 hl0 hl1 hl2 HQ HN2 ⟨hI2⟩ ⟨HO1.out.keep hma (fun _ _ h => h)⟩ ⟨Blk.new W 27 zDisk⟩ rfl)
set_option maxHeartbeats 2000000 in
set_option maxRecDepth 100000 in
theorem cp_010000 {ops : Array Oper} (HC : CpOps ops) {x0 : Value} {g1 g2 : Nat} {A1 A2 A3 : Option Addr} {n1 c1 n2 c2 n3 c3 : Nat} {q : Int} {xs0 xs1 : EntryST} {xs2 : DirOpST} {w1 : World} {Q : Exit → Act → World → Prop} (HR0 : Sec (Row dEntry w1 (· < w1.heap.size) A1 n1 xs0)) (HR1 : Sec (Row dEntry w1 (· < w1.heap.size) A2 n2 xs1)) (HR2 : Sec (Row dDirOp w1 (· < w1.heap.size) A3 n3 xs2)) (hl0 : xs0.length ≤ 1048576) (hl1 : xs1.length ≤ 1048576) (hl2 : xs2.length ≤ 1048576) (HQ : Sec (∀ (g3 : Nat) (R0 R1 R2 : Option Addr) (m0 e0 m1 e1 m2 e2 : Nat) (u6 u10 u14 u20 : Value) (W : World) (FA FB FC : List Nat), New w1 W → In4B w1.heap.size W FA FB FC [g3] → Own dEntry 37 W FA (.slice R0 m0 e0) xs0 → Own dEntry 37 W FB (.slice R1 m1 e1) xs1 → Own dDirOp 66 W FC (.slice R2 m2 e2) xs2 → Blk W g3 27 [.slice none 0 0, .slice none 0 0, .slice none 0 0, .slice none 0 0, .int .i64 0] → Q .normal (cpAct x0 g1 g2 A1 A2 A3 n1 c1 n2 c2 n3 c3 q (.pointer (some ⟨g3, 0, none⟩)) u6 (.slice R0 m0 e0) u10 (.slice R1 m1 e1) u14 (.slice R2 m2 e2) u20) (set5 W g3 (.slice none 0 0) (.slice R0 m0 e0) (.slice R1 m1 e1) (.slice R2 m2 e2) (.int .i64 q)))) {W : World} {FA FB FC FG : List Nat} (HN : Sec (New w1 W)) (HI : Sec (In4B w1.heap.size W FA FB FC FG)) {B0 : Option Addr} (HO0 : Sec (Own dEntry 37 W FA (.slice B0 0 0) [])) {u3 u9 u10 u13 u14 u17 u20 : Value} : RegR Tryd.prog .any ops Q [16] (fun W => Sec (New w1 W)) 8 #[true, true, true, false, false, true, true, false, false, true, true, false, true, true, false, false, false] (cpAct x0 g1 g2 A1 A2 A3 n1 c1 n2 c2 n3 c3 q (u3) (.slice B0 0 0) (u9) (u10) (u13) (u14) (u17) (u20)) W := by
  obtain ⟨ty3, pos3, af3, q3⟩ := HC.e3
  obtain ⟨ty4, pos4, af4, q4⟩ := HC.e4
  obtain ⟨ty8, pos8, af8, q8⟩ := HC.e8
  obtain ⟨ty15, pos15, af15, q15⟩ := HC.e15
  refine reg_all4 (i0 := 3) (i1 := 4) (i2 := 8) (i3 := 15) q3 q4 q8 q15 HC.r010000 (fun K hK => ?_) (fun K hK => ?_) (fun K hK => ?_) (fun K hK => ?_)
  · have hFGn : ∀ k, k ∈ FA → k ∉ FG := fun k h => (HI.out.1.1 k h).2.2
    refine wp_appFD _ (.tmp 6) (.tmp 8) _ rfl Tryd.underlying24 elt_entry flatEntry rfl rfl HO0.out (HR0.out.mod (w' := W) (B' := (· < w1.heap.size)) (fun _ h => h) (fun i hi => HN.out.block i hi id)) (by simp; omega) ?_
    intro A9 n9 c9 W2 F9 ho2 hF9 hm2
    rw [List.nil_append] at ho2
    have HN2 : Sec (New w1 W2) := ⟨HN.out.trans hm2 (fun k hk hlt => by have := (HI.out.2 k (Or.inl hk)).1; omega)⟩
    have hI2 : In4B w1.heap.size W2 F9 FB FC FG := in4_app0 HI.out HN.out.size hm2.size (fun k hk => ho2.lt k hk) hF9
    exact hK.out _ _ (fun _ => HN2) (cp_110000 HC HR0 HR1 HR2 hl0 hl1 hl2 HQ HN2 ⟨hI2⟩ ⟨ho2⟩)
  · have hma : New W (W.alloc (.cells #[] 37)) := (Mod.refl _ _).alloc _
    have HN2 : Sec (New w1 (W.alloc (.cells #[] 37))) := ⟨HN.out.transN hma⟩
    have hI2 : In4B w1.heap.size (W.alloc (.cells #[] 37)) FA [W.heap.size] FC FG := in4_new1 HI.out HN.out.size
    refine wp_valw (n := 10) (v := .slice (some ⟨W.heap.size, 0, none⟩) 0 0) (w' := W.alloc (.cells #[] 37)) (exec_buildSlice (parts := []) (vs := []) rfl rfl (buildEnt0 _)) rfl ?_
    exact hK.out _ _ (fun _ => HN2) (cp_011000 HC HR0 HR1 HR2 hl0 hl1 hl2 HQ HN2 ⟨hI2⟩ ⟨HO0.out.keep hma (fun _ _ h => h)⟩ ⟨Own.empty0 _ _ _⟩)
  · have hma : New W (W.alloc (.cells #[] 66)) := (Mod.refl _ _).alloc _
    have HN2 : Sec (New w1 (W.alloc (.cells #[] 66))) := ⟨HN.out.transN hma⟩
    have hI2 : In4B w1.heap.size (W.alloc (.cells #[] 66)) FA FB [W.heap.size] FG := in4_new2 HI.out HN.out.size
    refine wp_valw (n := 14) (v := .slice (some ⟨W.heap.size, 0, none⟩) 0 0) (w' := W.alloc (.cells #[] 66)) (exec_buildSlice (parts := []) (vs := []) rfl rfl (bldDop0I _)) rfl ?_
    exact hK.out _ _ (fun _ => HN2) (cp_010100 HC HR0 HR1 HR2 hl0 hl1 hl2 HQ HN2 ⟨hI2⟩ ⟨HO0.out.keep hma (fun _ _ h => h)⟩ ⟨Own.empty0 _ _ _⟩)
  · have hma : New W (W.alloc (.cells zDisk.toArray 27)) := (Mod.refl _ _).alloc _
    have HN2 : Sec (New w1 (W.alloc (.cells zDisk.toArray 27))) := ⟨HN.out.transN hma⟩
    have hI2 : In4B w1.heap.size (W.alloc (.cells zDisk.toArray 27)) FA FB FC [W.heap.size] := in4_newG HI.out HN.out.size
    refine wp_valw (n := 3) (v := .pointer (some ⟨W.heap.size, 0, none⟩)) (w' := W.alloc (.cells zDisk.toArray 27)) (exec_allocDisk rfl) rfl ?_
    exact hK.out _ _ (fun _ => HN2) (cp_010010 HC HR0 HR1 HR2 hl0 hl1 hl2 HQ HN2 ⟨hI2⟩ ⟨HO0.out.keep hma (fun _ _ h => h)⟩ ⟨Blk.new W 27 zDisk⟩ rfl)
set_option maxHeartbeats 2000000 in
set_option maxRecDepth 100000 in
theorem cp_000000 {ops : Array Oper} (HC : CpOps ops) {x0 : Value} {g1 g2 : Nat} {A1 A2 A3 : Option Addr} {n1 c1 n2 c2 n3 c3 : Nat} {q : Int} {xs0 xs1 : EntryST} {xs2 : DirOpST} {w1 : World} {Q : Exit → Act → World → Prop} (HR0 : Sec (Row dEntry w1 (· < w1.heap.size) A1 n1 xs0)) (HR1 : Sec (Row dEntry w1 (· < w1.heap.size) A2 n2 xs1)) (HR2 : Sec (Row dDirOp w1 (· < w1.heap.size) A3 n3 xs2)) (hl0 : xs0.length ≤ 1048576) (hl1 : xs1.length ≤ 1048576) (hl2 : xs2.length ≤ 1048576) (HQ : Sec (∀ (g3 : Nat) (R0 R1 R2 : Option Addr) (m0 e0 m1 e1 m2 e2 : Nat) (u6 u10 u14 u20 : Value) (W : World) (FA FB FC : List Nat), New w1 W → In4B w1.heap.size W FA FB FC [g3] → Own dEntry 37 W FA (.slice R0 m0 e0) xs0 → Own dEntry 37 W FB (.slice R1 m1 e1) xs1 → Own dDirOp 66 W FC (.slice R2 m2 e2) xs2 → Blk W g3 27 [.slice none 0 0, .slice none 0 0, .slice none 0 0, .slice none 0 0, .int .i64 0] → Q .normal (cpAct x0 g1 g2 A1 A2 A3 n1 c1 n2 c2 n3 c3 q (.pointer (some ⟨g3, 0, none⟩)) u6 (.slice R0 m0 e0) u10 (.slice R1 m1 e1) u14 (.slice R2 m2 e2) u20) (set5 W g3 (.slice none 0 0) (.slice R0 m0 e0) (.slice R1 m1 e1) (.slice R2 m2 e2) (.int .i64 q)))) {W : World} {FA FB FC FG : List Nat} (HN : Sec (New w1 W)) (HI : Sec (In4B w1.heap.size W FA FB FC FG)) {u3 u6 u9 u10 u13 u14 u17 u20 : Value} : RegR Tryd.prog .any ops Q [16] (fun W => Sec (New w1 W)) 9 #[false, true, true, false, false, true, true, false, false, true, true, false, true, true, false, false, false] (cpAct x0 g1 g2 A1 A2 A3 n1 c1 n2 c2 n3 c3 q (u3) (u6) (u9) (u10) (u13) (u14) (u17) (u20)) W := by
  obtain ⟨ty0, pos0, af0, q0⟩ := HC.e0
  obtain ⟨ty4, pos4, af4, q4⟩ := HC.e4
  obtain ⟨ty8, pos8, af8, q8⟩ := HC.e8
  obtain ⟨ty15, pos15, af15, q15⟩ := HC.e15
  refine reg_all4 (i0 := 0) (i1 := 4) (i2 := 8) (i3 := 15) q0 q4 q8 q15 HC.r000000 (fun K hK => ?_) (fun K hK => ?_) (fun K hK => ?_) (fun K hK => ?_)
  · have hma : New W (W.alloc (.cells #[] 37)) := (Mod.refl _ _).alloc _
    have HN2 : Sec (New w1 (W.alloc (.cells #[] 37))) := ⟨HN.out.transN hma⟩
    have hI2 : In4B w1.heap.size (W.alloc (.cells #[] 37)) [W.heap.size] FB FC FG := in4_new0 HI.out HN.out.size
    refine wp_valw (n := 6) (v := .slice (some ⟨W.heap.size, 0, none⟩) 0 0) (w' := W.alloc (.cells #[] 37)) (exec_buildSlice (parts := []) (vs := []) rfl rfl (buildEnt0 _)) rfl ?_
    exact hK.out _ _ (fun _ => HN2) (cp_010000 HC HR0 HR1 HR2 hl0 hl1 hl2 HQ HN2 ⟨hI2⟩ ⟨Own.empty0 _ _ _⟩)
  · have hma : New W (W.alloc (.cells #[] 37)) := (Mod.refl _ _).alloc _
    have HN2 : Sec (New w1 (W.alloc (.cells #[] 37))) := ⟨HN.out.transN hma⟩
    have hI2 : In4B w1.heap.size (W.alloc (.cells #[] 37)) FA [W.heap.size] FC FG := in4_new1 HI.out HN.out.size
    refine wp_valw (n := 10) (v := .slice (some ⟨W.heap.size, 0, none⟩) 0 0) (w' := W.alloc (.cells #[] 37)) (exec_buildSlice (parts := []) (vs := []) rfl rfl (buildEnt0 _)) rfl ?_
    exact hK.out _ _ (fun _ => HN2) (cp_001000 HC HR0 HR1 HR2 hl0 hl1 hl2 HQ HN2 ⟨hI2⟩ ⟨Own.empty0 _ _ _⟩)
  · have hma : New W (W.alloc (.cells #[] 66)) := (Mod.refl _ _).alloc _
    have HN2 : Sec (New w1 (W.alloc (.cells #[] 66))) := ⟨HN.out.transN hma⟩
    have hI2 : In4B w1.heap.size (W.alloc (.cells #[] 66)) FA FB [W.heap.size] FG := in4_new2 HI.out HN.out.size
    refine wp_valw (n := 14) (v := .slice (some ⟨W.heap.size, 0, none⟩) 0 0) (w' := W.alloc (.cells #[] 66)) (exec_buildSlice (parts := []) (vs := []) rfl rfl (bldDop0I _)) rfl ?_
    exact hK.out _ _ (fun _ => HN2) (cp_000100 HC HR0 HR1 HR2 hl0 hl1 hl2 HQ HN2 ⟨hI2⟩ ⟨Own.empty0 _ _ _⟩)
  · have hma : New W (W.alloc (.cells zDisk.toArray 27)) := (Mod.refl _ _).alloc _
    have HN2 : Sec (New w1 (W.alloc (.cells zDisk.toArray 27))) := ⟨HN.out.transN hma⟩
    have hI2 : In4B w1.heap.size (W.alloc (.cells zDisk.toArray 27)) FA FB FC [W.heap.size] := in4_newG HI.out HN.out.size
    refine wp_valw (n := 3) (v := .pointer (some ⟨W.heap.size, 0, none⟩)) (w' := W.alloc (.cells zDisk.toArray 27)) (exec_allocDisk rfl) rfl ?_
    exact hK.out _ _ (fun _ => HN2) (cp_000010 HC HR0 HR1 HR2 hl0 hl1 hl2 HQ HN2 ⟨hI2⟩  ⟨Blk.new W 27 zDisk⟩ rfl)
end Go.Proofs.YtkkgighgnbbgiaaDoor
