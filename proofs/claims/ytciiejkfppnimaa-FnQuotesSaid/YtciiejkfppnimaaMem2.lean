/- More of the library of memory predicates: copy over a whole new row. -/
import Derived.Test.YtciiejkfppnimaaMem
import Derived.Laws.IdiomCopy
namespace Go.Proofs.Ytciiejkfppnimaa.Mem
open Go.RowKit
set_option linter.unusedVariables false

/-- copy(out, b), where out is a row of the call's own as long as b -/
theorem wpList_copy_full {P : Program} (w : World) {ops : Array Oper} {rest : List Oper} {o : Oper} {a : Act} {Q : Exit → Act → World → Prop} (hgd : o.guard = none) (x s : Operand) (dT sT : TypeId)
    (ho : o.op = .call { callee := .builtin .copy, args := #[x, s], argTypes := #[dT, sT] }) {α : Type} (d : Ty α) (e : TypeId) {z : Value} (hu : P.underlying dT = some (.slice e)) (hE : Elt P e d.sz z) (hsz : d.sz = 1) (hf : Flat d)
    {g n c c' : Nat} {A : Option Addr} {B : Nat → Prop} {F : List Nat} {zs ys : List α} (hd : a.eval x = .slice (some ⟨g, 0, none⟩) n c) (hs : a.eval s = .slice A n c')
    (hown : Own d e w F (.slice (some ⟨g, 0, none⟩) n c) zs) (hl : zs.length = n) (hrow : Row d w B A n ys)
    (h : ∀ w', Own d e w' [g] (.slice (some ⟨g, 0, none⟩) n c) ys → Mod (· = g) w w' → wpList P ops Q rest (a.put o.dst (.int .i64 (n : Int))) w') : wpList P ops Q (o :: rest) a w := by
  have hyl : ys.length = n := hrow.1
  obtain ⟨news, hel, hA⟩ := hrow.flat hf
  have hnl : news.length = n := by have := hel.clen; rw [hsz, hyl] at this; omega
  obtain ⟨⟨i, hi, hz, hsi, hb⟩, hzc, hpos⟩ := hE
  have hsz1 : (P.info? e).map (·.size) = some 1 := by rw [hi]; simp [hsi, hsz]
  obtain ⟨inner, Fs, ho2, hel2, rfl, hnd⟩ := hown
  obtain ⟨hil, ho2⟩ := ho2
  rw [hl] at ho2 hil
  rcases ho2 with ⟨hv, _⟩ | ⟨g', cap, cur, hv, _, hg, hnc, hmx, hcs, ht⟩
  · cases hv
  · injection hv with e1 e2 e3
    injection e1 with e1
    injection e1 with e1
    subst e1; subst e3
    refine wpList_plain hgd fun K hK => ?_
    have hrun : ∃ w', (Builtin.copy_ #[dT, sT] o.type #[.slice (some ⟨g, 0, none⟩) n c, .slice A n c']).run P w = .ok (goInt n) w' ∧ w'.heap[g]? = some (.cells (news ++ cur.toList.drop n).toArray e (0, 0)) ∧ Mod (· = g) w w' := by
      rcases Nat.eq_zero_or_pos n with h0 | h0
      · subst h0
        obtain rfl := List.eq_nil_of_length_eq_zero hnl
        exact ⟨w, run_copy_none (P := P) w dT sT o.type e _ _ 0 _ 0 _ hu hsz1 (by simp), by simpa using hg, Mod.refl _ _⟩
      · obtain ⟨ad, rfl, hcell⟩ := hA h0
        have := run_copy_row (P := P) w dT sT o.type e g 0 n c ad n c' cur e news hu hsz1 hg (by rw [hnl]; simp) hcell (by rw [hnl, hcs, hsz]; omega) hel.ones
        rw [hnl] at this
        simp only [List.take_zero, List.nil_append, Nat.zero_add] at this
        refine ⟨_, this, setRow_heap w g _ _ e _ hg, rfl, rfl, rfl, by simp [World.setRow], fun k hk hne => setRow_other w g k _ hne⟩
    obtain ⟨w', hrun, hg', hm⟩ := hrun
    unfold Oper.wp execOp
    simp only [ho, resolve, invoke, builtin, Sem.run_bind, Sem.run_pure, Result.andThen_ok, List.map_toArray, List.map_cons, List.map_nil, hd, hs, hrun]
    refine hK _ _ (h w' ⟨news, List.replicate n [], ⟨by rw [hnl, hyl, hsz]; omega, .inr ⟨g, c, _, by rw [hyl], Nat.zero_le _, hg', by omega, hmx, ?_, ?_⟩⟩, ?_, ?_, by simp⟩ hm)
    · have := congrArg List.length ht; simp [hcs, hnl, hsz]; omega
    · rw [hyl, hsz, Nat.mul_one, List.take_left' hnl]
    · exact hel.mod fun k hk => by rw [flat_nil] at hk; simp at hk
    · rw [flat_nil]; rfl

/-- v is a row of the call's own, younger than w0, and nothing that was there at w0 has changed -/
structure Mine {α : Type} (d : Ty α) (e : TypeId) (w0 w : World) (v : Value) (xs : List α) : Prop where
  ex : ∃ F, Own d e w F v xs ∧ ∀ k, k ∈ F → w0.heap.size ≤ k
  new : New w0 w
namespace Mine
variable {α : Type} {d : Ty α} {e : TypeId} {w0 w1 w w' : World} {v : Value} {xs ys : List α} {A : Option Addr} {n c : Nat}
theorem nil (d : Ty α) (e : TypeId) (h : New w0 w) : Mine d e w0 w (.slice none 0 0) [] := ⟨⟨[], Own.nil d e w, by simp⟩, h⟩
theorem step (h : Mine d e w0 w v xs) (hm : New w w') : Mine d e w0 w' v xs := by
  obtain ⟨⟨F, ho, hF⟩, hn⟩ := h
  exact ⟨⟨F, ho.new hm, hF⟩, hn.transN hm⟩
theorem alloc (h : Mine d e w0 w v xs) (o : Obj) : Mine d e w0 (w.alloc o) v xs := h.step ((Mod.refl _ _).alloc o)
theorem base (h : Mine d e w1 w v xs) (hm : New w0 w1) : Mine d e w0 w v xs := by
  obtain ⟨⟨F, ho, hF⟩, hn⟩ := h
  exact ⟨⟨F, ho, fun k hk => Nat.le_trans hm.size (hF k hk)⟩, hm.transN hn⟩
theorem form (h : Mine d e w0 w v xs) : ∃ A c, v = .slice A xs.length c ∧ xs.length ≤ c ∧ c ≤ 9223372036854775807 := by
  obtain ⟨⟨F, ho, hF⟩, hn⟩ := h; exact ho.form
theorem len (h : Mine d e w0 w (.slice A n c) xs) : n = xs.length ∧ n ≤ c ∧ c ≤ 9223372036854775807 := by
  obtain ⟨A', c', hv, h1, h2⟩ := h.form
  injection hv with e1 e2 e3
  subst e3; exact ⟨e2, by omega, h2⟩
theorem row (h : Mine d e w0 w (.slice A n c) xs) : Row d w (fun k => w0.heap.size ≤ k ∧ k < w.heap.size) A n xs := by
  obtain rfl := h.len.1
  obtain ⟨⟨F, ho, hF⟩, hn⟩ := h
  exact (ho.row rfl).mod (fun k hk => ⟨hF k hk, ho.lt k hk⟩) (fun _ _ => rfl)
/-- what was read at w0 is still read -/
theorem read {β : Type} {b : Ty β} {B : Nat → Prop} {A' : Option Addr} {m : Nat} {zs : List β} (h : Mine d e w0 w v xs) (hr : Row b w0 B A' m zs) (hB : ∀ k, B k → k < w0.heap.size) : Row b w B A' m zs :=
  hr.mod (fun _ h => h) fun k hk => h.new.block k (hB k hk) id
theorem ret (h : Mine d e w0 w v xs) : RetOwn d e w0 xs (.returned v) w := by
  obtain ⟨⟨F, ho, hF⟩, hn⟩ := h
  exact RetOwn.of ho hF hn
theorem of {F : List Nat} (ho : Own d e w F v xs) (hF : ∀ k, k ∈ F → w0.heap.size ≤ k) (hn : New w0 w) : Mine d e w0 w v xs := ⟨⟨F, ho, hF⟩, hn⟩
theorem lit (e : TypeId) (zs : Bytes) (hz : zs.length ≤ 34359738368) (h : New w0 w) : Mine Ty.byte e w0 (w.alloc (.cells (zs.map fun b => Value.int .u8 (b.toNat : Int)).toArray e)) (.slice (some ⟨w.heap.size, 0, none⟩) zs.length zs.length) zs :=
  ⟨⟨_, Own.lit w e zs hz, fun k hk => by simp at hk; subst hk; exact h.size⟩, h.alloc _⟩
theorem lit2 (e : TypeId) {b0 b1 : UInt8} {x0 x1 : Int} (h0 : (b0.toNat : Int) = x0) (h1 : (b1.toNat : Int) = x1) {g : Nat} (hg : g = w.heap.size) (h : New w0 w) : Mine Ty.byte e w0 (w.alloc (.cells #[.int .u8 x0, .int .u8 x1] e)) (.slice (some ⟨g, 0, none⟩) 2 2) [b0, b1] := by
  subst h0; subst h1; subst hg
  exact lit e [b0, b1] (by simp) h
theorem lit0 (e : TypeId) {g : Nat} (hg : g = w.heap.size) (h : New w0 w) : Mine Ty.byte e w0 (w.alloc (.cells #[] e)) (.slice (some ⟨g, 0, none⟩) 0 0) [] := by
  subst hg
  exact lit e [] (by simp) h
end Mine
theorem RetOwn.mine {α : Type} {d : Ty α} {t : TypeId} {w w' : World} {xs : List α} {e : Ending} (h : RetOwn d t w xs e w') : ∃ A c, e = .returned (.slice A xs.length c) ∧ Mine d t w w' (.slice A xs.length c) xs := by
  obtain ⟨A, c, F, rfl, ho, hF, hm⟩ := h
  exact ⟨A, c, rfl, ⟨⟨F, ho, hF⟩, hm⟩⟩

theorem Row.one (w : World) (e : TypeId) (b : UInt8) (n : Int) (h : (b.toNat : Int) = n) : Row Ty.byte (w.alloc (.cells #[.int .u8 n] e)) (· = w.heap.size) (some ⟨w.heap.size, 0, none⟩) 1 [b] := by
  subst h
  exact Row.const w e (0, 0) [b] (by simp)
theorem Row.four (w : World) (e : TypeId) {b0 b1 b2 b3 : UInt8} {x0 x1 x2 x3 : Int} (h0 : (b0.toNat : Int) = x0) (h1 : (b1.toNat : Int) = x1) (h2 : (b2.toNat : Int) = x2) (h3 : (b3.toNat : Int) = x3) :
    Row Ty.byte (w.alloc (.cells #[.int .u8 x0, .int .u8 x1, .int .u8 x2, .int .u8 x3] e)) (· = w.heap.size) (some ⟨w.heap.size, 0, none⟩) 4 [b0, b1, b2, b3] := by
  subst h0; subst h1; subst h2; subst h3
  exact Row.const w e (0, 0) [b0, b1, b2, b3] (by simp)
theorem wpList_mk {P : Program} (w : World) {ops : Array Oper} {rest : List Oper} {o : Oper} {a : Act} {Q : Exit → Act → World → Prop} (hgd : o.guard = none) (l : Operand) (t : TypeId)
    (ho : o.op = .makeSlice t l l) {α : Type} (d : Ty α) (e : TypeId) {z : Value} (ht : P.underlying t = some (.slice e)) (hE : Elt P e d.sz z) (x0 : α) (hx0 : ∀ w, d.M w [] x0 z.cells.toList)
    (n : Nat) (hn : a.eval l = .int .i64 (n : Int)) (hlen : n ≤ 34359738368)
    (h : ∀ w', Mine d e w w' (.slice (some ⟨w.heap.size, 0, none⟩) n n) (List.replicate n x0) → wpList P ops Q rest (a.put o.dst (.slice (some ⟨w.heap.size, 0, none⟩) n n)) w') : wpList P ops Q (o :: rest) a w :=
  wpList_make w hgd l t ho d e ht hE x0 hx0 n hn hlen fun w' h1 h2 => h w' ⟨⟨_, h1, fun k hk => by simp at hk; omega⟩, h2⟩
/-- copy over a whole new row -/
theorem wpList_copyAll {P : Program} (w : World) {ops : Array Oper} {rest : List Oper} {o : Oper} {a : Act} {Q : Exit → Act → World → Prop} (hgd : o.guard = none) (x s : Operand) (dT sT : TypeId)
    (ho : o.op = .call { callee := .builtin .copy, args := #[x, s], argTypes := #[dT, sT] }) {α : Type} {d : Ty α} {e : TypeId} {z : Value} (hu : P.underlying dT = some (.slice e)) (hE : Elt P e d.sz z) (hsz : d.sz = 1) (hf : Flat d)
    {w0 : World} {g n c c' : Nat} {A : Option Addr} {B : Nat → Prop} {zs ys : List α} (hd : a.eval x = .slice (some ⟨g, 0, none⟩) n c) (hs : a.eval s = .slice A n c')
    (hown : Mine d e w0 w (.slice (some ⟨g, 0, none⟩) n c) zs) (hrow : Row d w B A n ys)
    (h : ∀ w', Mine d e w0 w' (.slice (some ⟨g, 0, none⟩) n c) ys → wpList P ops Q rest (a.put o.dst (.int .i64 (n : Int))) w') : wpList P ops Q (o :: rest) a w := by
  obtain ⟨⟨F, ho2, hF⟩, hn⟩ := hown
  have hg : w0.heap.size ≤ g := hF g (ho2.own_mem g rfl)
  refine wpList_copy_full w hgd x s dT sT ho d e hu hE hsz hf hd hs ho2 (by obtain ⟨A', c1, hv, _⟩ := ho2.form; injection hv with _ e2 _; exact e2.symm) hrow fun w' h1 h2 => h w' ⟨⟨_, h1, fun k hk => by simp at hk; omega⟩, hn.trans h2 fun i hi hlt => by omega⟩
/-- append of elements that lead nowhere -/
theorem wpList_app {P : Program} (w : World) {ops : Array Oper} {rest : List Oper} {o : Oper} {a : Act} {Q : Exit → Act → World → Prop} (hgd : o.guard = none) (s x : Operand) (t : TypeId)
    (ho : o.op = .call { callee := .builtin .append, args := #[s, x], argTypes := #[t, t] })
    {α : Type} {d : Ty α} {e : TypeId} {z : Value} (ht : P.underlying t = some (.slice e)) (hE : Elt P e d.sz z) (hf : Flat d)
    {w0 : World} {A A' : Option Addr} {n m c c' : Nat} {xs ys : List α} {B : Nat → Prop} (hs : a.eval s = .slice A n c) (hx : a.eval x = .slice A' m c') (hown : Mine d e w0 w (.slice A n c) xs) (hy : Row d w B A' m ys)
    (hlen : xs.length + ys.length ≤ 34359738368)
    (h : ∀ A' n' c' w', Mine d e w0 w' (.slice A' n' c') (xs ++ ys) → wpList P ops Q rest (a.put o.dst (.slice A' n' c')) w') : wpList P ops Q (o :: rest) a w := by
  obtain ⟨news, hel, hA⟩ := hy.flat hf
  obtain ⟨⟨F, ho2, hF⟩, hn⟩ := hown
  refine wpList_append w hgd s x t ho d e ht hE hs ho2 hx hel hy.1 hA (by rw [flat_nil]; exact List.nodup_nil) (by rw [flat_nil]; intro k hk; cases hk) (by have := hy.1; omega) ?_
  intro A2 n2 c2 w2 F2 ho3 hn2 hm2 hF2
  exact h _ _ _ _ ⟨⟨F2, ho3, far_app hn hF (by rw [flat_nil]; simp) hF2⟩, New.app hn ho2 hF hm2⟩
end Go.Proofs.Ytciiejkfppnimaa.Mem
