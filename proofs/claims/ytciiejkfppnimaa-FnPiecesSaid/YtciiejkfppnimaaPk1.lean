/- More of the library of memory predicates: copy over a whole new row. Rows owned in a range of blocks, beside local cells. -/
import Derived.Test.YtciiejkfppnimaaPk0
import Derived.Laws.IdiomCopy
import Derived.Laws.Rows
import Derived.Laws.Tables
namespace Go.Proofs.Ytciiejkfppnimaa.Mem
open Go.RowKit
set_option linter.unusedVariables false

/-- copy(out, b), where out is a row of the call's own as long as b -/
theorem wpList_copy_full {P : Program} (w : World) {ops : Array Oper} {rest : List Oper} {o : Oper} {a : Act} {Q : Exit → Act → World → Prop} (hgd : o.guard = none) (x s : Operand) (dT sT : TypeId)
    (ho : o.op = .call { callee := .builtin .copy, args := #[x, s], argTypes := #[dT, sT] }) {α : Type} (d : Ty α) (e : TypeId) {z : Value} (hu : P.underlying dT = some (.slice e)) (hE : Elt P e d.sz z) (hsz : d.sz = 1) (hf : Flat d)
    {g n c c' : Nat} {A : Option Addr} {B : Nat → Prop} {F : List Nat} {zs ys : List α} (hd : a.eval x = .slice (some ⟨g, 0, none⟩) n c) (hs : a.eval s = .slice A n c')
    (hown : Own d e w F (.slice (some ⟨g, 0, none⟩) n c) zs) (hl : zs.length = n) (hrow : Row d w B A n ys)
    (h : ∀ w', Own d e w' [g] (.slice (some ⟨g, 0, none⟩) n c) ys → Mod (· = g) w w' → wpList P ops Q rest (a.put o.dst (.int .i64 (n : Int))) w') : wpList P ops Q (o :: rest) a w := by
  have hyl : ys.length = n := hrow.1
  obtain ⟨news, hel, hA⟩ := hrow.flat hf
  have hnl : news.length = n := by have := hel.clen; rw [hsz, hyl] at this; omega
  obtain ⟨⟨i, hi, hz, hsi, hb⟩, hzc, hpos⟩ := hE
  have hsz1 : (P.info? e).map (·.size) = some 1 := by rw [hi]; simp [hsi, hsz]
  obtain ⟨inner, Fs, ho2, hel2, rfl, hnd⟩ := hown
  obtain ⟨hil, ho2⟩ := ho2
  rw [hl] at ho2 hil
  rcases ho2 with ⟨hv, _⟩ | ⟨g', cap, cur, hv, _, hg, hnc, hmx, hcs, ht⟩
  · cases hv
  · injection hv with e1 e2 e3
    injection e1 with e1
    injection e1 with e1
    subst e1; subst e3
    refine wpList_plain hgd fun K hK => ?_
    have hrun : ∃ w', (Builtin.copy_ #[dT, sT] o.type #[.slice (some ⟨g, 0, none⟩) n c, .slice A n c']).run P w = .ok (goInt n) w' ∧ w'.heap[g]? = some (.cells (news ++ cur.toList.drop n).toArray e (0, 0)) ∧ Mod (· = g) w w' := by
      rcases Nat.eq_zero_or_pos n with h0 | h0
      · subst h0
        obtain rfl := List.eq_nil_of_length_eq_zero hnl
        exact ⟨w, run_copy_none (P := P) w dT sT o.type e _ _ 0 _ 0 _ hu hsz1 (by simp), by simpa using hg, Mod.refl _ _⟩
      · obtain ⟨ad, rfl, hcell⟩ := hA h0
        have := run_copy_row (P := P) w dT sT o.type e g 0 n c ad n c' cur e news hu hsz1 hg (by rw [hnl]; simp) hcell (by rw [hnl, hcs, hsz]; omega) hel.ones
        rw [hnl] at this
        simp only [List.take_zero, List.nil_append, Nat.zero_add] at this
        refine ⟨_, this, setRow_heap w g _ _ e _ hg, rfl, rfl, rfl, by simp [World.setRow], fun k hk hne => setRow_other w g k _ hne⟩
    obtain ⟨w', hrun, hg', hm⟩ := hrun
    unfold Oper.wp execOp
    simp only [ho, resolve, invoke, builtin, Sem.run_bind, Sem.run_pure, Result.andThen_ok, List.map_toArray, List.map_cons, List.map_nil, hd, hs, hrun]
    refine hK _ _ (h w' ⟨news, List.replicate n [], ⟨by rw [hnl, hyl, hsz]; omega, .inr ⟨g, c, _, by rw [hyl], Nat.zero_le _, hg', by omega, hmx, ?_, ?_⟩⟩, ?_, ?_, by simp⟩ hm)
    · have := congrArg List.length ht; simp [hcs, hnl, hsz]; omega
    · rw [hyl, hsz, Nat.mul_one, List.take_left' hnl]
    · exact hel.mod fun k hk => by rw [flat_nil] at hk; simp at hk
    · rw [flat_nil]; rfl

/-- v is a row of the call's own, younger than w0, and nothing that was there at w0 has changed -/
structure Mine {α : Type} (d : Ty α) (e : TypeId) (w0 w : World) (v : Value) (xs : List α) : Prop where
  ex : ∃ F, Own d e w F v xs ∧ ∀ k, k ∈ F → w0.heap.size ≤ k
  new : New w0 w
namespace Mine
variable {α : Type} {d : Ty α} {e : TypeId} {w0 w1 w w' : World} {v : Value} {xs ys : List α} {A : Option Addr} {n c : Nat}
theorem nil (d : Ty α) (e : TypeId) (h : New w0 w) : Mine d e w0 w (.slice none 0 0) [] := ⟨⟨[], Own.nil d e w, by simp⟩, h⟩
theorem step (h : Mine d e w0 w v xs) (hm : New w w') : Mine d e w0 w' v xs := by
  obtain ⟨⟨F, ho, hF⟩, hn⟩ := h
  exact ⟨⟨F, ho.new hm, hF⟩, hn.transN hm⟩
theorem alloc (h : Mine d e w0 w v xs) (o : Obj) : Mine d e w0 (w.alloc o) v xs := h.step ((Mod.refl _ _).alloc o)
theorem base (h : Mine d e w1 w v xs) (hm : New w0 w1) : Mine d e w0 w v xs := by
  obtain ⟨⟨F, ho, hF⟩, hn⟩ := h
  exact ⟨⟨F, ho, fun k hk => Nat.le_trans hm.size (hF k hk)⟩, hm.transN hn⟩
theorem form (h : Mine d e w0 w v xs) : ∃ A c, v = .slice A xs.length c ∧ xs.length ≤ c ∧ c ≤ 9223372036854775807 := by
  obtain ⟨⟨F, ho, hF⟩, hn⟩ := h; exact ho.form
theorem len (h : Mine d e w0 w (.slice A n c) xs) : n = xs.length ∧ n ≤ c ∧ c ≤ 9223372036854775807 := by
  obtain ⟨A', c', hv, h1, h2⟩ := h.form
  injection hv with e1 e2 e3
  subst e3; exact ⟨e2, by omega, h2⟩
theorem row (h : Mine d e w0 w (.slice A n c) xs) : Row d w (fun k => w0.heap.size ≤ k ∧ k < w.heap.size) A n xs := by
  obtain rfl := h.len.1
  obtain ⟨⟨F, ho, hF⟩, hn⟩ := h
  exact (ho.row rfl).mod (fun k hk => ⟨hF k hk, ho.lt k hk⟩) (fun _ _ => rfl)
/-- what was read at w0 is still read -/
theorem read {β : Type} {b : Ty β} {B : Nat → Prop} {A' : Option Addr} {m : Nat} {zs : List β} (h : Mine d e w0 w v xs) (hr : Row b w0 B A' m zs) (hB : ∀ k, B k → k < w0.heap.size) : Row b w B A' m zs :=
  hr.mod (fun _ h => h) fun k hk => h.new.block k (hB k hk) id
theorem ret (h : Mine d e w0 w v xs) : RetOwn d e w0 xs (.returned v) w := by
  obtain ⟨⟨F, ho, hF⟩, hn⟩ := h
  exact RetOwn.of ho hF hn
theorem of {F : List Nat} (ho : Own d e w F v xs) (hF : ∀ k, k ∈ F → w0.heap.size ≤ k) (hn : New w0 w) : Mine d e w0 w v xs := ⟨⟨F, ho, hF⟩, hn⟩
theorem lit (e : TypeId) (zs : Bytes) (hz : zs.length ≤ 34359738368) (h : New w0 w) : Mine Ty.byte e w0 (w.alloc (.cells (zs.map fun b => Value.int .u8 (b.toNat : Int)).toArray e)) (.slice (some ⟨w.heap.size, 0, none⟩) zs.length zs.length) zs :=
  ⟨⟨_, Own.lit w e zs hz, fun k hk => by simp at hk; subst hk; exact h.size⟩, h.alloc _⟩
theorem lit2 (e : TypeId) {b0 b1 : UInt8} {x0 x1 : Int} (h0 : (b0.toNat : Int) = x0) (h1 : (b1.toNat : Int) = x1) {g : Nat} (hg : g = w.heap.size) (h : New w0 w) : Mine Ty.byte e w0 (w.alloc (.cells #[.int .u8 x0, .int .u8 x1] e)) (.slice (some ⟨g, 0, none⟩) 2 2) [b0, b1] := by
  subst h0; subst h1; subst hg
  exact lit e [b0, b1] (by simp) h
theorem lit0 (e : TypeId) {g : Nat} (hg : g = w.heap.size) (h : New w0 w) : Mine Ty.byte e w0 (w.alloc (.cells #[] e)) (.slice (some ⟨g, 0, none⟩) 0 0) [] := by
  subst hg
  exact lit e [] (by simp) h
end Mine
theorem RetOwn.mine {α : Type} {d : Ty α} {t : TypeId} {w w' : World} {xs : List α} {e : Ending} (h : RetOwn d t w xs e w') : ∃ A c, e = .returned (.slice A xs.length c) ∧ Mine d t w w' (.slice A xs.length c) xs := by
  obtain ⟨A, c, F, rfl, ho, hF, hm⟩ := h
  exact ⟨A, c, rfl, ⟨⟨F, ho, hF⟩, hm⟩⟩

theorem Row.one (w : World) (e : TypeId) (b : UInt8) (n : Int) (h : (b.toNat : Int) = n) : Row Ty.byte (w.alloc (.cells #[.int .u8 n] e)) (· = w.heap.size) (some ⟨w.heap.size, 0, none⟩) 1 [b] := by
  subst h
  exact Row.const w e (0, 0) [b] (by simp)
theorem Row.four (w : World) (e : TypeId) {b0 b1 b2 b3 : UInt8} {x0 x1 x2 x3 : Int} (h0 : (b0.toNat : Int) = x0) (h1 : (b1.toNat : Int) = x1) (h2 : (b2.toNat : Int) = x2) (h3 : (b3.toNat : Int) = x3) :
    Row Ty.byte (w.alloc (.cells #[.int .u8 x0, .int .u8 x1, .int .u8 x2, .int .u8 x3] e)) (· = w.heap.size) (some ⟨w.heap.size, 0, none⟩) 4 [b0, b1, b2, b3] := by
  subst h0; subst h1; subst h2; subst h3
  exact Row.const w e (0, 0) [b0, b1, b2, b3] (by simp)
theorem wpList_mk {P : Program} (w : World) {ops : Array Oper} {rest : List Oper} {o : Oper} {a : Act} {Q : Exit → Act → World → Prop} (hgd : o.guard = none) (l : Operand) (t : TypeId)
    (ho : o.op = .makeSlice t l l) {α : Type} (d : Ty α) (e : TypeId) {z : Value} (ht : P.underlying t = some (.slice e)) (hE : Elt P e d.sz z) (x0 : α) (hx0 : ∀ w, d.M w [] x0 z.cells.toList)
    (n : Nat) (hn : a.eval l = .int .i64 (n : Int)) (hlen : n ≤ 34359738368)
    (h : ∀ w', Mine d e w w' (.slice (some ⟨w.heap.size, 0, none⟩) n n) (List.replicate n x0) → wpList P ops Q rest (a.put o.dst (.slice (some ⟨w.heap.size, 0, none⟩) n n)) w') : wpList P ops Q (o :: rest) a w :=
  wpList_make w hgd l t ho d e ht hE x0 hx0 n hn hlen fun w' h1 h2 => h w' ⟨⟨_, h1, fun k hk => by simp at hk; omega⟩, h2⟩
/-- copy over a whole new row -/
theorem wpList_copyAll {P : Program} (w : World) {ops : Array Oper} {rest : List Oper} {o : Oper} {a : Act} {Q : Exit → Act → World → Prop} (hgd : o.guard = none) (x s : Operand) (dT sT : TypeId)
    (ho : o.op = .call { callee := .builtin .copy, args := #[x, s], argTypes := #[dT, sT] }) {α : Type} {d : Ty α} {e : TypeId} {z : Value} (hu : P.underlying dT = some (.slice e)) (hE : Elt P e d.sz z) (hsz : d.sz = 1) (hf : Flat d)
    {w0 : World} {g n c c' : Nat} {A : Option Addr} {B : Nat → Prop} {zs ys : List α} (hd : a.eval x = .slice (some ⟨g, 0, none⟩) n c) (hs : a.eval s = .slice A n c')
    (hown : Mine d e w0 w (.slice (some ⟨g, 0, none⟩) n c) zs) (hrow : Row d w B A n ys)
    (h : ∀ w', Mine d e w0 w' (.slice (some ⟨g, 0, none⟩) n c) ys → wpList P ops Q rest (a.put o.dst (.int .i64 (n : Int))) w') : wpList P ops Q (o :: rest) a w := by
  obtain ⟨⟨F, ho2, hF⟩, hn⟩ := hown
  have hg : w0.heap.size ≤ g := hF g (ho2.own_mem g rfl)
  refine wpList_copy_full w hgd x s dT sT ho d e hu hE hsz hf hd hs ho2 (by obtain ⟨A', c1, hv, _⟩ := ho2.form; injection hv with _ e2 _; exact e2.symm) hrow fun w' h1 h2 => h w' ⟨⟨_, h1, fun k hk => by simp at hk; omega⟩, hn.trans h2 fun i hi hlt => by omega⟩
/-- append of elements that lead nowhere -/
theorem wpList_app {P : Program} (w : World) {ops : Array Oper} {rest : List Oper} {o : Oper} {a : Act} {Q : Exit → Act → World → Prop} (hgd : o.guard = none) (s x : Operand) (t : TypeId)
    (ho : o.op = .call { callee := .builtin .append, args := #[s, x], argTypes := #[t, t] })
    {α : Type} {d : Ty α} {e : TypeId} {z : Value} (ht : P.underlying t = some (.slice e)) (hE : Elt P e d.sz z) (hf : Flat d)
    {w0 : World} {A A' : Option Addr} {n m c c' : Nat} {xs ys : List α} {B : Nat → Prop} (hs : a.eval s = .slice A n c) (hx : a.eval x = .slice A' m c') (hown : Mine d e w0 w (.slice A n c) xs) (hy : Row d w B A' m ys)
    (hlen : xs.length + ys.length ≤ 34359738368)
    (h : ∀ A' n' c' w', Mine d e w0 w' (.slice A' n' c') (xs ++ ys) → wpList P ops Q rest (a.put o.dst (.slice A' n' c')) w') : wpList P ops Q (o :: rest) a w := by
  obtain ⟨news, hel, hA⟩ := hy.flat hf
  obtain ⟨⟨F, ho2, hF⟩, hn⟩ := hown
  refine wpList_append w hgd s x t ho d e ht hE hs ho2 hx hel hy.1 hA (by rw [flat_nil]; exact List.nodup_nil) (by rw [flat_nil]; intro k hk; cases hk) (by have := hy.1; omega) ?_
  intro A2 n2 c2 w2 F2 ho3 hn2 hm2 hF2
  exact h _ _ _ _ ⟨⟨F2, ho3, far_app hn hF (by rw [flat_nil]; simp) hF2⟩, New.app hn ho2 hF hm2⟩
end Go.Proofs.Ytciiejkfppnimaa.Mem

namespace Go.Proofs.Ytciiejkfppnimaa.Mem
open Go.RowKit
set_option linter.unusedVariables false

/-- a row of the call's own whose blocks lie from lo on and below hi -/
def OwI {α : Type} (d : Ty α) (e : TypeId) (w : World) (lo hi : Nat) (v : Value) (xs : List α) : Prop := ∃ F, Own d e w F v xs ∧ ∀ k, k ∈ F → lo ≤ k ∧ k < hi
namespace OwI
variable {α : Type} {d : Ty α} {e : TypeId} {w w' : World} {lo hi lo' hi' : Nat} {v : Value} {xs : List α} {A : Option Addr} {n c : Nat}
theorem nil (d : Ty α) (e : TypeId) (w : World) (lo hi : Nat) : OwI d e w lo hi (.slice none 0 0) [] := ⟨[], Own.nil d e w, by simp⟩
theorem keep {S : Nat → Prop} (h : OwI d e w lo hi v xs) (hm : Mod S w w') (hS : ∀ k, lo ≤ k → k < hi → ¬ S k) : OwI d e w' lo hi v xs := by
  obtain ⟨F, ho, hF⟩ := h
  exact ⟨F, ho.keep hm fun k hk => hS k (hF k hk).1 (hF k hk).2, hF⟩
theorem new (h : OwI d e w lo hi v xs) (hm : New w w') : OwI d e w' lo hi v xs := h.keep hm fun _ _ _ h => h
theorem wide (h : OwI d e w lo hi v xs) (h1 : lo' ≤ lo) (h2 : hi ≤ hi') : OwI d e w lo' hi' v xs := by
  obtain ⟨F, ho, hF⟩ := h
  exact ⟨F, ho, fun k hk => ⟨Nat.le_trans h1 (hF k hk).1, Nat.lt_of_lt_of_le (hF k hk).2 h2⟩⟩
theorem len (h : OwI d e w lo hi (.slice A n c) xs) : n = xs.length ∧ n ≤ c ∧ c ≤ 9223372036854775807 := by
  obtain ⟨F, ho, hF⟩ := h
  obtain ⟨A', c', hv, h1, h2⟩ := ho.form
  injection hv with e1 e2 e3
  subst e3; exact ⟨e2, by omega, h2⟩
theorem form (h : OwI d e w lo hi v xs) : ∃ A c, v = .slice A xs.length c := by
  obtain ⟨F, ho, hF⟩ := h; obtain ⟨A, c, hv, _⟩ := ho.form; exact ⟨A, c, hv⟩
theorem row (h : OwI d e w lo hi (.slice A n c) xs) : Row d w (fun k => lo ≤ k ∧ k < hi) A n xs := by
  obtain rfl := h.len.1
  obtain ⟨F, ho, hF⟩ := h
  exact (ho.row rfl).mod hF (fun _ _ => rfl)
theorem rowlt (h : OwI d e w lo hi (.slice A n c) xs) : Row d w (· < w.heap.size) A n xs := by
  obtain rfl := h.len.1
  obtain ⟨F, ho, hF⟩ := h
  exact (ho.row rfl).mod ho.lt (fun _ _ => rfl)
end OwI
theorem Mine.owi {α : Type} {d : Ty α} {e : TypeId} {w0 w : World} {v : Value} {xs : List α} (h : Mine d e w0 w v xs) : OwI d e w w0.heap.size w.heap.size v xs := by
  obtain ⟨⟨F, ho, hF⟩, hn⟩ := h
  exact ⟨F, ho, fun k hk => ⟨hF k hk, ho.lt k hk⟩⟩
theorem OwI.ret {α : Type} {d : Ty α} {t : TypeId} {w w' : World} {lo hi : Nat} {xs : List α} {v : Value} (h : OwI d t w' lo hi v xs) (hl : w.heap.size ≤ lo) (hm : New w w') : RetOwn d t w xs (.returned v) w' := by
  obtain ⟨F, ho, hF⟩ := h
  exact RetOwn.of ho (fun k hk => Nat.le_trans hl (hF k hk).1) hm

/-- append of elements that lead nowhere -/
theorem wp_appI {P : Program} (w : World) {o : Oper} {a : Act} {K : Act → World → Prop} {Q : Exit → Act → World → Prop} (s x : Operand) (t : TypeId)
    (ho : o.op = .call { callee := .builtin .append, args := #[s, x], argTypes := #[t, t] })
    {α : Type} {d : Ty α} {e : TypeId} {z : Value} (ht : P.underlying t = some (.slice e)) (hE : Elt P e d.sz z) (hf : Flat d)
    {lo hi : Nat} {A A' : Option Addr} {n m c c' : Nat} {xs ys : List α} {B : Nat → Prop} (hs : a.eval s = .slice A n c) (hx : a.eval x = .slice A' m c') (hown : OwI d e w lo hi (.slice A n c) xs) (hy : Row d w B A' m ys)
    (hlo : lo ≤ w.heap.size) (hlen : xs.length + ys.length ≤ 34359738368)
    (h : ∀ A' n' c' w', OwI d e w' lo w'.heap.size (.slice A' n' c') (xs ++ ys) → Mod (fun k => lo ≤ k ∧ k < hi) w w' → K (a.put o.dst (.slice A' n' c')) w') : o.wp P a w K Q := by
  obtain ⟨news, hel, hA⟩ := hy.flat hf
  obtain ⟨F, ho2, hF⟩ := hown
  refine wp_append w s x t ho d e ht hE hs ho2 hx hel hy.1 hA (by rw [flat_nil]; exact List.nodup_nil) (by rw [flat_nil]; intro k hk; cases hk) (by have := hy.1; omega) ?_
  intro A2 n2 c2 w2 F2 ho3 hn2 hm2 hF2
  refine h _ _ _ _ ⟨F2, ho3, fun k hk => ⟨?_, ho3.lt k hk⟩⟩ (hm2.mono fun i _ hi => hF i (ho2.own_mem i hi))
  rcases hF2 k hk with h1 | h1 | h1
  · exact (hF k h1).1
  · rw [flat_nil] at h1; cases h1
  · omega
/-- append of one element that owns what it leads to -/
theorem wp_appO {P : Program} (w : World) {o : Oper} {a : Act} {K : Act → World → Prop} {Q : Exit → Act → World → Prop} (s x : Operand) (t : TypeId)
    (ho : o.op = .call { callee := .builtin .append, args := #[s, x], argTypes := #[t, t] })
    {α : Type} {d : Ty α} {e : TypeId} {z : Value} (ht : P.underlying t = some (.slice e)) (hE : Elt P e d.sz z)
    {lo hi : Nat} {A A' : Option Addr} {n c c' : Nat} {xs : List α} {y : α} {G : List Nat} {news : List Value} (hs : a.eval s = .slice A n c) (hx : a.eval x = .slice A' 1 c') (hown : OwI d e w lo hi (.slice A n c) xs)
    (hM : d.M w G y news) (hG : ∀ k, k ∈ G → hi ≤ k) (hA : ∃ ad, A' = some ad ∧ ∀ j u, news[j]? = some u → w.cell? (ad.add j) = some u)
    (hlo : lo ≤ hi) (hlo' : hi ≤ w.heap.size) (hlen : xs.length + 1 ≤ 34359738368)
    (h : ∀ A' n' c' w', OwI d e w' lo w'.heap.size (.slice A' n' c') (xs ++ [y]) → Mod (fun k => lo ≤ k ∧ k < hi) w w' → K (a.put o.dst (.slice A' n' c')) w') : o.wp P a w K Q := by
  obtain ⟨F, ho2, hF⟩ := hown
  refine wp_append w s x t ho d e ht hE hs ho2 hx (Elems.one hM) rfl (fun _ => hA) (by simpa using d.M_nd hM) (fun k hk hk2 => by simp at hk; have := hG k hk; have := (hF k hk2).2; omega) hlen ?_
  intro A2 n2 c2 w2 F2 ho3 hn2 hm2 hF2
  refine h _ _ _ _ ⟨F2, ho3, fun k hk => ⟨?_, ho3.lt k hk⟩⟩ (hm2.mono fun i _ hi => hF i (ho2.own_mem i hi))
  rcases hF2 k hk with h1 | h1 | h1
  · exact (hF k h1).1
  · simp at h1; have := hG k h1; omega
  · omega
section
variable {P : Program} {ops : Array Oper} {rest : List Oper} {o : Oper} {a : Act} {Q : Exit → Act → World → Prop} {K : Act → World → Prop} {E : Prop} {α : Type} {d : Ty α} {e : TypeId} {z : Value}
theorem step_of {w : World} (hg : o.guard = none) (h : o.wp P a w K Q) : if Region.wanted o (yielded ops a.tmps) = true then Oper.wp P o a w K Q else E := by
  have hw : Region.wanted o (yielded ops a.tmps) = true := by simp [Region.wanted, hg]
  rw [if_pos hw]; exact h
theorem wpList_appI (w : World) (hgd : o.guard = none) (s x : Operand) (t : TypeId)
    (ho : o.op = .call { callee := .builtin .append, args := #[s, x], argTypes := #[t, t] }) (ht : P.underlying t = some (.slice e)) (hE : Elt P e d.sz z) (hf : Flat d)
    {lo hi : Nat} {A A' : Option Addr} {n m c c' : Nat} {xs ys : List α} {B : Nat → Prop} (hs : a.eval s = .slice A n c) (hx : a.eval x = .slice A' m c') (hown : OwI d e w lo hi (.slice A n c) xs) (hy : Row d w B A' m ys)
    (hlo : lo ≤ w.heap.size) (hlen : xs.length + ys.length ≤ 34359738368)
    (h : ∀ A' n' c' w', OwI d e w' lo w'.heap.size (.slice A' n' c') (xs ++ ys) → Mod (fun k => lo ≤ k ∧ k < hi) w w' → wpList P ops Q rest (a.put o.dst (.slice A' n' c')) w') : wpList P ops Q (o :: rest) a w :=
  wpList_plain hgd fun _ hK => wp_appI w s x t ho ht hE hf hs hx hown hy hlo hlen fun A' n' c' w' h1 h2 => hK _ _ (h A' n' c' w' h1 h2)
theorem step_appI (w : World) (hgd : o.guard = none) (s x : Operand) (t : TypeId)
    (ho : o.op = .call { callee := .builtin .append, args := #[s, x], argTypes := #[t, t] }) (ht : P.underlying t = some (.slice e)) (hE : Elt P e d.sz z) (hf : Flat d)
    {lo hi : Nat} {A A' : Option Addr} {n m c c' : Nat} {xs ys : List α} {B : Nat → Prop} (hs : a.eval s = .slice A n c) (hx : a.eval x = .slice A' m c') (hown : OwI d e w lo hi (.slice A n c) xs) (hy : Row d w B A' m ys)
    (hlo : lo ≤ w.heap.size) (hlen : xs.length + ys.length ≤ 34359738368)
    (h : ∀ A' n' c' w', OwI d e w' lo w'.heap.size (.slice A' n' c') (xs ++ ys) → Mod (fun k => lo ≤ k ∧ k < hi) w w' → K (a.put o.dst (.slice A' n' c')) w') : if Region.wanted o (yielded ops a.tmps) = true then Oper.wp P o a w K Q else E :=
  step_of hgd (wp_appI w s x t ho ht hE hf hs hx hown hy hlo hlen h)
theorem wpList_appO (w : World) (hgd : o.guard = none) (s x : Operand) (t : TypeId)
    (ho : o.op = .call { callee := .builtin .append, args := #[s, x], argTypes := #[t, t] }) (ht : P.underlying t = some (.slice e)) (hE : Elt P e d.sz z)
    {lo hi : Nat} {A A' : Option Addr} {n c c' : Nat} {xs : List α} {y : α} {G : List Nat} {news : List Value} (hs : a.eval s = .slice A n c) (hx : a.eval x = .slice A' 1 c') (hown : OwI d e w lo hi (.slice A n c) xs)
    (hM : d.M w G y news) (hG : ∀ k, k ∈ G → hi ≤ k) (hA : ∃ ad, A' = some ad ∧ ∀ j u, news[j]? = some u → w.cell? (ad.add j) = some u)
    (hlo : lo ≤ hi) (hlo' : hi ≤ w.heap.size) (hlen : xs.length + 1 ≤ 34359738368)
    (h : ∀ A' n' c' w', OwI d e w' lo w'.heap.size (.slice A' n' c') (xs ++ [y]) → Mod (fun k => lo ≤ k ∧ k < hi) w w' → wpList P ops Q rest (a.put o.dst (.slice A' n' c')) w') : wpList P ops Q (o :: rest) a w :=
  wpList_plain hgd fun _ hK => wp_appO w s x t ho ht hE hs hx hown hM hG hA hlo hlo' hlen fun A' n' c' w' h1 h2 => hK _ _ (h A' n' c' w' h1 h2)
theorem step_appO (w : World) (hgd : o.guard = none) (s x : Operand) (t : TypeId)
    (ho : o.op = .call { callee := .builtin .append, args := #[s, x], argTypes := #[t, t] }) (ht : P.underlying t = some (.slice e)) (hE : Elt P e d.sz z)
    {lo hi : Nat} {A A' : Option Addr} {n c c' : Nat} {xs : List α} {y : α} {G : List Nat} {news : List Value} (hs : a.eval s = .slice A n c) (hx : a.eval x = .slice A' 1 c') (hown : OwI d e w lo hi (.slice A n c) xs)
    (hM : d.M w G y news) (hG : ∀ k, k ∈ G → hi ≤ k) (hA : ∃ ad, A' = some ad ∧ ∀ j u, news[j]? = some u → w.cell? (ad.add j) = some u)
    (hlo : lo ≤ hi) (hlo' : hi ≤ w.heap.size) (hlen : xs.length + 1 ≤ 34359738368)
    (h : ∀ A' n' c' w', OwI d e w' lo w'.heap.size (.slice A' n' c') (xs ++ [y]) → Mod (fun k => lo ≤ k ∧ k < hi) w w' → K (a.put o.dst (.slice A' n' c')) w') : if Region.wanted o (yielded ops a.tmps) = true then Oper.wp P o a w K Q else E :=
  step_of hgd (wp_appO w s x t ho ht hE hs hx hown hM hG hA hlo hlo' hlen h)
end
/-- a row of the call's own whose blocks meet X -/
def OwP {α : Type} (d : Ty α) (e : TypeId) (w : World) (X : Nat → Prop) (v : Value) (xs : List α) : Prop := ∃ F, Own d e w F v xs ∧ ∀ k, k ∈ F → X k
theorem OwP.keep {α : Type} {d : Ty α} {e : TypeId} {w w' : World} {X S : Nat → Prop} {v : Value} {xs : List α} (h : OwP d e w X v xs) (hm : Mod S w w') (hS : ∀ k, X k → ¬ S k) : OwP d e w' X v xs := by
  obtain ⟨F, ho, hF⟩ := h
  exact ⟨F, ho.keep hm fun k hk => hS k (hF k hk), hF⟩
theorem OwP.new {α : Type} {d : Ty α} {e : TypeId} {w w' : World} {X : Nat → Prop} {v : Value} {xs : List α} (h : OwP d e w X v xs) (hm : New w w') : OwP d e w' X v xs := h.keep hm fun _ _ h => h
theorem OwP.len {α : Type} {d : Ty α} {e : TypeId} {w : World} {X : Nat → Prop} {A : Option Addr} {n c : Nat} {xs : List α} (h : OwP d e w X (.slice A n c) xs) : n = xs.length ∧ n ≤ c ∧ c ≤ 9223372036854775807 := by
  obtain ⟨F, ho, hF⟩ := h
  obtain ⟨A', c', hv, h1, h2⟩ := ho.form
  injection hv with e1 e2 e3
  subst e3; exact ⟨e2, by omega, h2⟩
theorem OwP.row {α : Type} {d : Ty α} {e : TypeId} {w : World} {X : Nat → Prop} {A : Option Addr} {n c : Nat} {xs : List α} (h : OwP d e w X (.slice A n c) xs) : Row d w X A n xs := by
  obtain rfl := h.len.1
  obtain ⟨F, ho, hF⟩ := h
  exact (ho.row rfl).mod hF (fun _ _ => rfl)
theorem OwP.ret {α : Type} {d : Ty α} {t : TypeId} {w w' : World} {X : Nat → Prop} {xs : List α} {v : Value} (h : OwP d t w' X v xs) (hl : ∀ k, X k → w.heap.size ≤ k) (hm : New w w') : RetOwn d t w xs (.returned v) w' := by
  obtain ⟨F, ho, hF⟩ := h
  exact RetOwn.of ho (fun k hk => hl k (hF k hk)) hm
theorem Mine.owp {α : Type} {d : Ty α} {e : TypeId} {w0 w : World} {v : Value} {xs : List α} (h : Mine d e w0 w v xs) {X : Nat → Prop} (hX : ∀ k, w0.heap.size ≤ k → k < w.heap.size → X k) : OwP d e w X v xs := by
  obtain ⟨⟨F, ho, hF⟩, hn⟩ := h
  exact ⟨F, ho, fun k hk => hX k (hF k hk) (ho.lt k hk)⟩
theorem wp_appP {P : Program} (w : World) {o : Oper} {a : Act} {K : Act → World → Prop} {Q : Exit → Act → World → Prop} (s x : Operand) (t : TypeId)
    (ho : o.op = .call { callee := .builtin .append, args := #[s, x], argTypes := #[t, t] })
    {α : Type} {d : Ty α} {e : TypeId} {z : Value} (ht : P.underlying t = some (.slice e)) (hE : Elt P e d.sz z) (hf : Flat d)
    {X : Nat → Prop} {A A' : Option Addr} {n m c c' : Nat} {xs ys : List α} {B : Nat → Prop} (hs : a.eval s = .slice A n c) (hx : a.eval x = .slice A' m c') (hown : OwP d e w X (.slice A n c) xs) (hy : Row d w B A' m ys)
    (hX : ∀ k, w.heap.size ≤ k → X k) (hlen : xs.length + ys.length ≤ 34359738368)
    (h : ∀ A' n' c' w', OwP d e w' X (.slice A' n' c') (xs ++ ys) → Mod X w w' → K (a.put o.dst (.slice A' n' c')) w') : o.wp P a w K Q := by
  obtain ⟨news, hel, hA⟩ := hy.flat hf
  obtain ⟨F, ho2, hF⟩ := hown
  refine wp_append w s x t ho d e ht hE hs ho2 hx hel hy.1 hA (by rw [flat_nil]; exact List.nodup_nil) (by rw [flat_nil]; intro k hk; cases hk) (by have := hy.1; omega) ?_
  intro A2 n2 c2 w2 F2 ho3 hn2 hm2 hF2
  refine h _ _ _ _ ⟨F2, ho3, fun k hk => ?_⟩ (hm2.mono fun i _ hi => hF i (ho2.own_mem i hi))
  rcases hF2 k hk with h1 | h1 | h1
  · exact hF k h1
  · rw [flat_nil] at h1; cases h1
  · exact hX k (by omega)
theorem wp_appPO {P : Program} (w : World) {o : Oper} {a : Act} {K : Act → World → Prop} {Q : Exit → Act → World → Prop} (s x : Operand) (t : TypeId)
    (ho : o.op = .call { callee := .builtin .append, args := #[s, x], argTypes := #[t, t] })
    {α : Type} {d : Ty α} {e : TypeId} {z : Value} (ht : P.underlying t = some (.slice e)) (hE : Elt P e d.sz z)
    {X : Nat → Prop} {A A' : Option Addr} {n c c' : Nat} {xs : List α} {y : α} {G : List Nat} {news : List Value} (hs : a.eval s = .slice A n c) (hx : a.eval x = .slice A' 1 c') (hown : OwP d e w X (.slice A n c) xs)
    (hM : d.M w G y news) (hG : ∀ k, k ∈ G → X k) (hap : ∀ F, Own d e w F (.slice A n c) xs → (∀ k, k ∈ F → X k) → ∃ F', Own d e w F' (.slice A n c) xs ∧ (∀ k, k ∈ F' → X k) ∧ ∀ k, k ∈ G → ¬ k ∈ F') (hA : ∃ ad, A' = some ad ∧ ∀ j u, news[j]? = some u → w.cell? (ad.add j) = some u)
    (hX : ∀ k, w.heap.size ≤ k → X k) (hlen : xs.length + 1 ≤ 34359738368)
    (h : ∀ A' n' c' w', OwP d e w' X (.slice A' n' c') (xs ++ [y]) → Mod X w w' → K (a.put o.dst (.slice A' n' c')) w') : o.wp P a w K Q := by
  obtain ⟨F0, ho0, hF0⟩ := hown
  obtain ⟨F, ho2, hF, hdis⟩ := hap F0 ho0 hF0
  refine wp_append w s x t ho d e ht hE hs ho2 hx (Elems.one hM) rfl (fun _ => hA) (by simpa using d.M_nd hM) (fun k hk hk2 => by simp at hk; exact hdis k hk hk2) hlen ?_
  intro A2 n2 c2 w2 F2 ho3 hn2 hm2 hF2
  refine h _ _ _ _ ⟨F2, ho3, fun k hk => ?_⟩ (hm2.mono fun i _ hi => hF i (ho2.own_mem i hi))
  rcases hF2 k hk with h1 | h1 | h1
  · exact hF k h1
  · simp at h1; exact hG k h1
  · exact hX k (by omega)
theorem wpList_appP {P : Program} (w : World) {ops : Array Oper} {rest : List Oper} {o : Oper} {a : Act} {Q : Exit → Act → World → Prop} (hgd : o.guard = none) (s x : Operand) (t : TypeId)
    (ho : o.op = .call { callee := .builtin .append, args := #[s, x], argTypes := #[t, t] }) {α : Type} {d : Ty α} {e : TypeId} {z : Value} (ht : P.underlying t = some (.slice e)) (hE : Elt P e d.sz z) (hf : Flat d)
    {X : Nat → Prop} {A A' : Option Addr} {n m c c' : Nat} {xs ys : List α} {B : Nat → Prop} (hs : a.eval s = .slice A n c) (hx : a.eval x = .slice A' m c') (hown : OwP d e w X (.slice A n c) xs) (hy : Row d w B A' m ys)
    (hX : ∀ k, w.heap.size ≤ k → X k) (hlen : xs.length + ys.length ≤ 34359738368)
    (h : ∀ A' n' c' w', OwP d e w' X (.slice A' n' c') (xs ++ ys) → Mod X w w' → wpList P ops Q rest (a.put o.dst (.slice A' n' c')) w') : wpList P ops Q (o :: rest) a w :=
  wpList_plain hgd fun _ hK => wp_appP w s x t ho ht hE hf hs hx hown hy hX hlen fun A' n' c' w' h1 h2 => hK _ _ (h A' n' c' w' h1 h2)
/-- an empty literal -/
theorem Mine.empty {α : Type} {w0 w : World} (d : Ty α) (e : TypeId) {g : Nat} (hg : g = w.heap.size) (h : New w0 w) : Mine d e w0 (w.alloc (.cells #[] e)) (.slice (some ⟨g, 0, none⟩) 0 0) [] := by
  subst hg
  refine ⟨⟨[w.heap.size], ⟨[], [], ?_, Elems.nil _ _, rfl, by simp⟩, fun k hk => by simp at hk; subst hk; exact h.size⟩, h.alloc _⟩
  exact World.ownsRow_lit w _ 0 (Nat.zero_le _) (by simp only [maxLen]; omega) (by simp)
/-- the cells of a new literal of elements that are written out -/
theorem lit_cells (w : World) (e : TypeId) (cs : List Value) {g : Nat} (hg : g = w.heap.size) : ∃ ad, (some ⟨g, 0, none⟩ : Option Addr) = some ad ∧ ∀ j u, cs[j]? = some u → (w.alloc (.cells cs.toArray e)).cell? (ad.add j) = some u := by
  subst hg
  exact ⟨_, rfl, fun j u hu => by rw [add_own, cell_of_row _ _ j _ e (0, 0) (heap_alloc_new w _)]; simpa using hu⟩
/-- a struct that is handed back out of a block -/
theorem results_blk {P : Program} {fn : Func} {a : Tmp} {t e : TypeId} {fs : Array Field} (h : fn.results = #[.cell a t]) {tmps : Array Value} {w : World} {g : Nat} {cs : List Value} (ht : tmps.getD a undef = .pointer (some ⟨g, 0, none⟩)) (hb : Blk w g e cs)
    (hu : P.underlying t = some (.struct fs)) (hi : (P.info? t).map (·.size) = some cs.length) : (results fn tmps).run P w = .ok (.agg cs.toArray) w := by
  have := run_loadVar_row (P := P) w g e t cs.toArray (0, 0) _ hb hu rfl (by rw [hi]; simp)
  rw [Array.getD_eq_getD_getElem?] at ht
  simp [results, h, ht, asAddr, this]
/-- a composite literal -/
theorem wpList_bld {P : Program} {ops : Array Oper} {rest : List Oper} {o : Oper} {a : Act} {w : World} {Q : Exit → Act → World → Prop} (hg : o.guard = none) (t : TypeId) (parts : Array (Nat × Operand)) (ho : o.op = .build t parts) (cells : Array Value)
    (hf : P.built t (parts.map fun (i, x) => (i, a.eval x)).toList = some cells) (h : wpList P ops Q rest (a.put o.dst (.agg cells)) w) : wpList P ops Q (o :: rest) a w :=
  wpList_build hg t parts ho (by rw [hf]; rfl) (by rw [hf]; exact h)
end Go.Proofs.Ytciiejkfppnimaa.Mem
