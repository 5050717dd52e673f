/- More of the library of memory predicates: copy over a whole new row. Rows owned in a range of blocks, beside local cells. The laws' own helpers over bytes: toByteS copies, eqByteS compares. Decimal numerals of the specification. Numbers read, in plain lists. Texts cut at a byte, in plain lists. -/
import Derived.Test.YtiaknomadhgckaaDoorPk0
import Derived.Laws.IdiomCopy
import Derived.Laws.Rows
import Derived.Laws.Tables
import Derived.Test.YtiaknomadhgckaaDoorProg
import Derived.KernelRfl
import Derived.BigQuiet
import Derived.Deep.QuietTactic
import Derived.Deep.LoopGhost
import Derived.Lib.ItoaNum
import Derived.Lib.SplitLaws
import Derived.Lib.IndexBytes
namespace Go.Proofs.YtiaknomadhgckaaDoor.Mem
open Go.RowKit
set_option linter.unusedVariables false
theorem wpList_copy_full {P : Program} (w : World) {ops : Array Oper} {rest : List Oper} {o : Oper} {a : Act} {Q : Exit → Act → World → Prop} (hgd : o.guard = none) (x s : Operand) (dT sT : TypeId)
    (ho : o.op = .call { callee := .builtin .copy, args := #[x, s], argTypes := #[dT, sT] }) {α : Type} (d : Ty α) (e : TypeId) {z : Value} (hu : P.underlying dT = some (.slice e)) (hE : Elt P e d.sz z) (hsz : d.sz = 1) (hf : Flat d)
    {g n c c' : Nat} {A : Option Addr} {B : Nat → Prop} {F : List Nat} {zs ys : List α} (hd : a.eval x = .slice (some ⟨g, 0, none⟩) n c) (hs : a.eval s = .slice A n c')
    (hown : Own d e w F (.slice (some ⟨g, 0, none⟩) n c) zs) (hl : zs.length = n) (hrow : Row d w B A n ys)
    (h : ∀ w', Own d e w' [g] (.slice (some ⟨g, 0, none⟩) n c) ys → Mod (· = g) w w' → wpList P ops Q rest (a.put o.dst (.int .i64 (n : Int))) w') : wpList P ops Q (o :: rest) a w := by
  have hyl : ys.length = n := hrow.1
  obtain ⟨news, hel, hA⟩ := hrow.flat hf
  have hnl : news.length = n := by have := hel.clen; rw [hsz, hyl] at this; omega
  obtain ⟨⟨i, hi, hz, hsi, hb⟩, hzc, hpos⟩ := hE
  have hsz1 : (P.info? e).map (·.size) = some 1 := by rw [hi]; simp [hsi, hsz]
  obtain ⟨inner, Fs, ho2, hel2, rfl, hnd⟩ := hown
  obtain ⟨hil, ho2⟩ := ho2
  rw [hl] at ho2 hil
  rcases ho2 with ⟨hv, _⟩ | ⟨g', cap, cur, hv, _, hg, hnc, hmx, hcs, ht⟩
  · cases hv
  · injection hv with e1 e2 e3
    injection e1 with e1
    injection e1 with e1
    subst e1; subst e3
    refine wpList_plain hgd fun K hK => ?_
    have hrun : ∃ w', (Builtin.copy_ #[dT, sT] o.type #[.slice (some ⟨g, 0, none⟩) n c, .slice A n c']).run P w = .ok (goInt n) w' ∧ w'.heap[g]? = some (.cells (news ++ cur.toList.drop n).toArray e (0, 0)) ∧ Mod (· = g) w w' := by
      rcases Nat.eq_zero_or_pos n with h0 | h0
      · subst h0
        obtain rfl := List.eq_nil_of_length_eq_zero hnl
        exact ⟨w, run_copy_none (P := P) w dT sT o.type e _ _ 0 _ 0 _ hu hsz1 (by simp), by simpa using hg, Mod.refl _ _⟩
      · obtain ⟨ad, rfl, hcell⟩ := hA h0
        have := run_copy_row (P := P) w dT sT o.type e g 0 n c ad n c' cur e news hu hsz1 hg (by rw [hnl]; simp) hcell (by rw [hnl, hcs, hsz]; omega) hel.ones
        rw [hnl] at this
        simp only [List.take_zero, List.nil_append, Nat.zero_add] at this
        refine ⟨_, this, setRow_heap w g _ _ e _ hg, rfl, rfl, rfl, by simp [World.setRow], fun k hk hne => setRow_other w g k _ hne⟩
    obtain ⟨w', hrun, hg', hm⟩ := hrun
    unfold Oper.wp execOp
    simp only [ho, resolve, invoke, builtin, Sem.run_bind, Sem.run_pure, Result.andThen_ok, List.map_toArray, List.map_cons, List.map_nil, hd, hs, hrun]
    refine hK _ _ (h w' ⟨news, List.replicate n [], ⟨by rw [hnl, hyl, hsz]; omega, .inr ⟨g, c, _, by rw [hyl], Nat.zero_le _, hg', by omega, hmx, ?_, ?_⟩⟩, ?_, ?_, by simp⟩ hm)
    · have := congrArg List.length ht; simp [hcs, hnl, hsz]; omega
    · rw [hyl, hsz, Nat.mul_one, List.take_left' hnl]
    · exact hel.mod fun k hk => by rw [flat_nil] at hk; simp at hk
    · rw [flat_nil]; rfl
structure Mine {α : Type} (d : Ty α) (e : TypeId) (w0 w : World) (v : Value) (xs : List α) : Prop where
  ex : ∃ F, Own d e w F v xs ∧ ∀ k, k ∈ F → w0.heap.size ≤ k
  new : New w0 w
namespace Mine
variable {α : Type} {d : Ty α} {e : TypeId} {w0 w1 w w' : World} {v : Value} {xs ys : List α} {A : Option Addr} {n c : Nat}
theorem nil (d : Ty α) (e : TypeId) (h : New w0 w) : Mine d e w0 w (.slice none 0 0) [] := ⟨⟨[], Own.nil d e w, by simp⟩, h⟩
theorem step (h : Mine d e w0 w v xs) (hm : New w w') : Mine d e w0 w' v xs := by
  obtain ⟨⟨F, ho, hF⟩, hn⟩ := h
  exact ⟨⟨F, ho.new hm, hF⟩, hn.transN hm⟩
theorem alloc (h : Mine d e w0 w v xs) (o : Obj) : Mine d e w0 (w.alloc o) v xs := h.step ((Mod.refl _ _).alloc o)
theorem base (h : Mine d e w1 w v xs) (hm : New w0 w1) : Mine d e w0 w v xs := by
  obtain ⟨⟨F, ho, hF⟩, hn⟩ := h
  exact ⟨⟨F, ho, fun k hk => Nat.le_trans hm.size (hF k hk)⟩, hm.transN hn⟩
theorem form (h : Mine d e w0 w v xs) : ∃ A c, v = .slice A xs.length c ∧ xs.length ≤ c ∧ c ≤ 9223372036854775807 := by
  obtain ⟨⟨F, ho, hF⟩, hn⟩ := h; exact ho.form
theorem len (h : Mine d e w0 w (.slice A n c) xs) : n = xs.length ∧ n ≤ c ∧ c ≤ 9223372036854775807 := by
  obtain ⟨A', c', hv, h1, h2⟩ := h.form
  injection hv with e1 e2 e3
  subst e3; exact ⟨e2, by omega, h2⟩
theorem row (h : Mine d e w0 w (.slice A n c) xs) : Row d w (fun k => w0.heap.size ≤ k ∧ k < w.heap.size) A n xs := by
  obtain rfl := h.len.1
  obtain ⟨⟨F, ho, hF⟩, hn⟩ := h
  exact (ho.row rfl).mod (fun k hk => ⟨hF k hk, ho.lt k hk⟩) (fun _ _ => rfl)
theorem read {β : Type} {b : Ty β} {B : Nat → Prop} {A' : Option Addr} {m : Nat} {zs : List β} (h : Mine d e w0 w v xs) (hr : Row b w0 B A' m zs) (hB : ∀ k, B k → k < w0.heap.size) : Row b w B A' m zs :=
  hr.mod (fun _ h => h) fun k hk => h.new.block k (hB k hk) id
theorem ret (h : Mine d e w0 w v xs) : RetOwn d e w0 xs (.returned v) w := by
  obtain ⟨⟨F, ho, hF⟩, hn⟩ := h
  exact RetOwn.of ho hF hn
theorem of {F : List Nat} (ho : Own d e w F v xs) (hF : ∀ k, k ∈ F → w0.heap.size ≤ k) (hn : New w0 w) : Mine d e w0 w v xs := ⟨⟨F, ho, hF⟩, hn⟩
theorem lit (e : TypeId) (zs : Bytes) (hz : zs.length ≤ 34359738368) (h : New w0 w) : Mine Ty.byte e w0 (w.alloc (.cells (zs.map fun b => Value.int .u8 (b.toNat : Int)).toArray e)) (.slice (some ⟨w.heap.size, 0, none⟩) zs.length zs.length) zs :=
  ⟨⟨_, Own.lit w e zs hz, fun k hk => by simp at hk; subst hk; exact h.size⟩, h.alloc _⟩
theorem lit0 (e : TypeId) {g : Nat} (hg : g = w.heap.size) (h : New w0 w) : Mine Ty.byte e w0 (w.alloc (.cells #[] e)) (.slice (some ⟨g, 0, none⟩) 0 0) [] := by
  subst hg
  exact lit e [] (by simp) h
end Mine
theorem RetOwn.mine {α : Type} {d : Ty α} {t : TypeId} {w w' : World} {xs : List α} {e : Ending} (h : RetOwn d t w xs e w') : ∃ A c, e = .returned (.slice A xs.length c) ∧ Mine d t w w' (.slice A xs.length c) xs := by
  obtain ⟨A, c, F, rfl, ho, hF, hm⟩ := h
  exact ⟨A, c, rfl, ⟨⟨F, ho, hF⟩, hm⟩⟩
theorem Row.one (w : World) (e : TypeId) (b : UInt8) (n : Int) (h : (b.toNat : Int) = n) : Row Ty.byte (w.alloc (.cells #[.int .u8 n] e)) (· = w.heap.size) (some ⟨w.heap.size, 0, none⟩) 1 [b] := by
  subst h
  exact Row.const w e (0, 0) [b] (by simp)
theorem wpList_mk {P : Program} (w : World) {ops : Array Oper} {rest : List Oper} {o : Oper} {a : Act} {Q : Exit → Act → World → Prop} (hgd : o.guard = none) (l : Operand) (t : TypeId)
    (ho : o.op = .makeSlice t l l) {α : Type} (d : Ty α) (e : TypeId) {z : Value} (ht : P.underlying t = some (.slice e)) (hE : Elt P e d.sz z) (x0 : α) (hx0 : ∀ w, d.M w [] x0 z.cells.toList)
    (n : Nat) (hn : a.eval l = .int .i64 (n : Int)) (hlen : n ≤ 34359738368)
    (h : ∀ w', Mine d e w w' (.slice (some ⟨w.heap.size, 0, none⟩) n n) (List.replicate n x0) → wpList P ops Q rest (a.put o.dst (.slice (some ⟨w.heap.size, 0, none⟩) n n)) w') : wpList P ops Q (o :: rest) a w :=
  wpList_make w hgd l t ho d e ht hE x0 hx0 n hn hlen fun w' h1 h2 => h w' ⟨⟨_, h1, fun k hk => by simp at hk; omega⟩, h2⟩
theorem wpList_copyAll {P : Program} (w : World) {ops : Array Oper} {rest : List Oper} {o : Oper} {a : Act} {Q : Exit → Act → World → Prop} (hgd : o.guard = none) (x s : Operand) (dT sT : TypeId)
    (ho : o.op = .call { callee := .builtin .copy, args := #[x, s], argTypes := #[dT, sT] }) {α : Type} {d : Ty α} {e : TypeId} {z : Value} (hu : P.underlying dT = some (.slice e)) (hE : Elt P e d.sz z) (hsz : d.sz = 1) (hf : Flat d)
    {w0 : World} {g n c c' : Nat} {A : Option Addr} {B : Nat → Prop} {zs ys : List α} (hd : a.eval x = .slice (some ⟨g, 0, none⟩) n c) (hs : a.eval s = .slice A n c')
    (hown : Mine d e w0 w (.slice (some ⟨g, 0, none⟩) n c) zs) (hrow : Row d w B A n ys)
    (h : ∀ w', Mine d e w0 w' (.slice (some ⟨g, 0, none⟩) n c) ys → wpList P ops Q rest (a.put o.dst (.int .i64 (n : Int))) w') : wpList P ops Q (o :: rest) a w := by
  obtain ⟨⟨F, ho2, hF⟩, hn⟩ := hown
  have hg : w0.heap.size ≤ g := hF g (ho2.own_mem g rfl)
  refine wpList_copy_full w hgd x s dT sT ho d e hu hE hsz hf hd hs ho2 (by obtain ⟨A', c1, hv, _⟩ := ho2.form; injection hv with _ e2 _; exact e2.symm) hrow fun w' h1 h2 => h w' ⟨⟨_, h1, fun k hk => by simp at hk; omega⟩, hn.trans h2 fun i hi hlt => by omega⟩
theorem wpList_app {P : Program} (w : World) {ops : Array Oper} {rest : List Oper} {o : Oper} {a : Act} {Q : Exit → Act → World → Prop} (hgd : o.guard = none) (s x : Operand) (t : TypeId)
    (ho : o.op = .call { callee := .builtin .append, args := #[s, x], argTypes := #[t, t] })
    {α : Type} {d : Ty α} {e : TypeId} {z : Value} (ht : P.underlying t = some (.slice e)) (hE : Elt P e d.sz z) (hf : Flat d)
    {w0 : World} {A A' : Option Addr} {n m c c' : Nat} {xs ys : List α} {B : Nat → Prop} (hs : a.eval s = .slice A n c) (hx : a.eval x = .slice A' m c') (hown : Mine d e w0 w (.slice A n c) xs) (hy : Row d w B A' m ys)
    (hlen : xs.length + ys.length ≤ 34359738368)
    (h : ∀ A' n' c' w', Mine d e w0 w' (.slice A' n' c') (xs ++ ys) → wpList P ops Q rest (a.put o.dst (.slice A' n' c')) w') : wpList P ops Q (o :: rest) a w := by
  obtain ⟨news, hel, hA⟩ := hy.flat hf
  obtain ⟨⟨F, ho2, hF⟩, hn⟩ := hown
  refine wpList_append w hgd s x t ho d e ht hE hs ho2 hx hel hy.1 hA (by rw [flat_nil]; exact List.nodup_nil) (by rw [flat_nil]; intro k hk; cases hk) (by have := hy.1; omega) ?_
  intro A2 n2 c2 w2 F2 ho3 hn2 hm2 hF2
  exact h _ _ _ _ ⟨⟨F2, ho3, far_app hn hF (by rw [flat_nil]; simp) hF2⟩, New.app hn ho2 hF hm2⟩
end Go.Proofs.YtiaknomadhgckaaDoor.Mem

namespace Go.Proofs.YtiaknomadhgckaaDoor.Mem
open Go.RowKit
set_option linter.unusedVariables false
def OwI {α : Type} (d : Ty α) (e : TypeId) (w : World) (lo hi : Nat) (v : Value) (xs : List α) : Prop := ∃ F, Own d e w F v xs ∧ ∀ k, k ∈ F → lo ≤ k ∧ k < hi
namespace OwI
variable {α : Type} {d : Ty α} {e : TypeId} {w w' : World} {lo hi lo' hi' : Nat} {v : Value} {xs : List α} {A : Option Addr} {n c : Nat}
theorem nil (d : Ty α) (e : TypeId) (w : World) (lo hi : Nat) : OwI d e w lo hi (.slice none 0 0) [] := ⟨[], Own.nil d e w, by simp⟩
theorem keep {S : Nat → Prop} (h : OwI d e w lo hi v xs) (hm : Mod S w w') (hS : ∀ k, lo ≤ k → k < hi → ¬ S k) : OwI d e w' lo hi v xs := by
  obtain ⟨F, ho, hF⟩ := h
  exact ⟨F, ho.keep hm fun k hk => hS k (hF k hk).1 (hF k hk).2, hF⟩
theorem new (h : OwI d e w lo hi v xs) (hm : New w w') : OwI d e w' lo hi v xs := h.keep hm fun _ _ _ h => h
theorem wide (h : OwI d e w lo hi v xs) (h1 : lo' ≤ lo) (h2 : hi ≤ hi') : OwI d e w lo' hi' v xs := by
  obtain ⟨F, ho, hF⟩ := h
  exact ⟨F, ho, fun k hk => ⟨Nat.le_trans h1 (hF k hk).1, Nat.lt_of_lt_of_le (hF k hk).2 h2⟩⟩
theorem len (h : OwI d e w lo hi (.slice A n c) xs) : n = xs.length ∧ n ≤ c ∧ c ≤ 9223372036854775807 := by
  obtain ⟨F, ho, hF⟩ := h
  obtain ⟨A', c', hv, h1, h2⟩ := ho.form
  injection hv with e1 e2 e3
  subst e3; exact ⟨e2, by omega, h2⟩
theorem form (h : OwI d e w lo hi v xs) : ∃ A c, v = .slice A xs.length c := by
  obtain ⟨F, ho, hF⟩ := h; obtain ⟨A, c, hv, _⟩ := ho.form; exact ⟨A, c, hv⟩
theorem row (h : OwI d e w lo hi (.slice A n c) xs) : Row d w (fun k => lo ≤ k ∧ k < hi) A n xs := by
  obtain rfl := h.len.1
  obtain ⟨F, ho, hF⟩ := h
  exact (ho.row rfl).mod hF (fun _ _ => rfl)
end OwI
theorem OwI.ret {α : Type} {d : Ty α} {t : TypeId} {w w' : World} {lo hi : Nat} {xs : List α} {v : Value} (h : OwI d t w' lo hi v xs) (hl : w.heap.size ≤ lo) (hm : New w w') : RetOwn d t w xs (.returned v) w' := by
  obtain ⟨F, ho, hF⟩ := h
  exact RetOwn.of ho (fun k hk => Nat.le_trans hl (hF k hk).1) hm
theorem wp_appI {P : Program} (w : World) {o : Oper} {a : Act} {K : Act → World → Prop} {Q : Exit → Act → World → Prop} (s x : Operand) (t : TypeId)
    (ho : o.op = .call { callee := .builtin .append, args := #[s, x], argTypes := #[t, t] })
    {α : Type} {d : Ty α} {e : TypeId} {z : Value} (ht : P.underlying t = some (.slice e)) (hE : Elt P e d.sz z) (hf : Flat d)
    {lo hi : Nat} {A A' : Option Addr} {n m c c' : Nat} {xs ys : List α} {B : Nat → Prop} (hs : a.eval s = .slice A n c) (hx : a.eval x = .slice A' m c') (hown : OwI d e w lo hi (.slice A n c) xs) (hy : Row d w B A' m ys)
    (hlo : lo ≤ w.heap.size) (hlen : xs.length + ys.length ≤ 34359738368)
    (h : ∀ A' n' c' w', OwI d e w' lo w'.heap.size (.slice A' n' c') (xs ++ ys) → Mod (fun k => lo ≤ k ∧ k < hi) w w' → K (a.put o.dst (.slice A' n' c')) w') : o.wp P a w K Q := by
  obtain ⟨news, hel, hA⟩ := hy.flat hf
  obtain ⟨F, ho2, hF⟩ := hown
  refine wp_append w s x t ho d e ht hE hs ho2 hx hel hy.1 hA (by rw [flat_nil]; exact List.nodup_nil) (by rw [flat_nil]; intro k hk; cases hk) (by have := hy.1; omega) ?_
  intro A2 n2 c2 w2 F2 ho3 hn2 hm2 hF2
  refine h _ _ _ _ ⟨F2, ho3, fun k hk => ⟨?_, ho3.lt k hk⟩⟩ (hm2.mono fun i _ hi => hF i (ho2.own_mem i hi))
  rcases hF2 k hk with h1 | h1 | h1
  · exact (hF k h1).1
  · rw [flat_nil] at h1; cases h1
  · omega
section
variable {P : Program} {ops : Array Oper} {rest : List Oper} {o : Oper} {a : Act} {Q : Exit → Act → World → Prop} {K : Act → World → Prop} {E : Prop} {α : Type} {d : Ty α} {e : TypeId} {z : Value}
theorem wpList_appI (w : World) (hgd : o.guard = none) (s x : Operand) (t : TypeId)
    (ho : o.op = .call { callee := .builtin .append, args := #[s, x], argTypes := #[t, t] }) (ht : P.underlying t = some (.slice e)) (hE : Elt P e d.sz z) (hf : Flat d)
    {lo hi : Nat} {A A' : Option Addr} {n m c c' : Nat} {xs ys : List α} {B : Nat → Prop} (hs : a.eval s = .slice A n c) (hx : a.eval x = .slice A' m c') (hown : OwI d e w lo hi (.slice A n c) xs) (hy : Row d w B A' m ys)
    (hlo : lo ≤ w.heap.size) (hlen : xs.length + ys.length ≤ 34359738368)
    (h : ∀ A' n' c' w', OwI d e w' lo w'.heap.size (.slice A' n' c') (xs ++ ys) → Mod (fun k => lo ≤ k ∧ k < hi) w w' → wpList P ops Q rest (a.put o.dst (.slice A' n' c')) w') : wpList P ops Q (o :: rest) a w :=
  wpList_plain hgd fun _ hK => wp_appI w s x t ho ht hE hf hs hx hown hy hlo hlen fun A' n' c' w' h1 h2 => hK _ _ (h A' n' c' w' h1 h2)
end
def OwP {α : Type} (d : Ty α) (e : TypeId) (w : World) (X : Nat → Prop) (v : Value) (xs : List α) : Prop := ∃ F, Own d e w F v xs ∧ ∀ k, k ∈ F → X k
theorem OwP.keep {α : Type} {d : Ty α} {e : TypeId} {w w' : World} {X S : Nat → Prop} {v : Value} {xs : List α} (h : OwP d e w X v xs) (hm : Mod S w w') (hS : ∀ k, X k → ¬ S k) : OwP d e w' X v xs := by
  obtain ⟨F, ho, hF⟩ := h
  exact ⟨F, ho.keep hm fun k hk => hS k (hF k hk), hF⟩
theorem OwP.new {α : Type} {d : Ty α} {e : TypeId} {w w' : World} {X : Nat → Prop} {v : Value} {xs : List α} (h : OwP d e w X v xs) (hm : New w w') : OwP d e w' X v xs := h.keep hm fun _ _ h => h
theorem OwP.len {α : Type} {d : Ty α} {e : TypeId} {w : World} {X : Nat → Prop} {A : Option Addr} {n c : Nat} {xs : List α} (h : OwP d e w X (.slice A n c) xs) : n = xs.length ∧ n ≤ c ∧ c ≤ 9223372036854775807 := by
  obtain ⟨F, ho, hF⟩ := h
  obtain ⟨A', c', hv, h1, h2⟩ := ho.form
  injection hv with e1 e2 e3
  subst e3; exact ⟨e2, by omega, h2⟩
theorem OwP.row {α : Type} {d : Ty α} {e : TypeId} {w : World} {X : Nat → Prop} {A : Option Addr} {n c : Nat} {xs : List α} (h : OwP d e w X (.slice A n c) xs) : Row d w X A n xs := by
  obtain rfl := h.len.1
  obtain ⟨F, ho, hF⟩ := h
  exact (ho.row rfl).mod hF (fun _ _ => rfl)
theorem OwP.ret {α : Type} {d : Ty α} {t : TypeId} {w w' : World} {X : Nat → Prop} {xs : List α} {v : Value} (h : OwP d t w' X v xs) (hl : ∀ k, X k → w.heap.size ≤ k) (hm : New w w') : RetOwn d t w xs (.returned v) w' := by
  obtain ⟨F, ho, hF⟩ := h
  exact RetOwn.of ho (fun k hk => hl k (hF k hk)) hm
theorem results_blk {P : Program} {fn : Func} {a : Tmp} {t e : TypeId} {fs : Array Field} (h : fn.results = #[.cell a t]) {tmps : Array Value} {w : World} {g : Nat} {cs : List Value} (ht : tmps.getD a undef = .pointer (some ⟨g, 0, none⟩)) (hb : Blk w g e cs)
    (hu : P.underlying t = some (.struct fs)) (hi : (P.info? t).map (·.size) = some cs.length) : (results fn tmps).run P w = .ok (.agg cs.toArray) w := by
  have := run_loadVar_row (P := P) w g e t cs.toArray (0, 0) _ hb hu rfl (by rw [hi]; simp)
  rw [Array.getD_eq_getD_getElem?] at ht
  simp [results, h, ht, asAddr, this]
end Go.Proofs.YtiaknomadhgckaaDoor.Mem

namespace Go.Proofs.YtiaknomadhgckaaDoor
open Go.RowKit Mem
set_option linter.unusedVariables false
theorem elt_byte : Elt Tryd.prog 5 1 (.int .u8 0) := Elt.of (b := 1) (by kernel_rfl) rfl (by decide) (by decide)
theorem set_prefix {α : Type} (xs ys : List α) (k : Nat) (hk : k < xs.length) (hl : ys.length = xs.length) (h : ys.take k = xs.take k) : (ys.set k xs[k]).take (k + 1) = xs.take (k + 1) := by
  rw [List.take_succ_eq_append_getElem (by rw [List.length_set]; omega), List.take_succ_eq_append_getElem hk, List.take_set_of_le (Nat.le_refl _), h]
  simp
set_option maxHeartbeats 400000 in
theorem toByteS_calls {A : Option Addr} {c : Nat} {xs : Bytes} {B : Nat → Prop} {w : World} (h : Row Ty.byte w B A xs.length xs) (hB : ∀ k, B k → k < w.heap.size) (hl : xs.length ≤ 34359738368) :
    Calls Tryd.prog 41 #[.slice A xs.length c] w (RetOwn Ty.byte 5 w xs) := by
  have HR := Sec.mk h
  clear h
  go_enter Tryd.func41, Tryd.ntmps41
  go_wp2_with (refine wpList_make _ rfl (.tmp 6) _ rfl Ty.byte 5 Tryd.underlying32 elt_byte 0 (fun _ => ⟨rfl, rfl⟩) xs.length rfl hl ?_; intro w1 ho1 hm1; have HO1 := Sec.mk ho1; have HM1 := Sec.mk hm1; clear ho1 hm1)
  go_loopw [4] (fun i wr => ∃ (k : Nat) (ys : Bytes) (F : List Nat), k ≤ xs.length ∧ i = .int .i64 k ∧ Sec (ys.length = xs.length) ∧ Sec (ys.take k = xs.take k) ∧ Sec (Own Ty.byte 5 wr F (.slice (some ⟨w.heap.size, 0, none⟩) xs.length xs.length) ys) ∧ Sec (∀ k, k ∈ F → w.heap.size ≤ k) ∧ Sec (New w wr)) (fun i _ => xs.length - (intOf i).toNat)
  case atStart => exact ⟨0, _, _, Nat.zero_le _, rfl, Sec.mk (by simp), Sec.mk (by simp), HO1, Sec.mk (by simp), HM1⟩
  case round =>
    obtain ⟨k, ys, F, hk, rfl, HL, HT, HO, HF, HM⟩ := hrel
    clear HO1 HM1
    by_cases hlt : k < xs.length
    · obtain ⟨ad, rfl, hx⟩ := HR.out.byte_at (fun i hi => HM.out.block i (hB i hi) id) hlt
      obtain ⟨g, hA, hgF, hc0, hfz0, hst⟩ := HO.out.byte_elem (j := k) (by rw [HL.out]; exact hlt)
      have hA' : w.heap.size = g := by injection hA with hA; injection hA
      subst hA'
      obtain ⟨F', ho', hF'⟩ := hst xs[k]
      have HO' := Sec.mk ho'
      have HF' := Sec.mk hF'
      clear hA hgF hst ho' hF'
      go_wp2
      go_roundw
      case rel => exact ⟨k + 1, _, F', by omega, by go_num, Sec.mk (by rw [List.length_set]; exact HL.out), Sec.mk (set_prefix xs ys k hlt HL.out HT.out), HO', Sec.mk (fun i hi => HF.out i (HF'.out i hi)), Sec.mk (HM.out.setCell (fun h => absurd h (Nat.lt_irrefl _)) _)⟩
      case measure => simp [intOf]; omega
    · go_wp2
      go_ret
      have he : ys = xs := by
        have h1 := HT.out
        rw [List.take_of_length_le (by rw [HL.out]; omega), List.take_of_length_le (by omega)] at h1
        exact h1
      subst he
      exact RetOwn.of HO.out HF.out HM.out
set_option maxHeartbeats 400000 in
theorem eqByteS_calls {A A' : Option Addr} {c c' : Nat} {xs ys : Bytes} {B : Nat → Prop} {w : World} (h : Row Ty.byte w B A xs.length xs) (h' : Row Ty.byte w B A' ys.length ys) (hB : ∀ k, B k → k < w.heap.size) :
    Calls Tryd.prog 47 #[.slice A xs.length c, .slice A' ys.length c'] w (Ret (.bool (decide (xs = ys))) w) := by
  have hl := h.2.1
  have HR := Sec.mk h
  have HR' := Sec.mk h'
  clear h h'
  by_cases hne : xs.length = ys.length
  · have hnb : ((xs.length : Int) != (ys.length : Int)) = false := by simp [hne]
    go_enter Tryd.func47, Tryd.ntmps47
    go_wp2
    go_loopw [5] (fun i wr => ∃ k : Nat, k ≤ xs.length ∧ i = .int .i64 k ∧ Sec (xs.take k = ys.take k) ∧ Sec (New w wr)) (fun i _ => xs.length - (intOf i).toNat)
    case atStart => exact ⟨0, Nat.zero_le _, rfl, Sec.mk (by simp), Sec.mk (Mod.refl _ _)⟩
    case round =>
      obtain ⟨k, hk, rfl, HT, HM⟩ := hrel
      by_cases hlt : k < xs.length
      · obtain ⟨ad, rfl, hx⟩ := HR.out.byte_at (fun i hi => HM.out.block i (hB i hi) id) hlt
        obtain ⟨ad', rfl, hx'⟩ := HR'.out.byte_at (fun i hi => HM.out.block i (hB i hi) id) (k := k) (by omega)
        go_wp2
        go_quiet (fail)
        go_wp2
        · have hxy : xs[k] ≠ ys[k] := by
            intro he
            have hb : ((xs[k].toNat : Int) != (ys[k].toNat : Int)) = true := by assumption
            rw [he] at hb; simp at hb
          go_ret
          refine ⟨?_, HM.out.drewN _⟩
          have : xs ≠ ys := fun e => hxy (by subst e; rfl)
          simp [this]
        · have hxy : xs[k] = ys[k] := by
            have hb : ((xs[k].toNat : Int) != (ys[k].toNat : Int)) = false := by assumption
            have hb' : (xs[k].toNat : Int) = (ys[k].toNat : Int) := by simpa using hb
            exact UInt8.toNat_inj.1 (by omega)
          have HXY := Sec.mk hxy
          clear hxy
          go_roundw
          case rel => exact ⟨k + 1, by omega, by go_num, Sec.mk (by rw [List.take_succ_eq_append_getElem hlt, List.take_succ_eq_append_getElem (by omega), HT.out, HXY.out]), Sec.mk (HM.out.drewN _)⟩
          case measure => simp [intOf]; omega
      · go_wp2
        go_ret
        have he : xs = ys := by
          have h1 := HT.out
          rw [List.take_of_length_le (by omega), List.take_of_length_le (by omega)] at h1
          exact h1
        exact ⟨by simp [he], HM.out⟩
  · have hnb : ((xs.length : Int) != (ys.length : Int)) = true := by simp; omega
    go_enter Tryd.func47, Tryd.ntmps47
    go_wp2
    go_ret
    exact ⟨by simp [show xs ≠ ys from fun e => hne (by rw [e])], Mod.refl _ _⟩
end Go.Proofs.YtiaknomadhgckaaDoor

namespace Go.Proofs.YtiaknomadhgckaaDoor
open Go.RowKit Mem
set_option linter.unusedVariables false
theorem ba_app' (xs ys : Bytes) : (⟨xs.toArray⟩ : ByteArray) ++ ⟨ys.toArray⟩ = ⟨(xs ++ ys).toArray⟩ := ByteArray.ext (by rw [ByteArray.data_append]; simp)
theorem dec_big {u : Nat} (h : 10 ≤ u) : Lib.decDigits u = Lib.decDigits (u / 10) ++ [UInt8.ofNat (48 + u % 10)] := by rw [Lib.decDigits, dif_neg (by omega)]
theorem dec_small {u : Nat} (h : u < 10) : Lib.decDigits u = [UInt8.ofNat (48 + u)] := by rw [Lib.decDigits, dif_pos h]
def DecSt (N m : Nat) (s : Bytes) : Prop := if m = 0 then s = Lib.decDigits N else Lib.decDigits m ++ s = Lib.decDigits N
theorem DecSt.step {N m : Nat} {s : Bytes} (h : DecSt N m s) (hm : m ≠ 0) : DecSt N (m / 10) ([UInt8.ofNat (48 + m % 10)] ++ s) := by
  unfold DecSt at h ⊢
  rw [if_neg hm] at h
  by_cases h10 : m < 10
  · rw [if_pos (by omega), ← h, dec_small h10, show m % 10 = m by omega]
  · rw [if_neg (by omega), ← h, dec_big (u := m) (by omega), List.append_assoc]
set_option maxHeartbeats 1000000 in
set_option maxRecDepth 100000 in
theorem l1Dec_calls (N : Nat) (hN : N ≤ 9999999999999) (w : World) : Calls Tryd.prog 21 #[.int .i64 (N : Int)] w (Ret (.string ⟨(Lib.decDigits N).toArray⟩) w) := by
  by_cases h0 : N = 0
  · subst h0
    go_enter Tryd.func21, Tryd.ntmps21
    go_wp2
    go_ret
    rw [dec_small (u := 0) (by omega)]
    exact ⟨rfl, Mod.refl _ _⟩
  · have hni : ¬ (N : Int) = 0 := by omega
    have hnb : ((N : Int) == 0) = false := by simp only [beq_eq_false_iff_ne, ne_eq]; exact hni
    have HS0 : Sec (DecSt N N []) := ⟨by unfold DecSt; rw [if_neg h0, List.append_nil]⟩
    clear h0
    go_enter Tryd.func21, Tryd.ntmps21
    go_wp2
    clear hni hnb
    go_loopw [0, 3] (fun q s wr => ∃ (m : Nat) (js : Bytes), m ≤ N ∧ q = .int .i64 (m : Int) ∧ s = .string ⟨js.toArray⟩ ∧ js.length ≤ 100000000000000 - m ∧ Sec (DecSt N m js) ∧ Sec (New w wr)) (fun q _ _ => (intOf q).toNat)
    case atStart => exact ⟨N, [], Nat.le_refl _, rfl, rfl, by simp, HS0, ⟨Mod.refl _ _⟩⟩
    case round =>
      obtain ⟨m, js, hm, rfl, rfl, hjl, HS, HM⟩ := hrel
      clear HS0
      by_cases hm0 : m = 0
      · subst hm0
        have hE : js = Lib.decDigits N := by have := HS.out; unfold DecSt at this; rwa [if_pos rfl] at this
        have HE := Sec.mk hE
        clear hE
        go_wp2
        go_ret
        rw [HE.out]
        exact ⟨rfl, HM.out⟩
      · have hmi : (0 : Int) < (m : Int) := by omega
        have HS' := Sec.mk (HS.out.step hm0)
        have HRO := Row.one wr 5 (UInt8.ofNat (48 + m % 10)) (48 + (m : Int) % 10) (by rw [UInt8.toNat_ofNat']; omega)
        have hcv := HRO.conv (P := Tryd.prog) Tryd.underlying32 Tryd.underlying5 Tryd.underlying9 1
        clear HRO
        go_wp2
        refine ⟨⟨m / 10, [UInt8.ofNat (48 + m % 10)] ++ js, by omega, ?_, ?_, ?_, HS', ⟨HM.out.alloc _⟩⟩, ?_⟩
        · go_num
        · rw [← ba_app']; simp
        · simp only [List.length_append, List.length_singleton]; omega
        · simp [intOf]; omega
end Go.Proofs.YtiaknomadhgckaaDoor

namespace Go.Proofs.YtiaknomadhgckaaDoor
set_option linter.unusedVariables false
open Mem
def digB (b : UInt8) : Prop := 48 ≤ b.toNat ∧ b.toNat ≤ 57
instance (b : UInt8) : Decidable (digB b) := inferInstanceAs (Decidable (_ ∧ _))
def valL (xs : Bytes) : Nat := xs.foldl (fun n b => 10 * n + (b.toNat - 48)) 0
theorem valL_snoc (xs : Bytes) (b : UInt8) : valL (xs ++ [b]) = 10 * valL xs + (b.toNat - 48) := by unfold valL; rw [List.foldl_append]; rfl
theorem valL_take (xs : Bytes) {k : Nat} (h : k < xs.length) : valL (xs.take (k + 1)) = 10 * valL (xs.take k) + (xs[k].toNat - 48) := by
  rw [List.take_succ_eq_append_getElem h, valL_snoc]
theorem valL_lt (xs : Bytes) : ∀ k, k ≤ xs.length → (∀ j, (hj : j < xs.length) → j < k → digB xs[j]) → valL (xs.take k) < 10 ^ k := by
  intro k
  induction k with
  | zero => intro _ _; simp [valL]
  | succ k ih =>
    intro hk h
    have h1 := ih (by omega) (fun j hj hjk => h j hj (by omega))
    have h2 := h k (by omega) (by omega)
    rw [valL_take xs (by omega), Nat.pow_succ]
    unfold digB at h2
    omega
theorem pow_le18 {k : Nat} (h : k ≤ 17) : (10 : Nat) ^ k ≤ 100000000000000000 := by
  have : (10 : Nat) ^ k ≤ 10 ^ 17 := Nat.pow_le_pow_right (by decide) h
  exact Nat.le_trans this (by decide)
def numL (xs : Bytes) : Nat × Bool := if 1 ≤ xs.length ∧ xs.length ≤ 13 ∧ ∀ b, b ∈ xs → digB b then (valL xs, decide (Lib.decDigits (valL xs) = xs)) else (0, false)
def decL (m : Nat) (xs : Bytes) : Nat × Bool := if 1 ≤ xs.length ∧ xs.length ≤ m ∧ ¬ (xs[0]? = some 48 ∧ 1 < xs.length) ∧ ∀ b, b ∈ xs → digB b then (valL xs, true) else (0, false)
theorem dec_len_pow : ∀ m u, 1 ≤ m → u < 10 ^ m → (Lib.decDigits u).length ≤ m
  | 0, _, h, _ => absurd h (by decide)
  | m + 1, u, _, h => by
    by_cases hu : u < 10
    · rw [dec_small hu]; simp
    · rw [dec_big (by omega), List.length_append]
      have hm : 1 ≤ m := by
        rcases Nat.eq_zero_or_pos m with h0 | h0
        · subst h0; simp at h; omega
        · exact h0
      have := dec_len_pow m (u / 10) hm (by rw [Nat.pow_succ] at h; omega)
      simp only [List.length_singleton]; omega
theorem dec_ne (u : Nat) : Lib.decDigits u ≠ [] := by
  by_cases hu : u < 10
  · rw [dec_small hu]; simp
  · rw [dec_big (by omega)]; simp
theorem dec_head : ∀ n u, u ≤ n → (Lib.decDigits u)[0]? = some 48 → u = 0
  | 0, u, h, _ => by omega
  | n + 1, u, h, h0 => by
    by_cases hu : u < 10
    · rw [dec_small hu] at h0
      have : UInt8.ofNat (48 + u) = 48 := by simpa using h0
      have := congrArg UInt8.toNat this
      rw [UInt8.toNat_ofNat'] at this
      have h48 : (48 : UInt8).toNat = 48 := rfl
      omega
    · rw [dec_big (by omega), List.getElem?_append_left (List.length_pos_iff.2 (dec_ne _))] at h0
      have := dec_head n (u / 10) (by omega) h0
      omega
theorem dec_val : ∀ n (xs : Bytes), xs.length = n + 1 → (∀ b, b ∈ xs → digB b) → ¬ (xs[0]? = some 48 ∧ 1 < xs.length) → Lib.decDigits (valL xs) = xs := by
  intro n
  induction n with
  | zero =>
    intro xs hl hd _
    match xs, hl with
    | [b], _ =>
      have hb := hd b (by simp)
      unfold digB at hb
      have hv : valL [b] = b.toNat - 48 := by simp [valL]
      rw [hv, dec_small (by omega)]
      congr 1
      apply UInt8.toNat.inj
      rw [UInt8.toNat_ofNat']; omega
  | succ n ih =>
    intro xs hl hd hz
    obtain ⟨ys, b, rfl⟩ : ∃ ys b, xs = ys ++ [b] := ⟨xs.dropLast, xs.getLast (by intro h; rw [h] at hl; cases hl), (List.dropLast_concat_getLast _).symm⟩
    rw [List.length_append, List.length_singleton] at hl
    have hyl : ys.length = n + 1 := by omega
    have hb := hd b (by simp)
    unfold digB at hb
    have h0 : (ys ++ [b])[0]? = ys[0]? := List.getElem?_append_left (by omega)
    have hz' : ys[0]? ≠ some 48 := fun h => hz ⟨by rw [h0, h], by simp; omega⟩
    have hy := ih ys hyl (fun c hc => hd c (by simp [hc])) (fun h => hz' h.1)
    have hpos : 1 ≤ valL ys := by
      rcases Nat.eq_zero_or_pos (valL ys) with h | h
      · rw [h, dec_small (by decide)] at hy
        exact absurd (by rw [← hy]; rfl) hz'
      · exact h
    rw [valL_snoc, dec_big (by omega), show (10 * valL ys + (b.toNat - 48)) / 10 = valL ys by omega, hy]
    congr 2
    apply UInt8.toNat.inj
    rw [UInt8.toNat_ofNat']; omega
theorem dec_val_iff {xs : Bytes} (hl : 1 ≤ xs.length) (hd : ∀ b, b ∈ xs → digB b) : Lib.decDigits (valL xs) = xs ↔ ¬ (xs[0]? = some 48 ∧ 1 < xs.length) := by
  constructor
  · intro h ⟨h0, h1⟩
    have hv := dec_head _ (valL xs) (Nat.le_refl _) (by rw [h]; exact h0)
    rw [hv, dec_small (by decide)] at h
    rw [← h] at h1
    simp at h1
  · intro h
    exact dec_val (xs.length - 1) xs (by omega) hd h
def plL (xs : Bytes) : Option Nat := if xs = [42] then some 0 else if (decL 10 xs).2 = true ∧ 1 ≤ (decL 10 xs).1 ∧ (decL 10 xs).1 ≤ 4294967295 then some (decL 10 xs).1 else none
theorem dec_num {xs : Bytes} {n : Nat} (h : n ≤ 4294967295) : (numL xs = (n, true) ↔ decL 10 xs = (n, true)) := by
  constructor
  · intro hn
    unfold numL at hn
    split at hn
    · rename_i hc
      injection hn with h1 h2
      have hiff := dec_val_iff hc.1 hc.2.2
      have hd := of_decide_eq_true h2
      have hl := dec_len_pow 10 (valL xs) (by decide) (by rw [h1]; omega)
      rw [hd] at hl
      unfold decL
      rw [if_pos ⟨hc.1, hl, hiff.1 hd, hc.2.2⟩, h1]
    · injection hn with h1 h2; cases h2
  · intro hn
    unfold decL at hn
    split at hn
    · rename_i hc
      injection hn with h1 h2
      unfold numL
      rw [if_pos ⟨hc.1, by omega, hc.2.2.2⟩, h1]
      congr 1
      rw [← h1]
      exact decide_eq_true ((dec_val_iff hc.1 hc.2.2.2).2 hc.2.2.1)
    · injection hn with h1 h2; cases h2
theorem plL_num {xs : Bytes} (h : xs ≠ [42]) : plL xs = if (numL xs).2 = true ∧ 1 ≤ (numL xs).1 ∧ (numL xs).1 ≤ 4294967295 then some (numL xs).1 else none := by
  unfold plL
  rw [if_neg h]
  by_cases hc : (numL xs).2 = true ∧ 1 ≤ (numL xs).1 ∧ (numL xs).1 ≤ 4294967295
  · have := (dec_num (xs := xs) hc.2.2).1 (by rw [← hc.1])
    rw [if_pos hc, this, if_pos ⟨rfl, hc.2⟩]
  · rw [if_neg hc]
    by_cases hd : (decL 10 xs).2 = true ∧ 1 ≤ (decL 10 xs).1 ∧ (decL 10 xs).1 ≤ 4294967295
    · have := (dec_num (xs := xs) hd.2.2).2 (by rw [← hd.1])
      rw [this] at hc
      exact absurd ⟨rfl, hd.2⟩ hc
    · rw [if_neg hd]
end Go.Proofs.YtiaknomadhgckaaDoor

namespace Go.Proofs.YtiaknomadhgckaaDoor
set_option linter.unusedVariables false
open Mem
def toSx (xs : Bytes) : ByteArray := ⟨xs.toArray⟩
def cutL (b : UInt8) : Bytes → Bytes × Bytes × Bool
  | [] => ([], [], false)
  | c :: r => if c = b then ([], r, true) else (c :: (cutL b r).1, (cutL b r).2.1, (cutL b r).2.2)
theorem cutL_hit (b : UInt8) : ∀ (xs : Bytes) (i : Nat) (hi : i < xs.length), (∀ j, (hj : j < i) → xs[j] ≠ b) → xs[i] = b → cutL b xs = (xs.take i, xs.drop (i + 1), true)
  | [], i, hi, _, _ => absurd hi (Nat.not_lt_zero _)
  | c :: r, 0, _, _, h => by
    have : c = b := h
    unfold cutL; rw [if_pos this]; rfl
  | c :: r, i + 1, hi, hn, h => by
    have hc : c ≠ b := hn 0 (by omega)
    have := cutL_hit b r i (by simpa using hi) (fun j hj => hn (j + 1) (by omega)) h
    unfold cutL; rw [if_neg hc, this]; rfl
theorem cutL_miss (b : UInt8) : ∀ (xs : Bytes), (∀ j, (hj : j < xs.length) → xs[j] ≠ b) → cutL b xs = (xs, [], false)
  | [], _ => rfl
  | c :: r, hn => by
    have hc : c ≠ b := hn 0 (by simp)
    have := cutL_miss b r (fun j hj => hn (j + 1) (by simpa using hj))
    unfold cutL; rw [if_neg hc, this]
theorem cutL_len (b : UInt8) : ∀ xs : Bytes, (cutL b xs).2.2 = true → (cutL b xs).1.length + 1 + (cutL b xs).2.1.length = xs.length
  | [], h => by simp [cutL] at h
  | c :: r, h => by
    unfold cutL at h ⊢
    by_cases hc : c = b
    · simp [if_pos hc]; omega
    · simp only [if_neg hc] at h ⊢
      have := cutL_len b r h
      simp only [List.length_cons]; omega
theorem cutL_no (b : UInt8) : ∀ xs : Bytes, (cutL b xs).2.2 = false → cutL b xs = (xs, [], false)
  | [], _ => rfl
  | c :: r, h => by
    unfold cutL at h ⊢
    by_cases hc : c = b
    · simp [if_pos hc] at h
    · simp only [if_neg hc] at h ⊢
      rw [cutL_no b r h]
def splitL (b : UInt8) : Bytes → List Bytes
  | [] => [[]]
  | c :: r => if c = b then [] :: splitL b r else match splitL b r with
    | h :: t => (c :: h) :: t
    | [] => [[c]]
theorem splitL_ne (b : UInt8) (xs : Bytes) : splitL b xs ≠ [] := by
  cases xs with
  | nil => simp [splitL]
  | cons c r => unfold splitL; (repeat' split) <;> simp
theorem splitL_hit (b : UInt8) : ∀ xs : Bytes, (cutL b xs).2.2 = true → splitL b xs = (cutL b xs).1 :: splitL b (cutL b xs).2.1
  | [], h => by simp [cutL] at h
  | c :: r, h => by
    by_cases hc : c = b
    · simp [splitL, cutL, if_pos hc]
    · unfold cutL at h ⊢
      simp only [if_neg hc] at h ⊢
      have := splitL_hit b r h
      rw [show splitL b (c :: r) = if c = b then [] :: splitL b r else match splitL b r with | h :: t => (c :: h) :: t | [] => [[c]] from rfl, if_neg hc, this]
theorem splitL_no (b : UInt8) : ∀ xs : Bytes, (cutL b xs).2.2 = false → splitL b xs = [xs]
  | [], _ => rfl
  | c :: r, h => by
    by_cases hc : c = b
    · simp [cutL, if_pos hc] at h
    · unfold cutL at h
      simp only [if_neg hc] at h
      have := splitL_no b r h
      unfold splitL
      rw [if_neg hc, this]
theorem splitL_len (b : UInt8) : ∀ xs : Bytes, (splitL b xs).length ≤ xs.length + 1
  | [] => by simp [splitL]
  | c :: r => by
    have := splitL_len b r
    have hn := splitL_ne b r
    unfold splitL
    split
    · simp only [List.length_cons]; omega
    · split
      · rename_i h; rw [h] at this; simp only [List.length_cons] at this ⊢; omega
      · rename_i h; exact absurd h hn
theorem splitL_mem (b : UInt8) : ∀ xs : Bytes, ∀ x, x ∈ splitL b xs → x.length ≤ xs.length
  | [], x, h => by simp [splitL] at h; subst h; simp
  | c :: r, x, h => by
    have ih := splitL_mem b r
    have hn := splitL_ne b r
    unfold splitL at h
    split at h
    · rcases List.mem_cons.1 h with rfl | h
      · simp
      · have := ih x h; simp only [List.length_cons]; omega
    · split at h
      · rename_i h0 t0 he
        rcases List.mem_cons.1 h with rfl | h
        · have := ih h0 (by rw [he]; exact List.mem_cons_self ..); simp only [List.length_cons]; omega
        · have := ih x (by rw [he]; exact List.mem_cons_of_mem _ h); simp only [List.length_cons]; omega
      · rename_i he; exact absurd he hn
theorem index_cut (b : UInt8) : ∀ xs : Bytes, Lib.index xs [b] = if (cutL b xs).2.2 then ((cutL b xs).1.length : Int) else -1 := by
  intro xs
  rw [Lib.index_one]
  induction xs with
  | nil => rfl
  | cons c r ih =>
    unfold Lib.indexByte cutL
    by_cases hc : c = b
    · simp [hc]
    · have hcb : (c == b) = false := by simpa using hc
      simp only [hcb, if_neg hc, ih]
      cases hq : (cutL b r).2.2
      · simp
      · simp <;> omega
theorem cutL_parts (b : UInt8) : ∀ xs : Bytes, (cutL b xs).2.2 = true → xs.take (cutL b xs).1.length = (cutL b xs).1 ∧ xs.drop ((cutL b xs).1.length + 1) = (cutL b xs).2.1
  | [], h => by simp [cutL] at h
  | c :: r, h => by
    unfold cutL at h ⊢
    by_cases hc : c = b
    · simp [if_pos hc]
    · simp only [if_neg hc] at h ⊢
      have := cutL_parts b r h
      exact ⟨by simp [this.1], by simpa using this.2⟩
theorem split_is (b : UInt8) : ∀ (n : Nat) (xs : Bytes), xs.length ≤ n → Lib.splitK [b] 0 (Lib.count xs [b]) xs = splitL b xs := by
  intro n
  induction n with
  | zero =>
    intro xs h
    obtain rfl : xs = [] := List.eq_nil_of_length_eq_zero (by omega)
    rfl
  | succ n ih =>
    intro xs h
    have hi := index_cut b xs
    cases hq : (cutL b xs).2.2
    · rw [hq] at hi
      rw [Lib.count_miss (by simpa using hi), splitL_no b xs hq]; rfl
    · rw [hq, if_pos rfl] at hi
      have hp := cutL_parts b xs hq
      have hl := cutL_len b xs hq
      rw [Lib.count_hit (by simp) hi, Nat.add_comm, splitL_hit b xs hq]
      unfold Lib.splitK
      rw [if_neg (by rw [hi]; simp <;> omega), hi]
      simp only [Int.toNat_natCast, Nat.add_zero, List.length_singleton]
      rw [hp.1, hp.2, ih _ (by omega)]
theorem toSx_list (s : ByteArray) : toSx s.data.toList = s := by cases s; simp [toSx]
theorem splitB_is (b : UInt8) (xs : Bytes) : Lib.splitB ⟨#[b]⟩ 0 (Lib.countB (toSx xs) ⟨#[b]⟩) (toSx xs) = (splitL b xs).map toSx := by
  have h := Lib.splitB_data ⟨#[b]⟩ 0 (Lib.countB (toSx xs) ⟨#[b]⟩) (toSx xs)
  have e1 : (toSx xs).data.toList = xs := by simp [toSx]
  have e2 : Lib.countB (toSx xs) ⟨#[b]⟩ = Lib.count xs [b] := by unfold Lib.countB; rw [e1]
  rw [e1, e2] at h
  rw [e2]
  have h2 := h.trans (split_is b xs.length xs (Nat.le_refl _))
  rw [← h2, List.map_map]
  conv => lhs; rw [← List.map_id (Lib.splitB ⟨#[b]⟩ 0 (Lib.count xs [b]) (toSx xs))]
  congr 1
  try (funext s; exact (toSx_list s).symm)
theorem countB_is (b : UInt8) (xs : Bytes) : Lib.countB (toSx xs) ⟨#[b]⟩ + 1 = (splitL b xs).length := by
  have h := Lib.splitB_all ⟨#[b]⟩ (by simp [ByteArray.size]) 0 _ (toSx xs) rfl
  rw [splitB_is, List.length_map] at h
  exact h.symm
end Go.Proofs.YtiaknomadhgckaaDoor
