/- More of the library of memory predicates: copy over a whole new row. Rows owned in a range of blocks, beside local cells. The laws' own helpers over bytes: toByteS copies, eqByteS compares. Steps by hand through a region that draws its order. The reader of drawn bytes. append of a string onto bytes of the call's own. The drawn bodies: their bytes are own and few. The laws' marks over bytes: markByteS writes them, heldByteS finds them. Marks over lists in plain words. Rows of rows of bytes: the laws' helpers. Drawn records. -/
import Derived.Test.YtkkgighgnbbgiaaDoorPk0
import Derived.Laws.IdiomCopy
import Derived.Laws.Rows
import Derived.Laws.Tables
import Derived.Test.YtkkgighgnbbgiaaDoorProg
import Derived.KernelRfl
import Derived.BigQuiet
import Derived.Deep.QuietTactic
import Derived.Deep.LoopGhost
import Derived.Deep.RegionHeld3
import Derived.Lib.JoinLaws
import Derived.Lib.AppendStr
namespace Go.Proofs.YtkkgighgnbbgiaaDoor.Mem
open Go.RowKit
set_option linter.unusedVariables false
theorem wpList_copy_full {P : Program} (w : World) {ops : Array Oper} {rest : List Oper} {o : Oper} {a : Act} {Q : Exit → Act → World → Prop} (hgd : o.guard = none) (x s : Operand) (dT sT : TypeId)
    (ho : o.op = .call { callee := .builtin .copy, args := #[x, s], argTypes := #[dT, sT] }) {α : Type} (d : Ty α) (e : TypeId) {z : Value} (hu : P.underlying dT = some (.slice e)) (hE : Elt P e d.sz z) (hsz : d.sz = 1) (hf : Flat d)
    {g n c c' : Nat} {A : Option Addr} {B : Nat → Prop} {F : List Nat} {zs ys : List α} (hd : a.eval x = .slice (some ⟨g, 0, none⟩) n c) (hs : a.eval s = .slice A n c')
    (hown : Own d e w F (.slice (some ⟨g, 0, none⟩) n c) zs) (hl : zs.length = n) (hrow : Row d w B A n ys)
    (h : ∀ w', Own d e w' [g] (.slice (some ⟨g, 0, none⟩) n c) ys → Mod (· = g) w w' → wpList P ops Q rest (a.put o.dst (.int .i64 (n : Int))) w') : wpList P ops Q (o :: rest) a w := by
  have hyl : ys.length = n := hrow.1
  obtain ⟨news, hel, hA⟩ := hrow.flat hf
  have hnl : news.length = n := by have := hel.clen; rw [hsz, hyl] at this; omega
  obtain ⟨⟨i, hi, hz, hsi, hb⟩, hzc, hpos⟩ := hE
  have hsz1 : (P.info? e).map (·.size) = some 1 := by rw [hi]; simp [hsi, hsz]
  obtain ⟨inner, Fs, ho2, hel2, rfl, hnd⟩ := hown
  obtain ⟨hil, ho2⟩ := ho2
  rw [hl] at ho2 hil
  rcases ho2 with ⟨hv, _⟩ | ⟨g', cap, cur, hv, _, hg, hnc, hmx, hcs, ht⟩
  · cases hv
  · injection hv with e1 e2 e3
    injection e1 with e1
    injection e1 with e1
    subst e1; subst e3
    refine wpList_plain hgd fun K hK => ?_
    have hrun : ∃ w', (Builtin.copy_ #[dT, sT] o.type #[.slice (some ⟨g, 0, none⟩) n c, .slice A n c']).run P w = .ok (goInt n) w' ∧ w'.heap[g]? = some (.cells (news ++ cur.toList.drop n).toArray e (0, 0)) ∧ Mod (· = g) w w' := by
      rcases Nat.eq_zero_or_pos n with h0 | h0
      · subst h0
        obtain rfl := List.eq_nil_of_length_eq_zero hnl
        exact ⟨w, run_copy_none (P := P) w dT sT o.type e _ _ 0 _ 0 _ hu hsz1 (by simp), by simpa using hg, Mod.refl _ _⟩
      · obtain ⟨ad, rfl, hcell⟩ := hA h0
        have := run_copy_row (P := P) w dT sT o.type e g 0 n c ad n c' cur e news hu hsz1 hg (by rw [hnl]; simp) hcell (by rw [hnl, hcs, hsz]; omega) hel.ones
        rw [hnl] at this
        simp only [List.take_zero, List.nil_append, Nat.zero_add] at this
        refine ⟨_, this, setRow_heap w g _ _ e _ hg, rfl, rfl, rfl, by simp [World.setRow], fun k hk hne => setRow_other w g k _ hne⟩
    obtain ⟨w', hrun, hg', hm⟩ := hrun
    unfold Oper.wp execOp
    simp only [ho, resolve, invoke, builtin, Sem.run_bind, Sem.run_pure, Result.andThen_ok, List.map_toArray, List.map_cons, List.map_nil, hd, hs, hrun]
    refine hK _ _ (h w' ⟨news, List.replicate n [], ⟨by rw [hnl, hyl, hsz]; omega, .inr ⟨g, c, _, by rw [hyl], Nat.zero_le _, hg', by omega, hmx, ?_, ?_⟩⟩, ?_, ?_, by simp⟩ hm)
    · have := congrArg List.length ht; simp [hcs, hnl, hsz]; omega
    · rw [hyl, hsz, Nat.mul_one, List.take_left' hnl]
    · exact hel.mod fun k hk => by rw [flat_nil] at hk; simp at hk
    · rw [flat_nil]; rfl
structure Mine {α : Type} (d : Ty α) (e : TypeId) (w0 w : World) (v : Value) (xs : List α) : Prop where
  ex : ∃ F, Own d e w F v xs ∧ ∀ k, k ∈ F → w0.heap.size ≤ k
  new : New w0 w
namespace Mine
variable {α : Type} {d : Ty α} {e : TypeId} {w0 w1 w w' : World} {v : Value} {xs ys : List α} {A : Option Addr} {n c : Nat}
theorem nil (d : Ty α) (e : TypeId) (h : New w0 w) : Mine d e w0 w (.slice none 0 0) [] := ⟨⟨[], Own.nil d e w, by simp⟩, h⟩
theorem step (h : Mine d e w0 w v xs) (hm : New w w') : Mine d e w0 w' v xs := by
  obtain ⟨⟨F, ho, hF⟩, hn⟩ := h
  exact ⟨⟨F, ho.new hm, hF⟩, hn.transN hm⟩
theorem alloc (h : Mine d e w0 w v xs) (o : Obj) : Mine d e w0 (w.alloc o) v xs := h.step ((Mod.refl _ _).alloc o)
theorem base (h : Mine d e w1 w v xs) (hm : New w0 w1) : Mine d e w0 w v xs := by
  obtain ⟨⟨F, ho, hF⟩, hn⟩ := h
  exact ⟨⟨F, ho, fun k hk => Nat.le_trans hm.size (hF k hk)⟩, hm.transN hn⟩
theorem form (h : Mine d e w0 w v xs) : ∃ A c, v = .slice A xs.length c ∧ xs.length ≤ c ∧ c ≤ 9223372036854775807 := by
  obtain ⟨⟨F, ho, hF⟩, hn⟩ := h; exact ho.form
theorem len (h : Mine d e w0 w (.slice A n c) xs) : n = xs.length ∧ n ≤ c ∧ c ≤ 9223372036854775807 := by
  obtain ⟨A', c', hv, h1, h2⟩ := h.form
  injection hv with e1 e2 e3
  subst e3; exact ⟨e2, by omega, h2⟩
theorem row (h : Mine d e w0 w (.slice A n c) xs) : Row d w (fun k => w0.heap.size ≤ k ∧ k < w.heap.size) A n xs := by
  obtain rfl := h.len.1
  obtain ⟨⟨F, ho, hF⟩, hn⟩ := h
  exact (ho.row rfl).mod (fun k hk => ⟨hF k hk, ho.lt k hk⟩) (fun _ _ => rfl)
theorem read {β : Type} {b : Ty β} {B : Nat → Prop} {A' : Option Addr} {m : Nat} {zs : List β} (h : Mine d e w0 w v xs) (hr : Row b w0 B A' m zs) (hB : ∀ k, B k → k < w0.heap.size) : Row b w B A' m zs :=
  hr.mod (fun _ h => h) fun k hk => h.new.block k (hB k hk) id
theorem ret (h : Mine d e w0 w v xs) : RetOwn d e w0 xs (.returned v) w := by
  obtain ⟨⟨F, ho, hF⟩, hn⟩ := h
  exact RetOwn.of ho hF hn
theorem of {F : List Nat} (ho : Own d e w F v xs) (hF : ∀ k, k ∈ F → w0.heap.size ≤ k) (hn : New w0 w) : Mine d e w0 w v xs := ⟨⟨F, ho, hF⟩, hn⟩
theorem lit (e : TypeId) (zs : Bytes) (hz : zs.length ≤ 34359738368) (h : New w0 w) : Mine Ty.byte e w0 (w.alloc (.cells (zs.map fun b => Value.int .u8 (b.toNat : Int)).toArray e)) (.slice (some ⟨w.heap.size, 0, none⟩) zs.length zs.length) zs :=
  ⟨⟨_, Own.lit w e zs hz, fun k hk => by simp at hk; subst hk; exact h.size⟩, h.alloc _⟩
theorem lit0 (e : TypeId) {g : Nat} (hg : g = w.heap.size) (h : New w0 w) : Mine Ty.byte e w0 (w.alloc (.cells #[] e)) (.slice (some ⟨g, 0, none⟩) 0 0) [] := by
  subst hg
  exact lit e [] (by simp) h
end Mine
theorem RetOwn.mine {α : Type} {d : Ty α} {t : TypeId} {w w' : World} {xs : List α} {e : Ending} (h : RetOwn d t w xs e w') : ∃ A c, e = .returned (.slice A xs.length c) ∧ Mine d t w w' (.slice A xs.length c) xs := by
  obtain ⟨A, c, F, rfl, ho, hF, hm⟩ := h
  exact ⟨A, c, rfl, ⟨⟨F, ho, hF⟩, hm⟩⟩
theorem Row.one (w : World) (e : TypeId) (b : UInt8) (n : Int) (h : (b.toNat : Int) = n) : Row Ty.byte (w.alloc (.cells #[.int .u8 n] e)) (· = w.heap.size) (some ⟨w.heap.size, 0, none⟩) 1 [b] := by
  subst h
  exact Row.const w e (0, 0) [b] (by simp)
theorem wpList_mk {P : Program} (w : World) {ops : Array Oper} {rest : List Oper} {o : Oper} {a : Act} {Q : Exit → Act → World → Prop} (hgd : o.guard = none) (l : Operand) (t : TypeId)
    (ho : o.op = .makeSlice t l l) {α : Type} (d : Ty α) (e : TypeId) {z : Value} (ht : P.underlying t = some (.slice e)) (hE : Elt P e d.sz z) (x0 : α) (hx0 : ∀ w, d.M w [] x0 z.cells.toList)
    (n : Nat) (hn : a.eval l = .int .i64 (n : Int)) (hlen : n ≤ 34359738368)
    (h : ∀ w', Mine d e w w' (.slice (some ⟨w.heap.size, 0, none⟩) n n) (List.replicate n x0) → wpList P ops Q rest (a.put o.dst (.slice (some ⟨w.heap.size, 0, none⟩) n n)) w') : wpList P ops Q (o :: rest) a w :=
  wpList_make w hgd l t ho d e ht hE x0 hx0 n hn hlen fun w' h1 h2 => h w' ⟨⟨_, h1, fun k hk => by simp at hk; omega⟩, h2⟩
theorem wpList_copyAll {P : Program} (w : World) {ops : Array Oper} {rest : List Oper} {o : Oper} {a : Act} {Q : Exit → Act → World → Prop} (hgd : o.guard = none) (x s : Operand) (dT sT : TypeId)
    (ho : o.op = .call { callee := .builtin .copy, args := #[x, s], argTypes := #[dT, sT] }) {α : Type} {d : Ty α} {e : TypeId} {z : Value} (hu : P.underlying dT = some (.slice e)) (hE : Elt P e d.sz z) (hsz : d.sz = 1) (hf : Flat d)
    {w0 : World} {g n c c' : Nat} {A : Option Addr} {B : Nat → Prop} {zs ys : List α} (hd : a.eval x = .slice (some ⟨g, 0, none⟩) n c) (hs : a.eval s = .slice A n c')
    (hown : Mine d e w0 w (.slice (some ⟨g, 0, none⟩) n c) zs) (hrow : Row d w B A n ys)
    (h : ∀ w', Mine d e w0 w' (.slice (some ⟨g, 0, none⟩) n c) ys → wpList P ops Q rest (a.put o.dst (.int .i64 (n : Int))) w') : wpList P ops Q (o :: rest) a w := by
  obtain ⟨⟨F, ho2, hF⟩, hn⟩ := hown
  have hg : w0.heap.size ≤ g := hF g (ho2.own_mem g rfl)
  refine wpList_copy_full w hgd x s dT sT ho d e hu hE hsz hf hd hs ho2 (by obtain ⟨A', c1, hv, _⟩ := ho2.form; injection hv with _ e2 _; exact e2.symm) hrow fun w' h1 h2 => h w' ⟨⟨_, h1, fun k hk => by simp at hk; omega⟩, hn.trans h2 fun i hi hlt => by omega⟩
theorem wpList_app {P : Program} (w : World) {ops : Array Oper} {rest : List Oper} {o : Oper} {a : Act} {Q : Exit → Act → World → Prop} (hgd : o.guard = none) (s x : Operand) (t : TypeId)
    (ho : o.op = .call { callee := .builtin .append, args := #[s, x], argTypes := #[t, t] })
    {α : Type} {d : Ty α} {e : TypeId} {z : Value} (ht : P.underlying t = some (.slice e)) (hE : Elt P e d.sz z) (hf : Flat d)
    {w0 : World} {A A' : Option Addr} {n m c c' : Nat} {xs ys : List α} {B : Nat → Prop} (hs : a.eval s = .slice A n c) (hx : a.eval x = .slice A' m c') (hown : Mine d e w0 w (.slice A n c) xs) (hy : Row d w B A' m ys)
    (hlen : xs.length + ys.length ≤ 34359738368)
    (h : ∀ A' n' c' w', Mine d e w0 w' (.slice A' n' c') (xs ++ ys) → wpList P ops Q rest (a.put o.dst (.slice A' n' c')) w') : wpList P ops Q (o :: rest) a w := by
  obtain ⟨news, hel, hA⟩ := hy.flat hf
  obtain ⟨⟨F, ho2, hF⟩, hn⟩ := hown
  refine wpList_append w hgd s x t ho d e ht hE hs ho2 hx hel hy.1 hA (by rw [flat_nil]; exact List.nodup_nil) (by rw [flat_nil]; intro k hk; cases hk) (by have := hy.1; omega) ?_
  intro A2 n2 c2 w2 F2 ho3 hn2 hm2 hF2
  exact h _ _ _ _ ⟨⟨F2, ho3, far_app hn hF (by rw [flat_nil]; simp) hF2⟩, New.app hn ho2 hF hm2⟩
end Go.Proofs.YtkkgighgnbbgiaaDoor.Mem

namespace Go.Proofs.YtkkgighgnbbgiaaDoor.Mem
open Go.RowKit
set_option linter.unusedVariables false
def OwI {α : Type} (d : Ty α) (e : TypeId) (w : World) (lo hi : Nat) (v : Value) (xs : List α) : Prop := ∃ F, Own d e w F v xs ∧ ∀ k, k ∈ F → lo ≤ k ∧ k < hi
namespace OwI
variable {α : Type} {d : Ty α} {e : TypeId} {w w' : World} {lo hi lo' hi' : Nat} {v : Value} {xs : List α} {A : Option Addr} {n c : Nat}
theorem nil (d : Ty α) (e : TypeId) (w : World) (lo hi : Nat) : OwI d e w lo hi (.slice none 0 0) [] := ⟨[], Own.nil d e w, by simp⟩
theorem keep {S : Nat → Prop} (h : OwI d e w lo hi v xs) (hm : Mod S w w') (hS : ∀ k, lo ≤ k → k < hi → ¬ S k) : OwI d e w' lo hi v xs := by
  obtain ⟨F, ho, hF⟩ := h
  exact ⟨F, ho.keep hm fun k hk => hS k (hF k hk).1 (hF k hk).2, hF⟩
theorem new (h : OwI d e w lo hi v xs) (hm : New w w') : OwI d e w' lo hi v xs := h.keep hm fun _ _ _ h => h
theorem wide (h : OwI d e w lo hi v xs) (h1 : lo' ≤ lo) (h2 : hi ≤ hi') : OwI d e w lo' hi' v xs := by
  obtain ⟨F, ho, hF⟩ := h
  exact ⟨F, ho, fun k hk => ⟨Nat.le_trans h1 (hF k hk).1, Nat.lt_of_lt_of_le (hF k hk).2 h2⟩⟩
theorem len (h : OwI d e w lo hi (.slice A n c) xs) : n = xs.length ∧ n ≤ c ∧ c ≤ 9223372036854775807 := by
  obtain ⟨F, ho, hF⟩ := h
  obtain ⟨A', c', hv, h1, h2⟩ := ho.form
  injection hv with e1 e2 e3
  subst e3; exact ⟨e2, by omega, h2⟩
theorem form (h : OwI d e w lo hi v xs) : ∃ A c, v = .slice A xs.length c := by
  obtain ⟨F, ho, hF⟩ := h; obtain ⟨A, c, hv, _⟩ := ho.form; exact ⟨A, c, hv⟩
theorem row (h : OwI d e w lo hi (.slice A n c) xs) : Row d w (fun k => lo ≤ k ∧ k < hi) A n xs := by
  obtain rfl := h.len.1
  obtain ⟨F, ho, hF⟩ := h
  exact (ho.row rfl).mod hF (fun _ _ => rfl)
theorem rowlt (h : OwI d e w lo hi (.slice A n c) xs) : Row d w (· < w.heap.size) A n xs := by
  obtain rfl := h.len.1
  obtain ⟨F, ho, hF⟩ := h
  exact (ho.row rfl).mod ho.lt (fun _ _ => rfl)
end OwI
theorem OwI.ret {α : Type} {d : Ty α} {t : TypeId} {w w' : World} {lo hi : Nat} {xs : List α} {v : Value} (h : OwI d t w' lo hi v xs) (hl : w.heap.size ≤ lo) (hm : New w w') : RetOwn d t w xs (.returned v) w' := by
  obtain ⟨F, ho, hF⟩ := h
  exact RetOwn.of ho (fun k hk => Nat.le_trans hl (hF k hk).1) hm
theorem wp_appO {P : Program} (w : World) {o : Oper} {a : Act} {K : Act → World → Prop} {Q : Exit → Act → World → Prop} (s x : Operand) (t : TypeId)
    (ho : o.op = .call { callee := .builtin .append, args := #[s, x], argTypes := #[t, t] })
    {α : Type} {d : Ty α} {e : TypeId} {z : Value} (ht : P.underlying t = some (.slice e)) (hE : Elt P e d.sz z)
    {lo hi : Nat} {A A' : Option Addr} {n c c' : Nat} {xs : List α} {y : α} {G : List Nat} {news : List Value} (hs : a.eval s = .slice A n c) (hx : a.eval x = .slice A' 1 c') (hown : OwI d e w lo hi (.slice A n c) xs)
    (hM : d.M w G y news) (hG : ∀ k, k ∈ G → hi ≤ k) (hA : ∃ ad, A' = some ad ∧ ∀ j u, news[j]? = some u → w.cell? (ad.add j) = some u)
    (hlo : lo ≤ hi) (hlo' : hi ≤ w.heap.size) (hlen : xs.length + 1 ≤ 34359738368)
    (h : ∀ A' n' c' w', OwI d e w' lo w'.heap.size (.slice A' n' c') (xs ++ [y]) → Mod (fun k => lo ≤ k ∧ k < hi) w w' → K (a.put o.dst (.slice A' n' c')) w') : o.wp P a w K Q := by
  obtain ⟨F, ho2, hF⟩ := hown
  refine wp_append w s x t ho d e ht hE hs ho2 hx (Elems.one hM) rfl (fun _ => hA) (by simpa using d.M_nd hM) (fun k hk hk2 => by simp at hk; have := hG k hk; have := (hF k hk2).2; omega) hlen ?_
  intro A2 n2 c2 w2 F2 ho3 hn2 hm2 hF2
  refine h _ _ _ _ ⟨F2, ho3, fun k hk => ⟨?_, ho3.lt k hk⟩⟩ (hm2.mono fun i _ hi => hF i (ho2.own_mem i hi))
  rcases hF2 k hk with h1 | h1 | h1
  · exact (hF k h1).1
  · simp at h1; have := hG k h1; omega
  · omega
section
variable {P : Program} {ops : Array Oper} {rest : List Oper} {o : Oper} {a : Act} {Q : Exit → Act → World → Prop} {K : Act → World → Prop} {E : Prop} {α : Type} {d : Ty α} {e : TypeId} {z : Value}
theorem wpList_appO (w : World) (hgd : o.guard = none) (s x : Operand) (t : TypeId)
    (ho : o.op = .call { callee := .builtin .append, args := #[s, x], argTypes := #[t, t] }) (ht : P.underlying t = some (.slice e)) (hE : Elt P e d.sz z)
    {lo hi : Nat} {A A' : Option Addr} {n c c' : Nat} {xs : List α} {y : α} {G : List Nat} {news : List Value} (hs : a.eval s = .slice A n c) (hx : a.eval x = .slice A' 1 c') (hown : OwI d e w lo hi (.slice A n c) xs)
    (hM : d.M w G y news) (hG : ∀ k, k ∈ G → hi ≤ k) (hA : ∃ ad, A' = some ad ∧ ∀ j u, news[j]? = some u → w.cell? (ad.add j) = some u)
    (hlo : lo ≤ hi) (hlo' : hi ≤ w.heap.size) (hlen : xs.length + 1 ≤ 34359738368)
    (h : ∀ A' n' c' w', OwI d e w' lo w'.heap.size (.slice A' n' c') (xs ++ [y]) → Mod (fun k => lo ≤ k ∧ k < hi) w w' → wpList P ops Q rest (a.put o.dst (.slice A' n' c')) w') : wpList P ops Q (o :: rest) a w :=
  wpList_plain hgd fun _ hK => wp_appO w s x t ho ht hE hs hx hown hM hG hA hlo hlo' hlen fun A' n' c' w' h1 h2 => hK _ _ (h A' n' c' w' h1 h2)
end
def OwP {α : Type} (d : Ty α) (e : TypeId) (w : World) (X : Nat → Prop) (v : Value) (xs : List α) : Prop := ∃ F, Own d e w F v xs ∧ ∀ k, k ∈ F → X k
theorem OwP.keep {α : Type} {d : Ty α} {e : TypeId} {w w' : World} {X S : Nat → Prop} {v : Value} {xs : List α} (h : OwP d e w X v xs) (hm : Mod S w w') (hS : ∀ k, X k → ¬ S k) : OwP d e w' X v xs := by
  obtain ⟨F, ho, hF⟩ := h
  exact ⟨F, ho.keep hm fun k hk => hS k (hF k hk), hF⟩
theorem OwP.new {α : Type} {d : Ty α} {e : TypeId} {w w' : World} {X : Nat → Prop} {v : Value} {xs : List α} (h : OwP d e w X v xs) (hm : New w w') : OwP d e w' X v xs := h.keep hm fun _ _ h => h
theorem OwP.len {α : Type} {d : Ty α} {e : TypeId} {w : World} {X : Nat → Prop} {A : Option Addr} {n c : Nat} {xs : List α} (h : OwP d e w X (.slice A n c) xs) : n = xs.length ∧ n ≤ c ∧ c ≤ 9223372036854775807 := by
  obtain ⟨F, ho, hF⟩ := h
  obtain ⟨A', c', hv, h1, h2⟩ := ho.form
  injection hv with e1 e2 e3
  subst e3; exact ⟨e2, by omega, h2⟩
theorem OwP.row {α : Type} {d : Ty α} {e : TypeId} {w : World} {X : Nat → Prop} {A : Option Addr} {n c : Nat} {xs : List α} (h : OwP d e w X (.slice A n c) xs) : Row d w X A n xs := by
  obtain rfl := h.len.1
  obtain ⟨F, ho, hF⟩ := h
  exact (ho.row rfl).mod hF (fun _ _ => rfl)
theorem OwP.ret {α : Type} {d : Ty α} {t : TypeId} {w w' : World} {X : Nat → Prop} {xs : List α} {v : Value} (h : OwP d t w' X v xs) (hl : ∀ k, X k → w.heap.size ≤ k) (hm : New w w') : RetOwn d t w xs (.returned v) w' := by
  obtain ⟨F, ho, hF⟩ := h
  exact RetOwn.of ho (fun k hk => hl k (hF k hk)) hm
theorem Mine.owp {α : Type} {d : Ty α} {e : TypeId} {w0 w : World} {v : Value} {xs : List α} (h : Mine d e w0 w v xs) {X : Nat → Prop} (hX : ∀ k, w0.heap.size ≤ k → k < w.heap.size → X k) : OwP d e w X v xs := by
  obtain ⟨⟨F, ho, hF⟩, hn⟩ := h
  exact ⟨F, ho, fun k hk => hX k (hF k hk) (ho.lt k hk)⟩
theorem wp_appP {P : Program} (w : World) {o : Oper} {a : Act} {K : Act → World → Prop} {Q : Exit → Act → World → Prop} (s x : Operand) (t : TypeId)
    (ho : o.op = .call { callee := .builtin .append, args := #[s, x], argTypes := #[t, t] })
    {α : Type} {d : Ty α} {e : TypeId} {z : Value} (ht : P.underlying t = some (.slice e)) (hE : Elt P e d.sz z) (hf : Flat d)
    {X : Nat → Prop} {A A' : Option Addr} {n m c c' : Nat} {xs ys : List α} {B : Nat → Prop} (hs : a.eval s = .slice A n c) (hx : a.eval x = .slice A' m c') (hown : OwP d e w X (.slice A n c) xs) (hy : Row d w B A' m ys)
    (hX : ∀ k, w.heap.size ≤ k → X k) (hlen : xs.length + ys.length ≤ 34359738368)
    (h : ∀ A' n' c' w', OwP d e w' X (.slice A' n' c') (xs ++ ys) → Mod X w w' → K (a.put o.dst (.slice A' n' c')) w') : o.wp P a w K Q := by
  obtain ⟨news, hel, hA⟩ := hy.flat hf
  obtain ⟨F, ho2, hF⟩ := hown
  refine wp_append w s x t ho d e ht hE hs ho2 hx hel hy.1 hA (by rw [flat_nil]; exact List.nodup_nil) (by rw [flat_nil]; intro k hk; cases hk) (by have := hy.1; omega) ?_
  intro A2 n2 c2 w2 F2 ho3 hn2 hm2 hF2
  refine h _ _ _ _ ⟨F2, ho3, fun k hk => ?_⟩ (hm2.mono fun i _ hi => hF i (ho2.own_mem i hi))
  rcases hF2 k hk with h1 | h1 | h1
  · exact hF k h1
  · rw [flat_nil] at h1; cases h1
  · exact hX k (by omega)
theorem wpList_appP {P : Program} (w : World) {ops : Array Oper} {rest : List Oper} {o : Oper} {a : Act} {Q : Exit → Act → World → Prop} (hgd : o.guard = none) (s x : Operand) (t : TypeId)
    (ho : o.op = .call { callee := .builtin .append, args := #[s, x], argTypes := #[t, t] }) {α : Type} {d : Ty α} {e : TypeId} {z : Value} (ht : P.underlying t = some (.slice e)) (hE : Elt P e d.sz z) (hf : Flat d)
    {X : Nat → Prop} {A A' : Option Addr} {n m c c' : Nat} {xs ys : List α} {B : Nat → Prop} (hs : a.eval s = .slice A n c) (hx : a.eval x = .slice A' m c') (hown : OwP d e w X (.slice A n c) xs) (hy : Row d w B A' m ys)
    (hX : ∀ k, w.heap.size ≤ k → X k) (hlen : xs.length + ys.length ≤ 34359738368)
    (h : ∀ A' n' c' w', OwP d e w' X (.slice A' n' c') (xs ++ ys) → Mod X w w' → wpList P ops Q rest (a.put o.dst (.slice A' n' c')) w') : wpList P ops Q (o :: rest) a w :=
  wpList_plain hgd fun _ hK => wp_appP w s x t ho ht hE hf hs hx hown hy hX hlen fun A' n' c' w' h1 h2 => hK _ _ (h A' n' c' w' h1 h2)
theorem Mine.empty {α : Type} {w0 w : World} (d : Ty α) (e : TypeId) {g : Nat} (hg : g = w.heap.size) (h : New w0 w) : Mine d e w0 (w.alloc (.cells #[] e)) (.slice (some ⟨g, 0, none⟩) 0 0) [] := by
  subst hg
  refine ⟨⟨[w.heap.size], ⟨[], [], ?_, Elems.nil _ _, rfl, by simp⟩, fun k hk => by simp at hk; subst hk; exact h.size⟩, h.alloc _⟩
  exact World.ownsRow_lit w _ 0 (Nat.zero_le _) (by simp only [maxLen]; omega) (by simp)
theorem lit_cells (w : World) (e : TypeId) (cs : List Value) {g : Nat} (hg : g = w.heap.size) : ∃ ad, (some ⟨g, 0, none⟩ : Option Addr) = some ad ∧ ∀ j u, cs[j]? = some u → (w.alloc (.cells cs.toArray e)).cell? (ad.add j) = some u := by
  subst hg
  exact ⟨_, rfl, fun j u hu => by rw [add_own, cell_of_row _ _ j _ e (0, 0) (heap_alloc_new w _)]; simpa using hu⟩
theorem results_blk {P : Program} {fn : Func} {a : Tmp} {t e : TypeId} {fs : Array Field} (h : fn.results = #[.cell a t]) {tmps : Array Value} {w : World} {g : Nat} {cs : List Value} (ht : tmps.getD a undef = .pointer (some ⟨g, 0, none⟩)) (hb : Blk w g e cs)
    (hu : P.underlying t = some (.struct fs)) (hi : (P.info? t).map (·.size) = some cs.length) : (results fn tmps).run P w = .ok (.agg cs.toArray) w := by
  have := run_loadVar_row (P := P) w g e t cs.toArray (0, 0) _ hb hu rfl (by rw [hi]; simp)
  rw [Array.getD_eq_getD_getElem?] at ht
  simp [results, h, ht, asAddr, this]
end Go.Proofs.YtkkgighgnbbgiaaDoor.Mem

namespace Go.Proofs.YtkkgighgnbbgiaaDoor
open Go.RowKit Mem
set_option linter.unusedVariables false
theorem elt_byte : Elt Tryd.prog 5 1 (.int .u8 0) := Elt.of (b := 1) (by kernel_rfl) rfl (by decide) (by decide)
end Go.Proofs.YtkkgighgnbbgiaaDoor

namespace Go.Proofs.YtkkgighgnbbgiaaDoor.Mem
open Go.RowKit
set_option linter.unusedVariables false
section
variable {P : Program} {md : Region.Mode} {ops : Array Oper} {T : World → Prop} {L : List Nat} {Q : Exit → Act → World → Prop} {o : Oper} {a : Act} {w : World} {v : Value}
def RegR (P : Program) (md : Region.Mode) (ops : Array Oper) (Q : Exit → Act → World → Prop) (L : List Nat) (T : World → Prop) : Nat → Array Bool → Act → World → Prop
  | 0, ls, a, w => Region.ready md ops ls = [] ∧ Q .normal a w
  | n + 1, ls, a, w => (Region.ready md ops ls = [] → Q .normal a w) ∧ ∀ i ∈ Region.ready md ops ls, wpOp P ops Q i (fun a' w' => (i ∉ L → T w') ∧ RegR P md ops Q L T n (ls.setIfInBounds i true) a' w') a w
theorem RegR.any : ∀ (n : Nat) (ls : Array Bool) (a : Act) (w : World), RegR P md ops Q L T n ls a w → wpAny P md ops Q n ls a w
  | 0, _, _, _, h => h
  | n + 1, _, _, _, h => ⟨h.1, fun i hi => wpOp_mono (fun a' w' h' => RegR.any n _ a' w' h'.2) (h.2 i hi)⟩
def Waits (md : Region.Mode) (ops : Array Oper) (L : List Nat) (i : Nat) : Bool := L.all fun j => ((ops[j]?).map fun o => o.after.any fun e => Region.binds md e && e.on == i).getD false
theorem RegR.first {i : Nat} {oi : Oper} (hi : ops[i]? = some oi) (hsel : ∀ (j : Nat) (o : Oper) cs b, ops[j]? = some o → o.op ≠ .select cs b)
    (hQ : ∀ c a w, Q (.panic c) (a.put oi.dst v) w → Q (.panic c) a w) (hL : Waits md ops L i = true) (n : Nat) : ∀ (ls : Array Bool) (a : Act) (w : World),
      (∀ j oj, ops[j]? = some oj → j ≠ i → ls.getD j true = false → (∀ e ∈ oj.after, Region.binds md e = true → e.on ≠ i) → oi.apart ops oj = true) →
      i ∈ Region.ready md ops ls → YieldsIf P ops T oi v a → T w → RegR P md ops Q L T n (ls.setIfInBounds i true) (a.put oi.dst v) w → RegR P md ops Q L T (n + 1) ls a w := by
  -- who comes ahead of number i does not wait for it
  have hno : ∀ (ls : Array Bool) (j : Nat) (oj : Oper), ops[j]? = some oj → i ∈ Region.ready md ops ls → (∀ e ∈ oj.after, Region.binds md e = true → ls.getD e.on false = true) → ∀ e ∈ oj.after, Region.binds md e = true → e.on ≠ i := by
    intro ls j oj _ hir hall e he hb heq
    have hl := hall e he hb
    have h0 := (mem_ready.1 hir).1
    rw [heq] at hl
    by_cases hsz : i < ls.size
    · simp [hsz] at h0 hl; simp [h0] at hl
    · simp [Array.getElem?_eq_none (Nat.le_of_not_lt hsz)] at hl
  have hnL : ∀ j oj, ops[j]? = some oj → (∀ e ∈ oj.after, Region.binds md e = true → e.on ≠ i) → j ∉ L := by
    intro j oj hj hn hmem
    have h1 := List.all_eq_true.1 hL j hmem
    simp only [hj, Option.map_some, Option.getD_some] at h1
    obtain ⟨e, he, hb⟩ := Array.any_eq_true'.1 h1
    rw [Bool.and_eq_true, beq_iff_eq] at hb
    exact hn e he hb.1 hb.2
  induction n with
  | zero =>
    intro ls a w _ hr hy hT H
    refine ⟨fun h0 => absurd (h0 ▸ hr) List.not_mem_nil, fun j hj => ?_⟩
    rcases Decidable.em (j = i) with rfl | hne
    · exact hy.wpOp hi hT ⟨fun _ => hT, H⟩
    · exact absurd (H.1 ▸ ready_mono hj hne) List.not_mem_nil
  | succ n ih =>
    intro ls a w hfree hr hy hT H
    refine ⟨fun h0 => absurd (h0 ▸ hr) List.not_mem_nil, fun j hj => ?_⟩
    rcases Decidable.em (j = i) with rfl | hne
    · exact hy.wpOp hi hT ⟨fun _ => hT, H⟩
    obtain ⟨hun, oj, hoj, hall⟩ := mem_ready.1 hj
    have hn := hno ls j oj hoj hr hall
    refine wpOp_mono ?_ (wpOp_putIf hoj (hfree j oj hoj hne hun hn) (fun cs b => hsel i oi cs b hi) (fun cs b => hsel j oj cs b hoj) hQ hy (H.2 j (ready_mono hj hne)))
    intro a' w' h
    refine ⟨h.2.1, ih _ a' w' ?_ (ready_mono hr (Ne.symm hne)) h.1 (h.2.1 (hnL j oj hoj hn)) ?_⟩
    · intro k ok hk hki hku hkn
      refine hfree k ok hk hki ?_ hkn
      rcases Decidable.em (j = k) with rfl | hjk
      · exact hun
      · rw [getD_set_ne true hjk] at hku; exact hku
    · have h3 := h.2.2
      rwa [Array.setIfInBounds_comm _ _ (Ne.symm hne)] at h3
theorem reg_start (L : List Nat) (T : World → Prop) {id : Nat} (hm : P.follows .mixedOrders = true) (h : RegR P .any ops Q L T ops.size (Array.replicate ops.size false) a w.drew) : (Code.region id ops true).wp P Q a w :=
  wp_region_any hm (RegR.any _ _ _ _ h)
theorem reg_take {i n : Nat} {op : Op} {ty : TypeId} {pos : String} {af : Array Edge} {fuel : Nat} {ls : Array Bool} (v : Value) (hT : T w) (hi : ops[i]? = some ⟨some n, op, ty, pos, af, none⟩) (hs : Region.noSelect ops = true) (hL : Waits md ops L i = true) (hf : Region.free md ops ls i = true) (hr : (Region.ready md ops ls).contains i = true)
    (hQ : ∀ c a w, Q (.panic c) (a.put (some n) v) w → Q (.panic c) a w) (hy : ∀ w, T w → (execOp a.eval ⟨some n, op, ty, pos, af, none⟩).run P w = .ok (.value v) w)
    (h : RegR P md ops Q L T fuel (ls.setIfInBounds i true) (a.put (some n) v) w) : RegR P md ops Q L T (fuel + 1) ls a w :=
  RegR.first hi (Region.noSelect_spec hs) hQ hL fuel ls a w (Region.free_spec hi hf) (by simpa using hr) (.inl ⟨by simp [Region.wanted], hy⟩) hT h
theorem reg_step {i : Nat} {d : Option Nat} {op : Op} {ty : TypeId} {pos : String} {af : Array Edge} {fuel : Nat} {ls : Array Bool} (hi : ops[i]? = some ⟨d, op, ty, pos, af, none⟩) (hr : Region.ready md ops ls = [i])
    (h : ∀ K : Act → World → Prop, Shut (∀ a w, (i ∉ L → T w) → RegR P md ops Q L T fuel (ls.setIfInBounds i true) a w → K a w) → Oper.wp P ⟨d, op, ty, pos, af, none⟩ a w K Q) : RegR P md ops Q L T (fuel + 1) ls a w := by
  refine ⟨fun h0 => absurd (hr.symm.trans h0) (by simp), ?_⟩
  rw [hr]
  intro j hj
  obtain rfl := List.mem_singleton.1 hj
  refine wpOp_step hi fun K' hK => ?_
  rw [if_pos (by simp [Region.wanted])]
  exact h K' fun a w h1 h2 => hK a w ⟨h1, h2⟩
theorem reg_takeG {i n : Nat} {op : Op} {ty : TypeId} {pos : String} {af : Array Edge} {gd : Option (Nat × Bool)} {fuel : Nat} {ls : Array Bool} (v : Value) (hT : T w) (hi : ops[i]? = some ⟨some n, op, ty, pos, af, gd⟩) (hw : Region.wanted ⟨some n, op, ty, pos, af, gd⟩ (yielded ops a.tmps) = true) (hs : Region.noSelect ops = true) (hL : Waits md ops L i = true) (hf : Region.free md ops ls i = true) (hr : (Region.ready md ops ls).contains i = true)
    (hQ : ∀ c a w, Q (.panic c) (a.put (some n) v) w → Q (.panic c) a w) (hy : ∀ w, T w → (execOp a.eval ⟨some n, op, ty, pos, af, gd⟩).run P w = .ok (.value v) w)
    (h : RegR P md ops Q L T fuel (ls.setIfInBounds i true) (a.put (some n) v) w) : RegR P md ops Q L T (fuel + 1) ls a w :=
  RegR.first hi (Region.noSelect_spec hs) hQ hL fuel ls a w (Region.free_spec hi hf) (by simpa using hr) (.inl ⟨hw, hy⟩) hT h
theorem reg_stepG {i : Nat} {d : Option Nat} {op : Op} {ty : TypeId} {pos : String} {af : Array Edge} {gd : Option (Nat × Bool)} {fuel : Nat} {ls : Array Bool} (hi : ops[i]? = some ⟨d, op, ty, pos, af, gd⟩) (hw : Region.wanted ⟨d, op, ty, pos, af, gd⟩ (yielded ops a.tmps) = true) (hr : Region.ready md ops ls = [i])
    (h : ∀ K : Act → World → Prop, Shut (∀ a w, (i ∉ L → T w) → RegR P md ops Q L T fuel (ls.setIfInBounds i true) a w → K a w) → Oper.wp P ⟨d, op, ty, pos, af, gd⟩ a w K Q) : RegR P md ops Q L T (fuel + 1) ls a w := by
  refine ⟨fun h0 => absurd (hr.symm.trans h0) (by simp), ?_⟩
  rw [hr]
  intro j hj
  obtain rfl := List.mem_singleton.1 hj
  refine wpOp_step hi fun K' hK => ?_
  rw [if_pos hw]
  exact h K' fun a w h1 h2 => hK a w ⟨h1, h2⟩
theorem reg_done {ls : Array Bool} (hr : Region.ready md ops ls = []) (h : Q .normal a w) : ∀ n, RegR P md ops Q L T n ls a w
  | 0 => ⟨hr, h⟩
  | _ + 1 => ⟨fun _ => h, by rw [hr]; simp⟩
theorem wp_val (hx : (execOp a.eval o).run P w = .ok (.value v) w) {n : Nat} (hd : o.dst = some n) {K : Act → World → Prop} (h : K (a.put (some n) v) w) : Oper.wp P o a w K Q := by
  unfold Oper.wp
  rw [hx, Oper.upon_value, hd]; exact h
theorem exec_move {x : Operand} (ho : o.op = .move x) (h : a.eval x = v) : (execOp a.eval o).run P w = .ok (.value v) w := by
  unfold execOp; simp only [ho, h, Sem.run_pure]
theorem exec_bin {op : BinOp} {t t' : TypeId} {x y : Operand} (ho : o.op = .binOp op t x y t') {vx vy : Value} (hx : a.eval x = vx) (hy : a.eval y = vy) (h : (do eqGuard op t x y vx vy; binOp op t vx vy : Sem Value).run P w = .ok v w) : (execOp a.eval o).run P w = .ok (.value v) w := by
  unfold execOp; simp only [ho, hx, hy]
  rw [Sem.run_bind, h]; rfl
theorem slice_to {t e : TypeId} {n c k : Nat} {A : Option Addr} (hu : P.underlying t = some (.slice e)) (hk : k ≤ c) (he : (P.info? e).isSome = true) : (Instr.sliceAt t (.slice A n c) none (some (.int .i64 k)) none).run P w = .ok (.slice A k c) w := by
  obtain ⟨i, hi⟩ := Option.isSome_iff_exists.1 he
  have hel : P.elem t = e := by simp [Program.elem, hu]
  have hu' : P.underlying t = some (.slice (P.elem t)) := by rw [hel]; exact hu
  rw [run_sliceAt_slice w t _ _ _ _ hu', run_slice_h w t A n c hu' .i64 (k : Int) (by omega) (by omega)]
  have hs : (sizeOf e).run P w = .ok i.size w := by
    simp only [sizeOf, typeInfo, Sem.run_bind, run_program, hi, Result.andThen, Sem.run_pure]
  rw [hel, hs]
  simp [Result.andThen, sliced]
  cases A <;> simp [Addr.add]
theorem exec_slice {t : TypeId} {x : Operand} {lo hi mx : Option Operand} (ho : o.op = .slice t x lo hi mx) {vx : Value} {vl vh vm : Option Value} (hx : a.eval x = vx) (hl : lo.map a.eval = vl) (hh : hi.map a.eval = vh) (hm : mx.map a.eval = vm) (h : (Instr.sliceAt t vx vl vh vm).run P w = .ok v w) : (execOp a.eval o).run P w = .ok (.value v) w := by
  unfold execOp; simp only [ho, hx, hl, hh, hm, Sem.run_bind, h, Result.andThen_ok, Sem.run_pure]
theorem exec_call {f : FuncId} {args : List Operand} {ts : Array TypeId} {vals : List Value} (ho : o.op = .call { callee := .value (.func f), args := args.toArray, argTypes := ts }) (hv : args.map a.eval = vals)
    (hf : ((P.funcs[f]?).map fun fn => fn.name == "runtime.NumGoroutine" || fn.body.isNone) = some false) : (execOp a.eval o).run P w = .ok (.enter f vals.toArray) w := by
  obtain ⟨fn, hfn, hb⟩ := Option.map_eq_some_iff.1 hf
  rw [Bool.or_eq_false_iff] at hb
  have h1 : fn.name ≠ "runtime.NumGoroutine" := fun h => by rw [h] at hb; simp at hb
  have h2 : fn.body ≠ none := fun h => by rw [h] at hb; simp at hb
  unfold execOp
  simp only [ho, resolve, List.map_toArray, hv, Act.eval, Deferred.ofValue]
  simp [Sem.run_bind, Result.andThen, invoke, callFunc, hfn, h1, h2]
theorem wp_call {f : FuncId} {args : List Operand} {ts : Array TypeId} {vals : List Value} {R : Ending → World → Prop} {n : Nat} (ho : o.op = .call { callee := .value (.func f), args := args.toArray, argTypes := ts }) (hd : o.dst = some n) (hv : args.map a.eval = vals)
    (hf : ((P.funcs[f]?).map fun fn => fn.name == "runtime.NumGoroutine" || fn.body.isNone) = some false) {K : Act → World → Prop} (hc : Calls P f vals.toArray w R) (hK : ∀ e w', R e w' → ∃ v, e = .returned v ∧ K (a.put (some n) v) w') : Oper.wp P o a w K Q := by
  unfold Oper.wp
  rw [exec_call ho hv hf, Oper.upon_enter]
  refine hc.mono ?_
  intro e w' hR
  obtain ⟨v, rfl, h⟩ := hK e w' hR
  rw [hd]; exact h
theorem exec_load {t : TypeId} {x : Operand} (ho : o.op = .load t x) {vx : Value} (hx : a.eval x = vx) (h : (Instr.loadAt t vx).run P w = .ok v w) : (execOp a.eval o).run P w = .ok (.value v) w := by
  unfold execOp; simp only [ho, hx, Sem.run_bind, h, Result.andThen_ok, Sem.run_pure]
theorem exec_field {t : TypeId} {x : Operand} {f : Nat} (ho : o.op = .fieldAddr t x f) {vx : Value} (hx : a.eval x = vx) (h : (Instr.fieldAt t vx f).run P w = .ok v w) : (execOp a.eval o).run P w = .ok (.value v) w := by
  unfold execOp; simp only [ho, hx, Sem.run_bind, h, Result.andThen_ok, Sem.run_pure]
theorem exec_indexAddr {t : TypeId} {x i : Operand} (ho : o.op = .indexAddr t x i) {vx vi : Value} (hx : a.eval x = vx) (hi : a.eval i = vi) (h : (Instr.indexAt t vx vi).run P w = .ok v w) : (execOp a.eval o).run P w = .ok (.value v) w := by
  unfold execOp; simp only [ho, hx, hi, Sem.run_bind, h, Result.andThen_ok, Sem.run_pure]
theorem exec_pick {c x y : Operand} (ho : o.op = .pick c x y) {b : Bool} {vx vy : Value} (hc : a.eval c = .bool b) (hx : a.eval x = vx) (hy : a.eval y = vy) (hv : v = if b then vx else vy) : (execOp a.eval o).run P w = .ok (.value v) w := by
  unfold execOp; subst hv; simp [ho, hc, hx, hy, asBool, Sem.run_pure]
theorem exec_buildSlice {t : TypeId} {n : Nat} {parts : List (Nat × Operand)} {w' : World} (ho : o.op = .buildSlice t n parts.toArray) {vs : List (Nat × Value)} (hx : parts.map (fun (i, x) => (i, a.eval x)) = vs) (h : (Instr.buildSlice t n vs.toArray).run P w = .ok v w') : (execOp a.eval o).run P w = .ok (.value v) w' := by
  unfold execOp; simp only [ho, List.map_toArray, hx, Sem.run_bind, h, Result.andThen_ok, Sem.run_pure]
theorem wp_valw {w' : World} (hx : (execOp a.eval o).run P w = .ok (.value v) w') {n : Nat} (hd : o.dst = some n) {K : Act → World → Prop} (h : K (a.put (some n) v) w') : Oper.wp P o a w K Q := by
  unfold Oper.wp
  rw [hx, Oper.upon_value, hd]; exact h
theorem wp_store {t : TypeId} {x y : Operand} {w' : World} (ho : o.op = .store t x y) (hd : o.dst = none) {vx vy : Value} (hx : a.eval x = vx) (hy : a.eval y = vy) (h : (Instr.storeAt t vx vy).run P w = .ok () w') {K : Act → World → Prop} (hK : K a w') : Oper.wp P o a w K Q := by
  unfold Oper.wp execOp; simp only [ho, hx, hy, Sem.run_bind, h, Result.andThen_ok, Sem.run_pure, Oper.upon_skip, hd]
  exact hK
end
end Go.Proofs.YtkkgighgnbbgiaaDoor.Mem

namespace Go.Proofs.YtkkgighgnbbgiaaDoor
open Go.RowKit Mem
set_option linter.unusedVariables false
theorem wpList_mkRoom {P : Program} (w : World) {ops : Array Oper} {rest : List Oper} {o : Oper} {a : Act} {Q : Exit → Act → World → Prop} (hgd : o.guard = none) (l0 l : Operand) (t : TypeId)
    (ho : o.op = .makeSlice t l0 l) (e : TypeId) (ht : P.underlying t = some (.slice e)) (hinfo : (P.info? e).map (fun i => (i.zero, i.size, i.bytes)) = some (some (.int .u8 0), 1, 1))
    (n : Nat) (h0 : a.eval l0 = .int .i64 0) (hn : a.eval l = .int .i64 (n : Int)) (hlen : n ≤ 34359738368)
    (h : ∀ w', Mine Ty.byte e w w' (.slice (some ⟨w.heap.size, 0, none⟩) 0 n) [] → wpList P ops Q rest (a.put o.dst (.slice (some ⟨w.heap.size, 0, none⟩) 0 n)) w') : wpList P ops Q (o :: rest) a w := by
  refine wpList_plain hgd fun K hK => ?_
  have hr := run_make_room (P := P) t e (.int .u8 0) 1 ht hinfo rfl .i64 .i64 n (by omega) (by omega) w
  unfold Oper.wp execOp
  simp only [ho, h0, hn, Sem.run_bind, Sem.run_pure, Result.andThen_ok, hr]
  refine hK _ _ (h _ ⟨⟨[w.heap.size], ⟨[], [], ⟨rfl, .inr ⟨w.heap.size, n, _, rfl, Nat.zero_le _, heap_alloc_new w _, Nat.zero_le _, by simp only [maxLen]; omega, by simp [madeCells, show Ty.byte.sz = 1 from rfl], by simp⟩⟩, Elems.nil _ _, rfl, by simp⟩, fun k hk => by simp at hk; omega⟩, (Mod.refl _ _).alloc _⟩)
structure Rdr (w : World) (g : Nat) (ys : Bytes) : Prop where
  ex : ∃ (A : Option Addr) (c : Nat) (xs : Bytes) (i : Nat) (B : Nat → Prop), Blk w g 52 [.slice A xs.length c, .int .i64 (i : Int)] ∧ i ≤ xs.length ∧ ys = xs.drop i ∧ Row Ty.byte w B A xs.length xs ∧ (∀ k, B k → k < g) ∧ xs.length ≤ 34359738368
theorem Rdr.mod {w w' : World} {g : Nat} {ys : Bytes} {S : Nat → Prop} (h : Rdr w g ys) (hm : Mod S w w') (hS : ∀ k, k ≤ g → ¬ S k) : Rdr w' g ys := by
  obtain ⟨A, c, xs, i, B, hb, hi, he, hr, hB, hl⟩ := h.ex
  have hlt := hb.lt
  exact ⟨A, c, xs, i, B, hb.mod hm (hS g (Nat.le_refl _)), hi, he, hr.mod (fun _ h => h) (fun k hk => hm.block k (by have := hB k hk; omega) (hS k (by have := hB k hk; omega))), hB, hl⟩
theorem Rdr.lt {w : World} {g : Nat} {ys : Bytes} (h : Rdr w g ys) : g < w.heap.size := by
  obtain ⟨A, c, xs, i, B, hb, _⟩ := h.ex; exact hb.lt
def nextD : Bytes → Nat × Bytes
  | [] => (0, [])
  | b :: r => (b.toNat, r)
theorem nextD_lt (ys : Bytes) : (nextD ys).1 < 256 := by cases ys with
  | nil => decide
  | cons b r => exact UInt8.toNat_lt b
set_option maxHeartbeats 1000000 in
set_option maxRecDepth 100000 in
theorem next_calls {w : World} {g : Nat} {ys : Bytes} (h : Rdr w g ys) : Calls Tryd.prog 26 #[.pointer (some ⟨g, 0, none⟩)] w
    (fun e w' => e = .returned (.int .i64 ((nextD ys).1 : Int)) ∧ Rdr w' g (nextD ys).2 ∧ Mod (· = g) w w') := by
  obtain ⟨A, c, xs, i, B, hb, hi, rfl, hr, hB, hl⟩ := h.ex
  have hlt := hb.lt
  have HB := Sec.mk hb
  have HR := Sec.mk hr
  have HX := Sec.mk hB
  have c0 : w.cell? ⟨g, 0, none⟩ = some (.slice A xs.length c) := hb.cell 0
  have c1 : w.cell? ⟨g, 1, none⟩ = some (.int .i64 (i : Int)) := hb.cell 1
  have f1 : w.frozen? ⟨g, 1, none⟩ = false := hb.frozen 1
  clear hb hr hB h
  by_cases hlt : i < xs.length
  · obtain ⟨ad, rfl, hx⟩ := HR.out.byte_at (fun _ _ => rfl) hlt
    have HD : Sec (nextD (xs.drop i) = (xs[i].toNat, xs.drop (i + 1))) := ⟨by rw [List.drop_eq_getElem_cons hlt]; rfl⟩
    have hxl := UInt8.toNat_lt xs[i]
    have hii : (i : Int) < (xs.length : Int) := by omega
    generalize xs[i].toNat = b at *
    go_enter Tryd.func26, Tryd.ntmps26
    go_wp2
    go_quiet (fail)
    go_wp2
    go_quiet (fail)
    go_wp2
    go_ret
    rw [HD.out]
    refine ⟨rfl, ⟨_, c, xs, i + 1, B, ?_, by omega, rfl, HR.out.mod (fun _ h => h) (fun k hk => ?_), HX.out, hl⟩, ((Mod.refl (fun k => k = g) w).drewN _).setCell (p := ⟨g, 1, none⟩) (fun _ => rfl) _⟩
    · rw [show ((i + 1 : Nat) : Int) = (i : Int) + 1 by omega]
      exact (HB.out.drewN _).set_ 1 _
    · exact Below.heap_setCell _ _ _ _ (by have := HX.out k hk; simp; omega)
  · obtain rfl : i = xs.length := by omega
    have HD : Sec (nextD (xs.drop xs.length) = (0, [])) := ⟨by rw [List.drop_length]; rfl⟩
    go_enter Tryd.func26, Tryd.ntmps26
    go_wp2
    go_quiet (fail)
    go_wp2
    go_ret
    rw [HD.out]
    refine ⟨rfl, ⟨_, c, xs, xs.length, B, HB.out.drewN _, by omega, by simp, HR.out.mod (fun _ h => h) (fun _ _ => rfl), HX.out, hl⟩, (Mod.refl _ _).drewN _⟩
end Go.Proofs.YtkkgighgnbbgiaaDoor

namespace Go.Proofs.YtkkgighgnbbgiaaDoor
open Go.RowKit Mem Lib
set_option linter.unusedVariables false
namespace Mem
end Mem
end Go.Proofs.YtkkgighgnbbgiaaDoor

namespace Go.Proofs.YtkkgighgnbbgiaaDoor
open Go.RowKit Mem
set_option linter.unusedVariables false
set_option linter.unusedSimpArgs false
set_option maxHeartbeats 1000000 in
set_option maxRecDepth 100000 in
theorem more_calls {w : World} {g : Nat} {ys : Bytes} (h : Rdr w g ys) : Calls Tryd.prog 31 #[.pointer (some ⟨g, 0, none⟩)] w (fun e w' => (∃ b, e = .returned (.bool b)) ∧ Rdr w' g ys ∧ Mod (· = g) w w') := by
  obtain ⟨A, c, xs, i, B, hb, hi, rfl, hr, hB, hl⟩ := h.ex
  have HB := Sec.mk hb
  have HR := Sec.mk hr
  have HX := Sec.mk hB
  have c0 : w.cell? ⟨g, 0, none⟩ = some (.slice A xs.length c) := hb.cell 0
  have c1 : w.cell? ⟨g, 1, none⟩ = some (.int .i64 (i : Int)) := hb.cell 1
  clear hb hr hB h
  go_enter Tryd.func31, Tryd.ntmps31
  go_wp2
  go_quiet (fail)
  go_wp2
  go_ret
  exact ⟨⟨_, rfl⟩, ⟨_, c, xs, i, B, HB.out.drewN _, by omega, rfl, HR.out.mod (fun _ h => h) (fun _ _ => rfl), HX.out, hl⟩, (Mod.refl _ _).drewN _⟩
end Go.Proofs.YtkkgighgnbbgiaaDoor

namespace Go.Proofs.YtkkgighgnbbgiaaDoor
open Go.RowKit Mem
set_option linter.unusedVariables false
end Go.Proofs.YtkkgighgnbbgiaaDoor

namespace Go.Proofs.YtkkgighgnbbgiaaDoor
section
variable {α : Type}
end
end Go.Proofs.YtkkgighgnbbgiaaDoor

namespace Go.Proofs.YtkkgighgnbbgiaaDoor
open Go.RowKit Mem
set_option linter.unusedVariables false
end Go.Proofs.YtkkgighgnbbgiaaDoor

namespace Go.Proofs.YtkkgighgnbbgiaaDoor
open Go.RowKit Mem
set_option linter.unusedVariables false
def takeD : Nat → Bytes → Bytes × Bytes
  | 0, ys => ([], ys)
  | n + 1, ys => (UInt8.ofNat (nextD ys).1 :: (takeD n (nextD ys).2).1, (takeD n (nextD ys).2).2)
theorem takeD_len (n : Nat) : ∀ ys, (takeD n ys).1.length = n := by
  induction n with
  | zero => intro ys; rfl
  | succ n ih => intro ys; simp [takeD, ih]
def dataN (c : Nat) : Nat := if c < 200 then c % 12 else c
def dataD (ys : Bytes) : Bytes × Bytes := takeD (dataN (nextD ys).1) (nextD ys).2
theorem dataD_len (ys : Bytes) : (dataD ys).1.length < 256 := by
  unfold dataD; rw [takeD_len]; have := nextD_lt ys; unfold dataN; split <;> omega
def DrawB (w : World) (g : Nat) (x : Bytes × Bytes) (e : Ending) (w' : World) : Prop :=
  ∃ A c, e = .returned (.slice A x.1.length c) ∧ OwP Ty.byte 5 w' (fun k => w.heap.size ≤ k) (.slice A x.1.length c) x.1 ∧ Rdr w' g x.2 ∧ Mod (· = g) w w'
set_option maxHeartbeats 1000000 in
set_option maxRecDepth 100000 in
theorem l1Data_calls {w : World} {g : Nat} {ys : Bytes} (h : Rdr w g ys) : Calls Tryd.prog 33 #[.pointer (some ⟨g, 0, none⟩)] w (DrawB w g (dataD ys)) := by
  have HR := Sec.mk h
  have hg := h.lt
  have hb := nextD_lt ys
  have HD : Sec (dataD ys = takeD (dataN (nextD ys).1) (nextD ys).2) := ⟨rfl⟩
  clear h
  go_enter Tryd.func33, Tryd.ntmps33
  go_wp2_with fail
  refine (next_calls HR.out).mono ?_
  rintro e w1 ⟨rfl, hr1, hm1⟩
  have hs1 := hm1.size
  generalize (nextD ys).1 = c at *
  generalize (nextD ys).2 = zs at *
  have HR1 := Sec.mk hr1
  have HM1 := Sec.mk hm1
  clear hr1 hm1
  have hn : dataN c < 256 := by unfold dataN; split <;> omega
  have HN : Sec (dataN c = if c < 200 then c % 12 else c) := ⟨rfl⟩
  generalize dataN c = n at *
  by_cases hc : c < 200
  · have hq : ((c : Int) % 12) = (n : Int) := by have := HN.out; rw [if_pos hc] at this; omega
    have hci : (c : Int) < 200 := by omega
    go_wp2_with (refine wpList_mkRoom _ rfl (.const (.int .i64 0)) (.tmp 11) _ rfl 5 Tryd.underlying22 (by kernel_rfl) n rfl (congrArg (Value.int .i64) hq) (by omega) ?_; intro w2 ho2)
    have HO0 : Sec (OwP Ty.byte 5 w2 (fun k => w.heap.size ≤ k) (.slice (some ⟨w1.heap.size, 0, none⟩) 0 n) []) := ⟨ho2.owp fun k h1 h2 => by omega⟩
    have HR2 := Sec.mk (HR1.out.mod ho2.new (fun _ _ h => h))
    have HM2 := Sec.mk (HM1.out.trans ho2.new (fun i h => h.elim))
    clear ho2
    go_wp2
    go_loopw [3, 4] (fun i o wr => ∃ (m : Nat) (done rest : Bytes) (A : Option Addr) (n' c' : Nat), i = .int .i64 (m : Int) ∧ done.length + m = n ∧ o = .slice A n' c' ∧ Sec (OwP Ty.byte 5 wr (fun k => w.heap.size ≤ k) (.slice A n' c') done) ∧ Sec (Rdr wr g rest) ∧ Sec (Mod (· = g) w wr) ∧ Sec (takeD n zs = (done ++ (takeD m rest).1, (takeD m rest).2))) (fun i _ _ => (intOf i).toNat)
    case atStart => exact ⟨n, [], zs, _, _, _, rfl, by simp, rfl, HO0, HR2, HM2, ⟨by simp⟩⟩
    case round =>
      obtain ⟨m, done, rest, A, n', c', rfl, hml, rfl, HO, HRr, HM, HT⟩ := hrel
      clear HO0 HR2 HM2
      by_cases hm : m = 0
      · subst hm
        have HE : Sec (dataD ys = (done, rest)) := ⟨by rw [HD.out, HT.out]; simp [takeD]⟩
        obtain rfl := HO.out.len.1
        go_wp2
        go_ret
        rw [HE.out]
        exact ⟨A, c', rfl, HO.out, HRr.out, HM.out⟩
      · obtain ⟨m, rfl⟩ : ∃ k, m = k + 1 := ⟨m - 1, by omega⟩
        have HTD : Sec (takeD (m + 1) rest = (UInt8.ofNat (nextD rest).1 :: (takeD m (nextD rest).2).1, (takeD m (nextD rest).2).2)) := ⟨rfl⟩
        have hnb := nextD_lt rest
        have hmi : (0 : Int) < ((m + 1 : Nat) : Int) := by omega
        go_wp2_with fail
        refine (next_calls HRr.out).mono ?_
        rintro e w3 ⟨rfl, hr3, hm3⟩
        generalize (nextD rest).1 = b at *
        generalize (nextD rest).2 = rest' at *
        have HR3 := Sec.mk hr3
        have hg3 := hg
        have HM3 := Sec.mk (HM.out.trans hm3 (fun i h _ => h))
        have hs3 := HM3.out.size
        have HO3 := Sec.mk (HO.out.keep hm3 (fun k hk he => by omega))
        have HX : Sec (∀ W, New w3 W → ∀ k, W.heap.size ≤ k → w.heap.size ≤ k) := ⟨fun W hW k hk => by have := hW.size; omega⟩
        have HRO : Sec (Row Ty.byte (w3.alloc (.cells #[.int .u8 (b : Int)] 5)) (· = w3.heap.size) (some ⟨w3.heap.size, 0, none⟩) 1 [UInt8.ofNat b]) := ⟨Row.one w3 5 (UInt8.ofNat b) b (by rw [UInt8.toNat_ofNat']; omega)⟩
        clear hr3 hm3
        go_wp2_with (at_builtin; go_loud (refine wpList_appP _ rfl (.tmp 17) (.tmp 21) _ rfl Tryd.underlying22 elt_byte flat_byte rfl rfl (HO3.out.new ((Mod.refl _ _).alloc _)) HRO.out (HX.out _ ((Mod.refl _ _).alloc _)) (show done.length + [UInt8.ofNat b].length ≤ 34359738368 by simp only [List.length_singleton]; omega) ?_; intro A6 n6 c6 w6 HO6 hm6))
        have HM6 := Sec.mk ((HM3.out.alloc (.cells #[.int .u8 (b : Int)] 5)).trans hm6 (fun i h1 h2 => by omega))
        have HR6 := Sec.mk ((HR3.out.mod ((Mod.refl (fun _ => False) w3).alloc (.cells #[.int .u8 (b : Int)] 5)) (fun _ _ h => h)).mod hm6 (fun k h1 h2 => by omega))
        go_roundw
        case rel =>
          refine ⟨m, done ++ [UInt8.ofNat b], rest', A6, n6, c6, by go_num, by simp; omega, rfl, ⟨HO6⟩, HR6, HM6, ⟨?_⟩⟩
          rw [HT.out, HTD.out]
          try simp
        case measure => simp [intOf]
  · have hq : n = c := by have := HN.out; rw [if_neg hc] at this; exact this
    subst hq
    have hci : ¬ (n : Int) < 200 := by omega
    go_wp2_with (refine wpList_mkRoom _ rfl (.const (.int .i64 0)) (.tmp 11) _ rfl 5 Tryd.underlying22 (by kernel_rfl) n rfl rfl (by omega) ?_; intro w2 ho2)
    have HO0 : Sec (OwP Ty.byte 5 w2 (fun k => w.heap.size ≤ k) (.slice (some ⟨w1.heap.size, 0, none⟩) 0 n) []) := ⟨ho2.owp fun k h1 h2 => by omega⟩
    have HR2 := Sec.mk (HR1.out.mod ho2.new (fun _ _ h => h))
    have HM2 := Sec.mk (HM1.out.trans ho2.new (fun i h => h.elim))
    clear ho2
    go_wp2
    go_loopw [3, 4] (fun i o wr => ∃ (m : Nat) (done rest : Bytes) (A : Option Addr) (n' c' : Nat), i = .int .i64 (m : Int) ∧ done.length + m = n ∧ o = .slice A n' c' ∧ Sec (OwP Ty.byte 5 wr (fun k => w.heap.size ≤ k) (.slice A n' c') done) ∧ Sec (Rdr wr g rest) ∧ Sec (Mod (· = g) w wr) ∧ Sec (takeD n zs = (done ++ (takeD m rest).1, (takeD m rest).2))) (fun i _ _ => (intOf i).toNat)
    case atStart => exact ⟨n, [], zs, _, _, _, rfl, by simp, rfl, HO0, HR2, HM2, ⟨by simp⟩⟩
    case round =>
      obtain ⟨m, done, rest, A, n', c', rfl, hml, rfl, HO, HRr, HM, HT⟩ := hrel
      clear HO0 HR2 HM2
      by_cases hm : m = 0
      · subst hm
        have HE : Sec (dataD ys = (done, rest)) := ⟨by rw [HD.out, HT.out]; simp [takeD]⟩
        obtain rfl := HO.out.len.1
        go_wp2
        go_ret
        rw [HE.out]
        exact ⟨A, c', rfl, HO.out, HRr.out, HM.out⟩
      · obtain ⟨m, rfl⟩ : ∃ k, m = k + 1 := ⟨m - 1, by omega⟩
        have HTD : Sec (takeD (m + 1) rest = (UInt8.ofNat (nextD rest).1 :: (takeD m (nextD rest).2).1, (takeD m (nextD rest).2).2)) := ⟨rfl⟩
        have hnb := nextD_lt rest
        have hmi : (0 : Int) < ((m + 1 : Nat) : Int) := by omega
        go_wp2_with fail
        refine (next_calls HRr.out).mono ?_
        rintro e w3 ⟨rfl, hr3, hm3⟩
        generalize (nextD rest).1 = b at *
        generalize (nextD rest).2 = rest' at *
        have HR3 := Sec.mk hr3
        have hg3 := hg
        have HM3 := Sec.mk (HM.out.trans hm3 (fun i h _ => h))
        have hs3 := HM3.out.size
        have HO3 := Sec.mk (HO.out.keep hm3 (fun k hk he => by omega))
        have HX : Sec (∀ W, New w3 W → ∀ k, W.heap.size ≤ k → w.heap.size ≤ k) := ⟨fun W hW k hk => by have := hW.size; omega⟩
        have HRO : Sec (Row Ty.byte (w3.alloc (.cells #[.int .u8 (b : Int)] 5)) (· = w3.heap.size) (some ⟨w3.heap.size, 0, none⟩) 1 [UInt8.ofNat b]) := ⟨Row.one w3 5 (UInt8.ofNat b) b (by rw [UInt8.toNat_ofNat']; omega)⟩
        clear hr3 hm3
        go_wp2_with (at_builtin; go_loud (refine wpList_appP _ rfl (.tmp 17) (.tmp 21) _ rfl Tryd.underlying22 elt_byte flat_byte rfl rfl (HO3.out.new ((Mod.refl _ _).alloc _)) HRO.out (HX.out _ ((Mod.refl _ _).alloc _)) (show done.length + [UInt8.ofNat b].length ≤ 34359738368 by simp only [List.length_singleton]; omega) ?_; intro A6 n6 c6 w6 HO6 hm6))
        have HM6 := Sec.mk ((HM3.out.alloc (.cells #[.int .u8 (b : Int)] 5)).trans hm6 (fun i h1 h2 => by omega))
        have HR6 := Sec.mk ((HR3.out.mod ((Mod.refl (fun _ => False) w3).alloc (.cells #[.int .u8 (b : Int)] 5)) (fun _ _ h => h)).mod hm6 (fun k h1 h2 => by omega))
        go_roundw
        case rel =>
          refine ⟨m, done ++ [UInt8.ofNat b], rest', A6, n6, c6, by go_num, by simp; omega, rfl, ⟨HO6⟩, HR6, HM6, ⟨?_⟩⟩
          rw [HT.out, HTD.out]
          try simp
        case measure => simp [intOf]
end Go.Proofs.YtkkgighgnbbgiaaDoor
