/- More of the library of memory predicates: copy over a whole new row. Rows owned in a range of blocks, beside local cells. Values of any type as the laws hold them: read, and owned in a range of blocks. Fields of structs that lie in rows: read, stored, changed below. Marks over lists in plain words. Steps by hand through a region that draws its order. -/
import Derived.Test.YtkkgighgnbbgiaaGreatDoorPk0
import Derived.Laws.IdiomCopy
import Derived.Laws.Rows
import Derived.Laws.Tables
import Derived.WalkKit
import Derived.Deep.RegionHeld3
namespace Go.Proofs.YtkkgighgnbbgiaaGreatDoor.Mem
open Go.RowKit
set_option linter.unusedVariables false

/-- copy(out, b), where out is a row of the call's own as long as b -/
theorem wpList_copy_full {P : Program} (w : World) {ops : Array Oper} {rest : List Oper} {o : Oper} {a : Act} {Q : Exit → Act → World → Prop} (hgd : o.guard = none) (x s : Operand) (dT sT : TypeId)
    (ho : o.op = .call { callee := .builtin .copy, args := #[x, s], argTypes := #[dT, sT] }) {α : Type} (d : Ty α) (e : TypeId) {z : Value} (hu : P.underlying dT = some (.slice e)) (hE : Elt P e d.sz z) (hsz : d.sz = 1) (hf : Flat d)
    {g n c c' : Nat} {A : Option Addr} {B : Nat → Prop} {F : List Nat} {zs ys : List α} (hd : a.eval x = .slice (some ⟨g, 0, none⟩) n c) (hs : a.eval s = .slice A n c')
    (hown : Own d e w F (.slice (some ⟨g, 0, none⟩) n c) zs) (hl : zs.length = n) (hrow : Row d w B A n ys)
    (h : ∀ w', Own d e w' [g] (.slice (some ⟨g, 0, none⟩) n c) ys → Mod (· = g) w w' → wpList P ops Q rest (a.put o.dst (.int .i64 (n : Int))) w') : wpList P ops Q (o :: rest) a w := by
  have hyl : ys.length = n := hrow.1
  obtain ⟨news, hel, hA⟩ := hrow.flat hf
  have hnl : news.length = n := by have := hel.clen; rw [hsz, hyl] at this; omega
  obtain ⟨⟨i, hi, hz, hsi, hb⟩, hzc, hpos⟩ := hE
  have hsz1 : (P.info? e).map (·.size) = some 1 := by rw [hi]; simp [hsi, hsz]
  obtain ⟨inner, Fs, ho2, hel2, rfl, hnd⟩ := hown
  obtain ⟨hil, ho2⟩ := ho2
  rw [hl] at ho2 hil
  rcases ho2 with ⟨hv, _⟩ | ⟨g', cap, cur, hv, _, hg, hnc, hmx, hcs, ht⟩
  · cases hv
  · injection hv with e1 e2 e3
    injection e1 with e1
    injection e1 with e1
    subst e1; subst e3
    refine wpList_plain hgd fun K hK => ?_
    have hrun : ∃ w', (Builtin.copy_ #[dT, sT] o.type #[.slice (some ⟨g, 0, none⟩) n c, .slice A n c']).run P w = .ok (goInt n) w' ∧ w'.heap[g]? = some (.cells (news ++ cur.toList.drop n).toArray e (0, 0)) ∧ Mod (· = g) w w' := by
      rcases Nat.eq_zero_or_pos n with h0 | h0
      · subst h0
        obtain rfl := List.eq_nil_of_length_eq_zero hnl
        exact ⟨w, run_copy_none (P := P) w dT sT o.type e _ _ 0 _ 0 _ hu hsz1 (by simp), by simpa using hg, Mod.refl _ _⟩
      · obtain ⟨ad, rfl, hcell⟩ := hA h0
        have := run_copy_row (P := P) w dT sT o.type e g 0 n c ad n c' cur e news hu hsz1 hg (by rw [hnl]; simp) hcell (by rw [hnl, hcs, hsz]; omega) hel.ones
        rw [hnl] at this
        simp only [List.take_zero, List.nil_append, Nat.zero_add] at this
        refine ⟨_, this, setRow_heap w g _ _ e _ hg, rfl, rfl, rfl, by simp [World.setRow], fun k hk hne => setRow_other w g k _ hne⟩
    obtain ⟨w', hrun, hg', hm⟩ := hrun
    unfold Oper.wp execOp
    simp only [ho, resolve, invoke, builtin, Sem.run_bind, Sem.run_pure, Result.andThen_ok, List.map_toArray, List.map_cons, List.map_nil, hd, hs, hrun]
    refine hK _ _ (h w' ⟨news, List.replicate n [], ⟨by rw [hnl, hyl, hsz]; omega, .inr ⟨g, c, _, by rw [hyl], Nat.zero_le _, hg', by omega, hmx, ?_, ?_⟩⟩, ?_, ?_, by simp⟩ hm)
    · have := congrArg List.length ht; simp [hcs, hnl, hsz]; omega
    · rw [hyl, hsz, Nat.mul_one, List.take_left' hnl]
    · exact hel.mod fun k hk => by rw [flat_nil] at hk; simp at hk
    · rw [flat_nil]; rfl

/-- v is a row of the call's own, younger than w0, and nothing that was there at w0 has changed -/
structure Mine {α : Type} (d : Ty α) (e : TypeId) (w0 w : World) (v : Value) (xs : List α) : Prop where
  ex : ∃ F, Own d e w F v xs ∧ ∀ k, k ∈ F → w0.heap.size ≤ k
  new : New w0 w
namespace Mine
variable {α : Type} {d : Ty α} {e : TypeId} {w0 w1 w w' : World} {v : Value} {xs ys : List α} {A : Option Addr} {n c : Nat}
theorem nil (d : Ty α) (e : TypeId) (h : New w0 w) : Mine d e w0 w (.slice none 0 0) [] := ⟨⟨[], Own.nil d e w, by simp⟩, h⟩
theorem step (h : Mine d e w0 w v xs) (hm : New w w') : Mine d e w0 w' v xs := by
  obtain ⟨⟨F, ho, hF⟩, hn⟩ := h
  exact ⟨⟨F, ho.new hm, hF⟩, hn.transN hm⟩
theorem alloc (h : Mine d e w0 w v xs) (o : Obj) : Mine d e w0 (w.alloc o) v xs := h.step ((Mod.refl _ _).alloc o)
theorem base (h : Mine d e w1 w v xs) (hm : New w0 w1) : Mine d e w0 w v xs := by
  obtain ⟨⟨F, ho, hF⟩, hn⟩ := h
  exact ⟨⟨F, ho, fun k hk => Nat.le_trans hm.size (hF k hk)⟩, hm.transN hn⟩
theorem form (h : Mine d e w0 w v xs) : ∃ A c, v = .slice A xs.length c ∧ xs.length ≤ c ∧ c ≤ 9223372036854775807 := by
  obtain ⟨⟨F, ho, hF⟩, hn⟩ := h; exact ho.form
theorem len (h : Mine d e w0 w (.slice A n c) xs) : n = xs.length ∧ n ≤ c ∧ c ≤ 9223372036854775807 := by
  obtain ⟨A', c', hv, h1, h2⟩ := h.form
  injection hv with e1 e2 e3
  subst e3; exact ⟨e2, by omega, h2⟩
theorem row (h : Mine d e w0 w (.slice A n c) xs) : Row d w (fun k => w0.heap.size ≤ k ∧ k < w.heap.size) A n xs := by
  obtain rfl := h.len.1
  obtain ⟨⟨F, ho, hF⟩, hn⟩ := h
  exact (ho.row rfl).mod (fun k hk => ⟨hF k hk, ho.lt k hk⟩) (fun _ _ => rfl)
/-- what was read at w0 is still read -/
theorem read {β : Type} {b : Ty β} {B : Nat → Prop} {A' : Option Addr} {m : Nat} {zs : List β} (h : Mine d e w0 w v xs) (hr : Row b w0 B A' m zs) (hB : ∀ k, B k → k < w0.heap.size) : Row b w B A' m zs :=
  hr.mod (fun _ h => h) fun k hk => h.new.block k (hB k hk) id
theorem ret (h : Mine d e w0 w v xs) : RetOwn d e w0 xs (.returned v) w := by
  obtain ⟨⟨F, ho, hF⟩, hn⟩ := h
  exact RetOwn.of ho hF hn
theorem of {F : List Nat} (ho : Own d e w F v xs) (hF : ∀ k, k ∈ F → w0.heap.size ≤ k) (hn : New w0 w) : Mine d e w0 w v xs := ⟨⟨F, ho, hF⟩, hn⟩
theorem lit (e : TypeId) (zs : Bytes) (hz : zs.length ≤ 34359738368) (h : New w0 w) : Mine Ty.byte e w0 (w.alloc (.cells (zs.map fun b => Value.int .u8 (b.toNat : Int)).toArray e)) (.slice (some ⟨w.heap.size, 0, none⟩) zs.length zs.length) zs :=
  ⟨⟨_, Own.lit w e zs hz, fun k hk => by simp at hk; subst hk; exact h.size⟩, h.alloc _⟩
theorem lit2 (e : TypeId) {b0 b1 : UInt8} {x0 x1 : Int} (h0 : (b0.toNat : Int) = x0) (h1 : (b1.toNat : Int) = x1) {g : Nat} (hg : g = w.heap.size) (h : New w0 w) : Mine Ty.byte e w0 (w.alloc (.cells #[.int .u8 x0, .int .u8 x1] e)) (.slice (some ⟨g, 0, none⟩) 2 2) [b0, b1] := by
  subst h0; subst h1; subst hg
  exact lit e [b0, b1] (by simp) h
theorem lit0 (e : TypeId) {g : Nat} (hg : g = w.heap.size) (h : New w0 w) : Mine Ty.byte e w0 (w.alloc (.cells #[] e)) (.slice (some ⟨g, 0, none⟩) 0 0) [] := by
  subst hg
  exact lit e [] (by simp) h
end Mine
theorem RetOwn.mine {α : Type} {d : Ty α} {t : TypeId} {w w' : World} {xs : List α} {e : Ending} (h : RetOwn d t w xs e w') : ∃ A c, e = .returned (.slice A xs.length c) ∧ Mine d t w w' (.slice A xs.length c) xs := by
  obtain ⟨A, c, F, rfl, ho, hF, hm⟩ := h
  exact ⟨A, c, rfl, ⟨⟨F, ho, hF⟩, hm⟩⟩

theorem Row.one (w : World) (e : TypeId) (b : UInt8) (n : Int) (h : (b.toNat : Int) = n) : Row Ty.byte (w.alloc (.cells #[.int .u8 n] e)) (· = w.heap.size) (some ⟨w.heap.size, 0, none⟩) 1 [b] := by
  subst h
  exact Row.const w e (0, 0) [b] (by simp)
theorem Row.four (w : World) (e : TypeId) {b0 b1 b2 b3 : UInt8} {x0 x1 x2 x3 : Int} (h0 : (b0.toNat : Int) = x0) (h1 : (b1.toNat : Int) = x1) (h2 : (b2.toNat : Int) = x2) (h3 : (b3.toNat : Int) = x3) :
    Row Ty.byte (w.alloc (.cells #[.int .u8 x0, .int .u8 x1, .int .u8 x2, .int .u8 x3] e)) (· = w.heap.size) (some ⟨w.heap.size, 0, none⟩) 4 [b0, b1, b2, b3] := by
  subst h0; subst h1; subst h2; subst h3
  exact Row.const w e (0, 0) [b0, b1, b2, b3] (by simp)
theorem wpList_mk {P : Program} (w : World) {ops : Array Oper} {rest : List Oper} {o : Oper} {a : Act} {Q : Exit → Act → World → Prop} (hgd : o.guard = none) (l : Operand) (t : TypeId)
    (ho : o.op = .makeSlice t l l) {α : Type} (d : Ty α) (e : TypeId) {z : Value} (ht : P.underlying t = some (.slice e)) (hE : Elt P e d.sz z) (x0 : α) (hx0 : ∀ w, d.M w [] x0 z.cells.toList)
    (n : Nat) (hn : a.eval l = .int .i64 (n : Int)) (hlen : n ≤ 34359738368)
    (h : ∀ w', Mine d e w w' (.slice (some ⟨w.heap.size, 0, none⟩) n n) (List.replicate n x0) → wpList P ops Q rest (a.put o.dst (.slice (some ⟨w.heap.size, 0, none⟩) n n)) w') : wpList P ops Q (o :: rest) a w :=
  wpList_make w hgd l t ho d e ht hE x0 hx0 n hn hlen fun w' h1 h2 => h w' ⟨⟨_, h1, fun k hk => by simp at hk; omega⟩, h2⟩
/-- copy over a whole new row -/
theorem wpList_copyAll {P : Program} (w : World) {ops : Array Oper} {rest : List Oper} {o : Oper} {a : Act} {Q : Exit → Act → World → Prop} (hgd : o.guard = none) (x s : Operand) (dT sT : TypeId)
    (ho : o.op = .call { callee := .builtin .copy, args := #[x, s], argTypes := #[dT, sT] }) {α : Type} {d : Ty α} {e : TypeId} {z : Value} (hu : P.underlying dT = some (.slice e)) (hE : Elt P e d.sz z) (hsz : d.sz = 1) (hf : Flat d)
    {w0 : World} {g n c c' : Nat} {A : Option Addr} {B : Nat → Prop} {zs ys : List α} (hd : a.eval x = .slice (some ⟨g, 0, none⟩) n c) (hs : a.eval s = .slice A n c')
    (hown : Mine d e w0 w (.slice (some ⟨g, 0, none⟩) n c) zs) (hrow : Row d w B A n ys)
    (h : ∀ w', Mine d e w0 w' (.slice (some ⟨g, 0, none⟩) n c) ys → wpList P ops Q rest (a.put o.dst (.int .i64 (n : Int))) w') : wpList P ops Q (o :: rest) a w := by
  obtain ⟨⟨F, ho2, hF⟩, hn⟩ := hown
  have hg : w0.heap.size ≤ g := hF g (ho2.own_mem g rfl)
  refine wpList_copy_full w hgd x s dT sT ho d e hu hE hsz hf hd hs ho2 (by obtain ⟨A', c1, hv, _⟩ := ho2.form; injection hv with _ e2 _; exact e2.symm) hrow fun w' h1 h2 => h w' ⟨⟨_, h1, fun k hk => by simp at hk; omega⟩, hn.trans h2 fun i hi hlt => by omega⟩
/-- append of elements that lead nowhere -/
theorem wpList_app {P : Program} (w : World) {ops : Array Oper} {rest : List Oper} {o : Oper} {a : Act} {Q : Exit → Act → World → Prop} (hgd : o.guard = none) (s x : Operand) (t : TypeId)
    (ho : o.op = .call { callee := .builtin .append, args := #[s, x], argTypes := #[t, t] })
    {α : Type} {d : Ty α} {e : TypeId} {z : Value} (ht : P.underlying t = some (.slice e)) (hE : Elt P e d.sz z) (hf : Flat d)
    {w0 : World} {A A' : Option Addr} {n m c c' : Nat} {xs ys : List α} {B : Nat → Prop} (hs : a.eval s = .slice A n c) (hx : a.eval x = .slice A' m c') (hown : Mine d e w0 w (.slice A n c) xs) (hy : Row d w B A' m ys)
    (hlen : xs.length + ys.length ≤ 34359738368)
    (h : ∀ A' n' c' w', Mine d e w0 w' (.slice A' n' c') (xs ++ ys) → wpList P ops Q rest (a.put o.dst (.slice A' n' c')) w') : wpList P ops Q (o :: rest) a w := by
  obtain ⟨news, hel, hA⟩ := hy.flat hf
  obtain ⟨⟨F, ho2, hF⟩, hn⟩ := hown
  refine wpList_append w hgd s x t ho d e ht hE hs ho2 hx hel hy.1 hA (by rw [flat_nil]; exact List.nodup_nil) (by rw [flat_nil]; intro k hk; cases hk) (by have := hy.1; omega) ?_
  intro A2 n2 c2 w2 F2 ho3 hn2 hm2 hF2
  exact h _ _ _ _ ⟨⟨F2, ho3, far_app hn hF (by rw [flat_nil]; simp) hF2⟩, New.app hn ho2 hF hm2⟩
end Go.Proofs.YtkkgighgnbbgiaaGreatDoor.Mem

namespace Go.Proofs.YtkkgighgnbbgiaaGreatDoor.Mem
open Go.RowKit
set_option linter.unusedVariables false

/-- a row of the call's own whose blocks lie from lo on and below hi -/
def OwI {α : Type} (d : Ty α) (e : TypeId) (w : World) (lo hi : Nat) (v : Value) (xs : List α) : Prop := ∃ F, Own d e w F v xs ∧ ∀ k, k ∈ F → lo ≤ k ∧ k < hi
namespace OwI
variable {α : Type} {d : Ty α} {e : TypeId} {w w' : World} {lo hi lo' hi' : Nat} {v : Value} {xs : List α} {A : Option Addr} {n c : Nat}
theorem nil (d : Ty α) (e : TypeId) (w : World) (lo hi : Nat) : OwI d e w lo hi (.slice none 0 0) [] := ⟨[], Own.nil d e w, by simp⟩
theorem keep {S : Nat → Prop} (h : OwI d e w lo hi v xs) (hm : Mod S w w') (hS : ∀ k, lo ≤ k → k < hi → ¬ S k) : OwI d e w' lo hi v xs := by
  obtain ⟨F, ho, hF⟩ := h
  exact ⟨F, ho.keep hm fun k hk => hS k (hF k hk).1 (hF k hk).2, hF⟩
theorem new (h : OwI d e w lo hi v xs) (hm : New w w') : OwI d e w' lo hi v xs := h.keep hm fun _ _ _ h => h
theorem wide (h : OwI d e w lo hi v xs) (h1 : lo' ≤ lo) (h2 : hi ≤ hi') : OwI d e w lo' hi' v xs := by
  obtain ⟨F, ho, hF⟩ := h
  exact ⟨F, ho, fun k hk => ⟨Nat.le_trans h1 (hF k hk).1, Nat.lt_of_lt_of_le (hF k hk).2 h2⟩⟩
theorem len (h : OwI d e w lo hi (.slice A n c) xs) : n = xs.length ∧ n ≤ c ∧ c ≤ 9223372036854775807 := by
  obtain ⟨F, ho, hF⟩ := h
  obtain ⟨A', c', hv, h1, h2⟩ := ho.form
  injection hv with e1 e2 e3
  subst e3; exact ⟨e2, by omega, h2⟩
theorem form (h : OwI d e w lo hi v xs) : ∃ A c, v = .slice A xs.length c := by
  obtain ⟨F, ho, hF⟩ := h; obtain ⟨A, c, hv, _⟩ := ho.form; exact ⟨A, c, hv⟩
theorem row (h : OwI d e w lo hi (.slice A n c) xs) : Row d w (fun k => lo ≤ k ∧ k < hi) A n xs := by
  obtain rfl := h.len.1
  obtain ⟨F, ho, hF⟩ := h
  exact (ho.row rfl).mod hF (fun _ _ => rfl)
theorem rowlt (h : OwI d e w lo hi (.slice A n c) xs) : Row d w (· < w.heap.size) A n xs := by
  obtain rfl := h.len.1
  obtain ⟨F, ho, hF⟩ := h
  exact (ho.row rfl).mod ho.lt (fun _ _ => rfl)
end OwI
theorem Mine.owi {α : Type} {d : Ty α} {e : TypeId} {w0 w : World} {v : Value} {xs : List α} (h : Mine d e w0 w v xs) : OwI d e w w0.heap.size w.heap.size v xs := by
  obtain ⟨⟨F, ho, hF⟩, hn⟩ := h
  exact ⟨F, ho, fun k hk => ⟨hF k hk, ho.lt k hk⟩⟩
theorem OwI.ret {α : Type} {d : Ty α} {t : TypeId} {w w' : World} {lo hi : Nat} {xs : List α} {v : Value} (h : OwI d t w' lo hi v xs) (hl : w.heap.size ≤ lo) (hm : New w w') : RetOwn d t w xs (.returned v) w' := by
  obtain ⟨F, ho, hF⟩ := h
  exact RetOwn.of ho (fun k hk => Nat.le_trans hl (hF k hk).1) hm

/-- append of elements that lead nowhere -/
theorem wp_appI {P : Program} (w : World) {o : Oper} {a : Act} {K : Act → World → Prop} {Q : Exit → Act → World → Prop} (s x : Operand) (t : TypeId)
    (ho : o.op = .call { callee := .builtin .append, args := #[s, x], argTypes := #[t, t] })
    {α : Type} {d : Ty α} {e : TypeId} {z : Value} (ht : P.underlying t = some (.slice e)) (hE : Elt P e d.sz z) (hf : Flat d)
    {lo hi : Nat} {A A' : Option Addr} {n m c c' : Nat} {xs ys : List α} {B : Nat → Prop} (hs : a.eval s = .slice A n c) (hx : a.eval x = .slice A' m c') (hown : OwI d e w lo hi (.slice A n c) xs) (hy : Row d w B A' m ys)
    (hlo : lo ≤ w.heap.size) (hlen : xs.length + ys.length ≤ 34359738368)
    (h : ∀ A' n' c' w', OwI d e w' lo w'.heap.size (.slice A' n' c') (xs ++ ys) → Mod (fun k => lo ≤ k ∧ k < hi) w w' → K (a.put o.dst (.slice A' n' c')) w') : o.wp P a w K Q := by
  obtain ⟨news, hel, hA⟩ := hy.flat hf
  obtain ⟨F, ho2, hF⟩ := hown
  refine wp_append w s x t ho d e ht hE hs ho2 hx hel hy.1 hA (by rw [flat_nil]; exact List.nodup_nil) (by rw [flat_nil]; intro k hk; cases hk) (by have := hy.1; omega) ?_
  intro A2 n2 c2 w2 F2 ho3 hn2 hm2 hF2
  refine h _ _ _ _ ⟨F2, ho3, fun k hk => ⟨?_, ho3.lt k hk⟩⟩ (hm2.mono fun i _ hi => hF i (ho2.own_mem i hi))
  rcases hF2 k hk with h1 | h1 | h1
  · exact (hF k h1).1
  · rw [flat_nil] at h1; cases h1
  · omega
/-- append of one element that owns what it leads to -/
theorem wp_appO {P : Program} (w : World) {o : Oper} {a : Act} {K : Act → World → Prop} {Q : Exit → Act → World → Prop} (s x : Operand) (t : TypeId)
    (ho : o.op = .call { callee := .builtin .append, args := #[s, x], argTypes := #[t, t] })
    {α : Type} {d : Ty α} {e : TypeId} {z : Value} (ht : P.underlying t = some (.slice e)) (hE : Elt P e d.sz z)
    {lo hi : Nat} {A A' : Option Addr} {n c c' : Nat} {xs : List α} {y : α} {G : List Nat} {news : List Value} (hs : a.eval s = .slice A n c) (hx : a.eval x = .slice A' 1 c') (hown : OwI d e w lo hi (.slice A n c) xs)
    (hM : d.M w G y news) (hG : ∀ k, k ∈ G → hi ≤ k) (hA : ∃ ad, A' = some ad ∧ ∀ j u, news[j]? = some u → w.cell? (ad.add j) = some u)
    (hlo : lo ≤ hi) (hlo' : hi ≤ w.heap.size) (hlen : xs.length + 1 ≤ 34359738368)
    (h : ∀ A' n' c' w', OwI d e w' lo w'.heap.size (.slice A' n' c') (xs ++ [y]) → Mod (fun k => lo ≤ k ∧ k < hi) w w' → K (a.put o.dst (.slice A' n' c')) w') : o.wp P a w K Q := by
  obtain ⟨F, ho2, hF⟩ := hown
  refine wp_append w s x t ho d e ht hE hs ho2 hx (Elems.one hM) rfl (fun _ => hA) (by simpa using d.M_nd hM) (fun k hk hk2 => by simp at hk; have := hG k hk; have := (hF k hk2).2; omega) hlen ?_
  intro A2 n2 c2 w2 F2 ho3 hn2 hm2 hF2
  refine h _ _ _ _ ⟨F2, ho3, fun k hk => ⟨?_, ho3.lt k hk⟩⟩ (hm2.mono fun i _ hi => hF i (ho2.own_mem i hi))
  rcases hF2 k hk with h1 | h1 | h1
  · exact (hF k h1).1
  · simp at h1; have := hG k h1; omega
  · omega
section
variable {P : Program} {ops : Array Oper} {rest : List Oper} {o : Oper} {a : Act} {Q : Exit → Act → World → Prop} {K : Act → World → Prop} {E : Prop} {α : Type} {d : Ty α} {e : TypeId} {z : Value}
theorem step_of {w : World} (hg : o.guard = none) (h : o.wp P a w K Q) : if Region.wanted o (yielded ops a.tmps) = true then Oper.wp P o a w K Q else E := by
  have hw : Region.wanted o (yielded ops a.tmps) = true := by simp [Region.wanted, hg]
  rw [if_pos hw]; exact h
theorem wpList_appI (w : World) (hgd : o.guard = none) (s x : Operand) (t : TypeId)
    (ho : o.op = .call { callee := .builtin .append, args := #[s, x], argTypes := #[t, t] }) (ht : P.underlying t = some (.slice e)) (hE : Elt P e d.sz z) (hf : Flat d)
    {lo hi : Nat} {A A' : Option Addr} {n m c c' : Nat} {xs ys : List α} {B : Nat → Prop} (hs : a.eval s = .slice A n c) (hx : a.eval x = .slice A' m c') (hown : OwI d e w lo hi (.slice A n c) xs) (hy : Row d w B A' m ys)
    (hlo : lo ≤ w.heap.size) (hlen : xs.length + ys.length ≤ 34359738368)
    (h : ∀ A' n' c' w', OwI d e w' lo w'.heap.size (.slice A' n' c') (xs ++ ys) → Mod (fun k => lo ≤ k ∧ k < hi) w w' → wpList P ops Q rest (a.put o.dst (.slice A' n' c')) w') : wpList P ops Q (o :: rest) a w :=
  wpList_plain hgd fun _ hK => wp_appI w s x t ho ht hE hf hs hx hown hy hlo hlen fun A' n' c' w' h1 h2 => hK _ _ (h A' n' c' w' h1 h2)
theorem step_appI (w : World) (hgd : o.guard = none) (s x : Operand) (t : TypeId)
    (ho : o.op = .call { callee := .builtin .append, args := #[s, x], argTypes := #[t, t] }) (ht : P.underlying t = some (.slice e)) (hE : Elt P e d.sz z) (hf : Flat d)
    {lo hi : Nat} {A A' : Option Addr} {n m c c' : Nat} {xs ys : List α} {B : Nat → Prop} (hs : a.eval s = .slice A n c) (hx : a.eval x = .slice A' m c') (hown : OwI d e w lo hi (.slice A n c) xs) (hy : Row d w B A' m ys)
    (hlo : lo ≤ w.heap.size) (hlen : xs.length + ys.length ≤ 34359738368)
    (h : ∀ A' n' c' w', OwI d e w' lo w'.heap.size (.slice A' n' c') (xs ++ ys) → Mod (fun k => lo ≤ k ∧ k < hi) w w' → K (a.put o.dst (.slice A' n' c')) w') : if Region.wanted o (yielded ops a.tmps) = true then Oper.wp P o a w K Q else E :=
  step_of hgd (wp_appI w s x t ho ht hE hf hs hx hown hy hlo hlen h)
theorem wpList_appO (w : World) (hgd : o.guard = none) (s x : Operand) (t : TypeId)
    (ho : o.op = .call { callee := .builtin .append, args := #[s, x], argTypes := #[t, t] }) (ht : P.underlying t = some (.slice e)) (hE : Elt P e d.sz z)
    {lo hi : Nat} {A A' : Option Addr} {n c c' : Nat} {xs : List α} {y : α} {G : List Nat} {news : List Value} (hs : a.eval s = .slice A n c) (hx : a.eval x = .slice A' 1 c') (hown : OwI d e w lo hi (.slice A n c) xs)
    (hM : d.M w G y news) (hG : ∀ k, k ∈ G → hi ≤ k) (hA : ∃ ad, A' = some ad ∧ ∀ j u, news[j]? = some u → w.cell? (ad.add j) = some u)
    (hlo : lo ≤ hi) (hlo' : hi ≤ w.heap.size) (hlen : xs.length + 1 ≤ 34359738368)
    (h : ∀ A' n' c' w', OwI d e w' lo w'.heap.size (.slice A' n' c') (xs ++ [y]) → Mod (fun k => lo ≤ k ∧ k < hi) w w' → wpList P ops Q rest (a.put o.dst (.slice A' n' c')) w') : wpList P ops Q (o :: rest) a w :=
  wpList_plain hgd fun _ hK => wp_appO w s x t ho ht hE hs hx hown hM hG hA hlo hlo' hlen fun A' n' c' w' h1 h2 => hK _ _ (h A' n' c' w' h1 h2)
theorem step_appO (w : World) (hgd : o.guard = none) (s x : Operand) (t : TypeId)
    (ho : o.op = .call { callee := .builtin .append, args := #[s, x], argTypes := #[t, t] }) (ht : P.underlying t = some (.slice e)) (hE : Elt P e d.sz z)
    {lo hi : Nat} {A A' : Option Addr} {n c c' : Nat} {xs : List α} {y : α} {G : List Nat} {news : List Value} (hs : a.eval s = .slice A n c) (hx : a.eval x = .slice A' 1 c') (hown : OwI d e w lo hi (.slice A n c) xs)
    (hM : d.M w G y news) (hG : ∀ k, k ∈ G → hi ≤ k) (hA : ∃ ad, A' = some ad ∧ ∀ j u, news[j]? = some u → w.cell? (ad.add j) = some u)
    (hlo : lo ≤ hi) (hlo' : hi ≤ w.heap.size) (hlen : xs.length + 1 ≤ 34359738368)
    (h : ∀ A' n' c' w', OwI d e w' lo w'.heap.size (.slice A' n' c') (xs ++ [y]) → Mod (fun k => lo ≤ k ∧ k < hi) w w' → K (a.put o.dst (.slice A' n' c')) w') : if Region.wanted o (yielded ops a.tmps) = true then Oper.wp P o a w K Q else E :=
  step_of hgd (wp_appO w s x t ho ht hE hs hx hown hM hG hA hlo hlo' hlen h)
end
/-- a row of the call's own whose blocks meet X -/
def OwP {α : Type} (d : Ty α) (e : TypeId) (w : World) (X : Nat → Prop) (v : Value) (xs : List α) : Prop := ∃ F, Own d e w F v xs ∧ ∀ k, k ∈ F → X k
theorem OwP.keep {α : Type} {d : Ty α} {e : TypeId} {w w' : World} {X S : Nat → Prop} {v : Value} {xs : List α} (h : OwP d e w X v xs) (hm : Mod S w w') (hS : ∀ k, X k → ¬ S k) : OwP d e w' X v xs := by
  obtain ⟨F, ho, hF⟩ := h
  exact ⟨F, ho.keep hm fun k hk => hS k (hF k hk), hF⟩
theorem OwP.new {α : Type} {d : Ty α} {e : TypeId} {w w' : World} {X : Nat → Prop} {v : Value} {xs : List α} (h : OwP d e w X v xs) (hm : New w w') : OwP d e w' X v xs := h.keep hm fun _ _ h => h
theorem OwP.len {α : Type} {d : Ty α} {e : TypeId} {w : World} {X : Nat → Prop} {A : Option Addr} {n c : Nat} {xs : List α} (h : OwP d e w X (.slice A n c) xs) : n = xs.length ∧ n ≤ c ∧ c ≤ 9223372036854775807 := by
  obtain ⟨F, ho, hF⟩ := h
  obtain ⟨A', c', hv, h1, h2⟩ := ho.form
  injection hv with e1 e2 e3
  subst e3; exact ⟨e2, by omega, h2⟩
theorem OwP.row {α : Type} {d : Ty α} {e : TypeId} {w : World} {X : Nat → Prop} {A : Option Addr} {n c : Nat} {xs : List α} (h : OwP d e w X (.slice A n c) xs) : Row d w X A n xs := by
  obtain rfl := h.len.1
  obtain ⟨F, ho, hF⟩ := h
  exact (ho.row rfl).mod hF (fun _ _ => rfl)
theorem OwP.ret {α : Type} {d : Ty α} {t : TypeId} {w w' : World} {X : Nat → Prop} {xs : List α} {v : Value} (h : OwP d t w' X v xs) (hl : ∀ k, X k → w.heap.size ≤ k) (hm : New w w') : RetOwn d t w xs (.returned v) w' := by
  obtain ⟨F, ho, hF⟩ := h
  exact RetOwn.of ho (fun k hk => hl k (hF k hk)) hm
theorem Mine.owp {α : Type} {d : Ty α} {e : TypeId} {w0 w : World} {v : Value} {xs : List α} (h : Mine d e w0 w v xs) {X : Nat → Prop} (hX : ∀ k, w0.heap.size ≤ k → k < w.heap.size → X k) : OwP d e w X v xs := by
  obtain ⟨⟨F, ho, hF⟩, hn⟩ := h
  exact ⟨F, ho, fun k hk => hX k (hF k hk) (ho.lt k hk)⟩
theorem wp_appP {P : Program} (w : World) {o : Oper} {a : Act} {K : Act → World → Prop} {Q : Exit → Act → World → Prop} (s x : Operand) (t : TypeId)
    (ho : o.op = .call { callee := .builtin .append, args := #[s, x], argTypes := #[t, t] })
    {α : Type} {d : Ty α} {e : TypeId} {z : Value} (ht : P.underlying t = some (.slice e)) (hE : Elt P e d.sz z) (hf : Flat d)
    {X : Nat → Prop} {A A' : Option Addr} {n m c c' : Nat} {xs ys : List α} {B : Nat → Prop} (hs : a.eval s = .slice A n c) (hx : a.eval x = .slice A' m c') (hown : OwP d e w X (.slice A n c) xs) (hy : Row d w B A' m ys)
    (hX : ∀ k, w.heap.size ≤ k → X k) (hlen : xs.length + ys.length ≤ 34359738368)
    (h : ∀ A' n' c' w', OwP d e w' X (.slice A' n' c') (xs ++ ys) → Mod X w w' → K (a.put o.dst (.slice A' n' c')) w') : o.wp P a w K Q := by
  obtain ⟨news, hel, hA⟩ := hy.flat hf
  obtain ⟨F, ho2, hF⟩ := hown
  refine wp_append w s x t ho d e ht hE hs ho2 hx hel hy.1 hA (by rw [flat_nil]; exact List.nodup_nil) (by rw [flat_nil]; intro k hk; cases hk) (by have := hy.1; omega) ?_
  intro A2 n2 c2 w2 F2 ho3 hn2 hm2 hF2
  refine h _ _ _ _ ⟨F2, ho3, fun k hk => ?_⟩ (hm2.mono fun i _ hi => hF i (ho2.own_mem i hi))
  rcases hF2 k hk with h1 | h1 | h1
  · exact hF k h1
  · rw [flat_nil] at h1; cases h1
  · exact hX k (by omega)
theorem wp_appPO {P : Program} (w : World) {o : Oper} {a : Act} {K : Act → World → Prop} {Q : Exit → Act → World → Prop} (s x : Operand) (t : TypeId)
    (ho : o.op = .call { callee := .builtin .append, args := #[s, x], argTypes := #[t, t] })
    {α : Type} {d : Ty α} {e : TypeId} {z : Value} (ht : P.underlying t = some (.slice e)) (hE : Elt P e d.sz z)
    {X : Nat → Prop} {A A' : Option Addr} {n c c' : Nat} {xs : List α} {y : α} {G : List Nat} {news : List Value} (hs : a.eval s = .slice A n c) (hx : a.eval x = .slice A' 1 c') (hown : OwP d e w X (.slice A n c) xs)
    (hM : d.M w G y news) (hG : ∀ k, k ∈ G → X k) (hap : ∀ F, Own d e w F (.slice A n c) xs → (∀ k, k ∈ F → X k) → ∃ F', Own d e w F' (.slice A n c) xs ∧ (∀ k, k ∈ F' → X k) ∧ ∀ k, k ∈ G → ¬ k ∈ F') (hA : ∃ ad, A' = some ad ∧ ∀ j u, news[j]? = some u → w.cell? (ad.add j) = some u)
    (hX : ∀ k, w.heap.size ≤ k → X k) (hlen : xs.length + 1 ≤ 34359738368)
    (h : ∀ A' n' c' w', OwP d e w' X (.slice A' n' c') (xs ++ [y]) → Mod X w w' → K (a.put o.dst (.slice A' n' c')) w') : o.wp P a w K Q := by
  obtain ⟨F0, ho0, hF0⟩ := hown
  obtain ⟨F, ho2, hF, hdis⟩ := hap F0 ho0 hF0
  refine wp_append w s x t ho d e ht hE hs ho2 hx (Elems.one hM) rfl (fun _ => hA) (by simpa using d.M_nd hM) (fun k hk hk2 => by simp at hk; exact hdis k hk hk2) hlen ?_
  intro A2 n2 c2 w2 F2 ho3 hn2 hm2 hF2
  refine h _ _ _ _ ⟨F2, ho3, fun k hk => ?_⟩ (hm2.mono fun i _ hi => hF i (ho2.own_mem i hi))
  rcases hF2 k hk with h1 | h1 | h1
  · exact hF k h1
  · simp at h1; exact hG k h1
  · exact hX k (by omega)
theorem wpList_appP {P : Program} (w : World) {ops : Array Oper} {rest : List Oper} {o : Oper} {a : Act} {Q : Exit → Act → World → Prop} (hgd : o.guard = none) (s x : Operand) (t : TypeId)
    (ho : o.op = .call { callee := .builtin .append, args := #[s, x], argTypes := #[t, t] }) {α : Type} {d : Ty α} {e : TypeId} {z : Value} (ht : P.underlying t = some (.slice e)) (hE : Elt P e d.sz z) (hf : Flat d)
    {X : Nat → Prop} {A A' : Option Addr} {n m c c' : Nat} {xs ys : List α} {B : Nat → Prop} (hs : a.eval s = .slice A n c) (hx : a.eval x = .slice A' m c') (hown : OwP d e w X (.slice A n c) xs) (hy : Row d w B A' m ys)
    (hX : ∀ k, w.heap.size ≤ k → X k) (hlen : xs.length + ys.length ≤ 34359738368)
    (h : ∀ A' n' c' w', OwP d e w' X (.slice A' n' c') (xs ++ ys) → Mod X w w' → wpList P ops Q rest (a.put o.dst (.slice A' n' c')) w') : wpList P ops Q (o :: rest) a w :=
  wpList_plain hgd fun _ hK => wp_appP w s x t ho ht hE hf hs hx hown hy hX hlen fun A' n' c' w' h1 h2 => hK _ _ (h A' n' c' w' h1 h2)
/-- an empty literal -/
theorem Mine.empty {α : Type} {w0 w : World} (d : Ty α) (e : TypeId) {g : Nat} (hg : g = w.heap.size) (h : New w0 w) : Mine d e w0 (w.alloc (.cells #[] e)) (.slice (some ⟨g, 0, none⟩) 0 0) [] := by
  subst hg
  refine ⟨⟨[w.heap.size], ⟨[], [], ?_, Elems.nil _ _, rfl, by simp⟩, fun k hk => by simp at hk; subst hk; exact h.size⟩, h.alloc _⟩
  exact World.ownsRow_lit w _ 0 (Nat.zero_le _) (by simp only [maxLen]; omega) (by simp)
/-- the cells of a new literal of elements that are written out -/
theorem lit_cells (w : World) (e : TypeId) (cs : List Value) {g : Nat} (hg : g = w.heap.size) : ∃ ad, (some ⟨g, 0, none⟩ : Option Addr) = some ad ∧ ∀ j u, cs[j]? = some u → (w.alloc (.cells cs.toArray e)).cell? (ad.add j) = some u := by
  subst hg
  exact ⟨_, rfl, fun j u hu => by rw [add_own, cell_of_row _ _ j _ e (0, 0) (heap_alloc_new w _)]; simpa using hu⟩
/-- a struct that is handed back out of a block -/
theorem results_blk {P : Program} {fn : Func} {a : Tmp} {t e : TypeId} {fs : Array Field} (h : fn.results = #[.cell a t]) {tmps : Array Value} {w : World} {g : Nat} {cs : List Value} (ht : tmps.getD a undef = .pointer (some ⟨g, 0, none⟩)) (hb : Blk w g e cs)
    (hu : P.underlying t = some (.struct fs)) (hi : (P.info? t).map (·.size) = some cs.length) : (results fn tmps).run P w = .ok (.agg cs.toArray) w := by
  have := run_loadVar_row (P := P) w g e t cs.toArray (0, 0) _ hb hu rfl (by rw [hi]; simp)
  rw [Array.getD_eq_getD_getElem?] at ht
  simp [results, h, ht, asAddr, this]
/-- a composite literal -/
theorem wpList_bld {P : Program} {ops : Array Oper} {rest : List Oper} {o : Oper} {a : Act} {w : World} {Q : Exit → Act → World → Prop} (hg : o.guard = none) (t : TypeId) (parts : Array (Nat × Operand)) (ho : o.op = .build t parts) (cells : Array Value)
    (hf : P.built t (parts.map fun (i, x) => (i, a.eval x)).toList = some cells) (h : wpList P ops Q rest (a.put o.dst (.agg cells)) w) : wpList P ops Q (o :: rest) a w :=
  wpList_build hg t parts ho (by rw [hf]; rfl) (by rw [hf]; exact h)
end Go.Proofs.YtkkgighgnbbgiaaGreatDoor.Mem

namespace Go.Proofs.YtkkgighgnbbgiaaGreatDoor.Mem
open Go.RowKit
set_option linter.unusedVariables false

/-- a value of these cells: a struct's, or one cell -/
def enc (str : Bool) (cs : List Value) : Value := match str with
  | true => .agg cs.toArray
  | false => cs.headD default
def RdV {α : Type} (str : Bool) (d : Ty α) (w : World) (v : Value) (x : α) : Prop := ∃ cs, v = enc str cs ∧ d.K w (· < w.heap.size) x cs
/-- all its blocks lie from lo on and below hi -/
def OwV {α : Type} (str : Bool) (d : Ty α) (w : World) (lo hi : Nat) (v : Value) (x : α) : Prop := ∃ cs F, v = enc str cs ∧ d.M w F x cs ∧ ∀ k, k ∈ F → lo ≤ k ∧ k < hi
def RetV {α : Type} (str : Bool) (d : Ty α) (w : World) (x : α) (e : Ending) (w' : World) : Prop := ∃ v, e = .returned v ∧ OwV str d w' w.heap.size w'.heap.size v x ∧ New w w'
section
variable {α : Type} {str : Bool} {d : Ty α} {w w' : World} {lo hi : Nat} {v : Value} {x : α}
theorem RdV.step (h : RdV str d w v x) (hm : New w w') : RdV str d w' v x := by
  obtain ⟨cs, rfl, hK⟩ := h
  exact ⟨cs, rfl, d.K_mod hK (fun k hk => Nat.lt_of_lt_of_le hk hm.size) (fun k hk => hm.block k hk id)⟩
theorem OwV.rd (h : OwV str d w lo hi v x) : RdV str d w v x := by
  obtain ⟨cs, F, rfl, hM, hF⟩ := h
  exact ⟨cs, rfl, d.K_mod (d.M_K hM) (fun k hk => d.M_lt hM k hk) (fun _ _ => rfl)⟩
theorem OwV.keep {S : Nat → Prop} (h : OwV str d w lo hi v x) (hm : Mod S w w') (hS : ∀ k, lo ≤ k → k < hi → ¬ S k) : OwV str d w' lo hi v x := by
  obtain ⟨cs, F, rfl, hM, hF⟩ := h
  exact ⟨cs, F, rfl, d.M_mod hM (fun k hk => hm.block k (d.M_lt hM k hk) (hS k (hF k hk).1 (hF k hk).2)), hF⟩
theorem OwV.step (h : OwV str d w lo hi v x) (hm : New w w') : OwV str d w' lo hi v x := h.keep hm fun _ _ _ h => h
end
/-! slices -/
theorem RdV.slice {α : Type} {d : Ty α} {e : TypeId} {w : World} {v : Value} {xs : List α} (h : RdV false (Ty.slice e d) w v xs) : ∃ A c, v = .slice A xs.length c ∧ xs.length ≤ c ∧ Row d w (· < w.heap.size) A xs.length xs := by
  obtain ⟨cs, rfl, A, c, rfl, h1, h2, h3⟩ := h
  exact ⟨A, c, rfl, h1, h3⟩
theorem RdV.slice3 {α : Type} {d : Ty α} {e : TypeId} {w : World} {v : Value} {xs : List α} (h : RdV false (Ty.slice e d) w v xs) : ∃ A c, v = .slice A xs.length c ∧ xs.length ≤ c ∧ c ≤ 9223372036854775807 ∧ Row d w (· < w.heap.size) A xs.length xs := by
  obtain ⟨cs, rfl, A, c, rfl, h1, h2, h3⟩ := h
  exact ⟨A, c, rfl, h1, h2, h3⟩
theorem OwV.slice {α : Type} {d : Ty α} {e : TypeId} {w : World} {lo hi : Nat} {v : Value} {xs : List α} (h : OwV false (Ty.slice e d) w lo hi v xs) : ∃ A c F, v = .slice A xs.length c ∧ Own d e w F v xs ∧ ∀ k, k ∈ F → lo ≤ k ∧ k < hi := by
  obtain ⟨cs, F, rfl, ⟨v', rfl, h⟩, hF⟩ := h
  obtain ⟨A, c, rfl, _⟩ := h.form
  exact ⟨A, c, F, rfl, h, hF⟩
theorem OwV.of_slice {α : Type} {d : Ty α} {e : TypeId} {w : World} {lo hi : Nat} {v : Value} {xs : List α} {F : List Nat} (h : Own d e w F v xs) (hF : ∀ k, k ∈ F → lo ≤ k ∧ k < hi) : OwV false (Ty.slice e d) w lo hi v xs := ⟨[v], F, rfl, ⟨v, rfl, h⟩, hF⟩
theorem RetOwn.toV {α : Type} {d : Ty α} {t : TypeId} {w w' : World} {xs : List α} {e : Ending} (h : RetOwn d t w xs e w') : RetV false (Ty.slice t d) w xs e w' := by
  obtain ⟨A, c, F, rfl, ho, hF, hm⟩ := h
  exact ⟨_, rfl, OwV.of_slice ho fun k hk => ⟨hF k hk, ho.lt k hk⟩, hm⟩
theorem RdV.of_row {α : Type} {d : Ty α} {e : TypeId} {w : World} {A : Option Addr} {c : Nat} {xs : List α} (h : Row d w (· < w.heap.size) A xs.length xs) (hc : xs.length ≤ c) (hm : c ≤ 9223372036854775807) : RdV false (Ty.slice e d) w (.slice A xs.length c) xs := ⟨_, rfl, A, c, rfl, hc, hm, h⟩
/-- owned with these blocks -/
def OwF {α : Type} (str : Bool) (d : Ty α) (w : World) (F : List Nat) (v : Value) (x : α) : Prop := ∃ cs, v = enc str cs ∧ d.M w F x cs
/-- what a function that marks comes to -/
def Marks {α : Type} (str : Bool) (d : Ty α) (w : World) (F : List Nat) (v : Value) (k : Nat) (y : α) (e : Ending) (w' : World) : Prop :=
  e = .returned (.int .i64 (k : Int)) ∧ (∃ F', OwF str d w' F' v y ∧ ∀ i, i ∈ F' → i ∈ F) ∧ Mod (· ∈ F) w w'
theorem OwV.mark {α : Type} {str : Bool} {d : Ty α} {w : World} {lo hi : Nat} {v : Value} {x y : α} {P : Program} {f : Nat} {args : Array Value} {k : Nat}
    (hc : ∀ F, OwF str d w F v x → Calls P f args w (Marks str d w F v k y)) (h : OwV str d w lo hi v x) :
    Calls P f args w fun e w' => e = .returned (.int .i64 (k : Int)) ∧ OwV str d w' lo hi v y ∧ Mod (fun i => lo ≤ i ∧ i < hi) w w' := by
  obtain ⟨cs, F, rfl, hM, hF⟩ := h
  refine (hc F ⟨cs, rfl, hM⟩).mono ?_
  rintro e w' ⟨rfl, ⟨F', ⟨cs', hv, hM'⟩, hF'⟩, hm⟩
  exact ⟨rfl, ⟨cs', F', hv, hM', fun i hi => hF i (hF' i hi)⟩, hm.mono fun i _ hi => hF i hi⟩
theorem OwF.slice {α : Type} {d : Ty α} {e : TypeId} {w : World} {F : List Nat} {v : Value} {xs : List α} (h : OwF false (Ty.slice e d) w F v xs) : ∃ A c, v = .slice A xs.length c ∧ Own d e w F v xs := by
  obtain ⟨cs, rfl, v', rfl, h⟩ := h
  obtain ⟨A, c, rfl, _⟩ := h.form
  exact ⟨A, c, rfl, h⟩
theorem OwF.of_slice {α : Type} {d : Ty α} {e : TypeId} {w : World} {F : List Nat} {v : Value} {xs : List α} (h : Own d e w F v xs) : OwF false (Ty.slice e d) w F v xs := ⟨[v], rfl, v, rfl, h⟩
end Go.Proofs.YtkkgighgnbbgiaaGreatDoor.Mem

namespace Go.Proofs.YtkkgighgnbbgiaaGreatDoor.Mem
open Go.RowKit
set_option linter.unusedVariables false
/-- a string, as the list of its bytes -/
def Ty.str : Ty Bytes where
  sz := 1
  K := fun _ _ x cs => cs = [.string ⟨x.toArray⟩] ∧ x.length ≤ 9223372036854775807
  M := fun _ F x cs => F = [] ∧ cs = [.string ⟨x.toArray⟩] ∧ x.length ≤ 9223372036854775807
  K_len := fun h => by rw [h.1]; rfl
  K_one := fun h u hu => by rw [h.1] at hu; rw [List.mem_singleton.1 hu]; rfl
  K_mod := fun h _ _ => h
  M_K := fun h => h.2
  M_mod := fun h _ => h
  M_lt := fun h k hk => by rw [h.1] at hk; cases hk
  M_nd := fun h => by rw [h.1]; exact List.nodup_nil
/-- field of one cell, the i-th, of a kind -/
structure Fld {α β : Type} (d : Ty α) (i : Nat) (b : Ty β) (get : α → β) (put : α → β → α) : Prop where
  lt : i < d.sz
  sz1 : b.sz = 1
  K : ∀ {w B x cs}, d.K w B x cs → ∃ v, cs[i]? = some v ∧ b.K w B (get x) [v]
  M : ∀ {w F x cs}, d.M w F x cs → ∃ v G, cs[i]? = some v ∧ b.M w G (get x) [v] ∧ (∀ k, k ∈ G → k ∈ F) ∧
    ∀ w' v' y G', (∀ k, k ∈ F → k ∉ G → w'.heap[k]? = w.heap[k]?) → b.M w' G' y [v'] → (∀ k, k ∈ G' → k ∈ G ∨ k ∉ F) → ∃ F', d.M w' F' (put x y) (cs.set i v') ∧ ∀ k, k ∈ F' → k ∈ F ∨ k ∈ G'
theorem Fld.one {β : Type} {b : Ty β} (h : b.sz = 1) : Fld b 0 b id (fun _ y => y) where
  lt := by omega
  sz1 := h
  K := fun {w B x cs} hK => by
    have := b.K_len hK
    match cs, (this.trans h) with
    | [v], _ => exact ⟨v, rfl, hK⟩
  M := fun {w F x cs} hM => by
    have := b.K_len (b.M_K hM)
    match cs, (this.trans h) with
    | [v], _ => exact ⟨v, F, rfl, hM, fun _ h => h, fun w' v' y G' _ hM' _ => ⟨G', hM', fun k hk => .inr hk⟩⟩
theorem Fld.fst {α γ β : Type} {a : Ty α} {c : Ty γ} {b : Ty β} {i : Nat} {get : α → β} {put : α → β → α} (h : Fld a i b get put) : Fld (Ty.pair a c) i b (fun x => get x.1) (fun x y => (put x.1 y, x.2)) where
  lt := Nat.lt_of_lt_of_le h.lt (Nat.le_add_right _ _)
  sz1 := h.sz1
  K := by
    rintro w B x cs ⟨c0, c1, rfl, h0, h1⟩
    obtain ⟨v, hv, hK⟩ := h.K h0
    exact ⟨v, by rw [List.getElem?_append_left (by rw [a.K_len h0]; exact h.lt)]; exact hv, hK⟩
  M := by
    rintro w F x cs ⟨c0, c1, F0, F1, rfl, rfl, hn, h0, h1⟩
    obtain ⟨v, G, hv, hM, hG, hst⟩ := h.M h0
    have hl : i < c0.length := by rw [a.K_len (a.M_K h0)]; exact h.lt
    refine ⟨v, G, by rw [List.getElem?_append_left hl]; exact hv, hM, fun k hk => List.mem_append_left _ (hG k hk), fun w' v' y G' hb hM' hG' => ?_⟩
    obtain ⟨n0, n1, n2⟩ := List.nodup_append.1 hn
    obtain ⟨F', hF', hFF⟩ := hst w' v' y G' (fun k hk hkG => hb k (List.mem_append_left _ hk) hkG) hM' (fun k hk => (hG' k hk).imp id fun h hF => h (List.mem_append_left _ hF))
    refine ⟨F' ++ F1, ⟨c0.set i v', c1, F', F1, by rw [List.set_append_left _ _ hl], rfl, ?_, hF', c.M_mod h1 fun k hk => hb k (List.mem_append_right _ hk) fun hkG => n2 k (hG k hkG) k hk rfl⟩, fun k hk => ?_⟩
    · refine List.nodup_append.2 ⟨a.M_nd hF', n1, fun p hp q hq e => ?_⟩
      subst e
      rcases hFF p hp with h | h
      · exact n2 p h p hq rfl
      · rcases hG' p h with h | h
        · exact n2 p (hG p h) p hq rfl
        · exact h (List.mem_append_right _ hq)
    · rcases List.mem_append.1 hk with h | h
      · exact (hFF k h).imp (fun h => List.mem_append_left _ h) id
      · exact .inl (List.mem_append_right _ h)
theorem Fld.snd {α γ β : Type} {a : Ty α} {c : Ty γ} {b : Ty β} {i j : Nat} {get : γ → β} {put : γ → β → γ} (h : Fld c i b get put) (hj : j = a.sz + i) : Fld (Ty.pair a c) j b (fun x => get x.2) (fun x y => (x.1, put x.2 y)) where
  lt := by subst hj; exact Nat.add_lt_add_left h.lt _
  sz1 := h.sz1
  K := by
    subst hj
    rintro w B x cs ⟨c0, c1, rfl, h0, h1⟩
    obtain ⟨v, hv, hK⟩ := h.K h1
    have := a.K_len h0
    exact ⟨v, by rw [List.getElem?_append_right (by omega), this, Nat.add_sub_cancel_left]; exact hv, hK⟩
  M := by
    subst hj
    rintro w F x cs ⟨c0, c1, F0, F1, rfl, rfl, hn, h0, h1⟩
    obtain ⟨v, G, hv, hM, hG, hst⟩ := h.M h1
    have hl := a.K_len (a.M_K h0)
    refine ⟨v, G, by rw [List.getElem?_append_right (by omega), hl, Nat.add_sub_cancel_left]; exact hv, hM, fun k hk => List.mem_append_right _ (hG k hk), fun w' v' y G' hb hM' hG' => ?_⟩
    obtain ⟨n0, n1, n2⟩ := List.nodup_append.1 hn
    obtain ⟨F', hF', hFF⟩ := hst w' v' y G' (fun k hk hkG => hb k (List.mem_append_right _ hk) hkG) hM' (fun k hk => (hG' k hk).imp id fun h hF => h (List.mem_append_right _ hF))
    refine ⟨F0 ++ F', ⟨c0, c1.set i v', F0, F', by rw [List.set_append_right _ _ (by omega), hl, Nat.add_sub_cancel_left], rfl, ?_, a.M_mod h0 fun k hk => hb k (List.mem_append_left _ hk) fun hkG => n2 k hk k (hG k hkG) rfl, hF'⟩, fun k hk => ?_⟩
    · refine List.nodup_append.2 ⟨n0, c.M_nd hF', fun p hp q hq e => ?_⟩
      subst e
      rcases hFF p hq with h | h
      · exact n2 p hp p h rfl
      · rcases hG' p h with h | h
        · exact n2 p hp p (hG p h) rfl
        · exact h (List.mem_append_left _ hp)
    · rcases List.mem_append.1 hk with h | h
      · exact .inl (List.mem_append_left _ h)
      · exact (hFF k h).imp (fun h => List.mem_append_right _ h) id
section
variable {α β : Type} {d : Ty α} {i : Nat} {b : Ty β} {get : α → β} {put : α → β → α} {e : TypeId} {w : World} {F : List Nat} {A : Option Addr} {n cp : Nat} {xs : List α}
/-- a field that holds no block: read and stored -/
theorem Own.fstore (L : Fld d i b get put) (hb : ∀ w G x cs, b.M w G x cs → G = []) (h : Own d e w F (.slice A n cp) xs) {j : Nat} (hj : j < xs.length) :
    ∃ g v, A = some ⟨g, 0, none⟩ ∧ g ∈ F ∧ w.cell? ⟨g, j * d.sz + i, none⟩ = some v ∧ b.K w (fun _ => True) (get xs[j]) [v] ∧ w.frozen? ⟨g, j * d.sz + i, none⟩ = false ∧
      ∀ v' y, (∀ w, b.M w [] y [v']) → ∃ F', Own d e (w.setCell ⟨g, j * d.sz + i, none⟩ v') F' (.slice A n cp) (xs.set j (put xs[j] y)) ∧ ∀ k, k ∈ F' → k ∈ F := by
  obtain ⟨g, cs, f, rfl, hgF, hgf, hfF, hM, hcl, hc, hz, hst⟩ := h.elem hj
  obtain ⟨v, G, hv, hMv, hG, hp⟩ := L.M hM
  obtain rfl := hb _ _ _ _ hMv
  refine ⟨g, v, rfl, hgF, by rw [hc i L.lt, hv], b.K_mod (b.M_K hMv) (fun _ _ => trivial) (fun _ _ => rfl), hz _, fun v' y hM' => ?_⟩
  obtain ⟨f', hf', hff⟩ := hp (w.setCell ⟨g, j * d.sz + i, none⟩ v') v' y [] (fun k hk _ => Below.heap_setCell _ _ _ _ (fun e => hgf ((show k = g from e) ▸ hk))) (hM' _) (by simp)
  obtain ⟨F', ho, _, hF'⟩ := hst i v' _ f' L.lt hf' (fun k hk => .inl ((hff k hk).elim id (by simp)))
  exact ⟨F', ho, fun k hk => (hF' k hk).elim id fun h => hfF k ((hff k h).elim id (by simp))⟩
/-- a field that owns: what it leads to is changed -/
theorem Own.fsub (L : Fld d i b get put) (h : Own d e w F (.slice A n cp) xs) {j : Nat} (hj : j < xs.length) :
    ∃ g v G, A = some ⟨g, 0, none⟩ ∧ g ∈ F ∧ w.cell? ⟨g, j * d.sz + i, none⟩ = some v ∧ b.M w G (get xs[j]) [v] ∧ (∀ k, k ∈ G → k ∈ F) ∧
      ∀ w' y G', Mod (· ∈ G) w w' → b.M w' G' y [v] → (∀ k, k ∈ G' → k ∈ G) → ∃ F', Own d e w' F' (.slice A n cp) (xs.set j (put xs[j] y)) ∧ ∀ k, k ∈ F' → k ∈ F := by
  obtain ⟨cs, f, hM, hfF, hcell, hst⟩ := h.sub hj
  obtain ⟨g, rfl, hgF, hgf, hc⟩ := hcell _ _ _ rfl
  obtain ⟨v, G, hv, hMv, hG, hp⟩ := L.M hM
  refine ⟨g, v, G, rfl, hgF, by rw [hc i L.lt, hv], hMv, fun k hk => hfF k (hG k hk), fun w' y G' hm ho' hG' => ?_⟩
  obtain ⟨f', hf', hff⟩ := hp w' v y G' (fun k hk hkG => hm.block k (d.M_lt hM k hk) hkG) ho' (fun k hk => .inl (hG' k hk))
  have hcs : cs.set i v = cs := by
    have := List.getElem?_eq_some_iff.1 hv
    rw [← this.2]; exact List.set_getElem_self _
  rw [hcs] at hf'
  obtain ⟨F', ho2, hF'⟩ := hst w' _ f' (hm.mono fun k _ hk => hG k hk) hf' (fun k hk => .inl ((hff k hk).elim id fun h => hG k (hG' k h)))
  exact ⟨F', ho2, fun k hk => (hF' k hk).elim id fun h => hfF k ((hff k h).elim id fun h => hG k (hG' k h))⟩
theorem Own.cellsAt (h : Own d e w F (.slice A n cp) xs) {j : Nat} (hj : j < xs.length) : ∃ g, A = some ⟨g, 0, none⟩ ∧ g ∈ F ∧ (∀ i, i < d.sz → ∃ v, w.cell? ⟨g, j * d.sz + i, none⟩ = some v) ∧ ∀ i, w.frozen? ⟨g, i, none⟩ = false := by
  obtain ⟨g, cs, f, rfl, hgF, hgf, hfF, hM, hcl, hc, hz, hst⟩ := h.elem hj
  exact ⟨g, rfl, hgF, fun i hi => ⟨cs[i]'(by omega), by rw [hc i hi]; exact List.getElem?_eq_getElem _⟩, hz⟩
theorem Own.fstoreAt (L : Fld d i b get put) (hb : ∀ w G x cs, b.M w G x cs → G = []) {ys : List α} {j : Nat} {x : α} (hj : j < ys.length) {g : Nat} (h : Own d e w F (.slice (some ⟨g, 0, none⟩) n cp) (ys.set j x)) :
    g ∈ F ∧ ∀ v' y, (∀ w, b.M w [] y [v']) → ∃ F', Own d e (w.setCell ⟨g, j * d.sz + i, none⟩ v') F' (.slice (some ⟨g, 0, none⟩) n cp) (ys.set j (put x y)) ∧ ∀ k, k ∈ F' → k ∈ F := by
  obtain ⟨g', v, hA, hgF, hc, hK, hf, hst⟩ := h.fstore L hb (j := j) (by rw [List.length_set]; exact hj)
  injection hA with hA
  injection hA with hA
  subst hA
  refine ⟨hgF, fun v' y hM => ?_⟩
  obtain ⟨F', ho, hF'⟩ := hst v' y hM
  rw [List.set_set, List.getElem_set_self] at ho
  exact ⟨F', ho, hF'⟩
theorem OwF.one (h : b.sz = 1) {w : World} {G : List Nat} {v : Value} {y : β} (ho : OwF false b w G v y) : b.M w G y [v] := by
  obtain ⟨cs, rfl, hM⟩ := ho
  have := b.K_len (b.M_K hM)
  match cs, (this.trans h) with
  | [u], _ => exact hM
theorem Own.fsubAt (L : Fld d i b get put) {ys : List α} {j : Nat} {x : α} (hj : j < ys.length) {g : Nat} (h : Own d e w F (.slice (some ⟨g, 0, none⟩) n cp) (ys.set j x)) :
    ∃ v G, g ∈ F ∧ w.cell? ⟨g, j * d.sz + i, none⟩ = some v ∧ OwF false b w G v (get x) ∧ (∀ k, k ∈ G → k ∈ F) ∧
      ∀ w' y G', Mod (· ∈ G) w w' → OwF false b w' G' v y → (∀ k, k ∈ G' → k ∈ G) → ∃ F', Own d e w' F' (.slice (some ⟨g, 0, none⟩) n cp) (ys.set j (put x y)) ∧ ∀ k, k ∈ F' → k ∈ F := by
  obtain ⟨g', v, G, hA, hgF, hc, ho, hG, hst⟩ := h.fsub L (j := j) (by rw [List.length_set]; exact hj)
  injection hA with hA
  injection hA with hA
  subst hA
  rw [List.getElem_set_self] at ho hst
  refine ⟨v, G, hgF, hc, ⟨[v], rfl, ho⟩, hG, fun w' y G' hm ho' hG' => ?_⟩
  obtain ⟨F', ho3, hF'⟩ := hst w' y G' hm (OwF.one L.sz1 ho') hG'
  rw [List.set_set] at ho3
  exact ⟨F', ho3, hF'⟩
/-- a struct by value: what a field leads to is changed -/
theorem Fld.lead {v : Value} {x : α} (L : Fld d i b get put) (h : OwF true d w F v x) :
    ∃ (cs : List Value) (vi : Value) (G : List Nat), v = .agg cs.toArray ∧ cs[i]? = some vi ∧ OwF false b w G vi (get x) ∧ (∀ k, k ∈ G → k ∈ F) ∧
      ∀ w' y G', Mod (· ∈ G) w w' → OwF false b w' G' vi y → (∀ k, k ∈ G' → k ∈ G) → ∃ F', OwF true d w' F' v (put x y) ∧ ∀ k, k ∈ F' → k ∈ F := by
  obtain ⟨cs, rfl, hM⟩ := h
  obtain ⟨v, G, hv, hMv, hG, hp⟩ := L.M hM
  refine ⟨cs, v, G, rfl, hv, ⟨[v], ?_, hMv⟩, hG, fun w' y G' hm ho' hG' => ?_⟩
  · rfl
  obtain ⟨f', hf', hff⟩ := hp w' v y G' (fun k hk hkG => hm.block k (d.M_lt hM k hk) hkG) (OwF.one L.sz1 ho') (fun k hk => .inl (hG' k hk))
  have hcs : cs.set i v = cs := by
    have := List.getElem?_eq_some_iff.1 hv
    rw [← this.2]; exact List.set_getElem_self _
  rw [hcs] at hf'
  exact ⟨f', ⟨cs, rfl, hf'⟩, fun k hk => (hff k hk).elim id fun h => hG k (hG' k h)⟩
theorem Fld.lead1 {l : List Value} {vi : Value} {x : α} (L : Fld d i b get put) (hi : l[i]? = some vi) (h : OwF true d w F (.agg l.toArray) x) :
    ∃ G, OwF false b w G vi (get x) ∧ (∀ k, k ∈ G → k ∈ F) ∧
      ∀ w' y G', Mod (· ∈ G) w w' → OwF false b w' G' vi y → (∀ k, k ∈ G' → k ∈ G) → ∃ F', OwF true d w' F' (.agg l.toArray) (put x y) ∧ ∀ k, k ∈ F' → k ∈ F := by
  obtain ⟨cs, v, G, hv, hvi, ho, hG, hst⟩ := L.lead h
  injection hv with hv
  have : l = cs := by simpa using hv
  subst this
  obtain rfl : vi = v := Option.some.inj (hi.symm.trans hvi)
  exact ⟨G, ho, hG, hst⟩
theorem OwF.rd {str : Bool} {v : Value} {x : α} (h : OwF str d w F v x) : RdV str d w v x := by
  obtain ⟨cs, rfl, hM⟩ := h
  exact ⟨cs, rfl, d.K_mod (d.M_K hM) (fun k hk => d.M_lt hM k hk) (fun _ _ => rfl)⟩
theorem OwF.lt {str : Bool} {v : Value} {x : α} (h : OwF str d w F v x) : ∀ k, k ∈ F → k < w.heap.size := by
  obtain ⟨cs, rfl, hM⟩ := h
  exact d.M_lt hM
theorem OwF.mv {str : Bool} {v : Value} {x : α} {w' : World} (h : OwF str d w F v x) (hb : ∀ k, k ∈ F → w'.heap[k]? = w.heap[k]?) : OwF str d w' F v x := by
  obtain ⟨cs, rfl, hM⟩ := h
  exact ⟨cs, rfl, d.M_mod hM hb⟩
theorem load_struct {P : Program} (w : World) (ad : Addr) (ty : TypeId) (cs : List Value) (t : TypeDesc) (hu : P.underlying ty = some t) (ht : (match t with | .struct _ | .array _ _ => true | _ => false) = true) (hi : (P.info? ty).map (·.size) = some cs.length)
    (h : ∀ j v, cs[j]? = some v → w.cell? (ad.add j) = some v) : (Instr.loadAt ty (.pointer (some ad))).run P w = .ok (.agg cs.toArray) w := by
  have hl := run_loadCells_list (P := P) w ad cs h
  cases hq : P.info? ty with
  | none => simp [hq] at hi
  | some i =>
    have hs : i.size = cs.length := by simpa [hq] using hi
    have hagg : (isAgg ty).run P w = .ok true w := by
      unfold isAgg
      rw [Sem.run_bind, run_underlying hu w]
      cases t <;> simp_all
    simp [Instr.loadAt, Instr.sureAddr, loadVar, Sem.run_bind, hagg, sizeOf, typeInfo, hq, hs, hl]
/-- an element loaded whole -/
theorem Row.elem {P : Program} {B : Nat → Prop} (h : Row d w B A n xs) {k : Nat} (hk : k < xs.length) (ty : TypeId) {t : TypeDesc} (hu : P.underlying ty = some t) (ht : (match t with | .struct _ | .array _ _ => true | _ => false) = true) (hi : (P.info? ty).map (·.size) = some d.sz) :
    ∃ ad v, A = some ad ∧ ∀ w', (∀ i, B i → w'.heap[i]? = w.heap[i]?) → (∀ i, B i → i < w'.heap.size) → (Instr.loadAt ty (.pointer (some (ad.add (k * d.sz))))).run P w' = .ok v w' ∧ RdV true d w' v xs[k] := by
  obtain ⟨ad, cs, hlt, rfl, hB, hK, hc⟩ := h.at_ (k := k) (by rw [← h.1]; exact hk)
  refine ⟨ad, .agg cs.toArray, rfl, fun w' hb hl => ⟨load_struct w' _ ty cs t hu ht (by rw [d.K_len hK]; exact hi) fun j v hj => ?_, cs, rfl, d.K_mod hK (fun k hk => hl k hk) (fun k hk => hb k hk)⟩⟩
  have := hc j v hj
  rw [← this, add_add]
  refine World.cell?_of_block ?_
  rw [add_block]
  exact hb _ hB
/-- an element by its cells -/
theorem Row.elemc {B : Nat → Prop} (h : Row d w B A n xs) {k : Nat} (hk : k < xs.length) :
    ∃ (ad : Addr) (cs : List Value), A = some ad ∧ ∀ w', (∀ i, B i → w'.heap[i]? = w.heap[i]?) → (∀ i, B i → i < w'.heap.size) → RdV true d w' (.agg cs.toArray) xs[k] ∧ (∀ u, cs[0]? = some u → w'.cell? (ad.add (k * d.sz)) = some u) ∧ ∀ j u, cs[j + 1]? = some u → w'.cell? ⟨(ad.add (k * d.sz)).block, (ad.add (k * d.sz)).off + (j + 1), none⟩ = some u := by
  obtain ⟨ad, cs, rfl, hK, _, _⟩ := h.cells_at (w' := w) (fun _ _ => rfl) hk
  obtain ⟨ad', c', hlt, hA, hB, hK', hc⟩ := h.at_ (k := k) (by rw [← h.1]; exact hk)
  obtain rfl := Option.some.inj hA
  refine ⟨_, c', rfl, fun w' hb hl => ⟨⟨c', rfl, d.K_mod hK' (fun k hk => hl k hk) (fun k hk => hb k hk)⟩, fun u hu => ?_, fun j u hu => ?_⟩⟩
  · exact (World.cell?_of_block (by rw [add_block]; exact hb _ hB)).trans (hc 0 u hu)
  · rw [← add_next]
    exact (World.cell?_of_block (by rw [add_block]; exact hb _ hB)).trans (hc (j + 1) u hu)
/-- a field of a row that is read -/
theorem Row.field (L : Fld d i b get put) {B : Nat → Prop} (h : Row d w B A n xs) {w' : World} (hb : ∀ k, B k → w'.heap[k]? = w.heap[k]?) {j : Nat} (hj : j < xs.length) :
    ∃ ad v, A = some ad ∧ (match i with | 0 => w'.cell? (ad.add (j * d.sz)) | m + 1 => w'.cell? ⟨(ad.add (j * d.sz)).block, (ad.add (j * d.sz)).off + (m + 1), none⟩) = some v ∧ b.K w' B (get xs[j]) [v] := by
  obtain ⟨ad, cs, rfl, hK, h0, h1⟩ := h.cells_at hb hj
  obtain ⟨v, hv, hKv⟩ := L.K hK
  refine ⟨ad, v, rfl, ?_, b.K_mod hKv (fun _ h => h) hb⟩
  cases i with
  | zero => exact h0 _ hv
  | succ m => exact h1 m _ hv
end
theorem not_r {P : Program} (b : Bool) (w : World) : (Op.unary .not (.bool b)).run P w = .ok (.bool (!b)) w := by
  go_simp
theorem set_len {α : Type} (l : List α) (i : Nat) (x : α) : (l.set i x).length = l.length := List.length_set
end Go.Proofs.YtkkgighgnbbgiaaGreatDoor.Mem

namespace Go.Proofs.YtkkgighgnbbgiaaGreatDoor
section
variable {α : Type}
def preS (cnt : α → Nat) (xs : List α) (i : Nat) : Nat := ((xs.take i).map cnt).sum
def markL (mk : Nat → α → α) (cnt : α → Nat) (k : Nat) (xs : List α) : List α := xs.mapIdx fun i x => mk (k + preS cnt xs i) x
theorem preS_zero (cnt : α → Nat) (xs : List α) : preS cnt xs 0 = 0 := by simp [preS]
theorem preS_succ (cnt : α → Nat) (xs : List α) {i : Nat} (h : i < xs.length) : preS cnt xs (i + 1) = preS cnt xs i + cnt xs[i] := by
  unfold preS
  rw [List.take_succ_eq_append_getElem h, List.map_append, List.sum_append]
  simp
theorem preS_mono (cnt : α → Nat) (xs : List α) : ∀ {i j : Nat}, i ≤ j → preS cnt xs i ≤ preS cnt xs j := by
  intro i j hij
  unfold preS
  have : xs.take j = xs.take i ++ (xs.drop i).take (j - i) := by
    rw [← List.take_append_drop i (xs.take j), List.take_take, Nat.min_eq_left hij, List.drop_take]
  rw [this, List.map_append, List.sum_append]; omega
theorem preS_le (cnt : α → Nat) (xs : List α) (i : Nat) : preS cnt xs i ≤ preS cnt xs xs.length := by
  rcases Nat.le_total i xs.length with h | h
  · exact preS_mono cnt xs h
  · unfold preS; rw [List.take_of_length_le h, List.take_length]; omega
theorem markL_len (mk : Nat → α → α) (cnt : α → Nat) (k : Nat) (xs : List α) : (markL mk cnt k xs).length = xs.length := by simp [markL]
theorem markL_at (mk : Nat → α → α) (cnt : α → Nat) (k : Nat) (xs : List α) {i : Nat} (h : i < (markL mk cnt k xs).length) : (markL mk cnt k xs)[i] = mk (k + preS cnt xs i) (xs[i]'(by simpa [markL] using h)) := by simp [markL]
/-- one more element marked -/
theorem take_drop_set {zs xs : List α} (hl : zs.length = xs.length) {j : Nat} (h : j < xs.length) : (zs.take j ++ xs.drop j).set j (zs[j]'(by omega)) = zs.take (j + 1) ++ xs.drop (j + 1) := by
  rw [List.set_append_right _ _ (by rw [List.length_take]; omega), List.length_take, Nat.min_eq_left (by omega), Nat.sub_self, List.drop_eq_getElem_cons h, List.set_cons_zero, List.take_succ_eq_append_getElem (show j < zs.length by omega), List.append_assoc]
  rfl
theorem take_drop_at {zs xs : List α} (hl : zs.length = xs.length) {j : Nat} (h : j < xs.length) (h' : j < (zs.take j ++ xs.drop j).length) : (zs.take j ++ xs.drop j)[j] = xs[j] := by
  rw [List.getElem_append_right (by rw [List.length_take]; omega)]
  simp [List.length_take, Nat.min_eq_left (show j ≤ zs.length by omega)]
theorem take_drop_len {zs xs : List α} (hl : zs.length = xs.length) (j : Nat) : (zs.take j ++ xs.drop j).length = xs.length := by
  rw [List.length_append, List.length_take, List.length_drop]; omega
theorem preS_mark (mk : Nat → α → α) (cnt : α → Nat) (hc : ∀ k x, cnt (mk k x) = cnt x) (k : Nat) (xs : List α) (i : Nat) : preS cnt (markL mk cnt k xs) i = preS cnt xs i := by
  unfold preS
  congr 1
  apply List.ext_getElem (by simp [markL])
  intro j h1 h2
  simp [markL, hc]
theorem markL_idem (mk : Nat → α → α) (cnt : α → Nat) (hc : ∀ k x, cnt (mk k x) = cnt x) (hm : ∀ k k' x, mk k' (mk k x) = mk k' x) (k k' : Nat) (xs : List α) : markL mk cnt k' (markL mk cnt k xs) = markL mk cnt k' xs := by
  apply List.ext_getElem (by simp [markL])
  intro j h1 h2
  rw [markL_at, markL_at, markL_at, preS_mark mk cnt hc, hm]
end
end Go.Proofs.YtkkgighgnbbgiaaGreatDoor

namespace Go.Proofs.YtkkgighgnbbgiaaGreatDoor.Mem
open Go.RowKit
set_option linter.unusedVariables false

section
variable {P : Program} {md : Region.Mode} {ops : Array Oper} {T : World → Prop} {L : List Nat} {Q : Exit → Act → World → Prop} {o : Oper} {a : Act} {w : World} {v : Value}
/-- whatever order comes: T holds behind every operation but those of L -/
def RegR (P : Program) (md : Region.Mode) (ops : Array Oper) (Q : Exit → Act → World → Prop) (L : List Nat) (T : World → Prop) : Nat → Array Bool → Act → World → Prop
  | 0, ls, a, w => Region.ready md ops ls = [] ∧ Q .normal a w
  | n + 1, ls, a, w => (Region.ready md ops ls = [] → Q .normal a w) ∧ ∀ i ∈ Region.ready md ops ls, wpOp P ops Q i (fun a' w' => (i ∉ L → T w') ∧ RegR P md ops Q L T n (ls.setIfInBounds i true) a' w') a w
theorem RegR.any : ∀ (n : Nat) (ls : Array Bool) (a : Act) (w : World), RegR P md ops Q L T n ls a w → wpAny P md ops Q n ls a w
  | 0, _, _, _, h => h
  | n + 1, _, _, _, h => ⟨h.1, fun i hi => wpOp_mono (fun a' w' h' => RegR.any n _ a' w' h'.2) (h.2 i hi)⟩
/-- does each of L wait for number i -/
def Waits (md : Region.Mode) (ops : Array Oper) (L : List Nat) (i : Nat) : Bool := L.all fun j => ((ops[j]?).map fun o => o.after.any fun e => Region.binds md e && e.on == i).getD false
theorem RegR.first {i : Nat} {oi : Oper} (hi : ops[i]? = some oi) (hsel : ∀ (j : Nat) (o : Oper) cs b, ops[j]? = some o → o.op ≠ .select cs b)
    (hQ : ∀ c a w, Q (.panic c) (a.put oi.dst v) w → Q (.panic c) a w) (hL : Waits md ops L i = true) (n : Nat) : ∀ (ls : Array Bool) (a : Act) (w : World),
      (∀ j oj, ops[j]? = some oj → j ≠ i → ls.getD j true = false → (∀ e ∈ oj.after, Region.binds md e = true → e.on ≠ i) → oi.apart ops oj = true) →
      i ∈ Region.ready md ops ls → YieldsIf P ops T oi v a → T w → RegR P md ops Q L T n (ls.setIfInBounds i true) (a.put oi.dst v) w → RegR P md ops Q L T (n + 1) ls a w := by
  -- who comes ahead of number i does not wait for it
  have hno : ∀ (ls : Array Bool) (j : Nat) (oj : Oper), ops[j]? = some oj → i ∈ Region.ready md ops ls → (∀ e ∈ oj.after, Region.binds md e = true → ls.getD e.on false = true) → ∀ e ∈ oj.after, Region.binds md e = true → e.on ≠ i := by
    intro ls j oj _ hir hall e he hb heq
    have hl := hall e he hb
    have h0 := (mem_ready.1 hir).1
    rw [heq] at hl
    by_cases hsz : i < ls.size
    · simp [hsz] at h0 hl; simp [h0] at hl
    · simp [Array.getElem?_eq_none (Nat.le_of_not_lt hsz)] at hl
  have hnL : ∀ j oj, ops[j]? = some oj → (∀ e ∈ oj.after, Region.binds md e = true → e.on ≠ i) → j ∉ L := by
    intro j oj hj hn hmem
    have h1 := List.all_eq_true.1 hL j hmem
    simp only [hj, Option.map_some, Option.getD_some] at h1
    obtain ⟨e, he, hb⟩ := Array.any_eq_true'.1 h1
    rw [Bool.and_eq_true, beq_iff_eq] at hb
    exact hn e he hb.1 hb.2
  induction n with
  | zero =>
    intro ls a w _ hr hy hT H
    refine ⟨fun h0 => absurd (h0 ▸ hr) List.not_mem_nil, fun j hj => ?_⟩
    rcases Decidable.em (j = i) with rfl | hne
    · exact hy.wpOp hi hT ⟨fun _ => hT, H⟩
    · exact absurd (H.1 ▸ ready_mono hj hne) List.not_mem_nil
  | succ n ih =>
    intro ls a w hfree hr hy hT H
    refine ⟨fun h0 => absurd (h0 ▸ hr) List.not_mem_nil, fun j hj => ?_⟩
    rcases Decidable.em (j = i) with rfl | hne
    · exact hy.wpOp hi hT ⟨fun _ => hT, H⟩
    obtain ⟨hun, oj, hoj, hall⟩ := mem_ready.1 hj
    have hn := hno ls j oj hoj hr hall
    refine wpOp_mono ?_ (wpOp_putIf hoj (hfree j oj hoj hne hun hn) (fun cs b => hsel i oi cs b hi) (fun cs b => hsel j oj cs b hoj) hQ hy (H.2 j (ready_mono hj hne)))
    intro a' w' h
    refine ⟨h.2.1, ih _ a' w' ?_ (ready_mono hr (Ne.symm hne)) h.1 (h.2.1 (hnL j oj hoj hn)) ?_⟩
    · intro k ok hk hki hku hkn
      refine hfree k ok hk hki ?_ hkn
      rcases Decidable.em (j = k) with rfl | hjk
      · exact hun
      · rw [getD_set_ne true hjk] at hku; exact hku
    · have h3 := h.2.2
      rwa [Array.setIfInBounds_comm _ _ (Ne.symm hne)] at h3
/-- the beginning -/
theorem reg_start (L : List Nat) (T : World → Prop) {id : Nat} (hm : P.follows .mixedOrders = true) (h : RegR P .any ops Q L T ops.size (Array.replicate ops.size false) a w.drew) : (Code.region id ops true).wp P Q a w :=
  wp_region_any hm (RegR.any _ _ _ _ h)
/-- number i, into slot n, first -/
theorem reg_take {i n : Nat} {op : Op} {ty : TypeId} {pos : String} {af : Array Edge} {fuel : Nat} {ls : Array Bool} (v : Value) (hT : T w) (hi : ops[i]? = some ⟨some n, op, ty, pos, af, none⟩) (hs : Region.noSelect ops = true) (hL : Waits md ops L i = true) (hf : Region.free md ops ls i = true) (hr : (Region.ready md ops ls).contains i = true)
    (hQ : ∀ c a w, Q (.panic c) (a.put (some n) v) w → Q (.panic c) a w) (hy : ∀ w, T w → (execOp a.eval ⟨some n, op, ty, pos, af, none⟩).run P w = .ok (.value v) w)
    (h : RegR P md ops Q L T fuel (ls.setIfInBounds i true) (a.put (some n) v) w) : RegR P md ops Q L T (fuel + 1) ls a w :=
  RegR.first hi (Region.noSelect_spec hs) hQ hL fuel ls a w (Region.free_spec hi hf) (by simpa using hr) (.inl ⟨by simp [Region.wanted], hy⟩) hT h
/-- number i, alone ready -/
theorem reg_step {i : Nat} {d : Option Nat} {op : Op} {ty : TypeId} {pos : String} {af : Array Edge} {fuel : Nat} {ls : Array Bool} (hi : ops[i]? = some ⟨d, op, ty, pos, af, none⟩) (hr : Region.ready md ops ls = [i])
    (h : ∀ K : Act → World → Prop, Shut (∀ a w, (i ∉ L → T w) → RegR P md ops Q L T fuel (ls.setIfInBounds i true) a w → K a w) → Oper.wp P ⟨d, op, ty, pos, af, none⟩ a w K Q) : RegR P md ops Q L T (fuel + 1) ls a w := by
  refine ⟨fun h0 => absurd (hr.symm.trans h0) (by simp), ?_⟩
  rw [hr]
  intro j hj
  obtain rfl := List.mem_singleton.1 hj
  refine wpOp_step hi fun K' hK => ?_
  rw [if_pos (by simp [Region.wanted])]
  exact h K' fun a w h1 h2 => hK a w ⟨h1, h2⟩
/-- the same for an operation that stands under a guard which holds -/
theorem reg_takeG {i n : Nat} {op : Op} {ty : TypeId} {pos : String} {af : Array Edge} {gd : Option (Nat × Bool)} {fuel : Nat} {ls : Array Bool} (v : Value) (hT : T w) (hi : ops[i]? = some ⟨some n, op, ty, pos, af, gd⟩) (hw : Region.wanted ⟨some n, op, ty, pos, af, gd⟩ (yielded ops a.tmps) = true) (hs : Region.noSelect ops = true) (hL : Waits md ops L i = true) (hf : Region.free md ops ls i = true) (hr : (Region.ready md ops ls).contains i = true)
    (hQ : ∀ c a w, Q (.panic c) (a.put (some n) v) w → Q (.panic c) a w) (hy : ∀ w, T w → (execOp a.eval ⟨some n, op, ty, pos, af, gd⟩).run P w = .ok (.value v) w)
    (h : RegR P md ops Q L T fuel (ls.setIfInBounds i true) (a.put (some n) v) w) : RegR P md ops Q L T (fuel + 1) ls a w :=
  RegR.first hi (Region.noSelect_spec hs) hQ hL fuel ls a w (Region.free_spec hi hf) (by simpa using hr) (.inl ⟨hw, hy⟩) hT h
theorem reg_stepG {i : Nat} {d : Option Nat} {op : Op} {ty : TypeId} {pos : String} {af : Array Edge} {gd : Option (Nat × Bool)} {fuel : Nat} {ls : Array Bool} (hi : ops[i]? = some ⟨d, op, ty, pos, af, gd⟩) (hw : Region.wanted ⟨d, op, ty, pos, af, gd⟩ (yielded ops a.tmps) = true) (hr : Region.ready md ops ls = [i])
    (h : ∀ K : Act → World → Prop, Shut (∀ a w, (i ∉ L → T w) → RegR P md ops Q L T fuel (ls.setIfInBounds i true) a w → K a w) → Oper.wp P ⟨d, op, ty, pos, af, gd⟩ a w K Q) : RegR P md ops Q L T (fuel + 1) ls a w := by
  refine ⟨fun h0 => absurd (hr.symm.trans h0) (by simp), ?_⟩
  rw [hr]
  intro j hj
  obtain rfl := List.mem_singleton.1 hj
  refine wpOp_step hi fun K' hK => ?_
  rw [if_pos hw]
  exact h K' fun a w h1 h2 => hK a w ⟨h1, h2⟩
theorem reg_done {ls : Array Bool} (hr : Region.ready md ops ls = []) (h : Q .normal a w) : ∀ n, RegR P md ops Q L T n ls a w
  | 0 => ⟨hr, h⟩
  | _ + 1 => ⟨fun _ => h, by rw [hr]; simp⟩
theorem wp_val (hx : (execOp a.eval o).run P w = .ok (.value v) w) {n : Nat} (hd : o.dst = some n) {K : Act → World → Prop} (h : K (a.put (some n) v) w) : Oper.wp P o a w K Q := by
  unfold Oper.wp
  rw [hx, Oper.upon_value, hd]; exact h
theorem exec_convert {src dst : TypeId} {x : Operand} (ho : o.op = .convert src dst x) (h : (convert src dst (a.eval x)).run P w = .ok v w) : (execOp a.eval o).run P w = .ok (.value v) w := by
  unfold execOp; simp only [ho, Sem.run_bind, h, Result.andThen_ok, Sem.run_pure]
theorem exec_move {x : Operand} (ho : o.op = .move x) (h : a.eval x = v) : (execOp a.eval o).run P w = .ok (.value v) w := by
  unfold execOp; simp only [ho, h, Sem.run_pure]
theorem exec_bin {op : BinOp} {t t' : TypeId} {x y : Operand} (ho : o.op = .binOp op t x y t') {vx vy : Value} (hx : a.eval x = vx) (hy : a.eval y = vy) (h : (do eqGuard op t x y vx vy; binOp op t vx vy : Sem Value).run P w = .ok v w) : (execOp a.eval o).run P w = .ok (.value v) w := by
  unfold execOp; simp only [ho, hx, hy]
  rw [Sem.run_bind, h]; rfl
theorem slice_to {t e : TypeId} {n c k : Nat} {A : Option Addr} (hu : P.underlying t = some (.slice e)) (hk : k ≤ c) (he : (P.info? e).isSome = true) : (Instr.sliceAt t (.slice A n c) none (some (.int .i64 k)) none).run P w = .ok (.slice A k c) w := by
  obtain ⟨i, hi⟩ := Option.isSome_iff_exists.1 he
  have hel : P.elem t = e := by simp [Program.elem, hu]
  have hu' : P.underlying t = some (.slice (P.elem t)) := by rw [hel]; exact hu
  rw [run_sliceAt_slice w t _ _ _ _ hu', run_slice_h w t A n c hu' .i64 (k : Int) (by omega) (by omega)]
  have hs : (sizeOf e).run P w = .ok i.size w := by
    simp only [sizeOf, typeInfo, Sem.run_bind, run_program, hi, Result.andThen, Sem.run_pure]
  rw [hel, hs]
  simp [Result.andThen, sliced]
  cases A <;> simp [Addr.add]
theorem exec_slice {t : TypeId} {x : Operand} {lo hi mx : Option Operand} (ho : o.op = .slice t x lo hi mx) {vx : Value} {vl vh vm : Option Value} (hx : a.eval x = vx) (hl : lo.map a.eval = vl) (hh : hi.map a.eval = vh) (hm : mx.map a.eval = vm) (h : (Instr.sliceAt t vx vl vh vm).run P w = .ok v w) : (execOp a.eval o).run P w = .ok (.value v) w := by
  unfold execOp; simp only [ho, hx, hl, hh, hm, Sem.run_bind, h, Result.andThen_ok, Sem.run_pure]
/-- a call of a Go function -/
theorem exec_call {f : FuncId} {args : List Operand} {ts : Array TypeId} {vals : List Value} (ho : o.op = .call { callee := .value (.func f), args := args.toArray, argTypes := ts }) (hv : args.map a.eval = vals)
    (hf : ((P.funcs[f]?).map fun fn => fn.name == "runtime.NumGoroutine" || fn.body.isNone) = some false) : (execOp a.eval o).run P w = .ok (.enter f vals.toArray) w := by
  obtain ⟨fn, hfn, hb⟩ := Option.map_eq_some_iff.1 hf
  rw [Bool.or_eq_false_iff] at hb
  have h1 : fn.name ≠ "runtime.NumGoroutine" := fun h => by rw [h] at hb; simp at hb
  have h2 : fn.body ≠ none := fun h => by rw [h] at hb; simp at hb
  unfold execOp
  simp only [ho, resolve, List.map_toArray, hv, Act.eval, Deferred.ofValue]
  simp [Sem.run_bind, Result.andThen, invoke, callFunc, hfn, h1, h2]
theorem wp_call {f : FuncId} {args : List Operand} {ts : Array TypeId} {vals : List Value} {R : Ending → World → Prop} {n : Nat} (ho : o.op = .call { callee := .value (.func f), args := args.toArray, argTypes := ts }) (hd : o.dst = some n) (hv : args.map a.eval = vals)
    (hf : ((P.funcs[f]?).map fun fn => fn.name == "runtime.NumGoroutine" || fn.body.isNone) = some false) {K : Act → World → Prop} (hc : Calls P f vals.toArray w R) (hK : ∀ e w', R e w' → ∃ v, e = .returned v ∧ K (a.put (some n) v) w') : Oper.wp P o a w K Q := by
  unfold Oper.wp
  rw [exec_call ho hv hf, Oper.upon_enter]
  refine hc.mono ?_
  intro e w' hR
  obtain ⟨v, rfl, h⟩ := hK e w' hR
  rw [hd]; exact h
theorem exec_load {t : TypeId} {x : Operand} (ho : o.op = .load t x) {vx : Value} (hx : a.eval x = vx) (h : (Instr.loadAt t vx).run P w = .ok v w) : (execOp a.eval o).run P w = .ok (.value v) w := by
  unfold execOp; simp only [ho, hx, Sem.run_bind, h, Result.andThen_ok, Sem.run_pure]
theorem exec_field {t : TypeId} {x : Operand} {f : Nat} (ho : o.op = .fieldAddr t x f) {vx : Value} (hx : a.eval x = vx) (h : (Instr.fieldAt t vx f).run P w = .ok v w) : (execOp a.eval o).run P w = .ok (.value v) w := by
  unfold execOp; simp only [ho, hx, Sem.run_bind, h, Result.andThen_ok, Sem.run_pure]
theorem exec_index {t : TypeId} {x i : Operand} (ho : o.op = .index t x i) {vx vi : Value} (hx : a.eval x = vx) (hi : a.eval i = vi) (h : (Instr.index t vx vi).run P w = .ok v w) : (execOp a.eval o).run P w = .ok (.value v) w := by
  unfold execOp; simp only [ho, hx, hi, Sem.run_bind, h, Result.andThen_ok, Sem.run_pure]
theorem exec_indexAddr {t : TypeId} {x i : Operand} (ho : o.op = .indexAddr t x i) {vx vi : Value} (hx : a.eval x = vx) (hi : a.eval i = vi) (h : (Instr.indexAt t vx vi).run P w = .ok v w) : (execOp a.eval o).run P w = .ok (.value v) w := by
  unfold execOp; simp only [ho, hx, hi, Sem.run_bind, h, Result.andThen_ok, Sem.run_pure]
theorem exec_un {op : UnOp} {t : TypeId} {x : Operand} (ho : o.op = .unOp op t x) {vx : Value} (hx : a.eval x = vx) (h : (Op.unary op vx).run P w = .ok v w) : (execOp a.eval o).run P w = .ok (.value v) w := by
  unfold execOp; simp only [ho, hx, Sem.run_bind, h, Result.andThen_ok, Sem.run_pure]
theorem exec_pick {c x y : Operand} (ho : o.op = .pick c x y) {b : Bool} {vx vy : Value} (hc : a.eval c = .bool b) (hx : a.eval x = vx) (hy : a.eval y = vy) (hv : v = if b then vx else vy) : (execOp a.eval o).run P w = .ok (.value v) w := by
  unfold execOp; subst hv; simp [ho, hc, hx, hy, asBool, Sem.run_pure]
theorem exec_buildSlice {t : TypeId} {n : Nat} {parts : List (Nat × Operand)} {w' : World} (ho : o.op = .buildSlice t n parts.toArray) {vs : List (Nat × Value)} (hx : parts.map (fun (i, x) => (i, a.eval x)) = vs) (h : (Instr.buildSlice t n vs.toArray).run P w = .ok v w') : (execOp a.eval o).run P w = .ok (.value v) w' := by
  unfold execOp; simp only [ho, List.map_toArray, hx, Sem.run_bind, h, Result.andThen_ok, Sem.run_pure]
theorem wp_valw {w' : World} (hx : (execOp a.eval o).run P w = .ok (.value v) w') {n : Nat} (hd : o.dst = some n) {K : Act → World → Prop} (h : K (a.put (some n) v) w') : Oper.wp P o a w K Q := by
  unfold Oper.wp
  rw [hx, Oper.upon_value, hd]; exact h
theorem wp_store {t : TypeId} {x y : Operand} {w' : World} (ho : o.op = .store t x y) (hd : o.dst = none) {vx vy : Value} (hx : a.eval x = vx) (hy : a.eval y = vy) (h : (Instr.storeAt t vx vy).run P w = .ok () w') {K : Act → World → Prop} (hK : K a w') : Oper.wp P o a w K Q := by
  unfold Oper.wp execOp; simp only [ho, hx, hy, Sem.run_bind, h, Result.andThen_ok, Sem.run_pure, Oper.upon_skip, hd]
  exact hK
end
end Go.Proofs.YtkkgighgnbbgiaaGreatDoor.Mem
