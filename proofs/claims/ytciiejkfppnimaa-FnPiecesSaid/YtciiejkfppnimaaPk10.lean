/- Both ways to cut a stream, by value. The reader of drawn bytes. The letters of flags, in plain lists. The specification's letters of flags. Letters read back into flags, in plain lists. The specification's reading of letters. Drawn parts of a mail's name. -/
import Derived.Test.YtciiejkfppnimaaPk9
import Derived.Test.YtciiejkfppnimaaPk1
import Derived.Test.YtciiejkfppnimaaPk2
import Derived.Lib.JoinLaws
import Derived.Test.YtciiejkfppnimaaPk0
import Derived.Test.YtciiejkfppnimaaProg
import Derived.WalkKit
import Derived.Test.YtciiejkfppnimaaPk3
namespace Go.Proofs.Ytciiejkfppnimaa
open Go.RowKit Mem
set_option linter.unusedVariables false
def CutL (lit : Bool) (b : Bytes) : UnitsT := cutsL lit b
theorem specCut_v {w : World} (lit : Bool) {v : Value} {b : Bytes} (h : RdV false dBS w v b) (hl : szBS b ≤ 1048576) : Calls Try.prog 12 #[.bool lit, v] w (RetV true dUnits w (CutL lit b)) := cutS_v lit h hl
theorem implCut_v {w : World} (lit : Bool) {v : Value} {b : Bytes} (h : RdV false dBS w v b) (hl : szBS b ≤ 1048576) (hE : IntAt0 w) : Calls Try.prog 14 #[.bool lit, v] w (RetV true dUnits w (CutL lit b)) := cutI_v lit h hl hE
theorem cntUnit_le (lit : Bool) (b : Bytes) (h : (oneC lit b).2 ≠ 0) : cntUnit (oneC lit b).1 ≤ 2 * (oneC lit b).2 := by
  unfold oneC at h ⊢
  rcases endI_spec b with ⟨he, _⟩ | ⟨i, he, hi, _, _⟩
  · rw [he] at h; exact absurd rfl h
  · rw [he, if_neg (by omega)] at h ⊢
    simp only [Int.toNat_natCast] at h ⊢
    by_cases h30 : 300 < i
    · rw [if_pos h30]; simp [cntUnit, badU, cntBS]; omega
    · rw [if_neg h30] at h ⊢
      cases hm : (if lit = true then litL (List.take i b) else none) with
      | none => simp [cntUnit, cntBS]; omega
      | some pn =>
        obtain ⟨p, n⟩ := pn
        rw [hm] at h
        simp only at h ⊢
        by_cases h8 : 8000 < n
        · rw [if_pos h8]; simp [cntUnit, badU, cntBS]; omega
        · rw [if_neg h8] at h ⊢
          by_cases hl : b.length < i + 2 + n + 2
          · rw [if_pos hl] at h; exact absurd rfl h
          · rw [if_neg hl]
            split
            · simp [cntUnit, cntBS]; omega
            · simp [cntUnit, badU, cntBS]; omega
theorem cutsF_cnt (lit : Bool) : ∀ f b, cntUnitS (cutsF lit f b).1 + cntBS (cutsF lit f b).2 ≤ 2 * b.length
  | 0, b => by simp [cutsF, cntUnitS, preS, cntBS]; omega
  | f + 1, b => by
    unfold cutsF
    split
    · simp [cntUnitS, preS, cntBS]; omega
    · rename_i h
      have h1 := cntUnit_le lit b h
      have h2 := cutsF_cnt lit f (b.drop (oneC lit b).2)
      have h3 := (oneC_le lit b).1
      rw [List.length_drop] at h2
      have e : cntUnitS ((oneC lit b).1 :: (cutsF lit f (b.drop (oneC lit b).2)).1) = cntUnit (oneC lit b).1 + cntUnitS (cutsF lit f (b.drop (oneC lit b).2)).1 := by
        simp [cntUnitS, preS]
      simp only
      rw [e]
      omega
theorem Cut_cnt (lit : Bool) (b : Bytes) (hl : szBS b ≤ 1048576) : cntUnits (CutL lit b) ≤ 2097152 := by
  have h := cutsF_cnt lit (b.length + 1) b
  have hb : b.length ≤ 1048576 := hl
  show cntUnitS (cutsL lit b).1 + cntBS (cutsL lit b).2 ≤ 2097152
  unfold cutsL
  omega
end Go.Proofs.Ytciiejkfppnimaa

namespace Go.Proofs.Ytciiejkfppnimaa
open Go.RowKit Mem
set_option linter.unusedVariables false

/-- make([]byte, 0, n) -/
theorem wpList_mkRoom {P : Program} (w : World) {ops : Array Oper} {rest : List Oper} {o : Oper} {a : Act} {Q : Exit → Act → World → Prop} (hgd : o.guard = none) (l0 l : Operand) (t : TypeId)
    (ho : o.op = .makeSlice t l0 l) (e : TypeId) (ht : P.underlying t = some (.slice e)) (hinfo : (P.info? e).map (fun i => (i.zero, i.size, i.bytes)) = some (some (.int .u8 0), 1, 1))
    (n : Nat) (h0 : a.eval l0 = .int .i64 0) (hn : a.eval l = .int .i64 (n : Int)) (hlen : n ≤ 34359738368)
    (h : ∀ w', Mine Ty.byte e w w' (.slice (some ⟨w.heap.size, 0, none⟩) 0 n) [] → wpList P ops Q rest (a.put o.dst (.slice (some ⟨w.heap.size, 0, none⟩) 0 n)) w') : wpList P ops Q (o :: rest) a w := by
  refine wpList_plain hgd fun K hK => ?_
  have hr := run_make_room (P := P) t e (.int .u8 0) 1 ht hinfo rfl .i64 .i64 n (by omega) (by omega) w
  unfold Oper.wp execOp
  simp only [ho, h0, hn, Sem.run_bind, Sem.run_pure, Result.andThen_ok, hr]
  refine hK _ _ (h _ ⟨⟨[w.heap.size], ⟨[], [], ⟨rfl, .inr ⟨w.heap.size, n, _, rfl, Nat.zero_le _, heap_alloc_new w _, Nat.zero_le _, by simp only [maxLen]; omega, by simp [madeCells, show Ty.byte.sz = 1 from rfl], by simp⟩⟩, Elems.nil _ _, rfl, by simp⟩, fun k hk => by simp at hk; omega⟩, (Mod.refl _ _).alloc _⟩)

/-- the reader in block g has ys ahead -/
structure Rdr (w : World) (g : Nat) (ys : Bytes) : Prop where
  ex : ∃ (A : Option Addr) (c : Nat) (xs : Bytes) (i : Nat) (B : Nat → Prop), Blk w g 48 [.slice A xs.length c, .int .i64 (i : Int)] ∧ i ≤ xs.length ∧ ys = xs.drop i ∧ Row Ty.byte w B A xs.length xs ∧ (∀ k, B k → k < g) ∧ xs.length ≤ 34359738368
theorem Rdr.mod {w w' : World} {g : Nat} {ys : Bytes} {S : Nat → Prop} (h : Rdr w g ys) (hm : Mod S w w') (hS : ∀ k, k ≤ g → ¬ S k) : Rdr w' g ys := by
  obtain ⟨A, c, xs, i, B, hb, hi, he, hr, hB, hl⟩ := h.ex
  have hlt := hb.lt
  exact ⟨A, c, xs, i, B, hb.mod hm (hS g (Nat.le_refl _)), hi, he, hr.mod (fun _ h => h) (fun k hk => hm.block k (by have := hB k hk; omega) (hS k (by have := hB k hk; omega))), hB, hl⟩
theorem Rdr.lt {w : World} {g : Nat} {ys : Bytes} (h : Rdr w g ys) : g < w.heap.size := by
  obtain ⟨A, c, xs, i, B, hb, _⟩ := h.ex; exact hb.lt
def nextD : Bytes → Nat × Bytes
  | [] => (0, [])
  | b :: r => (b.toNat, r)
theorem nextD_lt (ys : Bytes) : (nextD ys).1 < 256 := by cases ys with
  | nil => decide
  | cons b r => exact UInt8.toNat_lt b
set_option maxHeartbeats 1000000 in
set_option maxRecDepth 100000 in
theorem next_calls {w : World} {g : Nat} {ys : Bytes} (h : Rdr w g ys) : Calls Try.prog 39 #[.pointer (some ⟨g, 0, none⟩)] w
    (fun e w' => e = .returned (.int .i64 ((nextD ys).1 : Int)) ∧ Rdr w' g (nextD ys).2 ∧ Mod (· = g) w w') := by
  obtain ⟨A, c, xs, i, B, hb, hi, rfl, hr, hB, hl⟩ := h.ex
  have hlt := hb.lt
  have HB := Sec.mk hb
  have HR := Sec.mk hr
  have HX := Sec.mk hB
  have c0 : w.cell? ⟨g, 0, none⟩ = some (.slice A xs.length c) := hb.cell 0
  have c1 : w.cell? ⟨g, 1, none⟩ = some (.int .i64 (i : Int)) := hb.cell 1
  have f1 : w.frozen? ⟨g, 1, none⟩ = false := hb.frozen 1
  clear hb hr hB h
  by_cases hlt : i < xs.length
  · obtain ⟨ad, rfl, hx⟩ := HR.out.byte_at (fun _ _ => rfl) hlt
    have HD : Sec (nextD (xs.drop i) = (xs[i].toNat, xs.drop (i + 1))) := ⟨by rw [List.drop_eq_getElem_cons hlt]; rfl⟩
    have hxl := UInt8.toNat_lt xs[i]
    have hii : (i : Int) < (xs.length : Int) := by omega
    generalize xs[i].toNat = b at *
    go_enter Try.func39, Try.ntmps39
    go_wp2
    go_quiet (fail)
    go_wp2
    go_quiet (fail)
    go_wp2
    go_ret
    rw [HD.out]
    refine ⟨rfl, ⟨_, c, xs, i + 1, B, ?_, by omega, rfl, HR.out.mod (fun _ h => h) (fun k hk => ?_), HX.out, hl⟩, ((Mod.refl (fun k => k = g) w).drewN _).setCell (p := ⟨g, 1, none⟩) (fun _ => rfl) _⟩
    · rw [show ((i + 1 : Nat) : Int) = (i : Int) + 1 by omega]
      exact (HB.out.drewN _).set_ 1 _
    · exact Below.heap_setCell _ _ _ _ (by have := HX.out k hk; simp; omega)
  · obtain rfl : i = xs.length := by omega
    have HD : Sec (nextD (xs.drop xs.length) = (0, [])) := ⟨by rw [List.drop_length]; rfl⟩
    go_enter Try.func39, Try.ntmps39
    go_wp2
    go_quiet (fail)
    go_wp2
    go_ret
    rw [HD.out]
    refine ⟨rfl, ⟨_, c, xs, xs.length, B, HB.out.drewN _, by omega, by simp, HR.out.mod (fun _ h => h) (fun _ _ => rfl), HX.out, hl⟩, (Mod.refl _ _).drewN _⟩
end Go.Proofs.Ytciiejkfppnimaa

namespace Go.Proofs.Ytciiejkfppnimaa
set_option linter.unusedVariables false
open Mem
/-- the letter of bit k, 0 for none -/
def letOf (k : Nat) : Nat := if k = 0 then 82 else if k = 1 then 70 else if k = 2 then 84 else if k = 3 then 83 else if k = 4 then 68 else if k < 31 then 97 + k - 5 else 0
/-- the letters in their order, each with its bit -/
def lets : List (Nat × Nat) := [(68, 4), (70, 1), (82, 0), (83, 3), (84, 2)] ++ (List.range 26).map fun k => (97 + k, 5 + k)
def flagsL (f : Nat) : Bytes := (lets.filter fun p => f.testBit p.2).map fun p => UInt8.ofNat p.1
/-- the letters of the bits whose letter is b -/
def rowOf (f b : Nat) : Bytes := ((List.range 31).filter fun k => decide (letOf k = b) && f.testBit k).map fun _ => UInt8.ofNat b
theorem lets_len : lets.length = 31 := by decide
theorem lets_all : (List.range' 65 58).flatMap (fun b => ((List.range 31).filter fun k => decide (letOf k = b)).map fun k => (b, k)) = lets := by decide +kernel
theorem rowOf_all (f : Nat) : (List.range' 65 58).flatMap (rowOf f) = flagsL f := by
  unfold flagsL
  rw [← lets_all, List.filter_flatMap, List.map_flatMap]
  congr 1
  funext b
  unfold rowOf
  rw [List.filter_map, List.map_map, List.filter_filter]
  have : (fun k => decide (letOf k = b) && f.testBit k) = fun k => ((fun p : Nat × Nat => f.testBit p.2) ∘ fun k => (b, k)) k && decide (letOf k = b) := by funext k; simp [Bool.and_comm]
  rw [this]
  rfl
theorem flagsL_len (f : Nat) : (flagsL f).length ≤ 31 := by
  unfold flagsL
  rw [List.length_map, ← lets_len]
  exact List.length_filter_le _ _
/-- the first k letters' -/
def flagsTo (f k : Nat) : Bytes := ((lets.take k).filter fun p => f.testBit p.2).map fun p => UInt8.ofNat p.1
theorem flagsTo_all (f : Nat) : flagsTo f 31 = flagsL f := rfl
theorem flagsTo_zero (f : Nat) : flagsTo f 0 = [] := rfl
theorem flagsTo_succ (f : Nat) {k : Nat} (h : k < lets.length) : flagsTo f (k + 1) = flagsTo f k ++ (if f.testBit lets[k].2 then [UInt8.ofNat lets[k].1] else []) := by
  unfold flagsTo
  rw [List.take_succ_eq_append_getElem h, List.filter_append, List.map_append]
  congr 1
  cases hb : f.testBit lets[k].2 <;> simp [hb]
/-- rows of the bytes below b, then the row of b up to bit k -/
def rowsTo (f b : Nat) : Bytes := (List.range' 65 (b - 65)).flatMap (rowOf f)
def rowTo (f b k : Nat) : Bytes := ((List.range k).filter fun k => decide (letOf k = b) && f.testBit k).map fun _ => UInt8.ofNat b
theorem rowTo_zero (f b : Nat) : rowTo f b 0 = [] := rfl
theorem rowTo_succ (f b k : Nat) : rowTo f b (k + 1) = rowTo f b k ++ (if letOf k = b ∧ f.testBit k = true then [UInt8.ofNat b] else []) := by
  unfold rowTo
  rw [List.range_succ, List.filter_append, List.map_append]
  congr 1
  by_cases h : letOf k = b <;> cases hb : f.testBit k <;> simp [h, hb]
theorem rowsTo_start (f : Nat) : rowsTo f 65 = [] := rfl
theorem rowsTo_succ (f b : Nat) (h : 65 ≤ b) : rowsTo f (b + 1) = rowsTo f b ++ rowOf f b := by
  unfold rowsTo
  rw [show b + 1 - 65 = (b - 65) + 1 by omega, List.range'_concat, List.flatMap_append]
  simp only [List.flatMap_cons, List.flatMap_nil, List.append_nil]
  rw [show 65 + 1 * (b - 65) = b by omega]
theorem rowsTo_end (f : Nat) : rowsTo f 123 = flagsL f := rowOf_all f
theorem rowTo_len (f b k : Nat) : (rowTo f b k).length ≤ k := by
  unfold rowTo; rw [List.length_map]; exact Nat.le_trans (List.length_filter_le _ _) (by simp)
theorem rowsTo_len (f b : Nat) : (rowsTo f b).length ≤ 31 * (b - 65) := by
  by_cases h : b ≤ 65
  · have : b - 65 = 0 := by omega
    unfold rowsTo; rw [this]; simp
  · obtain ⟨d, rfl⟩ : ∃ d, b = 65 + d := ⟨b - 65, by omega⟩
    clear h
    induction d with
    | zero => simp [rowsTo]
    | succ d ih =>
      rw [show 65 + (d + 1) = (65 + d) + 1 by omega, rowsTo_succ f _ (by omega), List.length_append]
      have h1 := rowTo_len f (65 + d) 31
      have h2 : rowOf f (65 + d) = rowTo f (65 + d) 31 := rfl
      rw [h2]; omega
end Go.Proofs.Ytciiejkfppnimaa

namespace Go.Proofs.Ytciiejkfppnimaa
open Go.RowKit Mem
set_option linter.unusedVariables false

theorem flag_and {c : Nat} (h : c < 4294967296) : bits .and .u32 (c : Int) 1 = ((c % 2 : Nat) : Int) := by
  have hc : (BitVec.ofInt 32 (c : Int)).toNat = c := by rw [BitVec.toNat_ofInt]; omega
  show IntKind.u32.wrap ((BitVec.ofInt 32 (c : Int) &&& BitVec.ofInt 32 1).toNat : Int) = _
  rw [BitVec.toNat_and, hc, show (BitVec.ofInt 32 1).toNat = 1 from rfl, Nat.and_one_is_mod, IntKind.wrap_u32]
  omega





































theorem l4Has_calls (f : Nat) (hf : f < 4294967296) (k : Nat) (hk : k < 31) (w : World) : Calls Try.prog 67 #[.int .u32 (f : Int), .int .i64 (k : Int)] w (fun e w' => e = .returned (.bool (f.testBit k)) ∧ w' = w) := by
  have h5 : (bits .and .u32 ((f : Int) / 2 ^ k) 1 == 1) = f.testBit k := by
    rw [Nat.testBit_eq_decide_div_mod_eq]
    have e : ((f : Int) / 2 ^ k) = ((f / 2 ^ k : Nat) : Int) := by simp
    have hlt : f / 2 ^ k < 4294967296 := Nat.lt_of_le_of_lt (Nat.div_le_self _ _) hf
    rw [e, flag_and hlt]
    generalize f / 2 ^ k = g
    rcases (show g % 2 = 0 ∨ g % 2 = 1 by omega) with h | h <;> rw [h] <;> rfl
  generalize f.testBit k = b at *
  go_enter Try.func67, Try.ntmps67
  go_wp2
  go_ret
  exact ⟨rfl, rfl⟩

theorem letOf_lt (k : Nat) (hk : k < 31) : letOf k < 256 := by unfold letOf; repeat' split <;> try omega











































































end Go.Proofs.Ytciiejkfppnimaa

namespace Go.Proofs.Ytciiejkfppnimaa
set_option linter.unusedVariables false
open Mem
/-- the bits of the letters that are b, put into f -/
def orL (L : List (Nat × Nat)) (b f : Nat) : Nat := L.foldl (fun f p => if p.1 = b then f ||| 2 ^ p.2 else f) f
theorem orL_zero (L : List (Nat × Nat)) (b : Nat) : ∀ f, orL L b f = f ||| orL L b 0 := by
  induction L with
  | nil => intro f; simp [orL]
  | cons p L ih =>
    intro f
    have h1 : ∀ f, orL (p :: L) b f = orL L b (if p.1 = b then f ||| 2 ^ p.2 else f) := fun f => rfl
    rw [h1 f, h1 0]
    by_cases h : p.1 = b
    · rw [if_pos h, if_pos h, ih (f ||| 2 ^ p.2), ih (0 ||| 2 ^ p.2), Nat.zero_or, Nat.or_assoc]
    · rw [if_neg h, if_neg h, ih f]
theorem orL_take (L : List (Nat × Nat)) (b f : Nat) {k : Nat} (h : k < L.length) : orL (L.take (k + 1)) b f = if L[k].1 = b then orL (L.take k) b f ||| 2 ^ L[k].2 else orL (L.take k) b f := by
  unfold orL
  rw [List.take_succ_eq_append_getElem h, List.foldl_append]
  rfl
theorem orL_lt (L : List (Nat × Nat)) (hL : ∀ p, p ∈ L → p.2 < 31) (b : Nat) : ∀ f, f < 2147483648 → orL L b f < 2147483648 := by
  induction L with
  | nil => intro f h; exact h
  | cons p L ih =>
    intro f h
    have h1 : orL (p :: L) b f = orL L b (if p.1 = b then f ||| 2 ^ p.2 else f) := rfl
    rw [h1]
    refine ih (fun q hq => hL q (List.mem_cons_of_mem _ hq)) _ ?_
    split
    · exact Nat.or_lt_two_pow (n := 31) h (Nat.pow_lt_pow_right (by decide) (hL p (List.mem_cons_self ..)))
    · exact h
theorem lets_bits : ∀ p, p ∈ lets → p.2 < 31 := by decide
def specL : List (Nat × Nat) := (List.range 31).map fun k => (letOf k, k)
theorem specL_bits : ∀ p, p ∈ specL → p.2 < 31 := by decide
theorem specL_len : specL.length = 31 := by decide
theorem specL_at (k : Nat) (hk : k < specL.length) : specL[k] = (letOf k, k) := by
  have hk' : k < 31 := by rw [specL_len] at hk; exact hk
  have : specL[k]? = some (letOf k, k) := by unfold specL; rw [List.getElem?_map, List.getElem?_range hk']; rfl
  rw [List.getElem?_eq_getElem hk] at this
  exact Option.some.inj this
theorem same0 : ∀ b, b < 256 → orL specL b 0 = orL lets b 0 := by decide +kernel
theorem orL_same (b f : Nat) (hb : b < 256) : orL specL b f = orL lets b f := by rw [orL_zero, orL_zero lets, same0 b hb]
/-- all letters of a text -/
def bitsOf (xs : Bytes) : Nat := xs.foldl (fun f b => orL lets b.toNat f) 0
theorem bitsOf_snoc (xs : Bytes) {k : Nat} (h : k < xs.length) : bitsOf (xs.take (k + 1)) = orL lets xs[k].toNat (bitsOf (xs.take k)) := by
  unfold bitsOf
  rw [List.take_succ_eq_append_getElem h, List.foldl_append]; rfl
theorem bitsOf_lt (xs : Bytes) : bitsOf xs < 2147483648 := by
  unfold bitsOf
  have : ∀ (xs : Bytes) f, f < 2147483648 → xs.foldl (fun f b => orL lets b.toNat f) f < 2147483648 := by
    intro xs
    induction xs with
    | nil => intro f h; exact h
    | cons x xs ih => intro f h; exact ih _ (orL_lt _ lets_bits _ _ h)
  exact this xs 0 (by decide)
def LetL (xs : Bytes) : Bool × Int := if flagsL (bitsOf xs) = xs then (true, (bitsOf xs : Int)) else (false, 0)
theorem lets_low : ∀ p, p ∈ lets → p.1 < 128 := by decide
theorem flagsL_low (f : Nat) : ∀ b, b ∈ flagsL f → b.toNat < 128 := by
  intro b hb
  unfold flagsL at hb
  obtain ⟨p, hp, rfl⟩ := List.mem_map.1 hb
  have := lets_low p (List.mem_filter.1 hp).1
  rw [UInt8.toNat_ofNat']; omega
theorem LetL_long {xs : Bytes} (h : 31 < xs.length) : LetL xs = (false, 0) := if_neg fun he => by have := flagsL_len (bitsOf xs); rw [he] at this; omega
theorem LetL_high {xs : Bytes} (h : ¬ ∀ b, b ∈ xs → b.toNat < 128) (f : Nat) : flagsL f ≠ xs := fun he => h fun b hb => flagsL_low f b (he ▸ hb)
end Go.Proofs.Ytciiejkfppnimaa

namespace Go.Proofs.Ytciiejkfppnimaa
open Go.RowKit Mem
set_option linter.unusedVariables false

theorem u8Eq_run (a b : Int) (w : World) : (do eqGuard .eql 5 (.tmp 21) (.tmp 24) (.int .u8 a) (.int .u8 b); binOp .eql 5 (.int .u8 a) (.int .u8 b) : Sem Value).run Try.prog w = .ok (.bool (a == b)) w := by
  go_simp
theorem or_pow (g j : Nat) (hg : g < 2147483648) (hj : j < 31) : bits .or .u32 (g : Int) ((2 : Int) ^ j % 4294967296) = ((g ||| 2 ^ j : Nat) : Int) := by
  have h2 : 2 ^ j < 2 ^ 31 := Nat.pow_lt_pow_right (by decide) hj
  have ft : ∀ p : Nat, p < 4294967296 → (BitVec.ofInt 32 (p : Int)).toNat = p := fun p hp => by rw [BitVec.toNat_ofInt]; omega
  have ht : ∀ p : Nat, p < 2147483648 → ((p : Int) % 4294967296) = (p : Int) := fun p hp => by omega
  have e : ((2 : Int) ^ j % 4294967296) = ((2 ^ j : Nat) : Int) := by
    rw [show (2 : Int) ^ j = ((2 ^ j : Nat) : Int) by simp]; exact ht _ h2
  rw [e]
  have hlt : g ||| 2 ^ j < 2147483648 := Nat.or_lt_two_pow (n := 31) hg h2
  show IntKind.u32.wrap ((BitVec.ofInt 32 (g : Int) ||| BitVec.ofInt 32 ((2 ^ j : Nat) : Int)).toNat : Int) = _
  rw [BitVec.toNat_or, ft g (by omega), ft _ (Nat.lt_trans h2 (by decide)), IntKind.wrap_u32]
  exact ht _ hlt
def FlagsV (x : Bool × Int) : Value := .agg #[.bool x.1, .int .u32 x.2]


















































































































end Go.Proofs.Ytciiejkfppnimaa

namespace Go.Proofs.Ytciiejkfppnimaa
open Go.RowKit Mem
set_option linter.unusedVariables false
theorem wrap64_wrap (x : Int) : IntKind.i64.wrap (wrap64 x) = wrap64 x := by rw [IntKind.wrap_i64]; unfold wrap64; omega















































































































set_option maxHeartbeats 1000000 in
set_option maxRecDepth 100000 in
theorem l4Flags_calls {w : World} {g : Nat} {ys : Bytes} (h : Rdr w g ys) : Calls Try.prog 66 #[.pointer (some ⟨g, 0, none⟩)] w
    (fun e w' => ∃ (n : Nat) (zs : Bytes), e = .returned (.int .u32 (n : Int)) ∧ n < 2147483648 ∧ Rdr w' g zs ∧ Mod (· = g) w w') := by
  have HN := Sec.mk (next_calls h)
  have hc := nextD_lt ys
  generalize (nextD ys).1 = c at *
  generalize (nextD ys).2 = ys2 at *
  clear h
  by_cases h128 : 128 ≤ c
  · have hi : (128 : Int) ≤ (c : Int) := by omega
    by_cases h255 : c = 255
    · subst h255
      go_enter Try.func66, Try.ntmps66
      go_wp2_with fail
      refine HN.out.mono ?_
      rintro e w1 ⟨rfl, hr, hm⟩
      go_wp2
      go_ret
      exact ⟨2147483647, _, rfl, by decide, hr, hm⟩
    · have hn : ¬ (c : Int) = 255 := by omega
      have HO := Sec.mk (or_pow (c % 32) (5 + c % 26) (by omega) (by omega))
      have hlt : c % 32 ||| 2 ^ (5 + c % 26) < 2147483648 := Nat.or_lt_two_pow (n := 31) (by omega) (Nat.pow_lt_pow_right (by decide) (by omega))
      have ht : ((5 : Int) + (c : Int) % 26).toNat = 5 + c % 26 := by omega
      have ht0 : (0 : Int) ≤ (5 : Int) + (c : Int) % 26 := by omega
      have hcc : ((c % 32 : Nat) : Int) = (c : Int) % 32 := by omega
      rw [hcc] at HO
      clear hcc
      go_enter Try.func66, Try.ntmps66
      go_wp2_with fail
      refine HN.out.mono ?_
      rintro e w1 ⟨rfl, hr, hm⟩
      go_wp2
      go_ret
      exact ⟨_, _, by rw [← HO.out]; rfl, hlt, hr, hm⟩
  · have hi : ¬ (128 : Int) ≤ (c : Int) := by omega
    have hn : ¬ (c : Int) = 255 := by omega
    go_enter Try.func66, Try.ntmps66
    go_wp2_with fail
    refine HN.out.mono ?_
    rintro e w1 ⟨rfl, hr, hm⟩
    go_wp2
    go_ret
    exact ⟨c % 32, _, by first | rfl | (congr 2; omega), by omega, hr, hm⟩
end Go.Proofs.Ytciiejkfppnimaa
