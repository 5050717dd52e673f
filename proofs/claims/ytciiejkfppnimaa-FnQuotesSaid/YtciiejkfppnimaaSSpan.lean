/- The laws' helpers over Span and over slices of it. -/
import Derived.Test.YtciiejkfppnimaaFld
import Derived.Test.YtciiejkfppnimaaVal
import Derived.Test.YtciiejkfppnimaaMarkL
import Derived.Test.YtciiejkfppnimaaReg
import Derived.Test.YtciiejkfppnimaaMarkI
import Derived.Test.YtciiejkfppnimaaProg
import Derived.WalkKit
namespace Go.Proofs.Ytciiejkfppnimaa
open Go.RowKit Mem
set_option linter.unusedVariables false
set_option linter.unusedSimpArgs false
abbrev SpanT := Int × (Int × Bytes)
abbrev dSpan : Ty SpanT := Ty.pair (Ty.int .i64) (Ty.pair (Ty.int .i64) dBS)
theorem rdSpan {w : World} {v : Value} {x : SpanT} (h : RdV true dSpan w v x) : ∃ v2, v = .agg #[.int .i64 x.1, .int .i64 x.2.1, v2] ∧ RdV false dBS w v2 x.2.2 := by
  obtain ⟨cs, rfl, c0, r0, rfl, h0, c1, c2, rfl, h1, h2⟩ := h
  obtain ⟨rfl, g0⟩ := h0
  obtain ⟨rfl, g1⟩ := h1
  obtain ⟨A2, cp2, rfl, g2⟩ := h2
  exact ⟨_, rfl, ⟨_, rfl, A2, cp2, rfl, g2⟩⟩
theorem cellsSpan {w : World} {v : Value} {x : SpanT} (h : RdV true dSpan w v x) : ∃ A2 q2, v = .agg #[.int .i64 x.1, .int .i64 x.2.1, .slice A2 x.2.2.length q2] := by
  obtain ⟨v2, rfl, k2⟩ := rdSpan h
  obtain ⟨A2, q2, rfl, _⟩ := k2.slice
  exact ⟨A2, q2, rfl⟩
theorem fldSpan0 : Fld dSpan 0 (Ty.int .i64) (fun x => x.1) (fun x y => (y, x.2)) := (Fld.fst (Fld.one rfl))
theorem fldSpan1 : Fld dSpan 1 (Ty.int .i64) (fun x => x.2.1) (fun x y => (x.1, y, x.2.2)) := (Fld.snd (Fld.fst (Fld.one rfl)) rfl)
theorem fldSpan2 : Fld dSpan 2 dBS (fun x => x.2.2) (fun x y => (x.1, x.2.1, y)) := (Fld.snd (Fld.snd (Fld.one rfl) rfl) rfl)
theorem eltSpan : Elt Try.prog 32 dSpan.sz (.agg #[.int .i64 0, .int .i64 0, .slice none 0 0]) := Elt.of (b := 40) (by kernel_rfl) rfl (by decide) (by decide)
theorem mSpan {w : World} {x : SpanT} {F2 : List Nat} {v2 : Value} (g0 : IntKind.i64.wrap x.1 = x.1) (g1 : IntKind.i64.wrap x.2.1 = x.2.1) (o2 : Own Ty.byte 5 w F2 v2 x.2.2) : dSpan.M w (F2) x [.int .i64 x.1, .int .i64 x.2.1, v2] :=
  ⟨_, _, [], _, rfl, rfl, (by simpa using o2.nd), ⟨rfl, rfl, g0⟩, ⟨_, _, [], _, rfl, rfl, (by simpa using o2.nd), ⟨rfl, rfl, g1⟩, ⟨_, rfl, o2⟩⟩⟩
theorem ofSpan {w : World} {lo hi : Nat} {x : SpanT} {v2 : Value} (g0 : IntKind.i64.wrap x.1 = x.1) (g1 : IntKind.i64.wrap x.2.1 = x.2.1) (h : OwI Ty.byte 5 w lo hi v2 x.2.2) : OwV true dSpan w lo hi (.agg #[.int .i64 x.1, .int .i64 x.2.1, v2]) x := by
  obtain ⟨F, ho, hF⟩ := h
  exact ⟨_, _, rfl, mSpan g0 g1 ho, hF⟩
def mkSpan1 (k : Nat) (x : SpanT) : SpanT := (((k : Nat) : Int), ((k : Nat) : Int) + 1, mkBS1 (k + 2) x.2.2)
def cntSpan (x : SpanT) : Nat := 1 + 1 + cntBS x.2.2
theorem cntSpan_mk (k : Nat) (x : SpanT) : cntSpan (mkSpan1 k x) = cntSpan x := by simp only [cntSpan, mkSpan1, cntBS_mk]
theorem mkSpan1_idem (k k' : Nat) (x : SpanT) : mkSpan1 k' (mkSpan1 k x) = mkSpan1 k' x := by simp only [mkSpan1, cntBS_mk, mkBS1_idem]
abbrev SpanST := List SpanT
abbrev dSpanS : Ty SpanST := Ty.slice 32 dSpan
def cntSpanS (xs : SpanST) : Nat := preS cntSpan xs xs.length
def mkSpanS1 (k : Nat) (xs : SpanST) : SpanST := markL mkSpan1 cntSpan k xs
theorem cntSpanS_mk (k : Nat) (xs : SpanST) : cntSpanS (mkSpanS1 k xs) = cntSpanS xs := by unfold cntSpanS mkSpanS1; rw [preS_mark _ _ cntSpan_mk, markL_len]
theorem mkSpanS1_idem (k k' : Nat) (xs : SpanST) : mkSpanS1 k' (mkSpanS1 k xs) = mkSpanS1 k' xs := markL_idem _ _ cntSpan_mk mkSpan1_idem k k' xs
theorem idxSpanS (ad : Addr) (m c k : Nat) (h : k < m) (w : World) : (Instr.indexAt 27 (.slice (some ad) m c) (.int .i64 (k : Int))).run Try.prog w = .ok (.pointer (some (ad.add (k * 3)))) w := by
  have h0 : (0 : Int) ≤ (k : Int) := by omega
  have h1 : (k : Int) < (m : Int) := by omega
  go_simp
end Go.Proofs.Ytciiejkfppnimaa
