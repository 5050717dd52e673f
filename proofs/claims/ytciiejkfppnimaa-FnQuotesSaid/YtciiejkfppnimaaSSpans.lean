/- The laws' helpers over Spans. -/
import Derived.Test.YtciiejkfppnimaaSSpan
import Derived.Test.YtciiejkfppnimaaFld
import Derived.Test.YtciiejkfppnimaaVal
import Derived.Test.YtciiejkfppnimaaMarkL
import Derived.Test.YtciiejkfppnimaaReg
import Derived.Test.YtciiejkfppnimaaProg
import Derived.WalkKit
namespace Go.Proofs.Ytciiejkfppnimaa
open Go.RowKit Mem
set_option linter.unusedVariables false
set_option linter.unusedSimpArgs false
abbrev SpansT := Bool × SpanST
abbrev dSpans : Ty SpansT := Ty.pair Ty.bool dSpanS
theorem rdSpans {w : World} {v : Value} {x : SpansT} (h : RdV true dSpans w v x) : ∃ v1, v = .agg #[.bool x.1, v1] ∧ RdV false dSpanS w v1 x.2 := by
  obtain ⟨cs, rfl, c0, c1, rfl, h0, h1⟩ := h
  obtain rfl := h0
  obtain ⟨A1, cp1, rfl, g1⟩ := h1
  exact ⟨_, rfl, ⟨_, rfl, A1, cp1, rfl, g1⟩⟩
theorem cellsSpans {w : World} {v : Value} {x : SpansT} (h : RdV true dSpans w v x) : ∃ A1 q1, v = .agg #[.bool x.1, .slice A1 x.2.length q1] := by
  obtain ⟨v1, rfl, k1⟩ := rdSpans h
  obtain ⟨A1, q1, rfl, _⟩ := k1.slice
  exact ⟨A1, q1, rfl⟩
theorem fldSpans0 : Fld dSpans 0 Ty.bool (fun x => x.1) (fun x y => (y, x.2)) := (Fld.fst (Fld.one rfl))
theorem fldSpans1 : Fld dSpans 1 dSpanS (fun x => x.2) (fun x y => (x.1, y)) := (Fld.snd (Fld.one rfl) rfl)
theorem mSpans {w : World} {x : SpansT} {F1 : List Nat} {v1 : Value} (o1 : Own dSpan 32 w F1 v1 x.2) : dSpans.M w (F1) x [.bool x.1, v1] :=
  ⟨_, _, [], _, rfl, rfl, (by simpa using o1.nd), ⟨rfl, rfl⟩, ⟨_, rfl, o1⟩⟩
theorem ofSpans {w : World} {lo hi : Nat} {x : SpansT} {v1 : Value} (h : OwI dSpan 32 w lo hi v1 x.2) : OwV true dSpans w lo hi (.agg #[.bool x.1, v1]) x := by
  obtain ⟨F, ho, hF⟩ := h
  exact ⟨_, _, rfl, mSpans ho, hF⟩
def mkSpans1 (k : Nat) (x : SpansT) : SpansT := (x.1, mkSpanS1 k x.2)
def cntSpans (x : SpansT) : Nat := cntSpanS x.2
theorem cntSpans_mk (k : Nat) (x : SpansT) : cntSpans (mkSpans1 k x) = cntSpans x := by simp only [cntSpans, mkSpans1, cntSpanS_mk]
theorem mkSpans1_idem (k k' : Nat) (x : SpansT) : mkSpans1 k' (mkSpans1 k x) = mkSpans1 k' x := by simp only [mkSpans1, cntSpanS_mk, mkSpanS1_idem]
end Go.Proofs.Ytciiejkfppnimaa
