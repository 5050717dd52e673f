/- The law FnQuotes returns true at every input that can be read as data; no further conditions. -/
import Derived.Test.YtciiejkfppnimaaRows
import Derived.Test.YtciiejkfppnimaaFnQuotesWalk
import Derived.Test.YtciiejkfppnimaaOpen
import Derived.Test.YtciiejkfppnimaaFacts
import Derived.WalkKit
import Derived.ProofKit
import Derived.OpenShut
import Derived.ShutString
import Derived.ChangeOld
import Derived.Below
import Derived.SizedLaws
import Derived.Carry
namespace Go.Proofs.Ytciiejkfppnimaa.fnQuotes
open Go.ChangeShapes Go.WideShapes Go.ChangeAt Go.RowKit Mem
open Go.ChangeMaps (open_string shut_string)
set_option linter.unusedVariables false
theorem own : ownKnob Try.prog.godebug = none := by kernel_rfl
theorem laidOut : laidOutB Try.prog = true := Facts.laidOut
set_option maxRecDepth 100000 in
theorem lifted (os : Os) (started : os.Started) (H : Type) (enc : TypeId × Value → H) :
    ReturnsInHanded {} Try.checked os 3 .any (Rows.fnQuotesSpec.pre6 enc Try.prog Try.f3 Rows.fnQuotesRow.domain false) (Rows.fnQuotesSpec.post enc Try.prog Try.f3 false true false false) := by
  refine returnsInHanded_of_change_sized (C := Try.checked) own started (by kernel_rfl) Try.func3
    (ChangeSpec.witness6 (enc := enc) (C := Try.checked) false ⟨#[], #[.slice none 0 0, .slice none 0 0], []⟩ 8 (by kernel_rfl) (by kernel_rfl) (by kernel_rfl) (by kernel_rfl)) ?_
  intro W base args ds gs before hval0 hW hcnd hsz0 _
  have hsz : (DataW.weightsEach Try.prog (Try.f3.params.toList ++ Rows.fnQuotesSpec.plain.varTypes Try.prog) (ds ++ gs)).all (· ≤ reachBytes) = true := hsz0
  have hval : ∀ (j : Nat) t v, Try.f3.params[j]? = some t → args[j]? = some v → Value.okWide Try.prog W .any base t v := hval0
  have hW' := hW
  obtain ⟨p, q, hA0, hV, rfl, hfz, hnd⟩ := hW
  have hA : DataW.TrodAll enc Try.prog W 0 (fun _ => true) true Try.f3.params.toList args.toList ds p := hA0
  rw [Try.params3] at hA hval hsz
  obtain ⟨v0, vs0, d0, ds0, p0, q0, hargs, rfl, rfl, h0, r0⟩ := trodAll_cons hA
  obtain ⟨v1, vs1, d1, ds1, p1, q1, rfl, rfl, rfl, h1, r1⟩ := trodAll_cons r0
  obtain ⟨rfl, rfl, rfl⟩ := trodAll_nil r1
  obtain rfl : args = #[v0, v1] := by cases args; simp_all
  obtain ⟨rfl, rfl⟩ := trodVars_none hV
  have k0 := h0
  have lt0 : ∀ x ∈ p0, x.block < W.heap.size := by obtain ⟨m, hm⟩ := k0; exact DataW.trod_lt m _ _ _ hm
  obtain ⟨A0, n0, c0, rfl⟩ := okWide_slice Try.underlying22 (hval 0 22 v0 rfl rfl)
  obtain ⟨f0, hf0⟩ := h0
  obtain ⟨xs0, A0', c0', e0, hc0, hm0, hr0⟩ := (opens_bytes).2.2 enc W 0 (fun _ => true) true f0 _ _ hf0
  obtain ⟨rfl, rfl, rfl⟩ : A0 = A0' ∧ n0 = xs0.length ∧ c0 = c0' := by simpa [Value.cells] using e0
  have k1 := h1
  have lt1 : ∀ x ∈ p1, x.block < W.heap.size := by obtain ⟨m, hm⟩ := k1; exact DataW.trod_lt m _ _ _ hm
  obtain ⟨A1, n1, c1, rfl⟩ := okWide_slice Try.underlying22 (hval 1 22 v1 rfl rfl)
  obtain ⟨f1, hf1⟩ := h1
  obtain ⟨xs1, A1', c1', e1, hc1, hm1, hr1⟩ := (opens_bytes).2.2 enc W 0 (fun _ => true) true f1 _ _ hf1
  obtain ⟨rfl, rfl, rfl⟩ : A1 = A1' ∧ n1 = xs1.length ∧ c1 = c1' := by simpa [Value.cells] using e1
  clear hA0 hval0 hsz0 hsz
  refine (lawFnQuotes_walk hr0 hc0 hr1 hc1).mono fun e W' ⟨he, hnew⟩ => ?_
  have bel := Mod.toBelow hnew
  subst he
  exact ⟨_, rfl, _, _, _, [], _, [], hW', trodAll_mk1 (shut_bool Try.underlying4 _), (trodAll_cons_mk (Below.trod laidOut (by kernel_rfl) (of_decide_eq_true (by kernel_rfl)) k0 bel lt0) (trodAll_cons_mk (Below.trod laidOut (by kernel_rfl) (of_decide_eq_true (by kernel_rfl)) k1 bel lt1) trodAll_mk0)), rfl, bel.frame _, fun h => by cases h⟩
theorem bt {a b : Bool} (h : a = true) (k : b = true) : (a && b) = true := by rw [h, k]; rfl
theorem fact0 : (Rows.fnQuotesRow.wf (OpenSpec.ofChange Rows.fnQuotesSpec)) = true := by kernel_rfl
theorem fact3 : (Try.f3.params.all (Try.prog.readableRec ·)) = true := by kernel_rfl
theorem fact4 : (namedTie Try.prog Rows.fnQuotesRow.named Rows.fnQuotesSpec.vars) = true := by kernel_rfl
theorem fact5 : ((Rows.fnQuotesRow.stops == [])) = true := by kernel_rfl
theorem fact7 : ((Rows.fnQuotesRow.knobs == [])) = true := by kernel_rfl
theorem fact9 : ((Rows.fnQuotesRow.inPlace == Try.prog.inPlace 3)) = true := by kernel_rfl
theorem fact10 : ((Rows.fnQuotesRow.unfollowed == Try.prog.unfollowed 3)) = true := by kernel_rfl
theorem fact11 : ((Rows.fnQuotesRow.recurses == Try.prog.recurses 3)) = true := by kernel_rfl
theorem fact12 : ((Rows.fnQuotesRow.named == Try.prog.varsNamed 3)) = true := by kernel_rfl
theorem fact13 : ((Rows.fnQuotesRow.maps == (Try.f3.params.toList ++ Rows.fnQuotesSpec.plain.varTypes Try.prog).any (Try.prog.mapsRec ·))) = true := by kernel_rfl
theorem fact14 : ((Rows.fnQuotesRow.ifaces == (Try.f3.params.toList ++ Rows.fnQuotesSpec.plain.varTypes Try.prog).any (Try.prog.ifacesRec ·))) = true := by kernel_rfl
theorem fact15 : ((Rows.fnQuotesRow.mapsOut == Try.prog.mapsAmong Try.f3.resultTypes.toList)) = true := by kernel_rfl
theorem fact16 : ((Rows.fnQuotesRow.loops == (Try.f3.params.toList ++ Rows.fnQuotesSpec.plain.varTypes Try.prog).any (Try.prog.loopsFrom ·))) = true := by kernel_rfl
theorem fact17 : ((Rows.fnQuotesRow.wideKeys == (Try.f3.params.toList ++ Rows.fnQuotesSpec.plain.varTypes Try.prog ++ Try.f3.resultTypes.toList).any (Try.prog.wideKeysFrom ·))) = true := by kernel_rfl
theorem fact18 : (Rows.fnQuotesSpec.vars.all (Try.prog.varReadable ·)) = true := by kernel_rfl
theorem fact19 : (Try.f3.resultTypes.all (fun t => Try.prog.readableRec t && decide (t < Try.prog.types.size))) = true := by kernel_rfl
theorem fact20 : ((Rows.fnQuotesRow.ifacesOut == Try.f3.resultTypes.toList.any (Try.prog.ifacesRec ·))) = true := by kernel_rfl
theorem fact21 : ((Rows.fnQuotesRow.loopsOut == Try.f3.resultTypes.toList.any (Try.prog.loopsFrom ·))) = true := by kernel_rfl
theorem fact22 : ((Rows.fnQuotesRow.plainKeys == Try.prog.plainKeys)) = true := by rw [Facts.keys]; rfl
theorem fact23 : (Rows.fnQuotesRow.shortTexts.isNone) = true := by kernel_rfl
theorem fact26 : ((Rows.fnQuotesRow.lifted == Try.prog.liftsFinal)) = true := by rw [Facts.lifts]; rfl
theorem fact27 : ((Try.prog.make == some Rows.fnQuotesRow.make)) = true := by rw [Facts.make]; rfl
theorem fact28 : ((Rows.fnQuotesRow.kinds == (if Rows.fnQuotesRow.domain.isEmpty then [] else Try.f3.params.toList.map fun t => match Try.prog.underlying t with | some (.int k) => some k | _ => none))) = true := by kernel_rfl
theorem fact29 : ((Rows.fnQuotesRow.pinned == Rows.fnQuotesRow.pinnedBy)) = true := by kernel_rfl
theorem fact30 : ((Rows.fnQuotesRow.veiled == (Try.f3.params.toList ++ Rows.fnQuotesSpec.plain.varTypes Try.prog ++ Try.f3.resultTypes.toList).any (Try.prog.veiledRec ·))) = true := by kernel_rfl
theorem fact31 : (Rows.fnQuotesRow.veiledFits Try.prog Try.f3.params.toList (Try.f3.params.toList ++ Rows.fnQuotesSpec.plain.varTypes Try.prog ++ Try.f3.resultTypes.toList)) = true := by kernel_rfl
set_option maxRecDepth 100000 in
theorem closed : joinedFacts Try.prog 3 Try.f3 Rows.fnQuotesSpec Rows.fnQuotesRow = true := (bt (bt (bt (bt (bt (bt (bt (bt (bt (bt (bt (bt (bt (bt (bt (bt (bt (bt (bt (bt (bt (bt (bt (bt (bt (bt (bt (bt (bt (bt (bt fact0 Facts.laidOut) Facts.rowed) fact3) fact4) fact5) Facts.stops) fact7) Facts.knobs) fact9) fact10) fact11) fact12) fact13) fact14) fact15) fact16) fact17) fact18) fact19) fact20) fact21) fact22) fact23) Facts.heard) Facts.enter) fact26) fact27) fact28) fact29) fact30) fact31)
theorem named : Try.prog.funcNamed Rows.fnQuotesRow.func = some 3 := by kernel_rfl
theorem inst : Try.f3.isInstance Try.prog Rows.fnQuotesRow.origin Rows.fnQuotesRow.targs := of_decide_eq_true (by kernel_rfl)
theorem wrap : Try.f3.isWrapper Try.prog Rows.fnQuotesRow.wrapper Rows.fnQuotesRow.mainSum := by unfold Func.isWrapper; first | (rw [if_pos (by decide +kernel)]; kernel_rfl) | (rw [if_neg (by decide +kernel)]; exact ⟨rfl, rfl⟩)
theorem over : Rows.fnQuotesRow.holds Try.pinned (OpenSpec.ofChange Rows.fnQuotesSpec) :=
  OpenClaim.holds_of_wide 3 Try.f3 rfl rfl rfl rfl rfl rfl rfl ⟨rfl, rfl, rfl, rfl, rfl⟩ rfl rfl rfl rfl rfl named Try.func3 closed inst wrap
    (fun os started H enc _ => lifted os started H enc)
theorem proved : Rows.FnQuotesSaid := over
#print axioms proved
end Go.Proofs.Ytciiejkfppnimaa.fnQuotes
namespace Go.Proofs.Ytciiejkfppnimaa
/-- The row, under a short name, for the claim. -/
theorem fnQuotes_holds : Rows.FnQuotesSaid := fnQuotes.proved
end Go.Proofs.Ytciiejkfppnimaa
