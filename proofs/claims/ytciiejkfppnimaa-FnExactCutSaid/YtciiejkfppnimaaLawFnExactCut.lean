/- The law FnExactCut returns true at every input that can be read as data; no further conditions. -/
import Derived.Test.YtciiejkfppnimaaRows
import Derived.Test.YtciiejkfppnimaaPk13
import Derived.Test.YtciiejkfppnimaaPk5
import Derived.Test.YtciiejkfppnimaaPk14
import Derived.WalkKit
import Derived.ProofKit
import Derived.OpenShut
import Derived.ShutString
import Derived.ChangeOld
import Derived.Below
import Derived.SizedLaws
import Derived.Carry
import Derived.HandedShaped
namespace Go.Proofs.Ytciiejkfppnimaa.fnExactCut
open Go.ChangeShapes Go.WideShapes Go.ChangeAt Go.RowKit Mem
open Go.ChangeMaps (open_string shut_string)
set_option linter.unusedVariables false
theorem own : ownKnob Try.prog.godebug = none := by kernel_rfl
theorem laidOut : laidOutB Try.prog = true := Facts.laidOut
set_option maxRecDepth 100000 in
theorem lifted (os : Os) (started : os.Started) (H : Type) (enc : TypeId × Value → H) :
    ReturnsInHanded {} Try.checked os 4 .any (Rows.fnExactCutSpec.pre6 enc Try.prog Try.f4 Rows.fnExactCutRow.domain false) (Rows.fnExactCutSpec.post enc Try.prog Try.f4 false true false false) := by
  refine returnsInHanded_of_change_shaped (C := Try.checked) own started (by kernel_rfl) Try.func4
    (ChangeSpec.witness6 (enc := enc) (C := Try.checked) false ⟨#[], #[.bool false, .slice none 0 0], []⟩ 8 (by kernel_rfl) (by kernel_rfl) (by kernel_rfl) (by kernel_rfl)) ?_
  intro W base args ds gs before hval0 hW hcnd hsz0 hShape _
  have hsz : (DataW.weightsEach Try.prog (Try.f4.params.toList ++ Rows.fnExactCutSpec.plain.varTypes Try.prog) (ds ++ gs)).all (· ≤ reachBytes) = true := hsz0
  have hval : ∀ (j : Nat) t v, Try.f4.params[j]? = some t → args[j]? = some v → Value.okWide Try.prog W .any base t v := hval0
  have hW' := hW
  obtain ⟨p, q, hA0, hV, rfl, hfz, hnd⟩ := hW
  have hA : DataW.TrodAll enc Try.prog W 0 (fun _ => true) true Try.f4.params.toList args.toList ds p := hA0
  rw [Try.params4] at hA hval hsz
  obtain ⟨v0, vs0, d0, ds0, p0, q0, hargs, rfl, rfl, h0, r0⟩ := trodAll_cons hA
  obtain ⟨v1, vs1, d1, ds1, p1, q1, rfl, rfl, rfl, h1, r1⟩ := trodAll_cons r0
  obtain ⟨rfl, rfl, rfl⟩ := trodAll_nil r1
  obtain rfl : args = #[v0, v1] := by cases args; simp_all
  obtain ⟨rfl, rfl⟩ := trodVars_none hV
  have k0 := h0
  have lt0 : ∀ x ∈ p0, x.block < W.heap.size := by obtain ⟨m, hm⟩ := k0; exact DataW.trod_lt m _ _ _ hm
  obtain ⟨b0, rfl, rfl, rfl⟩ := open_bool Try.underlying4 (hval 0 4 v0 rfl rfl) h0
  have k1 := h1
  have lt1 : ∀ x ∈ p1, x.block < W.heap.size := by obtain ⟨m, hm⟩ := k1; exact DataW.trod_lt m _ _ _ hm
  obtain ⟨A1, n1, c1, rfl⟩ := okWide_slice Try.underlying22 (hval 1 22 v1 rfl rfl)
  obtain ⟨f1, hf1⟩ := h1
  obtain ⟨xs1, A1', c1', e1, hc1, hm1, hr1⟩ := (opens_bytes).2.2 enc W 0 (fun _ => true) true f1 _ _ hf1
  obtain ⟨rfl, rfl, rfl⟩ : A1 = A1' ∧ n1 = xs1.length ∧ c1 = c1' := by simpa [Value.cells] using e1
  clear hA0 hval0 hsz0 hsz
  refine (lawFnExactCut_walk (intAt0_of_shaped hShape) b0 (RdV.of_row hr1 hc1 hm1)).mono fun e W' ⟨he, hnew⟩ => ?_
  have bel := Mod.toBelow hnew
  subst he
  exact ⟨_, rfl, _, _, _, [], _, [], hW', trodAll_mk1 (shut_bool Try.underlying4 _), (trodAll_cons_mk (Below.trod laidOut (by kernel_rfl) (of_decide_eq_true (by kernel_rfl)) k0 bel lt0) (trodAll_cons_mk (Below.trod laidOut (by kernel_rfl) (of_decide_eq_true (by kernel_rfl)) k1 bel lt1) trodAll_mk0)), rfl, bel.frame _, fun h => by cases h⟩
theorem bt {a b : Bool} (h : a = true) (k : b = true) : (a && b) = true := by rw [h, k]; rfl
theorem fact0 : (Rows.fnExactCutRow.wf (OpenSpec.ofChange Rows.fnExactCutSpec)) = true := by kernel_rfl
theorem fact3 : (Try.f4.params.all (Try.prog.readableRec ·)) = true := by kernel_rfl
theorem fact4 : (namedTie Try.prog Rows.fnExactCutRow.named Rows.fnExactCutSpec.vars) = true := by kernel_rfl
theorem fact5 : ((Rows.fnExactCutRow.stops == [])) = true := by kernel_rfl
theorem fact7 : ((Rows.fnExactCutRow.knobs == [])) = true := by kernel_rfl
theorem fact9 : ((Rows.fnExactCutRow.inPlace == Try.prog.inPlace 4)) = true := by kernel_rfl
theorem fact10 : ((Rows.fnExactCutRow.unfollowed == Try.prog.unfollowed 4)) = true := by kernel_rfl
theorem fact11 : ((Rows.fnExactCutRow.recurses == Try.prog.recurses 4)) = true := by kernel_rfl
theorem fact12 : ((Rows.fnExactCutRow.named == Try.prog.varsNamed 4)) = true := by kernel_rfl
theorem fact13 : ((Rows.fnExactCutRow.maps == (Try.f4.params.toList ++ Rows.fnExactCutSpec.plain.varTypes Try.prog).any (Try.prog.mapsRec ·))) = true := by kernel_rfl
theorem fact14 : ((Rows.fnExactCutRow.ifaces == (Try.f4.params.toList ++ Rows.fnExactCutSpec.plain.varTypes Try.prog).any (Try.prog.ifacesRec ·))) = true := by kernel_rfl
theorem fact15 : ((Rows.fnExactCutRow.mapsOut == Try.prog.mapsAmong Try.f4.resultTypes.toList)) = true := by kernel_rfl
theorem fact16 : ((Rows.fnExactCutRow.loops == (Try.f4.params.toList ++ Rows.fnExactCutSpec.plain.varTypes Try.prog).any (Try.prog.loopsFrom ·))) = true := by kernel_rfl
theorem fact17 : ((Rows.fnExactCutRow.wideKeys == (Try.f4.params.toList ++ Rows.fnExactCutSpec.plain.varTypes Try.prog ++ Try.f4.resultTypes.toList).any (Try.prog.wideKeysFrom ·))) = true := by kernel_rfl
theorem fact18 : (Rows.fnExactCutSpec.vars.all (Try.prog.varReadable ·)) = true := by kernel_rfl
theorem fact19 : (Try.f4.resultTypes.all (fun t => Try.prog.readableRec t && decide (t < Try.prog.types.size))) = true := by kernel_rfl
theorem fact20 : ((Rows.fnExactCutRow.ifacesOut == Try.f4.resultTypes.toList.any (Try.prog.ifacesRec ·))) = true := by kernel_rfl
theorem fact21 : ((Rows.fnExactCutRow.loopsOut == Try.f4.resultTypes.toList.any (Try.prog.loopsFrom ·))) = true := by kernel_rfl
theorem fact22 : ((Rows.fnExactCutRow.plainKeys == Try.prog.plainKeys)) = true := by rw [Facts.keys]; rfl
theorem fact23 : (Rows.fnExactCutRow.shortTexts.isNone) = true := by kernel_rfl
theorem fact26 : ((Rows.fnExactCutRow.lifted == Try.prog.liftsFinal)) = true := by rw [Facts.lifts]; rfl
theorem fact27 : ((Try.prog.make == some Rows.fnExactCutRow.make)) = true := by rw [Facts.make]; rfl
theorem fact28 : ((Rows.fnExactCutRow.kinds == (if Rows.fnExactCutRow.domain.isEmpty then [] else Try.f4.params.toList.map fun t => match Try.prog.underlying t with | some (.int k) => some k | _ => none))) = true := by kernel_rfl
theorem fact29 : ((Rows.fnExactCutRow.pinned == Rows.fnExactCutRow.pinnedBy)) = true := by kernel_rfl
theorem fact30 : ((Rows.fnExactCutRow.veiled == (Try.f4.params.toList ++ Rows.fnExactCutSpec.plain.varTypes Try.prog ++ Try.f4.resultTypes.toList).any (Try.prog.veiledRec ·))) = true := by kernel_rfl
theorem fact31 : (Rows.fnExactCutRow.veiledFits Try.prog Try.f4.params.toList (Try.f4.params.toList ++ Rows.fnExactCutSpec.plain.varTypes Try.prog ++ Try.f4.resultTypes.toList)) = true := by kernel_rfl
set_option maxRecDepth 100000 in
theorem closed : joinedFacts Try.prog 4 Try.f4 Rows.fnExactCutSpec Rows.fnExactCutRow = true := (bt (bt (bt (bt (bt (bt (bt (bt (bt (bt (bt (bt (bt (bt (bt (bt (bt (bt (bt (bt (bt (bt (bt (bt (bt (bt (bt (bt (bt (bt (bt fact0 Facts.laidOut) Facts.rowed) fact3) fact4) fact5) Facts.stops) fact7) Facts.knobs) fact9) fact10) fact11) fact12) fact13) fact14) fact15) fact16) fact17) fact18) fact19) fact20) fact21) fact22) fact23) Facts.heard) Facts.enter) fact26) fact27) fact28) fact29) fact30) fact31)
theorem named : Try.prog.funcNamed Rows.fnExactCutRow.func = some 4 := by kernel_rfl
theorem inst : Try.f4.isInstance Try.prog Rows.fnExactCutRow.origin Rows.fnExactCutRow.targs := of_decide_eq_true (by kernel_rfl)
theorem wrap : Try.f4.isWrapper Try.prog Rows.fnExactCutRow.wrapper Rows.fnExactCutRow.mainSum := by unfold Func.isWrapper; first | (rw [if_pos (by decide +kernel)]; kernel_rfl) | (rw [if_neg (by decide +kernel)]; exact ⟨rfl, rfl⟩)
theorem over : Rows.fnExactCutRow.holds Try.pinned (OpenSpec.ofChange Rows.fnExactCutSpec) :=
  OpenClaim.holds_of_wide 4 Try.f4 rfl rfl rfl rfl rfl rfl rfl ⟨rfl, rfl, rfl, rfl, rfl⟩ rfl rfl rfl rfl rfl named Try.func4 closed inst wrap
    (fun os started H enc _ => lifted os started H enc)
theorem proved : Rows.FnExactCutSaid := over
#print axioms proved
end Go.Proofs.Ytciiejkfppnimaa.fnExactCut
namespace Go.Proofs.Ytciiejkfppnimaa
/-- The row, under a short name, for the claim. -/
theorem fnExactCut_holds : Rows.FnExactCutSaid := fnExactCut.proved
end Go.Proofs.Ytciiejkfppnimaa
