/- The law FnExactDiskValid returns true at every input that can be read as data; no further conditions. -/
import Derived.Test.YtinfibggdbakoaaRows
import Derived.Test.YtinfibggdbakoaaFnExactDiskValidWalk
import Derived.Test.YtinfibggdbakoaaOpen
import Derived.Test.YtinfibggdbakoaaFacts
import Derived.WalkKit
import Derived.ProofKit
import Derived.OpenShut
import Derived.ShutString
import Derived.ChangeOld
import Derived.Below
import Derived.SizedLaws
import Derived.Carry
namespace Go.Proofs.Ytinfibggdbakoaa.fnExactDiskValid
open Go.ChangeShapes Go.WideShapes Go.ChangeAt Go.RowKit Mem
open Go.ChangeMaps (open_string shut_string)
set_option linter.unusedVariables false
theorem own : ownKnob Try.prog.godebug = none := by kernel_rfl
theorem laidOut : laidOutB Try.prog = true := Facts.laidOut
set_option maxRecDepth 100000 in
theorem lifted (os : Os) (started : os.Started) (H : Type) (enc : TypeId × Value → H) :
    ReturnsInHanded {} Try.checked os 3 .any (Rows.fnExactDiskValidSpec.pre6 enc Try.prog Try.f3 Rows.fnExactDiskValidRow.domain false) (Rows.fnExactDiskValidSpec.post enc Try.prog Try.f3 false true false false) := by
  refine returnsInHanded_of_change_sized (C := Try.checked) own started (by kernel_rfl) Try.func3
    (ChangeSpec.witness6 (enc := enc) (C := Try.checked) false ⟨#[], #[.agg #[.slice none 0 0, .slice none 0 0, .slice none 0 0, .slice none 0 0, .int .i64 0]], []⟩ 8 (by kernel_rfl) (by kernel_rfl) (by kernel_rfl) (by kernel_rfl)) ?_
  intro W base args ds gs before hval0 hW hcnd hsz0 _
  have hsz : (DataW.weightsEach Try.prog (Try.f3.params.toList ++ Rows.fnExactDiskValidSpec.plain.varTypes Try.prog) (ds ++ gs)).all (· ≤ reachBytes) = true := hsz0
  have hval : ∀ (j : Nat) t v, Try.f3.params[j]? = some t → args[j]? = some v → Value.okWide Try.prog W .any base t v := hval0
  have hW' := hW
  obtain ⟨p, q, hA0, hV, rfl, hfz, hnd⟩ := hW
  have hA : DataW.TrodAll enc Try.prog W 0 (fun _ => true) true Try.f3.params.toList args.toList ds p := hA0
  rw [Try.params3] at hA hval hsz
  obtain ⟨v0, vs0, d0, ds0, p0, q0, hargs, rfl, rfl, h0, r0⟩ := trodAll_cons hA
  obtain ⟨rfl, rfl, rfl⟩ := trodAll_nil r0
  obtain rfl : args = #[v0] := by cases args; simp_all
  obtain ⟨rfl, rfl⟩ := trodVars_none hV
  have k0 := h0
  have lt0 : ∀ x ∈ p0, x.block < W.heap.size := by obtain ⟨m, hm⟩ := k0; exact DataW.trod_lt m _ _ _ hm
  obtain ⟨cs0, rfl, _⟩ := okWide_struct Try.underlying26 (hval 0 26 v0 rfl rfl)
  obtain ⟨f0, hf0⟩ := h0
  obtain ⟨x0, hK0⟩ := (opens_diskL).2.2 enc W 0 (fun _ => true) true f0 _ _ hf0
  obtain ⟨cs0⟩ := cs0
  replace hK0 := (show _ from hK0)
  clear hA0 hval0 hsz0 hsz
  refine (lawFnExactDiskValid_walk ⟨_, rfl, hK0⟩).mono fun e W' ⟨he, hnew⟩ => ?_
  have bel := Mod.toBelow hnew
  subst he
  exact ⟨_, rfl, _, _, _, [], _, [], hW', trodAll_mk1 (shut_bool Try.underlying4 _), (trodAll_cons_mk (Below.trod laidOut (by kernel_rfl) (of_decide_eq_true (by kernel_rfl)) k0 bel lt0) trodAll_mk0), rfl, bel.frame _, fun h => by cases h⟩
theorem bt {a b : Bool} (h : a = true) (k : b = true) : (a && b) = true := by rw [h, k]; rfl
theorem fact0 : (Rows.fnExactDiskValidRow.wf (OpenSpec.ofChange Rows.fnExactDiskValidSpec)) = true := by kernel_rfl
theorem fact3 : (Try.f3.params.all (Try.prog.readableRec ·)) = true := by kernel_rfl
theorem fact4 : (namedTie Try.prog Rows.fnExactDiskValidRow.named Rows.fnExactDiskValidSpec.vars) = true := by kernel_rfl
theorem fact5 : ((Rows.fnExactDiskValidRow.stops == [])) = true := by kernel_rfl
theorem fact7 : ((Rows.fnExactDiskValidRow.knobs == [])) = true := by kernel_rfl
theorem fact9 : ((Rows.fnExactDiskValidRow.inPlace == Try.prog.inPlace 3)) = true := by kernel_rfl
theorem fact10 : ((Rows.fnExactDiskValidRow.unfollowed == Try.prog.unfollowed 3)) = true := by kernel_rfl
theorem fact11 : ((Rows.fnExactDiskValidRow.recurses == Try.prog.recurses 3)) = true := by kernel_rfl
theorem fact12 : ((Rows.fnExactDiskValidRow.named == Try.prog.varsNamed 3)) = true := by kernel_rfl
theorem fact13 : ((Rows.fnExactDiskValidRow.maps == (Try.f3.params.toList ++ Rows.fnExactDiskValidSpec.plain.varTypes Try.prog).any (Try.prog.mapsRec ·))) = true := by kernel_rfl
theorem fact14 : ((Rows.fnExactDiskValidRow.ifaces == (Try.f3.params.toList ++ Rows.fnExactDiskValidSpec.plain.varTypes Try.prog).any (Try.prog.ifacesRec ·))) = true := by kernel_rfl
theorem fact15 : ((Rows.fnExactDiskValidRow.mapsOut == Try.prog.mapsAmong Try.f3.resultTypes.toList)) = true := by kernel_rfl
theorem fact16 : ((Rows.fnExactDiskValidRow.loops == (Try.f3.params.toList ++ Rows.fnExactDiskValidSpec.plain.varTypes Try.prog).any (Try.prog.loopsFrom ·))) = true := by kernel_rfl
theorem fact17 : ((Rows.fnExactDiskValidRow.wideKeys == (Try.f3.params.toList ++ Rows.fnExactDiskValidSpec.plain.varTypes Try.prog ++ Try.f3.resultTypes.toList).any (Try.prog.wideKeysFrom ·))) = true := by kernel_rfl
theorem fact18 : (Rows.fnExactDiskValidSpec.vars.all (Try.prog.varReadable ·)) = true := by kernel_rfl
theorem fact19 : (Try.f3.resultTypes.all (fun t => Try.prog.readableRec t && decide (t < Try.prog.types.size))) = true := by kernel_rfl
theorem fact20 : ((Rows.fnExactDiskValidRow.ifacesOut == Try.f3.resultTypes.toList.any (Try.prog.ifacesRec ·))) = true := by kernel_rfl
theorem fact21 : ((Rows.fnExactDiskValidRow.loopsOut == Try.f3.resultTypes.toList.any (Try.prog.loopsFrom ·))) = true := by kernel_rfl
theorem fact22 : ((Rows.fnExactDiskValidRow.plainKeys == Try.prog.plainKeys)) = true := by rw [Facts.keys]; rfl
theorem fact23 : (Rows.fnExactDiskValidRow.shortTexts.isNone) = true := by kernel_rfl
theorem fact26 : ((Rows.fnExactDiskValidRow.lifted == Try.prog.liftsFinal)) = true := by rw [Facts.lifts]; rfl
theorem fact27 : ((Try.prog.make == some Rows.fnExactDiskValidRow.make)) = true := by rw [Facts.make]; rfl
theorem fact28 : ((Rows.fnExactDiskValidRow.kinds == (if Rows.fnExactDiskValidRow.domain.isEmpty then [] else Try.f3.params.toList.map fun t => match Try.prog.underlying t with | some (.int k) => some k | _ => none))) = true := by kernel_rfl
theorem fact29 : ((Rows.fnExactDiskValidRow.pinned == Rows.fnExactDiskValidRow.pinnedBy)) = true := by kernel_rfl
theorem fact30 : ((Rows.fnExactDiskValidRow.veiled == (Try.f3.params.toList ++ Rows.fnExactDiskValidSpec.plain.varTypes Try.prog ++ Try.f3.resultTypes.toList).any (Try.prog.veiledRec ·))) = true := by kernel_rfl
theorem fact31 : (Rows.fnExactDiskValidRow.veiledFits Try.prog Try.f3.params.toList (Try.f3.params.toList ++ Rows.fnExactDiskValidSpec.plain.varTypes Try.prog ++ Try.f3.resultTypes.toList)) = true := by kernel_rfl
set_option maxRecDepth 100000 in
theorem closed : joinedFacts Try.prog 3 Try.f3 Rows.fnExactDiskValidSpec Rows.fnExactDiskValidRow = true := (bt (bt (bt (bt (bt (bt (bt (bt (bt (bt (bt (bt (bt (bt (bt (bt (bt (bt (bt (bt (bt (bt (bt (bt (bt (bt (bt (bt (bt (bt (bt fact0 Facts.laidOut) Facts.rowed) fact3) fact4) fact5) Facts.stops) fact7) Facts.knobs) fact9) fact10) fact11) fact12) fact13) fact14) fact15) fact16) fact17) fact18) fact19) fact20) fact21) fact22) fact23) Facts.heard) Facts.enter) fact26) fact27) fact28) fact29) fact30) fact31)
theorem named : Try.prog.funcNamed Rows.fnExactDiskValidRow.func = some 3 := by kernel_rfl
theorem inst : Try.f3.isInstance Try.prog Rows.fnExactDiskValidRow.origin Rows.fnExactDiskValidRow.targs := of_decide_eq_true (by kernel_rfl)
theorem wrap : Try.f3.isWrapper Try.prog Rows.fnExactDiskValidRow.wrapper Rows.fnExactDiskValidRow.mainSum := by unfold Func.isWrapper; first | (rw [if_pos (by decide +kernel)]; kernel_rfl) | (rw [if_neg (by decide +kernel)]; exact ⟨rfl, rfl⟩)
theorem over : Rows.fnExactDiskValidRow.holds Try.pinned (OpenSpec.ofChange Rows.fnExactDiskValidSpec) :=
  OpenClaim.holds_of_wide 3 Try.f3 rfl rfl rfl rfl rfl rfl rfl ⟨rfl, rfl, rfl, rfl, rfl⟩ rfl rfl rfl rfl rfl named Try.func3 closed inst wrap
    (fun os started H enc _ => lifted os started H enc)
theorem proved : Rows.FnExactDiskValidSaid := over
#print axioms proved
end Go.Proofs.Ytinfibggdbakoaa.fnExactDiskValid
namespace Go.Proofs.Ytinfibggdbakoaa
/-- The row, under a short name, for the claim. -/
theorem fnExactDiskValid_holds : Rows.FnExactDiskValidSaid := fnExactDiskValid.proved
end Go.Proofs.Ytinfibggdbakoaa
