/- The law FnPieces returns true at every input that can be read as data; no further conditions. -/
import Derived.Test.YtciiejkfppnimaaRows
import Derived.Test.YtciiejkfppnimaaPk16
import Derived.Test.YtciiejkfppnimaaPk4
import Derived.Test.YtciiejkfppnimaaPk17
import Derived.WalkKit
import Derived.ProofKit
import Derived.OpenShut
import Derived.ShutString
import Derived.ChangeOld
import Derived.Below
import Derived.SizedLaws
import Derived.Carry
import Derived.HandedShaped
namespace Go.Proofs.Ytciiejkfppnimaa.fnPieces
open Go.ChangeShapes Go.WideShapes Go.ChangeAt Go.RowKit Mem
open Go.ChangeMaps (open_string shut_string)
set_option linter.unusedVariables false
theorem own : ownKnob Try.prog.godebug = none := by kernel_rfl
theorem laidOut : laidOutB Try.prog = true := Facts.laidOut
set_option maxRecDepth 100000 in
theorem lifted (os : Os) (started : os.Started) (H : Type) (enc : TypeId × Value → H) :
    ReturnsInHanded {} Try.checked os 5 .any (Rows.fnPiecesSpec.pre6 enc Try.prog Try.f5 Rows.fnPiecesRow.domain false) (Rows.fnPiecesSpec.post enc Try.prog Try.f5 false true false false) := by
  refine returnsInHanded_of_change_shaped (C := Try.checked) own started (by kernel_rfl) Try.func5
    (ChangeSpec.witness6 (enc := enc) (C := Try.checked) false ⟨#[], #[.slice none 0 0], []⟩ 8 (by kernel_rfl) (by kernel_rfl) (by kernel_rfl) (by kernel_rfl)) ?_
  intro W base args ds gs before hval0 hW hcnd hsz0 hShape _
  have hsz : (DataW.weightsEach Try.prog (Try.f5.params.toList ++ Rows.fnPiecesSpec.plain.varTypes Try.prog) (ds ++ gs)).all (· ≤ reachBytes) = true := hsz0
  have hval : ∀ (j : Nat) t v, Try.f5.params[j]? = some t → args[j]? = some v → Value.okWide Try.prog W .any base t v := hval0
  have hW' := hW
  obtain ⟨p, q, hA0, hV, rfl, hfz, hnd⟩ := hW
  have hA : DataW.TrodAll enc Try.prog W 0 (fun _ => true) true Try.f5.params.toList args.toList ds p := hA0
  rw [Try.params5] at hA hval hsz
  obtain ⟨v0, vs0, d0, ds0, p0, q0, hargs, rfl, rfl, h0, r0⟩ := trodAll_cons hA
  obtain ⟨rfl, rfl, rfl⟩ := trodAll_nil r0
  obtain rfl : args = #[v0] := by cases args; simp_all
  obtain ⟨rfl, rfl⟩ := trodVars_none hV
  have k0 := h0
  have lt0 : ∀ x ∈ p0, x.block < W.heap.size := by obtain ⟨m, hm⟩ := k0; exact DataW.trod_lt m _ _ _ hm
  obtain ⟨A0, n0, c0, rfl⟩ := okWide_slice Try.underlying22 (hval 0 22 v0 rfl rfl)
  obtain ⟨f0, hf0⟩ := h0
  obtain ⟨xs0, A0', c0', e0, hc0, hm0, hr0⟩ := (opens_bytes).2.2 enc W 0 (fun _ => true) true f0 _ _ hf0
  obtain ⟨rfl, rfl, rfl⟩ : A0 = A0' ∧ n0 = xs0.length ∧ c0 = c0' := by simpa [Value.cells] using e0
  clear hA0 hval0 hsz0 hsz
  refine (lawFnPieces_walk (intAt0_of_shaped hShape) hr0 hc0).mono fun e W' ⟨he, hnew⟩ => ?_
  have bel := Mod.toBelow hnew
  subst he
  exact ⟨_, rfl, _, _, _, [], _, [], hW', trodAll_mk1 (shut_bool Try.underlying4 _), (trodAll_cons_mk (Below.trod laidOut (by kernel_rfl) (of_decide_eq_true (by kernel_rfl)) k0 bel lt0) trodAll_mk0), rfl, bel.frame _, fun h => by cases h⟩
theorem bt {a b : Bool} (h : a = true) (k : b = true) : (a && b) = true := by rw [h, k]; rfl
theorem fact0 : (Rows.fnPiecesRow.wf (OpenSpec.ofChange Rows.fnPiecesSpec)) = true := by kernel_rfl
theorem fact3 : (Try.f5.params.all (Try.prog.readableRec ·)) = true := by kernel_rfl
theorem fact4 : (namedTie Try.prog Rows.fnPiecesRow.named Rows.fnPiecesSpec.vars) = true := by kernel_rfl
theorem fact5 : ((Rows.fnPiecesRow.stops == [])) = true := by kernel_rfl
theorem fact7 : ((Rows.fnPiecesRow.knobs == [])) = true := by kernel_rfl
theorem fact9 : ((Rows.fnPiecesRow.inPlace == Try.prog.inPlace 5)) = true := by kernel_rfl
theorem fact10 : ((Rows.fnPiecesRow.unfollowed == Try.prog.unfollowed 5)) = true := by kernel_rfl
theorem fact11 : ((Rows.fnPiecesRow.recurses == Try.prog.recurses 5)) = true := by kernel_rfl
theorem fact12 : ((Rows.fnPiecesRow.named == Try.prog.varsNamed 5)) = true := by kernel_rfl
theorem fact13 : ((Rows.fnPiecesRow.maps == (Try.f5.params.toList ++ Rows.fnPiecesSpec.plain.varTypes Try.prog).any (Try.prog.mapsRec ·))) = true := by kernel_rfl
theorem fact14 : ((Rows.fnPiecesRow.ifaces == (Try.f5.params.toList ++ Rows.fnPiecesSpec.plain.varTypes Try.prog).any (Try.prog.ifacesRec ·))) = true := by kernel_rfl
theorem fact15 : ((Rows.fnPiecesRow.mapsOut == Try.prog.mapsAmong Try.f5.resultTypes.toList)) = true := by kernel_rfl
theorem fact16 : ((Rows.fnPiecesRow.loops == (Try.f5.params.toList ++ Rows.fnPiecesSpec.plain.varTypes Try.prog).any (Try.prog.loopsFrom ·))) = true := by kernel_rfl
theorem fact17 : ((Rows.fnPiecesRow.wideKeys == (Try.f5.params.toList ++ Rows.fnPiecesSpec.plain.varTypes Try.prog ++ Try.f5.resultTypes.toList).any (Try.prog.wideKeysFrom ·))) = true := by kernel_rfl
theorem fact18 : (Rows.fnPiecesSpec.vars.all (Try.prog.varReadable ·)) = true := by kernel_rfl
theorem fact19 : (Try.f5.resultTypes.all (fun t => Try.prog.readableRec t && decide (t < Try.prog.types.size))) = true := by kernel_rfl
theorem fact20 : ((Rows.fnPiecesRow.ifacesOut == Try.f5.resultTypes.toList.any (Try.prog.ifacesRec ·))) = true := by kernel_rfl
theorem fact21 : ((Rows.fnPiecesRow.loopsOut == Try.f5.resultTypes.toList.any (Try.prog.loopsFrom ·))) = true := by kernel_rfl
theorem fact22 : ((Rows.fnPiecesRow.plainKeys == Try.prog.plainKeys)) = true := by rw [Facts.keys]; rfl
theorem fact23 : (Rows.fnPiecesRow.shortTexts.isNone) = true := by kernel_rfl
theorem fact26 : ((Rows.fnPiecesRow.lifted == Try.prog.liftsFinal)) = true := by rw [Facts.lifts]; rfl
theorem fact27 : ((Try.prog.make == some Rows.fnPiecesRow.make)) = true := by rw [Facts.make]; rfl
theorem fact28 : ((Rows.fnPiecesRow.kinds == (if Rows.fnPiecesRow.domain.isEmpty then [] else Try.f5.params.toList.map fun t => match Try.prog.underlying t with | some (.int k) => some k | _ => none))) = true := by kernel_rfl
theorem fact29 : ((Rows.fnPiecesRow.pinned == Rows.fnPiecesRow.pinnedBy)) = true := by kernel_rfl
theorem fact30 : ((Rows.fnPiecesRow.veiled == (Try.f5.params.toList ++ Rows.fnPiecesSpec.plain.varTypes Try.prog ++ Try.f5.resultTypes.toList).any (Try.prog.veiledRec ·))) = true := by kernel_rfl
theorem fact31 : (Rows.fnPiecesRow.veiledFits Try.prog Try.f5.params.toList (Try.f5.params.toList ++ Rows.fnPiecesSpec.plain.varTypes Try.prog ++ Try.f5.resultTypes.toList)) = true := by kernel_rfl
set_option maxRecDepth 100000 in
theorem closed : joinedFacts Try.prog 5 Try.f5 Rows.fnPiecesSpec Rows.fnPiecesRow = true := (bt (bt (bt (bt (bt (bt (bt (bt (bt (bt (bt (bt (bt (bt (bt (bt (bt (bt (bt (bt (bt (bt (bt (bt (bt (bt (bt (bt (bt (bt (bt fact0 Facts.laidOut) Facts.rowed) fact3) fact4) fact5) Facts.stops) fact7) Facts.knobs) fact9) fact10) fact11) fact12) fact13) fact14) fact15) fact16) fact17) fact18) fact19) fact20) fact21) fact22) fact23) Facts.heard) Facts.enter) fact26) fact27) fact28) fact29) fact30) fact31)
theorem named : Try.prog.funcNamed Rows.fnPiecesRow.func = some 5 := by kernel_rfl
theorem inst : Try.f5.isInstance Try.prog Rows.fnPiecesRow.origin Rows.fnPiecesRow.targs := of_decide_eq_true (by kernel_rfl)
theorem wrap : Try.f5.isWrapper Try.prog Rows.fnPiecesRow.wrapper Rows.fnPiecesRow.mainSum := by unfold Func.isWrapper; first | (rw [if_pos (by decide +kernel)]; kernel_rfl) | (rw [if_neg (by decide +kernel)]; exact ⟨rfl, rfl⟩)
theorem over : Rows.fnPiecesRow.holds Try.pinned (OpenSpec.ofChange Rows.fnPiecesSpec) :=
  OpenClaim.holds_of_wide 5 Try.f5 rfl rfl rfl rfl rfl rfl rfl ⟨rfl, rfl, rfl, rfl, rfl⟩ rfl rfl rfl rfl rfl named Try.func5 closed inst wrap
    (fun os started H enc _ => lifted os started H enc)
theorem proved : Rows.FnPiecesSaid := over
#print axioms proved
end Go.Proofs.Ytciiejkfppnimaa.fnPieces
namespace Go.Proofs.Ytciiejkfppnimaa
/-- The row, under a short name, for the claim. -/
theorem fnPieces_holds : Rows.FnPiecesSaid := fnPieces.proved
end Go.Proofs.Ytciiejkfppnimaa
