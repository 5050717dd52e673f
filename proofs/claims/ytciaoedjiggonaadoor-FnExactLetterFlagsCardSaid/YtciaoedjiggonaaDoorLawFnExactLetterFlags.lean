/- The law FnExactLetterFlags returns true at every input that can be read as data; package variables start as the program's text lays them. -/
import Derived.Test.YtciaoedjiggonaaDoorRows
import Derived.Test.YtciaoedjiggonaaDoorFnExactLetterFlagsWalk
import Derived.Test.YtciaoedjiggonaaDoorOpen
import Derived.Test.YtciaoedjiggonaaDoorFacts
import Derived.Test.YtciaoedjiggonaaDoorCards
import Derived.Test.YtciaoedjiggonaaDoorTie
import Derived.WalkKit
import Derived.ProofKit
import Derived.OpenShut
import Derived.ShutString
import Derived.ChangeOld
import Derived.Below
import Derived.SizedLaws
import Derived.Carry
import Derived.LaidMore
import Derived.Lay
import Derived.SevenTiedAt
import Derived.OpenVars
import Derived.Stop.Joined
namespace Go.Proofs.YtciaoedjiggonaaDoor.fnExactLetterFlags
open Go.ChangeShapes Go.WideShapes Go.ChangeAt Go.RowKit Mem
open Go.ChangeMaps (open_string shut_string)
set_option linter.unusedVariables false
theorem own : ownKnob Tryd.prog.godebug = none := by kernel_rfl
theorem laidOut : laidOutB Tryd.prog = true := Facts.laidOut
set_option maxRecDepth 100000 in
theorem lifted (os : Os) (started : os.Started) (H : Type) (enc : TypeId × Value → H) :
    ReturnsInHanded {} Tryd.checked os 4 .any (fun w args => (Rows.fnExactLetterFlagsSpec.pre enc Tryd.prog Tryd.f4 Rows.fnExactLetterFlagsRow.domain false w args ∧ laidMetH Tryd.prog Rows.fnExactLetterFlagsRow.laid w) ∧ sizedMet enc Tryd.prog Tryd.f4 (OpenSpec.ofChange Rows.fnExactLetterFlagsSpec) false w args) (Rows.fnExactLetterFlagsSpec.post enc Tryd.prog Tryd.f4 false true false false) := by
  refine returnsInHanded_of_change_and (C := Tryd.checked) (X := fun w _ => laidMetH Tryd.prog Rows.fnExactLetterFlagsRow.laid w) (fun _ _ _ hh h => h.of_heap hh) own started (by kernel_rfl) Tryd.func4
    (ChangeSpec.witness_shaped (enc := enc) (C := Tryd.checked) (os := os) (X := fun w _ => laidMetH Tryd.prog Rows.fnExactLetterFlagsRow.laid w) false (World.laidAll Tryd.prog os Rows.fnExactLetterFlagsRow.laid) #[.string ByteArray.empty] 8 (World.laidAll_os _ _ _)
      (World.shaped_of_ZipB (by kernel_rfl) (by kernel_rfl)) (by kernel_rfl) (by kernel_rfl) (by kernel_rfl)
      (by rw [MakeChecks.laidMetH_plain _ _ _ (by kernel_rfl)]; exact laidMet_laidAll _ (by kernel_rfl) (by kernel_rfl))) ?_
  intro W base args ds gs before hval0 hW hcnd hsz0 hLaid _
  have hsz : (DataW.weightsEach Tryd.prog (Tryd.f4.params.toList ++ Rows.fnExactLetterFlagsSpec.plain.varTypes Tryd.prog) (ds ++ gs)).all (· ≤ reachBytes) = true := hsz0
  have hval : ∀ (j : Nat) t v, Tryd.f4.params[j]? = some t → args[j]? = some v → Value.okWide Tryd.prog W .any base t v := hval0
  have hW' := hW
  obtain ⟨p, q, hA0, hV, rfl, hfz, hnd⟩ := hW
  have hA : DataW.TrodAll enc Tryd.prog W 0 (fun _ => true) true Tryd.f4.params.toList args.toList ds p := hA0
  rw [Tryd.params4] at hA hval hsz
  obtain ⟨v0, vs0, d0, ds0, p0, q0, hargs, rfl, rfl, h0, r0⟩ := trodAll_cons hA
  obtain ⟨rfl, rfl, rfl⟩ := trodAll_nil r0
  obtain rfl : args = #[v0] := by cases args; simp_all
  rw [MakeChecks.laidMetH_plain _ _ _ (by kernel_rfl)] at hLaid
  have hVars := hV
  obtain ⟨gg, gt, gcs, gf, gd, gp, rfl, -, -, -, -, -⟩ := trodVars_one hV
  have hLet := lettersAt_of_laid hLaid
  have k0 := h0
  have lt0 : ∀ x ∈ p0, x.block < W.heap.size := by obtain ⟨m, hm⟩ := k0; exact DataW.trod_lt m _ _ _ hm
  obtain ⟨s0, rfl, rfl, rfl, y0⟩ := open_string Tryd.underlying9 (hval 0 9 v0 rfl rfl) h0
  have w0 : s0.size ≤ 140737488351232 := by
    have z := sized_string hsz (j := 0) (t := 9) rfl rfl
    rw [Array.length_toList] at z
    exact z
  clear hA0 hval0 hsz0 hsz
  refine (lawFnExactLetterFlags_walk hLet s0 w0).mono fun e W' ⟨he, hnew⟩ => ?_
  have bel := Mod.toBelow hnew
  subst he
  exact ⟨_, rfl, _, _, _, [], _, _, hW', trodAll_mk1 (shut_bool Tryd.underlying4 _), (trodAll_cons_mk (Below.trod laidOut (by kernel_rfl) (of_decide_eq_true (by kernel_rfl)) k0 bel lt0) trodAll_mk0), bel.trodVars laidOut (by kernel_rfl) hVars, bel.frame _, fun h => by cases h⟩
theorem bt {a b : Bool} (h : a = true) (k : b = true) : (a && b) = true := by rw [h, k]; rfl
theorem fact0 : (Rows.fnExactLetterFlagsRow.wf (OpenSpec.ofChange Rows.fnExactLetterFlagsSpec)) = true := by kernel_rfl
theorem fact3 : (Tryd.f4.params.all (Tryd.prog.readableRec ·)) = true := by kernel_rfl
theorem fact4 : (namedTie Tryd.prog Rows.fnExactLetterFlagsRow.named Rows.fnExactLetterFlagsSpec.vars) = true := by kernel_rfl
theorem fact5 : ((Rows.fnExactLetterFlagsRow.stops == [])) = true := by kernel_rfl
theorem fact7 : ((Rows.fnExactLetterFlagsRow.knobs == [])) = true := by kernel_rfl
theorem fact9 : ((Rows.fnExactLetterFlagsRow.inPlace == Tryd.prog.inPlace 4)) = true := by kernel_rfl
theorem fact10 : ((Rows.fnExactLetterFlagsRow.unfollowed == Tryd.prog.unfollowed 4)) = true := by kernel_rfl
theorem fact11 : ((Rows.fnExactLetterFlagsRow.recurses == Tryd.prog.recurses 4)) = true := by kernel_rfl
theorem fact12 : ((Rows.fnExactLetterFlagsRow.named == Tryd.prog.varsNamed 4)) = true := by kernel_rfl
theorem fact13 : ((Rows.fnExactLetterFlagsRow.maps == (Tryd.f4.params.toList ++ Rows.fnExactLetterFlagsSpec.plain.varTypes Tryd.prog).any (Tryd.prog.mapsRec ·))) = true := by kernel_rfl
theorem fact14 : ((Rows.fnExactLetterFlagsRow.ifaces == (Tryd.f4.params.toList ++ Rows.fnExactLetterFlagsSpec.plain.varTypes Tryd.prog).any (Tryd.prog.ifacesRec ·))) = true := by kernel_rfl
theorem fact15 : ((Rows.fnExactLetterFlagsRow.mapsOut == Tryd.prog.mapsAmong Tryd.f4.resultTypes.toList)) = true := by kernel_rfl
theorem fact16 : ((Rows.fnExactLetterFlagsRow.loops == (Tryd.f4.params.toList ++ Rows.fnExactLetterFlagsSpec.plain.varTypes Tryd.prog).any (Tryd.prog.loopsFrom ·))) = true := by kernel_rfl
theorem fact17 : ((Rows.fnExactLetterFlagsRow.wideKeys == (Tryd.f4.params.toList ++ Rows.fnExactLetterFlagsSpec.plain.varTypes Tryd.prog ++ Tryd.f4.resultTypes.toList).any (Tryd.prog.wideKeysFrom ·))) = true := by kernel_rfl
theorem fact18 : (Rows.fnExactLetterFlagsSpec.vars.all (Tryd.prog.varReadable ·)) = true := by kernel_rfl
theorem fact19 : (Tryd.f4.resultTypes.all (fun t => Tryd.prog.readableRec t && decide (t < Tryd.prog.types.size))) = true := by kernel_rfl
theorem fact20 : ((Rows.fnExactLetterFlagsRow.ifacesOut == Tryd.f4.resultTypes.toList.any (Tryd.prog.ifacesRec ·))) = true := by kernel_rfl
theorem fact21 : ((Rows.fnExactLetterFlagsRow.loopsOut == Tryd.f4.resultTypes.toList.any (Tryd.prog.loopsFrom ·))) = true := by kernel_rfl
theorem fact22 : ((Rows.fnExactLetterFlagsRow.plainKeys == Tryd.prog.plainKeys)) = true := by rw [Facts.keys]; rfl
theorem fact23 : (Rows.fnExactLetterFlagsRow.shortTexts.isNone) = true := by kernel_rfl
theorem fact26 : ((Rows.fnExactLetterFlagsRow.lifted == Tryd.prog.liftsFinal)) = true := by rw [Facts.lifts]; rfl
theorem fact27 : ((Tryd.prog.make == some Rows.fnExactLetterFlagsRow.make)) = true := by rw [Facts.make]; rfl
theorem fact28 : ((Rows.fnExactLetterFlagsRow.kinds == (if Rows.fnExactLetterFlagsRow.domain.isEmpty then [] else Tryd.f4.params.toList.map fun t => match Tryd.prog.underlying t with | some (.int k) => some k | _ => none))) = true := by kernel_rfl
theorem fact29 : ((Rows.fnExactLetterFlagsRow.pinned == Rows.fnExactLetterFlagsRow.pinnedBy)) = true := by kernel_rfl
theorem fact30 : ((Rows.fnExactLetterFlagsRow.veiled == (Tryd.f4.params.toList ++ Rows.fnExactLetterFlagsSpec.plain.varTypes Tryd.prog ++ Tryd.f4.resultTypes.toList).any (Tryd.prog.veiledRec ·))) = true := by kernel_rfl
theorem fact31 : (Rows.fnExactLetterFlagsRow.veiledFits Tryd.prog Tryd.f4.params.toList (Tryd.f4.params.toList ++ Rows.fnExactLetterFlagsSpec.plain.varTypes Tryd.prog ++ Tryd.f4.resultTypes.toList)) = true := by kernel_rfl
set_option maxRecDepth 100000 in
theorem closed : joinedFacts Tryd.prog 4 Tryd.f4 Rows.fnExactLetterFlagsSpec Rows.fnExactLetterFlagsRow = true := (bt (bt (bt (bt (bt (bt (bt (bt (bt (bt (bt (bt (bt (bt (bt (bt (bt (bt (bt (bt (bt (bt (bt (bt (bt (bt (bt (bt (bt (bt (bt fact0 Facts.laidOut) Facts.rowed) fact3) fact4) fact5) Facts.stops) fact7) Facts.knobs) fact9) fact10) fact11) fact12) fact13) fact14) fact15) fact16) fact17) fact18) fact19) fact20) fact21) fact22) fact23) Facts.heard) Facts.enter) fact26) fact27) fact28) fact29) fact30) fact31)
theorem named : Tryd.prog.funcNamed Rows.fnExactLetterFlagsRow.func = some 4 := by kernel_rfl
theorem inst : Tryd.f4.isInstance Tryd.prog Rows.fnExactLetterFlagsRow.origin Rows.fnExactLetterFlagsRow.targs := of_decide_eq_true (by kernel_rfl)
theorem wrap : Tryd.f4.isWrapper Tryd.prog Rows.fnExactLetterFlagsRow.wrapper Rows.fnExactLetterFlagsRow.mainSum := by unfold Func.isWrapper; first | (rw [if_pos (by decide +kernel)]; kernel_rfl) | (rw [if_neg (by decide +kernel)]; exact ⟨rfl, rfl⟩)
theorem over : Rows.fnExactLetterFlagsRow.holds Tryd.pinned (OpenSpec.ofChange Rows.fnExactLetterFlagsSpec) :=
  OpenClaim.holds_of_wide 4 Tryd.f4 rfl rfl rfl rfl rfl rfl rfl ⟨rfl, rfl, rfl, rfl, rfl⟩ rfl rfl rfl rfl rfl named Tryd.func4 closed inst wrap
    (fun os started H enc _ => lifted os started H enc)
theorem proved : Rows.FnExactLetterFlagsCardSaid :=
  Claim7.holds_tied_plain_at .later [] [.widerDeep] true (true, "3d90164d84311c2720276f92df4f6996eedb8e640d5cf5a6b0dca2dc7ce1c1c3") false over (fun _ h => by cases h) (by kernel_rfl) (fun _ h => by cases h) fnExactLetterFlags_row_tie rfl ⟨rfl, rfl⟩ (by kernel_rfl) rfl
    (fun f fn hf hfn => by
      obtain rfl : f = 4 := Option.some.inj ((show Tryd.prog.funcNamed Rows.fnExactLetterFlagsRow.func = some 4 by kernel_rfl).symm.trans hf) |>.symm
      obtain rfl : fn = Tryd.f4 := (Option.some.inj (Tryd.func4.symm.trans hfn)).symm
      exact ⟨by kernel_rfl, fun j t ht => by
        rw [Tryd.params4] at ht
        have hm : t ∈ Tryd.f4.params.toList := by rw [Tryd.params4]; simpa using Array.mem_of_getElem? ht
        have hall : (Tryd.f4.params.toList.all fun u => !Tryd.prog.wantsStandIn u) = true := by kernel_rfl
        exact (show Tryd.prog.wantsStandIn t = false by simpa using List.all_eq_true.1 hall t hm)⟩)
    (by kernel_rfl)
#print axioms proved
end Go.Proofs.YtciaoedjiggonaaDoor.fnExactLetterFlags
namespace Go.Proofs.YtciaoedjiggonaaDoor
/-- The row, under a short name, for the claim. -/
theorem fnExactLetterFlags_holds : Rows.FnExactLetterFlagsCardSaid := fnExactLetterFlags.proved
end Go.Proofs.YtciaoedjiggonaaDoor
