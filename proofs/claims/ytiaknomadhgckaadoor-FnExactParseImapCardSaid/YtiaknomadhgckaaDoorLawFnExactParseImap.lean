/- The law FnExactParseImap returns true at every input that can be read as data; package variables start as the program's text lays them. -/
import Derived.Test.YtiaknomadhgckaaDoorRows
import Derived.Test.YtiaknomadhgckaaDoorPk14
import Derived.Test.YtiaknomadhgckaaDoorPk8
import Derived.Test.YtiaknomadhgckaaDoorPk15
import Derived.Test.YtiaknomadhgckaaDoorCards
import Derived.Test.YtiaknomadhgckaaDoorTie
import Derived.WalkKit
import Derived.ProofKit
import Derived.OpenShut
import Derived.ShutString
import Derived.ChangeOld
import Derived.Below
import Derived.SizedLaws
import Derived.Carry
import Derived.LaidMore
import Derived.Lay
import Derived.SevenTiedAt
import Derived.OpenVars
import Derived.Stop.Joined
namespace Go.Proofs.YtiaknomadhgckaaDoor.fnExactParseImap
open Go.ChangeShapes Go.WideShapes Go.ChangeAt Go.RowKit Mem
open Go.ChangeMaps (open_string shut_string)
set_option linter.unusedVariables false
theorem own : ownKnob Tryd.prog.godebug = none := by kernel_rfl
theorem laidOut : laidOutB Tryd.prog = true := Facts.laidOut
set_option maxRecDepth 100000 in
theorem lifted (os : Os) (started : os.Started) (H : Type) (enc : TypeId × Value → H) :
    ReturnsInHanded {} Tryd.checked os 4 .any (fun w args => (Rows.fnExactParseImapSpec.pre enc Tryd.prog Tryd.f4 Rows.fnExactParseImapRow.domain false w args ∧ laidMetH Tryd.prog Rows.fnExactParseImapRow.laid w) ∧ sizedMet enc Tryd.prog Tryd.f4 (OpenSpec.ofChange Rows.fnExactParseImapSpec) false w args) (Rows.fnExactParseImapSpec.post enc Tryd.prog Tryd.f4 false true false false) := by
  refine handed_shaped (C := Tryd.checked) (X := fun w _ => laidMetH Tryd.prog Rows.fnExactParseImapRow.laid w) (fun _ _ _ hh h => h.of_heap hh) own started (by kernel_rfl) Tryd.func4
    (ChangeSpec.witness_shaped (enc := enc) (C := Tryd.checked) (os := os) (X := fun w _ => laidMetH Tryd.prog Rows.fnExactParseImapRow.laid w) false (World.laidAll Tryd.prog os Rows.fnExactParseImapRow.laid) #[.agg #[.slice none 0 0, .slice none 0 0, .bool false, .bool false]] 8 (World.laidAll_os _ _ _)
      (World.shaped_of_ZipB (by kernel_rfl) (by kernel_rfl)) (by kernel_rfl) (by kernel_rfl) (by kernel_rfl)
      (by rw [MakeChecks.laidMetH_plain _ _ _ (by kernel_rfl)]; exact laidMet_laidAll _ (by kernel_rfl) (by kernel_rfl))) ?_
  intro W base args ds gs before hval0 hW hcnd hsz0 hLaid hShape _
  have hsz : (DataW.weightsEach Tryd.prog (Tryd.f4.params.toList ++ Rows.fnExactParseImapSpec.plain.varTypes Tryd.prog) (ds ++ gs)).all (· ≤ reachBytes) = true := hsz0
  have hval : ∀ (j : Nat) t v, Tryd.f4.params[j]? = some t → args[j]? = some v → Value.okWide Tryd.prog W .any base t v := hval0
  have hW' := hW
  obtain ⟨p, q, hA0, hV, rfl, hfz, hnd⟩ := hW
  have hA : DataW.TrodAll enc Tryd.prog W 0 (fun _ => true) true Tryd.f4.params.toList args.toList ds p := hA0
  rw [Tryd.params4] at hA hval hsz
  obtain ⟨v0, vs0, d0, ds0, p0, q0, hargs, rfl, rfl, h0, r0⟩ := trodAll_cons hA
  obtain ⟨rfl, rfl, rfl⟩ := trodAll_nil r0
  obtain rfl : args = #[v0] := by cases args; simp_all
  rw [MakeChecks.laidMetH_plain _ _ _ (by kernel_rfl)] at hLaid
  have hVars := hV
  obtain ⟨gg, gt, gcs, gf, gd, gp, rfl, -, -, -, -, -⟩ := trodVars_one hV
  have hLet := names1_of_laid hLaid hShape
  have k0 := h0
  have lt0 : ∀ x ∈ p0, x.block < W.heap.size := by obtain ⟨m, hm⟩ := k0; exact DataW.trod_lt m _ _ _ hm
  obtain ⟨cs0, rfl, _⟩ := okWide_struct Tryd.underlying34 (hval 0 34 v0 rfl rfl)
  obtain ⟨f0, hf0⟩ := h0
  obtain ⟨x0, hK0⟩ := (opens_unitL).2.2 enc W 0 (fun _ => true) true f0 _ _ hf0
  obtain ⟨cs0⟩ := cs0
  replace hK0 := (show _ from hK0)
  clear hA0 hval0 hsz0 hsz
  refine (lawFnExactParseImap_walk hLet ⟨_, rfl, hK0⟩).mono fun e W' ⟨he, hnew⟩ => ?_
  have bel := Mod.toBelow hnew
  subst he
  exact ⟨_, rfl, _, _, _, [], _, _, hW', trodAll_mk1 (shut_bool Tryd.underlying4 _), (trodAll_cons_mk (Below.trod laidOut (by kernel_rfl) (of_decide_eq_true (by kernel_rfl)) k0 bel lt0) trodAll_mk0), bel.trodVars laidOut (by kernel_rfl) hVars, bel.frame _, fun h => by cases h⟩
theorem bt {a b : Bool} (h : a = true) (k : b = true) : (a && b) = true := by rw [h, k]; rfl
theorem fact0 : (Rows.fnExactParseImapRow.wf (OpenSpec.ofChange Rows.fnExactParseImapSpec)) = true := by kernel_rfl
theorem fact3 : (Tryd.f4.params.all (Tryd.prog.readableRec ·)) = true := by kernel_rfl
theorem fact4 : (namedTie Tryd.prog Rows.fnExactParseImapRow.named Rows.fnExactParseImapSpec.vars) = true := by kernel_rfl
theorem fact5 : ((Rows.fnExactParseImapRow.stops == [])) = true := by kernel_rfl
theorem fact7 : ((Rows.fnExactParseImapRow.knobs == [])) = true := by kernel_rfl
theorem fact9 : ((Rows.fnExactParseImapRow.inPlace == Tryd.prog.inPlace 4)) = true := by kernel_rfl
theorem fact10 : ((Rows.fnExactParseImapRow.unfollowed == Tryd.prog.unfollowed 4)) = true := by kernel_rfl
theorem fact11 : ((Rows.fnExactParseImapRow.recurses == Tryd.prog.recurses 4)) = true := by kernel_rfl
theorem fact12 : ((Rows.fnExactParseImapRow.named == Tryd.prog.varsNamed 4)) = true := by kernel_rfl
theorem fact13 : ((Rows.fnExactParseImapRow.maps == (Tryd.f4.params.toList ++ Rows.fnExactParseImapSpec.plain.varTypes Tryd.prog).any (Tryd.prog.mapsRec ·))) = true := by kernel_rfl
theorem fact14 : ((Rows.fnExactParseImapRow.ifaces == (Tryd.f4.params.toList ++ Rows.fnExactParseImapSpec.plain.varTypes Tryd.prog).any (Tryd.prog.ifacesRec ·))) = true := by kernel_rfl
theorem fact15 : ((Rows.fnExactParseImapRow.mapsOut == Tryd.prog.mapsAmong Tryd.f4.resultTypes.toList)) = true := by kernel_rfl
theorem fact16 : ((Rows.fnExactParseImapRow.loops == (Tryd.f4.params.toList ++ Rows.fnExactParseImapSpec.plain.varTypes Tryd.prog).any (Tryd.prog.loopsFrom ·))) = true := by kernel_rfl
theorem fact17 : ((Rows.fnExactParseImapRow.wideKeys == (Tryd.f4.params.toList ++ Rows.fnExactParseImapSpec.plain.varTypes Tryd.prog ++ Tryd.f4.resultTypes.toList).any (Tryd.prog.wideKeysFrom ·))) = true := by kernel_rfl
theorem fact18 : (Rows.fnExactParseImapSpec.vars.all (Tryd.prog.varReadable ·)) = true := by kernel_rfl
theorem fact19 : (Tryd.f4.resultTypes.all (fun t => Tryd.prog.readableRec t && decide (t < Tryd.prog.types.size))) = true := by kernel_rfl
theorem fact20 : ((Rows.fnExactParseImapRow.ifacesOut == Tryd.f4.resultTypes.toList.any (Tryd.prog.ifacesRec ·))) = true := by kernel_rfl
theorem fact21 : ((Rows.fnExactParseImapRow.loopsOut == Tryd.f4.resultTypes.toList.any (Tryd.prog.loopsFrom ·))) = true := by kernel_rfl
theorem fact22 : ((Rows.fnExactParseImapRow.plainKeys == Tryd.prog.plainKeys)) = true := by rw [Facts.keys]; rfl
theorem fact23 : (Rows.fnExactParseImapRow.shortTexts.isNone) = true := by kernel_rfl
theorem fact26 : ((Rows.fnExactParseImapRow.lifted == Tryd.prog.liftsFinal)) = true := by rw [Facts.lifts]; rfl
theorem fact27 : ((Tryd.prog.make == some Rows.fnExactParseImapRow.make)) = true := by rw [Facts.make]; rfl
theorem fact28 : ((Rows.fnExactParseImapRow.kinds == (if Rows.fnExactParseImapRow.domain.isEmpty then [] else Tryd.f4.params.toList.map fun t => match Tryd.prog.underlying t with | some (.int k) => some k | _ => none))) = true := by kernel_rfl
theorem fact29 : ((Rows.fnExactParseImapRow.pinned == Rows.fnExactParseImapRow.pinnedBy)) = true := by kernel_rfl
theorem fact30 : ((Rows.fnExactParseImapRow.veiled == (Tryd.f4.params.toList ++ Rows.fnExactParseImapSpec.plain.varTypes Tryd.prog ++ Tryd.f4.resultTypes.toList).any (Tryd.prog.veiledRec ·))) = true := by kernel_rfl
theorem fact31 : (Rows.fnExactParseImapRow.veiledFits Tryd.prog Tryd.f4.params.toList (Tryd.f4.params.toList ++ Rows.fnExactParseImapSpec.plain.varTypes Tryd.prog ++ Tryd.f4.resultTypes.toList)) = true := by kernel_rfl
set_option maxRecDepth 100000 in
theorem closed : joinedFacts Tryd.prog 4 Tryd.f4 Rows.fnExactParseImapSpec Rows.fnExactParseImapRow = true := (bt (bt (bt (bt (bt (bt (bt (bt (bt (bt (bt (bt (bt (bt (bt (bt (bt (bt (bt (bt (bt (bt (bt (bt (bt (bt (bt (bt (bt (bt (bt fact0 Facts.laidOut) Facts.rowed) fact3) fact4) fact5) Facts.stops) fact7) Facts.knobs) fact9) fact10) fact11) fact12) fact13) fact14) fact15) fact16) fact17) fact18) fact19) fact20) fact21) fact22) fact23) Facts.heard) Facts.enter) fact26) fact27) fact28) fact29) fact30) fact31)
theorem named : Tryd.prog.funcNamed Rows.fnExactParseImapRow.func = some 4 := by kernel_rfl
theorem inst : Tryd.f4.isInstance Tryd.prog Rows.fnExactParseImapRow.origin Rows.fnExactParseImapRow.targs := of_decide_eq_true (by kernel_rfl)
theorem wrap : Tryd.f4.isWrapper Tryd.prog Rows.fnExactParseImapRow.wrapper Rows.fnExactParseImapRow.mainSum := by unfold Func.isWrapper; first | (rw [if_pos (by decide +kernel)]; kernel_rfl) | (rw [if_neg (by decide +kernel)]; exact ⟨rfl, rfl⟩)
theorem over : Rows.fnExactParseImapRow.holds Tryd.pinned (OpenSpec.ofChange Rows.fnExactParseImapSpec) :=
  OpenClaim.holds_of_wide 4 Tryd.f4 rfl rfl rfl rfl rfl rfl rfl ⟨rfl, rfl, rfl, rfl, rfl⟩ rfl rfl rfl rfl rfl named Tryd.func4 closed inst wrap
    (fun os started H enc _ => lifted os started H enc)
theorem proved : Rows.FnExactParseImapCardSaid :=
  Claim7.holds_tied_plain_at .later [] [.data, .data, .pinned] true (true, "30f0914d5093d70b8106d8388ef73d2e86672d679e9a132d787d4bd5450ed2b6") false over (fun _ h => by cases h) (by kernel_rfl) (fun _ h => by cases h) fnExactParseImap_row_tie rfl ⟨rfl, rfl⟩ (by kernel_rfl) rfl
    (fun f fn hf hfn => by
      obtain rfl : f = 4 := Option.some.inj ((show Tryd.prog.funcNamed Rows.fnExactParseImapRow.func = some 4 by kernel_rfl).symm.trans hf) |>.symm
      obtain rfl : fn = Tryd.f4 := (Option.some.inj (Tryd.func4.symm.trans hfn)).symm
      exact ⟨by kernel_rfl, fun j t ht => by
        rw [Tryd.params4] at ht
        have hm : t ∈ Tryd.f4.params.toList := by rw [Tryd.params4]; simpa using Array.mem_of_getElem? ht
        have hall : (Tryd.f4.params.toList.all fun u => !Tryd.prog.wantsStandIn u) = true := by kernel_rfl
        exact (show Tryd.prog.wantsStandIn t = false by simpa using List.all_eq_true.1 hall t hm)⟩)
    (by kernel_rfl)
#print axioms proved
end Go.Proofs.YtiaknomadhgckaaDoor.fnExactParseImap
namespace Go.Proofs.YtiaknomadhgckaaDoor
theorem fnExactParseImap_holds : Rows.FnExactParseImapCardSaid := fnExactParseImap.proved
end Go.Proofs.YtiaknomadhgckaaDoor
