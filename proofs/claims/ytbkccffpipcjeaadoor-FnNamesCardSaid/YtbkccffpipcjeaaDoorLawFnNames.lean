/- The law FnNames returns true at every input that can be read as data; package variables start as the program's text lays them. -/
import Derived.Test.YtbkccffpipcjeaaDoorRows
import Derived.Test.YtbkccffpipcjeaaDoorFnNamesWalk
import Derived.Test.YtbkccffpipcjeaaDoorOpen
import Derived.Test.YtbkccffpipcjeaaDoorFacts
import Derived.Test.YtbkccffpipcjeaaDoorCards
import Derived.Test.YtbkccffpipcjeaaDoorTie
import Derived.Test.YtbkccffpipcjeaaDoorShaped
import Derived.Test.YtbkccffpipcjeaaDoorNamesLaid
import Derived.WalkKit
import Derived.ProofKit
import Derived.OpenShut
import Derived.ShutString
import Derived.ChangeOld
import Derived.Below
import Derived.SizedLaws
import Derived.Carry
import Derived.LaidMore
import Derived.Lay
import Derived.SevenTiedAt
import Derived.OpenVars
import Derived.Stop.Joined
namespace Go.Proofs.YtbkccffpipcjeaaDoor.fnNames
open Go.ChangeShapes Go.WideShapes Go.ChangeAt Go.RowKit Mem
open Go.ChangeMaps (open_string shut_string)
set_option linter.unusedVariables false
theorem own : ownKnob Tryd.prog.godebug = none := by kernel_rfl
theorem laidOut : laidOutB Tryd.prog = true := Facts.laidOut
set_option maxRecDepth 100000 in
theorem lifted (os : Os) (started : os.Started) (H : Type) (enc : TypeId × Value → H) :
    ReturnsInHanded {} Tryd.checked os 7 .any (fun w args => (Rows.fnNamesSpec.pre enc Tryd.prog Tryd.f7 Rows.fnNamesRow.domain false w args ∧ laidMetH Tryd.prog Rows.fnNamesRow.laid w) ∧ sizedMet enc Tryd.prog Tryd.f7 (OpenSpec.ofChange Rows.fnNamesSpec) false w args) (Rows.fnNamesSpec.post enc Tryd.prog Tryd.f7 false true false false) := by
  refine handed_shaped (C := Tryd.checked) (X := fun w _ => laidMetH Tryd.prog Rows.fnNamesRow.laid w) (fun _ _ _ hh h => h.of_heap hh) own started (by kernel_rfl) Tryd.func7
    (ChangeSpec.witness_shaped (enc := enc) (C := Tryd.checked) (os := os) (X := fun w _ => laidMetH Tryd.prog Rows.fnNamesRow.laid w) false (World.laidAll Tryd.prog os Rows.fnNamesRow.laid) #[.slice none 0 0] 8 (World.laidAll_os _ _ _)
      (World.shaped_of_ZipB (by kernel_rfl) (by kernel_rfl)) (by kernel_rfl) (by kernel_rfl) (by kernel_rfl)
      (by rw [MakeChecks.laidMetH_plain _ _ _ (by kernel_rfl)]; exact laidMet_laidAll _ (by kernel_rfl) (by kernel_rfl))) ?_
  intro W base args ds gs before hval0 hW hcnd hsz0 hLaid hShape _
  have hsz : (DataW.weightsEach Tryd.prog (Tryd.f7.params.toList ++ Rows.fnNamesSpec.plain.varTypes Tryd.prog) (ds ++ gs)).all (· ≤ reachBytes) = true := hsz0
  have hval : ∀ (j : Nat) t v, Tryd.f7.params[j]? = some t → args[j]? = some v → Value.okWide Tryd.prog W .any base t v := hval0
  have hW' := hW
  obtain ⟨p, q, hA0, hV, rfl, hfz, hnd⟩ := hW
  have hA : DataW.TrodAll enc Tryd.prog W 0 (fun _ => true) true Tryd.f7.params.toList args.toList ds p := hA0
  rw [Tryd.params7] at hA hval hsz
  obtain ⟨v0, vs0, d0, ds0, p0, q0, hargs, rfl, rfl, h0, r0⟩ := trodAll_cons hA
  obtain ⟨rfl, rfl, rfl⟩ := trodAll_nil r0
  obtain rfl : args = #[v0] := by cases args; simp_all
  rw [MakeChecks.laidMetH_plain _ _ _ (by kernel_rfl)] at hLaid
  have hVars := hV
  obtain ⟨gd, ge, rfl⟩ := trodVars_two hV
  have hLet := namesMem_of_laid hLaid hShape
  have k0 := h0
  have lt0 : ∀ x ∈ p0, x.block < W.heap.size := by obtain ⟨m, hm⟩ := k0; exact DataW.trod_lt m _ _ _ hm
  obtain ⟨A0, n0, c0, rfl⟩ := okWide_slice Tryd.underlying36 (hval 0 36 v0 rfl rfl)
  obtain ⟨f0, hf0⟩ := h0
  obtain ⟨xs0, A0', c0', e0, hc0, hm0, hr0⟩ := (opens_bytes).2.2 enc W 0 (fun _ => true) true f0 _ _ hf0
  obtain ⟨rfl, rfl, rfl⟩ : A0 = A0' ∧ n0 = xs0.length ∧ c0 = c0' := by simpa [Value.cells] using e0
  clear hA0 hval0 hsz0 hsz
  refine (lawFnNames_walk hLet hr0 hc0).mono fun e W' ⟨he, hnew⟩ => ?_
  have bel := Mod.toBelow hnew
  subst he
  exact ⟨_, rfl, _, _, _, [], _, _, hW', trodAll_mk1 (shut_bool Tryd.underlying4 _), (trodAll_cons_mk (Below.trod laidOut (by kernel_rfl) (of_decide_eq_true (by kernel_rfl)) k0 bel lt0) trodAll_mk0), bel.trodVars laidOut (by kernel_rfl) hVars, bel.frame _, fun h => by cases h⟩
theorem bt {a b : Bool} (h : a = true) (k : b = true) : (a && b) = true := by rw [h, k]; rfl
theorem fact0 : (Rows.fnNamesRow.wf (OpenSpec.ofChange Rows.fnNamesSpec)) = true := by kernel_rfl
theorem fact3 : (Tryd.f7.params.all (Tryd.prog.readableRec ·)) = true := by kernel_rfl
theorem fact4 : (namedTie Tryd.prog Rows.fnNamesRow.named Rows.fnNamesSpec.vars) = true := by kernel_rfl
theorem fact5 : ((Rows.fnNamesRow.stops == [])) = true := by kernel_rfl
theorem fact7 : ((Rows.fnNamesRow.knobs == [])) = true := by kernel_rfl
theorem fact9 : ((Rows.fnNamesRow.inPlace == Tryd.prog.inPlace 7)) = true := by kernel_rfl
theorem fact10 : ((Rows.fnNamesRow.unfollowed == Tryd.prog.unfollowed 7)) = true := by kernel_rfl
theorem fact11 : ((Rows.fnNamesRow.recurses == Tryd.prog.recurses 7)) = true := by kernel_rfl
theorem fact12 : ((Rows.fnNamesRow.named == Tryd.prog.varsNamed 7)) = true := by kernel_rfl
theorem fact13 : ((Rows.fnNamesRow.maps == (Tryd.f7.params.toList ++ Rows.fnNamesSpec.plain.varTypes Tryd.prog).any (Tryd.prog.mapsRec ·))) = true := by kernel_rfl
theorem fact14 : ((Rows.fnNamesRow.ifaces == (Tryd.f7.params.toList ++ Rows.fnNamesSpec.plain.varTypes Tryd.prog).any (Tryd.prog.ifacesRec ·))) = true := by kernel_rfl
theorem fact15 : ((Rows.fnNamesRow.mapsOut == Tryd.prog.mapsAmong Tryd.f7.resultTypes.toList)) = true := by kernel_rfl
theorem fact16 : ((Rows.fnNamesRow.loops == (Tryd.f7.params.toList ++ Rows.fnNamesSpec.plain.varTypes Tryd.prog).any (Tryd.prog.loopsFrom ·))) = true := by kernel_rfl
theorem fact17 : ((Rows.fnNamesRow.wideKeys == (Tryd.f7.params.toList ++ Rows.fnNamesSpec.plain.varTypes Tryd.prog ++ Tryd.f7.resultTypes.toList).any (Tryd.prog.wideKeysFrom ·))) = true := by kernel_rfl
theorem fact18 : (Rows.fnNamesSpec.vars.all (Tryd.prog.varReadable ·)) = true := by kernel_rfl
theorem fact19 : (Tryd.f7.resultTypes.all (fun t => Tryd.prog.readableRec t && decide (t < Tryd.prog.types.size))) = true := by kernel_rfl
theorem fact20 : ((Rows.fnNamesRow.ifacesOut == Tryd.f7.resultTypes.toList.any (Tryd.prog.ifacesRec ·))) = true := by kernel_rfl
theorem fact21 : ((Rows.fnNamesRow.loopsOut == Tryd.f7.resultTypes.toList.any (Tryd.prog.loopsFrom ·))) = true := by kernel_rfl
theorem fact22 : ((Rows.fnNamesRow.plainKeys == Tryd.prog.plainKeys)) = true := by rw [Facts.keys]; rfl
theorem fact23 : (Rows.fnNamesRow.shortTexts.isNone) = true := by kernel_rfl
theorem fact26 : ((Rows.fnNamesRow.lifted == Tryd.prog.liftsFinal)) = true := by rw [Facts.lifts]; rfl
theorem fact27 : ((Tryd.prog.make == some Rows.fnNamesRow.make)) = true := by rw [Facts.make]; rfl
theorem fact28 : ((Rows.fnNamesRow.kinds == (if Rows.fnNamesRow.domain.isEmpty then [] else Tryd.f7.params.toList.map fun t => match Tryd.prog.underlying t with | some (.int k) => some k | _ => none))) = true := by kernel_rfl
theorem fact29 : ((Rows.fnNamesRow.pinned == Rows.fnNamesRow.pinnedBy)) = true := by kernel_rfl
theorem fact30 : ((Rows.fnNamesRow.veiled == (Tryd.f7.params.toList ++ Rows.fnNamesSpec.plain.varTypes Tryd.prog ++ Tryd.f7.resultTypes.toList).any (Tryd.prog.veiledRec ·))) = true := by kernel_rfl
theorem fact31 : (Rows.fnNamesRow.veiledFits Tryd.prog Tryd.f7.params.toList (Tryd.f7.params.toList ++ Rows.fnNamesSpec.plain.varTypes Tryd.prog ++ Tryd.f7.resultTypes.toList)) = true := by kernel_rfl
set_option maxRecDepth 100000 in
theorem closed : joinedFacts Tryd.prog 7 Tryd.f7 Rows.fnNamesSpec Rows.fnNamesRow = true := (bt (bt (bt (bt (bt (bt (bt (bt (bt (bt (bt (bt (bt (bt (bt (bt (bt (bt (bt (bt (bt (bt (bt (bt (bt (bt (bt (bt (bt (bt (bt fact0 Facts.laidOut) Facts.rowed) fact3) fact4) fact5) Facts.stops) fact7) Facts.knobs) fact9) fact10) fact11) fact12) fact13) fact14) fact15) fact16) fact17) fact18) fact19) fact20) fact21) fact22) fact23) Facts.heard) Facts.enter) fact26) fact27) fact28) fact29) fact30) fact31)
theorem named : Tryd.prog.funcNamed Rows.fnNamesRow.func = some 7 := by kernel_rfl
theorem inst : Tryd.f7.isInstance Tryd.prog Rows.fnNamesRow.origin Rows.fnNamesRow.targs := of_decide_eq_true (by kernel_rfl)
theorem wrap : Tryd.f7.isWrapper Tryd.prog Rows.fnNamesRow.wrapper Rows.fnNamesRow.mainSum := by unfold Func.isWrapper; first | (rw [if_pos (by decide +kernel)]; kernel_rfl) | (rw [if_neg (by decide +kernel)]; exact ⟨rfl, rfl⟩)
theorem over : Rows.fnNamesRow.holds Tryd.pinned (OpenSpec.ofChange Rows.fnNamesSpec) :=
  OpenClaim.holds_of_wide 7 Tryd.f7 rfl rfl rfl rfl rfl rfl rfl ⟨rfl, rfl, rfl, rfl, rfl⟩ rfl rfl rfl rfl rfl named Tryd.func7 closed inst wrap
    (fun os started H enc _ => lifted os started H enc)
theorem proved : Rows.FnNamesCardSaid :=
  Claim7.holds_tied_plain_at .later [] [.data, .data, .data, .data, .sentinel, .sentinel, .widerDeep, .data, .pinned] true (true, "adb6589f144f95c7b57d0c408307f61751fe9545d4fc827ea494e2ee733e5267") true over (fun _ h => by cases h) (by kernel_rfl) (fun _ h => by cases h) fnNames_row_tie rfl ⟨rfl, rfl⟩ (by kernel_rfl) rfl
    (fun f fn hf hfn => by
      obtain rfl : f = 7 := Option.some.inj ((show Tryd.prog.funcNamed Rows.fnNamesRow.func = some 7 by kernel_rfl).symm.trans hf) |>.symm
      obtain rfl : fn = Tryd.f7 := (Option.some.inj (Tryd.func7.symm.trans hfn)).symm
      exact ⟨by kernel_rfl, fun j t ht => by
        rw [Tryd.params7] at ht
        have hm : t ∈ Tryd.f7.params.toList := by rw [Tryd.params7]; simpa using Array.mem_of_getElem? ht
        have hall : (Tryd.f7.params.toList.all fun u => !Tryd.prog.wantsStandIn u) = true := by kernel_rfl
        exact (show Tryd.prog.wantsStandIn t = false by simpa using List.all_eq_true.1 hall t hm)⟩)
    (by kernel_rfl)
#print axioms proved
end Go.Proofs.YtbkccffpipcjeaaDoor.fnNames
namespace Go.Proofs.YtbkccffpipcjeaaDoor
/-- The row, under a short name, for the claim. -/
theorem fnNames_holds : Rows.FnNamesCardSaid := fnNames.proved
end Go.Proofs.YtbkccffpipcjeaaDoor
