/- The law FnExactReadMailName returns true at every input that can be read as data; package variables start as the program's text lays them. -/
import Derived.Test.YtbkccffpipcjeaaDoorRows
import Derived.Test.YtbkccffpipcjeaaDoorFnExactReadMailNameWalk
import Derived.Test.YtbkccffpipcjeaaDoorOpen
import Derived.Test.YtbkccffpipcjeaaDoorFacts
import Derived.Test.YtbkccffpipcjeaaDoorCards
import Derived.Test.YtbkccffpipcjeaaDoorTie
import Derived.Test.YtbkccffpipcjeaaDoorShaped
import Derived.Test.YtbkccffpipcjeaaDoorMailLaid
import Derived.WalkKit
import Derived.ProofKit
import Derived.OpenShut
import Derived.ShutString
import Derived.ChangeOld
import Derived.Below
import Derived.SizedLaws
import Derived.Carry
import Derived.LaidMore
import Derived.Lay
import Derived.SevenTiedAt
import Derived.OpenVars
import Derived.Stop.Joined
namespace Go.Proofs.YtbkccffpipcjeaaDoor.fnExactReadMailName
open Go.ChangeShapes Go.WideShapes Go.ChangeAt Go.RowKit Mem
open Go.ChangeMaps (open_string shut_string)
set_option linter.unusedVariables false
theorem own : ownKnob Tryd.prog.godebug = none := by kernel_rfl
theorem laidOut : laidOutB Tryd.prog = true := Facts.laidOut
set_option maxRecDepth 100000 in
theorem lifted (os : Os) (started : os.Started) (H : Type) (enc : TypeId × Value → H) :
    ReturnsInHanded {} Tryd.checked os 6 .any (fun w args => (Rows.fnExactReadMailNameSpec.pre enc Tryd.prog Tryd.f6 Rows.fnExactReadMailNameRow.domain false w args ∧ laidMetH Tryd.prog Rows.fnExactReadMailNameRow.laid w) ∧ sizedMet enc Tryd.prog Tryd.f6 (OpenSpec.ofChange Rows.fnExactReadMailNameSpec) false w args) (Rows.fnExactReadMailNameSpec.post enc Tryd.prog Tryd.f6 false true false false) := by
  refine handed_shaped (C := Tryd.checked) (X := fun w _ => laidMetH Tryd.prog Rows.fnExactReadMailNameRow.laid w) (fun _ _ _ hh h => h.of_heap hh) own started (by kernel_rfl) Tryd.func6
    (ChangeSpec.witness_shaped (enc := enc) (C := Tryd.checked) (os := os) (X := fun w _ => laidMetH Tryd.prog Rows.fnExactReadMailNameRow.laid w) false (World.laidAll Tryd.prog os Rows.fnExactReadMailNameRow.laid) #[.string ByteArray.empty] 8 (World.laidAll_os _ _ _)
      (World.shaped_of_ZipB (by kernel_rfl) (by kernel_rfl)) (by kernel_rfl) (by kernel_rfl) (by kernel_rfl)
      (by rw [MakeChecks.laidMetH_plain _ _ _ (by kernel_rfl)]; exact laidMet_laidAll _ (by kernel_rfl) (by kernel_rfl))) ?_
  intro W base args ds gs before hval0 hW hcnd hsz0 hLaid hShape _
  have hsz : (DataW.weightsEach Tryd.prog (Tryd.f6.params.toList ++ Rows.fnExactReadMailNameSpec.plain.varTypes Tryd.prog) (ds ++ gs)).all (· ≤ reachBytes) = true := hsz0
  have hval : ∀ (j : Nat) t v, Tryd.f6.params[j]? = some t → args[j]? = some v → Value.okWide Tryd.prog W .any base t v := hval0
  have hW' := hW
  obtain ⟨p, q, hA0, hV, rfl, hfz, hnd⟩ := hW
  have hA : DataW.TrodAll enc Tryd.prog W 0 (fun _ => true) true Tryd.f6.params.toList args.toList ds p := hA0
  rw [Tryd.params6] at hA hval hsz
  obtain ⟨v0, vs0, d0, ds0, p0, q0, hargs, rfl, rfl, h0, r0⟩ := trodAll_cons hA
  obtain ⟨rfl, rfl, rfl⟩ := trodAll_nil r0
  obtain rfl : args = #[v0] := by cases args; simp_all
  rw [MakeChecks.laidMetH_plain _ _ _ (by kernel_rfl)] at hLaid
  have hVars := hV
  obtain ⟨gg, gt, gcs, gf, gd, gp, rfl, -, -, -, -, -⟩ := trodVars_one hV
  have hLet := mailMem_of_laid hLaid hShape
  have k0 := h0
  have lt0 : ∀ x ∈ p0, x.block < W.heap.size := by obtain ⟨m, hm⟩ := k0; exact DataW.trod_lt m _ _ _ hm
  obtain ⟨s0, rfl, rfl, rfl, y0⟩ := open_string Tryd.underlying9 (hval 0 9 v0 rfl rfl) h0
  have w0 : s0.size ≤ 140737488351232 := by
    have z := sized_string hsz (j := 0) (t := 9) rfl rfl
    rw [Array.length_toList] at z
    exact z
  clear hA0 hval0 hsz0 hsz
  refine (lawFnExactReadMailName_walk hLet s0 w0).mono fun e W' ⟨he, hnew⟩ => ?_
  have bel := Mod.toBelow hnew
  subst he
  exact ⟨_, rfl, _, _, _, [], _, _, hW', trodAll_mk1 (shut_bool Tryd.underlying4 _), (trodAll_cons_mk (Below.trod laidOut (by kernel_rfl) (of_decide_eq_true (by kernel_rfl)) k0 bel lt0) trodAll_mk0), bel.trodVars laidOut (by kernel_rfl) hVars, bel.frame _, fun h => by cases h⟩
theorem bt {a b : Bool} (h : a = true) (k : b = true) : (a && b) = true := by rw [h, k]; rfl
theorem fact0 : (Rows.fnExactReadMailNameRow.wf (OpenSpec.ofChange Rows.fnExactReadMailNameSpec)) = true := by kernel_rfl
theorem fact3 : (Tryd.f6.params.all (Tryd.prog.readableRec ·)) = true := by kernel_rfl
theorem fact4 : (namedTie Tryd.prog Rows.fnExactReadMailNameRow.named Rows.fnExactReadMailNameSpec.vars) = true := by kernel_rfl
theorem fact5 : ((Rows.fnExactReadMailNameRow.stops == [])) = true := by kernel_rfl
theorem fact7 : ((Rows.fnExactReadMailNameRow.knobs == [])) = true := by kernel_rfl
theorem fact9 : ((Rows.fnExactReadMailNameRow.inPlace == Tryd.prog.inPlace 6)) = true := by kernel_rfl
theorem fact10 : ((Rows.fnExactReadMailNameRow.unfollowed == Tryd.prog.unfollowed 6)) = true := by kernel_rfl
theorem fact11 : ((Rows.fnExactReadMailNameRow.recurses == Tryd.prog.recurses 6)) = true := by kernel_rfl
theorem fact12 : ((Rows.fnExactReadMailNameRow.named == Tryd.prog.varsNamed 6)) = true := by kernel_rfl
theorem fact13 : ((Rows.fnExactReadMailNameRow.maps == (Tryd.f6.params.toList ++ Rows.fnExactReadMailNameSpec.plain.varTypes Tryd.prog).any (Tryd.prog.mapsRec ·))) = true := by kernel_rfl
theorem fact14 : ((Rows.fnExactReadMailNameRow.ifaces == (Tryd.f6.params.toList ++ Rows.fnExactReadMailNameSpec.plain.varTypes Tryd.prog).any (Tryd.prog.ifacesRec ·))) = true := by kernel_rfl
theorem fact15 : ((Rows.fnExactReadMailNameRow.mapsOut == Tryd.prog.mapsAmong Tryd.f6.resultTypes.toList)) = true := by kernel_rfl
theorem fact16 : ((Rows.fnExactReadMailNameRow.loops == (Tryd.f6.params.toList ++ Rows.fnExactReadMailNameSpec.plain.varTypes Tryd.prog).any (Tryd.prog.loopsFrom ·))) = true := by kernel_rfl
theorem fact17 : ((Rows.fnExactReadMailNameRow.wideKeys == (Tryd.f6.params.toList ++ Rows.fnExactReadMailNameSpec.plain.varTypes Tryd.prog ++ Tryd.f6.resultTypes.toList).any (Tryd.prog.wideKeysFrom ·))) = true := by kernel_rfl
theorem fact18 : (Rows.fnExactReadMailNameSpec.vars.all (Tryd.prog.varReadable ·)) = true := by kernel_rfl
theorem fact19 : (Tryd.f6.resultTypes.all (fun t => Tryd.prog.readableRec t && decide (t < Tryd.prog.types.size))) = true := by kernel_rfl
theorem fact20 : ((Rows.fnExactReadMailNameRow.ifacesOut == Tryd.f6.resultTypes.toList.any (Tryd.prog.ifacesRec ·))) = true := by kernel_rfl
theorem fact21 : ((Rows.fnExactReadMailNameRow.loopsOut == Tryd.f6.resultTypes.toList.any (Tryd.prog.loopsFrom ·))) = true := by kernel_rfl
theorem fact22 : ((Rows.fnExactReadMailNameRow.plainKeys == Tryd.prog.plainKeys)) = true := by rw [Facts.keys]; rfl
theorem fact23 : (Rows.fnExactReadMailNameRow.shortTexts.isNone) = true := by kernel_rfl
theorem fact26 : ((Rows.fnExactReadMailNameRow.lifted == Tryd.prog.liftsFinal)) = true := by rw [Facts.lifts]; rfl
theorem fact27 : ((Tryd.prog.make == some Rows.fnExactReadMailNameRow.make)) = true := by rw [Facts.make]; rfl
theorem fact28 : ((Rows.fnExactReadMailNameRow.kinds == (if Rows.fnExactReadMailNameRow.domain.isEmpty then [] else Tryd.f6.params.toList.map fun t => match Tryd.prog.underlying t with | some (.int k) => some k | _ => none))) = true := by kernel_rfl
theorem fact29 : ((Rows.fnExactReadMailNameRow.pinned == Rows.fnExactReadMailNameRow.pinnedBy)) = true := by kernel_rfl
theorem fact30 : ((Rows.fnExactReadMailNameRow.veiled == (Tryd.f6.params.toList ++ Rows.fnExactReadMailNameSpec.plain.varTypes Tryd.prog ++ Tryd.f6.resultTypes.toList).any (Tryd.prog.veiledRec ·))) = true := by kernel_rfl
theorem fact31 : (Rows.fnExactReadMailNameRow.veiledFits Tryd.prog Tryd.f6.params.toList (Tryd.f6.params.toList ++ Rows.fnExactReadMailNameSpec.plain.varTypes Tryd.prog ++ Tryd.f6.resultTypes.toList)) = true := by kernel_rfl
set_option maxRecDepth 100000 in
theorem closed : joinedFacts Tryd.prog 6 Tryd.f6 Rows.fnExactReadMailNameSpec Rows.fnExactReadMailNameRow = true := (bt (bt (bt (bt (bt (bt (bt (bt (bt (bt (bt (bt (bt (bt (bt (bt (bt (bt (bt (bt (bt (bt (bt (bt (bt (bt (bt (bt (bt (bt (bt fact0 Facts.laidOut) Facts.rowed) fact3) fact4) fact5) Facts.stops) fact7) Facts.knobs) fact9) fact10) fact11) fact12) fact13) fact14) fact15) fact16) fact17) fact18) fact19) fact20) fact21) fact22) fact23) Facts.heard) Facts.enter) fact26) fact27) fact28) fact29) fact30) fact31)
theorem named : Tryd.prog.funcNamed Rows.fnExactReadMailNameRow.func = some 6 := by kernel_rfl
theorem inst : Tryd.f6.isInstance Tryd.prog Rows.fnExactReadMailNameRow.origin Rows.fnExactReadMailNameRow.targs := of_decide_eq_true (by kernel_rfl)
theorem wrap : Tryd.f6.isWrapper Tryd.prog Rows.fnExactReadMailNameRow.wrapper Rows.fnExactReadMailNameRow.mainSum := by unfold Func.isWrapper; first | (rw [if_pos (by decide +kernel)]; kernel_rfl) | (rw [if_neg (by decide +kernel)]; exact ⟨rfl, rfl⟩)
theorem over : Rows.fnExactReadMailNameRow.holds Tryd.pinned (OpenSpec.ofChange Rows.fnExactReadMailNameSpec) :=
  OpenClaim.holds_of_wide 6 Tryd.f6 rfl rfl rfl rfl rfl rfl rfl ⟨rfl, rfl, rfl, rfl, rfl⟩ rfl rfl rfl rfl rfl named Tryd.func6 closed inst wrap
    (fun os started H enc _ => lifted os started H enc)
theorem proved : Rows.FnExactReadMailNameCardSaid :=
  Claim7.holds_tied_plain_at .later [] [.data, .data, .data, .sentinel, .sentinel, .widerDeep] true (true, "adb6589f144f95c7b57d0c408307f61751fe9545d4fc827ea494e2ee733e5267") true over (fun _ h => by cases h) (by kernel_rfl) (fun _ h => by cases h) fnExactReadMailName_row_tie rfl ⟨rfl, rfl⟩ (by kernel_rfl) rfl
    (fun f fn hf hfn => by
      obtain rfl : f = 6 := Option.some.inj ((show Tryd.prog.funcNamed Rows.fnExactReadMailNameRow.func = some 6 by kernel_rfl).symm.trans hf) |>.symm
      obtain rfl : fn = Tryd.f6 := (Option.some.inj (Tryd.func6.symm.trans hfn)).symm
      exact ⟨by kernel_rfl, fun j t ht => by
        rw [Tryd.params6] at ht
        have hm : t ∈ Tryd.f6.params.toList := by rw [Tryd.params6]; simpa using Array.mem_of_getElem? ht
        have hall : (Tryd.f6.params.toList.all fun u => !Tryd.prog.wantsStandIn u) = true := by kernel_rfl
        exact (show Tryd.prog.wantsStandIn t = false by simpa using List.all_eq_true.1 hall t hm)⟩)
    (by kernel_rfl)
#print axioms proved
end Go.Proofs.YtbkccffpipcjeaaDoor.fnExactReadMailName
namespace Go.Proofs.YtbkccffpipcjeaaDoor
/-- The row, under a short name, for the claim. -/
theorem fnExactReadMailName_holds : Rows.FnExactReadMailNameCardSaid := fnExactReadMailName.proved
end Go.Proofs.YtbkccffpipcjeaaDoor
