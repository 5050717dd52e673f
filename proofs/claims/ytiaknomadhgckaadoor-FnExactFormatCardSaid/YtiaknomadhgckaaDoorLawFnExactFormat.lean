/- The law FnExactFormat returns true at every input that can be read as data; package variables start as the program's text lays them. -/
import Derived.Test.YtiaknomadhgckaaDoorRows
import Derived.Test.YtiaknomadhgckaaDoorPk18
import Derived.Test.YtiaknomadhgckaaDoorPk3
import Derived.Test.YtiaknomadhgckaaDoorPk19
import Derived.Test.YtiaknomadhgckaaDoorCards
import Derived.Test.YtiaknomadhgckaaDoorTie
import Derived.WalkKit
import Derived.ProofKit
import Derived.OpenShut
import Derived.ShutString
import Derived.ChangeOld
import Derived.Below
import Derived.SizedLaws
import Derived.Carry
import Derived.LaidMore
import Derived.Lay
import Derived.SevenTiedAt
import Derived.OpenVars
import Derived.Stop.Joined
namespace Go.Proofs.YtiaknomadhgckaaDoor.fnExactFormat
open Go.ChangeShapes Go.WideShapes Go.ChangeAt Go.RowKit Mem
open Go.ChangeMaps (open_string shut_string)
set_option linter.unusedVariables false
theorem own : ownKnob Tryd.prog.godebug = none := by kernel_rfl
theorem laidOut : laidOutB Tryd.prog = true := Facts.laidOut
set_option maxRecDepth 100000 in
theorem lifted (os : Os) (started : os.Started) (H : Type) (enc : TypeId × Value → H) :
    ReturnsInHanded {} Tryd.checked os 3 .any (fun w args => (Rows.fnExactFormatSpec.pre enc Tryd.prog Tryd.f3 Rows.fnExactFormatRow.domain false w args ∧ laidMetH Tryd.prog Rows.fnExactFormatRow.laid w) ∧ sizedMet enc Tryd.prog Tryd.f3 (OpenSpec.ofChange Rows.fnExactFormatSpec) false w args) (Rows.fnExactFormatSpec.post enc Tryd.prog Tryd.f3 false true false false) := by
  refine returnsInHanded_of_change_and (C := Tryd.checked) (X := fun w _ => laidMetH Tryd.prog Rows.fnExactFormatRow.laid w) (fun _ _ _ hh h => h.of_heap hh) own started (by kernel_rfl) Tryd.func3
    (ChangeSpec.witness_shaped (enc := enc) (C := Tryd.checked) (os := os) (X := fun w _ => laidMetH Tryd.prog Rows.fnExactFormatRow.laid w) false (World.laidAll Tryd.prog os Rows.fnExactFormatRow.laid) #[.int .i64 0, .int .u32 0, .int .i64 0] 8 (World.laidAll_os _ _ _)
      (World.shaped_of_ZipB (by kernel_rfl) (by kernel_rfl)) (by kernel_rfl) (by kernel_rfl) (by kernel_rfl)
      (by rw [MakeChecks.laidMetH_plain _ _ _ (by kernel_rfl)]; exact laidMet_laidAll _ (by kernel_rfl) (by kernel_rfl))) ?_
  intro W base args ds gs before hval0 hW hcnd hsz0 hLaid _
  have hsz : (DataW.weightsEach Tryd.prog (Tryd.f3.params.toList ++ Rows.fnExactFormatSpec.plain.varTypes Tryd.prog) (ds ++ gs)).all (· ≤ reachBytes) = true := hsz0
  have hval : ∀ (j : Nat) t v, Tryd.f3.params[j]? = some t → args[j]? = some v → Value.okWide Tryd.prog W .any base t v := hval0
  have hW' := hW
  obtain ⟨p, q, hA0, hV, rfl, hfz, hnd⟩ := hW
  have hA : DataW.TrodAll enc Tryd.prog W 0 (fun _ => true) true Tryd.f3.params.toList args.toList ds p := hA0
  rw [Tryd.params3] at hA hval hsz
  obtain ⟨v0, vs0, d0, ds0, p0, q0, hargs, rfl, rfl, h0, r0⟩ := trodAll_cons hA
  obtain ⟨v1, vs1, d1, ds1, p1, q1, rfl, rfl, rfl, h1, r1⟩ := trodAll_cons r0
  obtain ⟨v2, vs2, d2, ds2, p2, q2, rfl, rfl, rfl, h2, r2⟩ := trodAll_cons r1
  obtain ⟨rfl, rfl, rfl⟩ := trodAll_nil r2
  obtain rfl : args = #[v0, v1, v2] := by cases args; simp_all
  rw [MakeChecks.laidMetH_plain _ _ _ (by kernel_rfl)] at hLaid
  have hVars := hV
  obtain ⟨rfl, rfl⟩ := trodVars_none hV
  have hLet := tab_of_laid hLaid
  have k0 := h0
  have lt0 : ∀ x ∈ p0, x.block < W.heap.size := by obtain ⟨m, hm⟩ := k0; exact DataW.trod_lt m _ _ _ hm
  obtain ⟨n0, rfl, rfl, rfl, w0⟩ := open_int Tryd.underlying3 (hval 0 3 v0 rfl rfl) h0
  have k1 := h1
  have lt1 : ∀ x ∈ p1, x.block < W.heap.size := by obtain ⟨m, hm⟩ := k1; exact DataW.trod_lt m _ _ _ hm
  obtain ⟨n1, rfl, rfl, rfl, w1⟩ := open_int Tryd.underlying22 (hval 1 22 v1 rfl rfl) h1
  have k2 := h2
  have lt2 : ∀ x ∈ p2, x.block < W.heap.size := by obtain ⟨m, hm⟩ := k2; exact DataW.trod_lt m _ _ _ hm
  obtain ⟨n2, rfl, rfl, rfl, w2⟩ := open_int Tryd.underlying3 (hval 2 3 v2 rfl rfl) h2
  clear hA0 hval0 hsz0 hsz
  refine (lawFnExactFormat_walk hLet n0 (Go.Proofs.YtiaknomadhgckaaDoor.Mem.wf_wrap w0) n1 (Go.Proofs.YtiaknomadhgckaaDoor.Mem.wf_wrap w1) n2 (Go.Proofs.YtiaknomadhgckaaDoor.Mem.wf_wrap w2)).mono fun e W' ⟨he, hnew⟩ => ?_
  have bel := Mod.toBelow hnew
  subst he
  exact ⟨_, rfl, _, _, _, [], _, _, hW', trodAll_mk1 (shut_bool Tryd.underlying4 _), (trodAll_cons_mk (Below.trod laidOut (by kernel_rfl) (of_decide_eq_true (by kernel_rfl)) k0 bel lt0) (trodAll_cons_mk (Below.trod laidOut (by kernel_rfl) (of_decide_eq_true (by kernel_rfl)) k1 bel lt1) (trodAll_cons_mk (Below.trod laidOut (by kernel_rfl) (of_decide_eq_true (by kernel_rfl)) k2 bel lt2) trodAll_mk0))), rfl, bel.frame _, fun h => by cases h⟩
theorem bt {a b : Bool} (h : a = true) (k : b = true) : (a && b) = true := by rw [h, k]; rfl
theorem fact0 : (Rows.fnExactFormatRow.wf (OpenSpec.ofChange Rows.fnExactFormatSpec)) = true := by kernel_rfl
theorem fact3 : (Tryd.f3.params.all (Tryd.prog.readableRec ·)) = true := by kernel_rfl
theorem fact4 : (namedTie Tryd.prog Rows.fnExactFormatRow.named Rows.fnExactFormatSpec.vars) = true := by kernel_rfl
theorem fact5 : ((Rows.fnExactFormatRow.stops == [])) = true := by kernel_rfl
theorem fact7 : ((Rows.fnExactFormatRow.knobs == [])) = true := by kernel_rfl
theorem fact9 : ((Rows.fnExactFormatRow.inPlace == Tryd.prog.inPlace 3)) = true := by kernel_rfl
theorem fact10 : ((Rows.fnExactFormatRow.unfollowed == Tryd.prog.unfollowed 3)) = true := by kernel_rfl
theorem fact11 : ((Rows.fnExactFormatRow.recurses == Tryd.prog.recurses 3)) = true := by kernel_rfl
theorem fact12 : ((Rows.fnExactFormatRow.named == Tryd.prog.varsNamed 3)) = true := by kernel_rfl
theorem fact13 : ((Rows.fnExactFormatRow.maps == (Tryd.f3.params.toList ++ Rows.fnExactFormatSpec.plain.varTypes Tryd.prog).any (Tryd.prog.mapsRec ·))) = true := by kernel_rfl
theorem fact14 : ((Rows.fnExactFormatRow.ifaces == (Tryd.f3.params.toList ++ Rows.fnExactFormatSpec.plain.varTypes Tryd.prog).any (Tryd.prog.ifacesRec ·))) = true := by kernel_rfl
theorem fact15 : ((Rows.fnExactFormatRow.mapsOut == Tryd.prog.mapsAmong Tryd.f3.resultTypes.toList)) = true := by kernel_rfl
theorem fact16 : ((Rows.fnExactFormatRow.loops == (Tryd.f3.params.toList ++ Rows.fnExactFormatSpec.plain.varTypes Tryd.prog).any (Tryd.prog.loopsFrom ·))) = true := by kernel_rfl
theorem fact17 : ((Rows.fnExactFormatRow.wideKeys == (Tryd.f3.params.toList ++ Rows.fnExactFormatSpec.plain.varTypes Tryd.prog ++ Tryd.f3.resultTypes.toList).any (Tryd.prog.wideKeysFrom ·))) = true := by kernel_rfl
theorem fact18 : (Rows.fnExactFormatSpec.vars.all (Tryd.prog.varReadable ·)) = true := by kernel_rfl
theorem fact19 : (Tryd.f3.resultTypes.all (fun t => Tryd.prog.readableRec t && decide (t < Tryd.prog.types.size))) = true := by kernel_rfl
theorem fact20 : ((Rows.fnExactFormatRow.ifacesOut == Tryd.f3.resultTypes.toList.any (Tryd.prog.ifacesRec ·))) = true := by kernel_rfl
theorem fact21 : ((Rows.fnExactFormatRow.loopsOut == Tryd.f3.resultTypes.toList.any (Tryd.prog.loopsFrom ·))) = true := by kernel_rfl
theorem fact22 : ((Rows.fnExactFormatRow.plainKeys == Tryd.prog.plainKeys)) = true := by rw [Facts.keys]; rfl
theorem fact23 : (Rows.fnExactFormatRow.shortTexts.isNone) = true := by kernel_rfl
theorem fact26 : ((Rows.fnExactFormatRow.lifted == Tryd.prog.liftsFinal)) = true := by rw [Facts.lifts]; rfl
theorem fact27 : ((Tryd.prog.make == some Rows.fnExactFormatRow.make)) = true := by rw [Facts.make]; rfl
theorem fact28 : ((Rows.fnExactFormatRow.kinds == (if Rows.fnExactFormatRow.domain.isEmpty then [] else Tryd.f3.params.toList.map fun t => match Tryd.prog.underlying t with | some (.int k) => some k | _ => none))) = true := by kernel_rfl
theorem fact29 : ((Rows.fnExactFormatRow.pinned == Rows.fnExactFormatRow.pinnedBy)) = true := by kernel_rfl
theorem fact30 : ((Rows.fnExactFormatRow.veiled == (Tryd.f3.params.toList ++ Rows.fnExactFormatSpec.plain.varTypes Tryd.prog ++ Tryd.f3.resultTypes.toList).any (Tryd.prog.veiledRec ·))) = true := by kernel_rfl
theorem fact31 : (Rows.fnExactFormatRow.veiledFits Tryd.prog Tryd.f3.params.toList (Tryd.f3.params.toList ++ Rows.fnExactFormatSpec.plain.varTypes Tryd.prog ++ Tryd.f3.resultTypes.toList)) = true := by kernel_rfl
set_option maxRecDepth 100000 in
theorem closed : joinedFacts Tryd.prog 3 Tryd.f3 Rows.fnExactFormatSpec Rows.fnExactFormatRow = true := (bt (bt (bt (bt (bt (bt (bt (bt (bt (bt (bt (bt (bt (bt (bt (bt (bt (bt (bt (bt (bt (bt (bt (bt (bt (bt (bt (bt (bt (bt (bt fact0 Facts.laidOut) Facts.rowed) fact3) fact4) fact5) Facts.stops) fact7) Facts.knobs) fact9) fact10) fact11) fact12) fact13) fact14) fact15) fact16) fact17) fact18) fact19) fact20) fact21) fact22) fact23) Facts.heard) Facts.enter) fact26) fact27) fact28) fact29) fact30) fact31)
theorem named : Tryd.prog.funcNamed Rows.fnExactFormatRow.func = some 3 := by kernel_rfl
theorem inst : Tryd.f3.isInstance Tryd.prog Rows.fnExactFormatRow.origin Rows.fnExactFormatRow.targs := of_decide_eq_true (by kernel_rfl)
theorem wrap : Tryd.f3.isWrapper Tryd.prog Rows.fnExactFormatRow.wrapper Rows.fnExactFormatRow.mainSum := by unfold Func.isWrapper; first | (rw [if_pos (by decide +kernel)]; kernel_rfl) | (rw [if_neg (by decide +kernel)]; exact ⟨rfl, rfl⟩)
theorem over : Rows.fnExactFormatRow.holds Tryd.pinned (OpenSpec.ofChange Rows.fnExactFormatSpec) :=
  OpenClaim.holds_of_wide 3 Tryd.f3 rfl rfl rfl rfl rfl rfl rfl ⟨rfl, rfl, rfl, rfl, rfl⟩ rfl rfl rfl rfl rfl named Tryd.func3 closed inst wrap
    (fun os started H enc _ => lifted os started H enc)
theorem proved : Rows.FnExactFormatCardSaid :=
  Claim7.holds_tied_plain_at .later [] [.data, .data, .data] true (true, "30f0914d5093d70b8106d8388ef73d2e86672d679e9a132d787d4bd5450ed2b6") false over (fun _ h => by cases h) (by kernel_rfl) (fun _ h => by cases h) fnExactFormat_row_tie rfl ⟨rfl, rfl⟩ (by kernel_rfl) rfl
    (fun f fn hf hfn => by
      obtain rfl : f = 3 := Option.some.inj ((show Tryd.prog.funcNamed Rows.fnExactFormatRow.func = some 3 by kernel_rfl).symm.trans hf) |>.symm
      obtain rfl : fn = Tryd.f3 := (Option.some.inj (Tryd.func3.symm.trans hfn)).symm
      exact ⟨by kernel_rfl, fun j t ht => by
        rw [Tryd.params3] at ht
        have hm : t ∈ Tryd.f3.params.toList := by rw [Tryd.params3]; simpa using Array.mem_of_getElem? ht
        have hall : (Tryd.f3.params.toList.all fun u => !Tryd.prog.wantsStandIn u) = true := by kernel_rfl
        exact (show Tryd.prog.wantsStandIn t = false by simpa using List.all_eq_true.1 hall t hm)⟩)
    (by kernel_rfl)
#print axioms proved
end Go.Proofs.YtiaknomadhgckaaDoor.fnExactFormat
namespace Go.Proofs.YtiaknomadhgckaaDoor
/-- The row, under a short name, for the claim. -/
theorem fnExactFormat_holds : Rows.FnExactFormatCardSaid := fnExactFormat.proved
end Go.Proofs.YtiaknomadhgckaaDoor
