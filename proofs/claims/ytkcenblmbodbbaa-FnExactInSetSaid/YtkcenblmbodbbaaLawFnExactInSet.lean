/- The law FnExactInSet returns true at every input that can be read as data; no further conditions. -/
import Derived.Test.YtkcenblmbodbbaaRows
import Derived.Test.YtkcenblmbodbbaaFnExactInSetWalk
import Derived.Test.YtkcenblmbodbbaaOpen
import Derived.Test.YtkcenblmbodbbaaFacts
import Derived.WalkKit
import Derived.ProofKit
import Derived.OpenShut
import Derived.ShutString
import Derived.ChangeOld
import Derived.Below
import Derived.SizedLaws
import Derived.Carry
namespace Go.Proofs.Ytkcenblmbodbbaa.fnExactInSet
open Go.ChangeShapes Go.WideShapes Go.ChangeAt Go.RowKit Mem
open Go.ChangeMaps (open_string shut_string)
set_option linter.unusedVariables false
theorem own : ownKnob Try.prog.godebug = none := by kernel_rfl
theorem laidOut : laidOutB Try.prog = true := Facts.laidOut
set_option maxRecDepth 100000 in
theorem lifted (os : Os) (started : os.Started) (H : Type) (enc : TypeId × Value → H) :
    ReturnsInHanded {} Try.checked os 5 .any (Rows.fnExactInSetSpec.pre6 enc Try.prog Try.f5 Rows.fnExactInSetRow.domain false) (Rows.fnExactInSetSpec.post enc Try.prog Try.f5 false true false false) := by
  refine returnsInHanded_of_change_sized (C := Try.checked) own started (by kernel_rfl) Try.func5
    (ChangeSpec.witness6 (enc := enc) (C := Try.checked) false ⟨#[], #[.slice none 0 0, .int .u32 0, .int .u32 0], []⟩ 8 (by kernel_rfl) (by kernel_rfl) (by kernel_rfl) (by kernel_rfl)) ?_
  intro W base args ds gs before hval0 hW hcnd hsz0 _
  have hsz : (DataW.weightsEach Try.prog (Try.f5.params.toList ++ Rows.fnExactInSetSpec.plain.varTypes Try.prog) (ds ++ gs)).all (· ≤ reachBytes) = true := hsz0
  have hval : ∀ (j : Nat) t v, Try.f5.params[j]? = some t → args[j]? = some v → Value.okWide Try.prog W .any base t v := hval0
  have hW' := hW
  obtain ⟨p, q, hA0, hV, rfl, hfz, hnd⟩ := hW
  have hA : DataW.TrodAll enc Try.prog W 0 (fun _ => true) true Try.f5.params.toList args.toList ds p := hA0
  rw [Try.params5] at hA hval hsz
  obtain ⟨v0, vs0, d0, ds0, p0, q0, hargs, rfl, rfl, h0, r0⟩ := trodAll_cons hA
  obtain ⟨v1, vs1, d1, ds1, p1, q1, rfl, rfl, rfl, h1, r1⟩ := trodAll_cons r0
  obtain ⟨v2, vs2, d2, ds2, p2, q2, rfl, rfl, rfl, h2, r2⟩ := trodAll_cons r1
  obtain ⟨rfl, rfl, rfl⟩ := trodAll_nil r2
  obtain rfl : args = #[v0, v1, v2] := by cases args; simp_all
  obtain ⟨rfl, rfl⟩ := trodVars_none hV
  have k0 := h0
  have lt0 : ∀ x ∈ p0, x.block < W.heap.size := by obtain ⟨m, hm⟩ := k0; exact DataW.trod_lt m _ _ _ hm
  obtain ⟨A0, n0, c0, rfl⟩ := okWide_slice Try.underlying29 (hval 0 29 v0 rfl rfl)
  obtain ⟨f0, hf0⟩ := h0
  obtain ⟨xs0, A0', c0', e0, hc0, _, hr0⟩ := (opens_pairs).2.2 enc W 0 (fun _ => true) true f0 _ _ hf0
  obtain ⟨rfl, rfl, rfl⟩ : A0 = A0' ∧ n0 = xs0.length ∧ c0 = c0' := by simpa [Value.cells] using e0
  have k1 := h1
  have lt1 : ∀ x ∈ p1, x.block < W.heap.size := by obtain ⟨m, hm⟩ := k1; exact DataW.trod_lt m _ _ _ hm
  obtain ⟨n1, rfl, rfl, rfl, w1⟩ := open_int Try.underlying24 (hval 1 24 v1 rfl rfl) h1
  have k2 := h2
  have lt2 : ∀ x ∈ p2, x.block < W.heap.size := by obtain ⟨m, hm⟩ := k2; exact DataW.trod_lt m _ _ _ hm
  obtain ⟨n2, rfl, rfl, rfl, w2⟩ := open_int Try.underlying24 (hval 2 24 v2 rfl rfl) h2
  clear hA0 hval0 hsz0 hsz
  refine (lawFnExactInSet_walk hr0 hc0 n1 (Go.Proofs.Ytkcenblmbodbbaa.Mem.wf_wrap w1) n2 (Go.Proofs.Ytkcenblmbodbbaa.Mem.wf_wrap w2)).mono fun e W' ⟨he, hnew⟩ => ?_
  have bel := Mod.toBelow hnew
  subst he
  exact ⟨_, rfl, _, _, _, [], _, [], hW', trodAll_mk1 (shut_bool Try.underlying4 _), (trodAll_cons_mk (Below.trod laidOut (by kernel_rfl) (of_decide_eq_true (by kernel_rfl)) k0 bel lt0) (trodAll_cons_mk (Below.trod laidOut (by kernel_rfl) (of_decide_eq_true (by kernel_rfl)) k1 bel lt1) (trodAll_cons_mk (Below.trod laidOut (by kernel_rfl) (of_decide_eq_true (by kernel_rfl)) k2 bel lt2) trodAll_mk0))), rfl, bel.frame _, fun h => by cases h⟩
theorem bt {a b : Bool} (h : a = true) (k : b = true) : (a && b) = true := by rw [h, k]; rfl
theorem fact0 : (Rows.fnExactInSetRow.wf (OpenSpec.ofChange Rows.fnExactInSetSpec)) = true := by kernel_rfl
theorem fact3 : (Try.f5.params.all (Try.prog.readableRec ·)) = true := by kernel_rfl
theorem fact4 : (namedTie Try.prog Rows.fnExactInSetRow.named Rows.fnExactInSetSpec.vars) = true := by kernel_rfl
theorem fact5 : ((Rows.fnExactInSetRow.stops == [])) = true := by kernel_rfl
theorem fact7 : ((Rows.fnExactInSetRow.knobs == [])) = true := by kernel_rfl
theorem fact9 : ((Rows.fnExactInSetRow.inPlace == Try.prog.inPlace 5)) = true := by kernel_rfl
theorem fact10 : ((Rows.fnExactInSetRow.unfollowed == Try.prog.unfollowed 5)) = true := by kernel_rfl
theorem fact11 : ((Rows.fnExactInSetRow.recurses == Try.prog.recurses 5)) = true := by kernel_rfl
theorem fact12 : ((Rows.fnExactInSetRow.named == Try.prog.varsNamed 5)) = true := by kernel_rfl
theorem fact13 : ((Rows.fnExactInSetRow.maps == (Try.f5.params.toList ++ Rows.fnExactInSetSpec.plain.varTypes Try.prog).any (Try.prog.mapsRec ·))) = true := by kernel_rfl
theorem fact14 : ((Rows.fnExactInSetRow.ifaces == (Try.f5.params.toList ++ Rows.fnExactInSetSpec.plain.varTypes Try.prog).any (Try.prog.ifacesRec ·))) = true := by kernel_rfl
theorem fact15 : ((Rows.fnExactInSetRow.mapsOut == Try.prog.mapsAmong Try.f5.resultTypes.toList)) = true := by kernel_rfl
theorem fact16 : ((Rows.fnExactInSetRow.loops == (Try.f5.params.toList ++ Rows.fnExactInSetSpec.plain.varTypes Try.prog).any (Try.prog.loopsFrom ·))) = true := by kernel_rfl
theorem fact17 : ((Rows.fnExactInSetRow.wideKeys == (Try.f5.params.toList ++ Rows.fnExactInSetSpec.plain.varTypes Try.prog ++ Try.f5.resultTypes.toList).any (Try.prog.wideKeysFrom ·))) = true := by kernel_rfl
theorem fact18 : (Rows.fnExactInSetSpec.vars.all (Try.prog.varReadable ·)) = true := by kernel_rfl
theorem fact19 : (Try.f5.resultTypes.all (fun t => Try.prog.readableRec t && decide (t < Try.prog.types.size))) = true := by kernel_rfl
theorem fact20 : ((Rows.fnExactInSetRow.ifacesOut == Try.f5.resultTypes.toList.any (Try.prog.ifacesRec ·))) = true := by kernel_rfl
theorem fact21 : ((Rows.fnExactInSetRow.loopsOut == Try.f5.resultTypes.toList.any (Try.prog.loopsFrom ·))) = true := by kernel_rfl
theorem fact22 : ((Rows.fnExactInSetRow.plainKeys == Try.prog.plainKeys)) = true := by rw [Facts.keys]; rfl
theorem fact23 : (Rows.fnExactInSetRow.shortTexts.isNone) = true := by kernel_rfl
theorem fact26 : ((Rows.fnExactInSetRow.lifted == Try.prog.liftsFinal)) = true := by rw [Facts.lifts]; rfl
theorem fact27 : ((Try.prog.make == some Rows.fnExactInSetRow.make)) = true := by rw [Facts.make]; rfl
theorem fact28 : ((Rows.fnExactInSetRow.kinds == (if Rows.fnExactInSetRow.domain.isEmpty then [] else Try.f5.params.toList.map fun t => match Try.prog.underlying t with | some (.int k) => some k | _ => none))) = true := by kernel_rfl
theorem fact29 : ((Rows.fnExactInSetRow.pinned == Rows.fnExactInSetRow.pinnedBy)) = true := by kernel_rfl
theorem fact30 : ((Rows.fnExactInSetRow.veiled == (Try.f5.params.toList ++ Rows.fnExactInSetSpec.plain.varTypes Try.prog ++ Try.f5.resultTypes.toList).any (Try.prog.veiledRec ·))) = true := by kernel_rfl
theorem fact31 : (Rows.fnExactInSetRow.veiledFits Try.prog Try.f5.params.toList (Try.f5.params.toList ++ Rows.fnExactInSetSpec.plain.varTypes Try.prog ++ Try.f5.resultTypes.toList)) = true := by kernel_rfl
set_option maxRecDepth 100000 in
theorem closed : joinedFacts Try.prog 5 Try.f5 Rows.fnExactInSetSpec Rows.fnExactInSetRow = true := (bt (bt (bt (bt (bt (bt (bt (bt (bt (bt (bt (bt (bt (bt (bt (bt (bt (bt (bt (bt (bt (bt (bt (bt (bt (bt (bt (bt (bt (bt (bt fact0 Facts.laidOut) Facts.rowed) fact3) fact4) fact5) Facts.stops) fact7) Facts.knobs) fact9) fact10) fact11) fact12) fact13) fact14) fact15) fact16) fact17) fact18) fact19) fact20) fact21) fact22) fact23) Facts.heard) Facts.enter) fact26) fact27) fact28) fact29) fact30) fact31)
theorem named : Try.prog.funcNamed Rows.fnExactInSetRow.func = some 5 := by kernel_rfl
theorem inst : Try.f5.isInstance Try.prog Rows.fnExactInSetRow.origin Rows.fnExactInSetRow.targs := of_decide_eq_true (by kernel_rfl)
theorem wrap : Try.f5.isWrapper Try.prog Rows.fnExactInSetRow.wrapper Rows.fnExactInSetRow.mainSum := by unfold Func.isWrapper; first | (rw [if_pos (by decide +kernel)]; kernel_rfl) | (rw [if_neg (by decide +kernel)]; exact ⟨rfl, rfl⟩)
theorem over : Rows.fnExactInSetRow.holds Try.pinned (OpenSpec.ofChange Rows.fnExactInSetSpec) :=
  OpenClaim.holds_of_wide 5 Try.f5 rfl rfl rfl rfl rfl rfl rfl ⟨rfl, rfl, rfl, rfl, rfl⟩ rfl rfl rfl rfl rfl named Try.func5 closed inst wrap
    (fun os started H enc _ => lifted os started H enc)
theorem proved : Rows.FnExactInSetSaid := over
#print axioms proved
end Go.Proofs.Ytkcenblmbodbbaa.fnExactInSet
namespace Go.Proofs.Ytkcenblmbodbbaa
/-- The row, under a short name, for the claim. -/
theorem fnExactInSet_holds : Rows.FnExactInSetSaid := fnExactInSet.proved
end Go.Proofs.Ytkcenblmbodbbaa
