/- The law FnExactDiskCrash returns true at every input that can be read as data; no further conditions. -/
import Derived.Test.YtinfibggdbakoaaRows
import Derived.Test.YtinfibggdbakoaaFnExactDiskCrashWalk
import Derived.Test.YtinfibggdbakoaaOpen
import Derived.Test.YtinfibggdbakoaaFacts
import Derived.WalkKit
import Derived.ProofKit
import Derived.OpenShut
import Derived.ShutString
import Derived.ChangeOld
import Derived.Below
import Derived.SizedLaws
import Derived.Carry
namespace Go.Proofs.Ytinfibggdbakoaa.fnExactDiskCrash
open Go.ChangeShapes Go.WideShapes Go.ChangeAt Go.RowKit Mem
open Go.ChangeMaps (open_string shut_string)
set_option linter.unusedVariables false
theorem own : ownKnob Try.prog.godebug = none := by kernel_rfl
theorem laidOut : laidOutB Try.prog = true := Facts.laidOut
set_option maxRecDepth 100000 in
theorem lifted (os : Os) (started : os.Started) (H : Type) (enc : TypeId × Value → H) :
    ReturnsInHanded {} Try.checked os 5 .any (Rows.fnExactDiskCrashSpec.pre6 enc Try.prog Try.f5 Rows.fnExactDiskCrashRow.domain false) (Rows.fnExactDiskCrashSpec.post enc Try.prog Try.f5 false true false false) := by
  refine returnsInHanded_of_change_sized (C := Try.checked) own started (by kernel_rfl) Try.func5
    (ChangeSpec.witness6 (enc := enc) (C := Try.checked) false ⟨#[], #[.agg #[.slice none 0 0, .slice none 0 0, .slice none 0 0, .slice none 0 0, .int .i64 0], .int .i64 0, .slice none 0 0], []⟩ 8 (by kernel_rfl) (by kernel_rfl) (by kernel_rfl) (by kernel_rfl)) ?_
  intro W base args ds gs before hval0 hW hcnd hsz0 _
  have hsz : (DataW.weightsEach Try.prog (Try.f5.params.toList ++ Rows.fnExactDiskCrashSpec.plain.varTypes Try.prog) (ds ++ gs)).all (· ≤ reachBytes) = true := hsz0
  have hval : ∀ (j : Nat) t v, Try.f5.params[j]? = some t → args[j]? = some v → Value.okWide Try.prog W .any base t v := hval0
  have hW' := hW
  obtain ⟨p, q, hA0, hV, rfl, hfz, hnd⟩ := hW
  have hA : DataW.TrodAll enc Try.prog W 0 (fun _ => true) true Try.f5.params.toList args.toList ds p := hA0
  rw [Try.params5] at hA hval hsz
  obtain ⟨v0, vs0, d0, ds0, p0, q0, hargs, rfl, rfl, h0, r0⟩ := trodAll_cons hA
  obtain ⟨v1, vs1, d1, ds1, p1, q1, rfl, rfl, rfl, h1, r1⟩ := trodAll_cons r0
  obtain ⟨v2, vs2, d2, ds2, p2, q2, rfl, rfl, rfl, h2, r2⟩ := trodAll_cons r1
  obtain ⟨rfl, rfl, rfl⟩ := trodAll_nil r2
  obtain rfl : args = #[v0, v1, v2] := by cases args; simp_all
  obtain ⟨rfl, rfl⟩ := trodVars_none hV
  have k0 := h0
  have lt0 : ∀ x ∈ p0, x.block < W.heap.size := by obtain ⟨m, hm⟩ := k0; exact DataW.trod_lt m _ _ _ hm
  obtain ⟨cs0, rfl, _⟩ := okWide_struct Try.underlying26 (hval 0 26 v0 rfl rfl)
  obtain ⟨f0, hf0⟩ := h0
  obtain ⟨x0, hK0⟩ := (opens_diskL).2.2 enc W 0 (fun _ => true) true f0 _ _ hf0
  obtain ⟨cs0⟩ := cs0
  replace hK0 := (show _ from hK0)
  have k1 := h1
  have lt1 : ∀ x ∈ p1, x.block < W.heap.size := by obtain ⟨m, hm⟩ := k1; exact DataW.trod_lt m _ _ _ hm
  obtain ⟨n1, rfl, rfl, rfl, w1⟩ := open_int Try.underlying3 (hval 1 3 v1 rfl rfl) h1
  have k2 := h2
  have lt2 : ∀ x ∈ p2, x.block < W.heap.size := by obtain ⟨m, hm⟩ := k2; exact DataW.trod_lt m _ _ _ hm
  obtain ⟨A2, n2, c2, rfl⟩ := okWide_slice Try.underlying45 (hval 2 45 v2 rfl rfl)
  obtain ⟨f2, hf2⟩ := h2
  obtain ⟨xs2, A2', c2', e2, hc2, hm2, hr2⟩ := (opens_intsL).2.2 enc W 0 (fun _ => true) true f2 _ _ hf2
  obtain ⟨rfl, rfl, rfl⟩ : A2 = A2' ∧ n2 = xs2.length ∧ c2 = c2' := by simpa [Value.cells] using e2
  clear hA0 hval0 hsz0 hsz
  refine (lawFnExactDiskCrash_walk ⟨_, rfl, hK0⟩ n1 (Go.Proofs.Ytinfibggdbakoaa.Mem.wf_wrap w1) (RdV.of_row hr2 hc2 hm2)).mono fun e W' ⟨he, hnew⟩ => ?_
  have bel := Mod.toBelow hnew
  subst he
  exact ⟨_, rfl, _, _, _, [], _, [], hW', trodAll_mk1 (shut_bool Try.underlying4 _), (trodAll_cons_mk (Below.trod laidOut (by kernel_rfl) (of_decide_eq_true (by kernel_rfl)) k0 bel lt0) (trodAll_cons_mk (Below.trod laidOut (by kernel_rfl) (of_decide_eq_true (by kernel_rfl)) k1 bel lt1) (trodAll_cons_mk (Below.trod laidOut (by kernel_rfl) (of_decide_eq_true (by kernel_rfl)) k2 bel lt2) trodAll_mk0))), rfl, bel.frame _, fun h => by cases h⟩
theorem bt {a b : Bool} (h : a = true) (k : b = true) : (a && b) = true := by rw [h, k]; rfl
theorem fact0 : (Rows.fnExactDiskCrashRow.wf (OpenSpec.ofChange Rows.fnExactDiskCrashSpec)) = true := by kernel_rfl
theorem fact3 : (Try.f5.params.all (Try.prog.readableRec ·)) = true := by kernel_rfl
theorem fact4 : (namedTie Try.prog Rows.fnExactDiskCrashRow.named Rows.fnExactDiskCrashSpec.vars) = true := by kernel_rfl
theorem fact5 : ((Rows.fnExactDiskCrashRow.stops == [])) = true := by kernel_rfl
theorem fact7 : ((Rows.fnExactDiskCrashRow.knobs == [])) = true := by kernel_rfl
theorem fact9 : ((Rows.fnExactDiskCrashRow.inPlace == Try.prog.inPlace 5)) = true := by kernel_rfl
theorem fact10 : ((Rows.fnExactDiskCrashRow.unfollowed == Try.prog.unfollowed 5)) = true := by kernel_rfl
theorem fact11 : ((Rows.fnExactDiskCrashRow.recurses == Try.prog.recurses 5)) = true := by kernel_rfl
theorem fact12 : ((Rows.fnExactDiskCrashRow.named == Try.prog.varsNamed 5)) = true := by kernel_rfl
theorem fact13 : ((Rows.fnExactDiskCrashRow.maps == (Try.f5.params.toList ++ Rows.fnExactDiskCrashSpec.plain.varTypes Try.prog).any (Try.prog.mapsRec ·))) = true := by kernel_rfl
theorem fact14 : ((Rows.fnExactDiskCrashRow.ifaces == (Try.f5.params.toList ++ Rows.fnExactDiskCrashSpec.plain.varTypes Try.prog).any (Try.prog.ifacesRec ·))) = true := by kernel_rfl
theorem fact15 : ((Rows.fnExactDiskCrashRow.mapsOut == Try.prog.mapsAmong Try.f5.resultTypes.toList)) = true := by kernel_rfl
theorem fact16 : ((Rows.fnExactDiskCrashRow.loops == (Try.f5.params.toList ++ Rows.fnExactDiskCrashSpec.plain.varTypes Try.prog).any (Try.prog.loopsFrom ·))) = true := by kernel_rfl
theorem fact17 : ((Rows.fnExactDiskCrashRow.wideKeys == (Try.f5.params.toList ++ Rows.fnExactDiskCrashSpec.plain.varTypes Try.prog ++ Try.f5.resultTypes.toList).any (Try.prog.wideKeysFrom ·))) = true := by kernel_rfl
theorem fact18 : (Rows.fnExactDiskCrashSpec.vars.all (Try.prog.varReadable ·)) = true := by kernel_rfl
theorem fact19 : (Try.f5.resultTypes.all (fun t => Try.prog.readableRec t && decide (t < Try.prog.types.size))) = true := by kernel_rfl
theorem fact20 : ((Rows.fnExactDiskCrashRow.ifacesOut == Try.f5.resultTypes.toList.any (Try.prog.ifacesRec ·))) = true := by kernel_rfl
theorem fact21 : ((Rows.fnExactDiskCrashRow.loopsOut == Try.f5.resultTypes.toList.any (Try.prog.loopsFrom ·))) = true := by kernel_rfl
theorem fact22 : ((Rows.fnExactDiskCrashRow.plainKeys == Try.prog.plainKeys)) = true := by rw [Facts.keys]; rfl
theorem fact23 : (Rows.fnExactDiskCrashRow.shortTexts.isNone) = true := by kernel_rfl
theorem fact26 : ((Rows.fnExactDiskCrashRow.lifted == Try.prog.liftsFinal)) = true := by rw [Facts.lifts]; rfl
theorem fact27 : ((Try.prog.make == some Rows.fnExactDiskCrashRow.make)) = true := by rw [Facts.make]; rfl
theorem fact28 : ((Rows.fnExactDiskCrashRow.kinds == (if Rows.fnExactDiskCrashRow.domain.isEmpty then [] else Try.f5.params.toList.map fun t => match Try.prog.underlying t with | some (.int k) => some k | _ => none))) = true := by kernel_rfl
theorem fact29 : ((Rows.fnExactDiskCrashRow.pinned == Rows.fnExactDiskCrashRow.pinnedBy)) = true := by kernel_rfl
theorem fact30 : ((Rows.fnExactDiskCrashRow.veiled == (Try.f5.params.toList ++ Rows.fnExactDiskCrashSpec.plain.varTypes Try.prog ++ Try.f5.resultTypes.toList).any (Try.prog.veiledRec ·))) = true := by kernel_rfl
theorem fact31 : (Rows.fnExactDiskCrashRow.veiledFits Try.prog Try.f5.params.toList (Try.f5.params.toList ++ Rows.fnExactDiskCrashSpec.plain.varTypes Try.prog ++ Try.f5.resultTypes.toList)) = true := by kernel_rfl
set_option maxRecDepth 100000 in
theorem closed : joinedFacts Try.prog 5 Try.f5 Rows.fnExactDiskCrashSpec Rows.fnExactDiskCrashRow = true := (bt (bt (bt (bt (bt (bt (bt (bt (bt (bt (bt (bt (bt (bt (bt (bt (bt (bt (bt (bt (bt (bt (bt (bt (bt (bt (bt (bt (bt (bt (bt fact0 Facts.laidOut) Facts.rowed) fact3) fact4) fact5) Facts.stops) fact7) Facts.knobs) fact9) fact10) fact11) fact12) fact13) fact14) fact15) fact16) fact17) fact18) fact19) fact20) fact21) fact22) fact23) Facts.heard) Facts.enter) fact26) fact27) fact28) fact29) fact30) fact31)
theorem named : Try.prog.funcNamed Rows.fnExactDiskCrashRow.func = some 5 := by kernel_rfl
theorem inst : Try.f5.isInstance Try.prog Rows.fnExactDiskCrashRow.origin Rows.fnExactDiskCrashRow.targs := of_decide_eq_true (by kernel_rfl)
theorem wrap : Try.f5.isWrapper Try.prog Rows.fnExactDiskCrashRow.wrapper Rows.fnExactDiskCrashRow.mainSum := by unfold Func.isWrapper; first | (rw [if_pos (by decide +kernel)]; kernel_rfl) | (rw [if_neg (by decide +kernel)]; exact ⟨rfl, rfl⟩)
theorem over : Rows.fnExactDiskCrashRow.holds Try.pinned (OpenSpec.ofChange Rows.fnExactDiskCrashSpec) :=
  OpenClaim.holds_of_wide 5 Try.f5 rfl rfl rfl rfl rfl rfl rfl ⟨rfl, rfl, rfl, rfl, rfl⟩ rfl rfl rfl rfl rfl named Try.func5 closed inst wrap
    (fun os started H enc _ => lifted os started H enc)
theorem proved : Rows.FnExactDiskCrashSaid := over
#print axioms proved
end Go.Proofs.Ytinfibggdbakoaa.fnExactDiskCrash
namespace Go.Proofs.Ytinfibggdbakoaa
/-- The row, under a short name, for the claim. -/
theorem fnExactDiskCrash_holds : Rows.FnExactDiskCrashSaid := fnExactDiskCrash.proved
end Go.Proofs.Ytinfibggdbakoaa
