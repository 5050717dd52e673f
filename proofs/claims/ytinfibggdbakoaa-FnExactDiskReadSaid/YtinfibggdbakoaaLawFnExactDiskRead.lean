/- The law FnExactDiskRead returns true at every input that can be read as data; no further conditions. -/
import Derived.Test.YtinfibggdbakoaaRows
import Derived.Test.YtinfibggdbakoaaFnExactDiskReadWalk
import Derived.Test.YtinfibggdbakoaaOpen
import Derived.Test.YtinfibggdbakoaaFacts
import Derived.WalkKit
import Derived.ProofKit
import Derived.OpenShut
import Derived.ShutString
import Derived.ChangeOld
import Derived.Below
import Derived.SizedLaws
import Derived.Carry
namespace Go.Proofs.Ytinfibggdbakoaa.fnExactDiskRead
open Go.ChangeShapes Go.WideShapes Go.ChangeAt Go.RowKit Mem
open Go.ChangeMaps (open_string shut_string)
set_option linter.unusedVariables false
theorem own : ownKnob Try.prog.godebug = none := by kernel_rfl
theorem laidOut : laidOutB Try.prog = true := Facts.laidOut
set_option maxRecDepth 100000 in
theorem lifted (os : Os) (started : os.Started) (H : Type) (enc : TypeId × Value → H) :
    ReturnsInHanded {} Try.checked os 4 .any (Rows.fnExactDiskReadSpec.pre6 enc Try.prog Try.f4 Rows.fnExactDiskReadRow.domain false) (Rows.fnExactDiskReadSpec.post enc Try.prog Try.f4 false true false false) := by
  refine returnsInHanded_of_change_sized (C := Try.checked) own started (by kernel_rfl) Try.func4
    (ChangeSpec.witness6 (enc := enc) (C := Try.checked) false ⟨#[], #[.agg #[.slice none 0 0, .slice none 0 0, .slice none 0 0, .slice none 0 0, .int .i64 0], .string ByteArray.empty], []⟩ 8 (by kernel_rfl) (by kernel_rfl) (by kernel_rfl) (by kernel_rfl)) ?_
  intro W base args ds gs before hval0 hW hcnd hsz0 _
  have hsz : (DataW.weightsEach Try.prog (Try.f4.params.toList ++ Rows.fnExactDiskReadSpec.plain.varTypes Try.prog) (ds ++ gs)).all (· ≤ reachBytes) = true := hsz0
  have hval : ∀ (j : Nat) t v, Try.f4.params[j]? = some t → args[j]? = some v → Value.okWide Try.prog W .any base t v := hval0
  have hW' := hW
  obtain ⟨p, q, hA0, hV, rfl, hfz, hnd⟩ := hW
  have hA : DataW.TrodAll enc Try.prog W 0 (fun _ => true) true Try.f4.params.toList args.toList ds p := hA0
  rw [Try.params4] at hA hval hsz
  obtain ⟨v0, vs0, d0, ds0, p0, q0, hargs, rfl, rfl, h0, r0⟩ := trodAll_cons hA
  obtain ⟨v1, vs1, d1, ds1, p1, q1, rfl, rfl, rfl, h1, r1⟩ := trodAll_cons r0
  obtain ⟨rfl, rfl, rfl⟩ := trodAll_nil r1
  obtain rfl : args = #[v0, v1] := by cases args; simp_all
  obtain ⟨rfl, rfl⟩ := trodVars_none hV
  have k0 := h0
  have lt0 : ∀ x ∈ p0, x.block < W.heap.size := by obtain ⟨m, hm⟩ := k0; exact DataW.trod_lt m _ _ _ hm
  obtain ⟨cs0, rfl, _⟩ := okWide_struct Try.underlying26 (hval 0 26 v0 rfl rfl)
  obtain ⟨f0, hf0⟩ := h0
  obtain ⟨x0, hK0⟩ := (opens_diskL).2.2 enc W 0 (fun _ => true) true f0 _ _ hf0
  obtain ⟨cs0⟩ := cs0
  replace hK0 := (show _ from hK0)
  have k1 := h1
  have lt1 : ∀ x ∈ p1, x.block < W.heap.size := by obtain ⟨m, hm⟩ := k1; exact DataW.trod_lt m _ _ _ hm
  obtain ⟨s1, rfl, rfl, rfl, y1⟩ := open_string Try.underlying9 (hval 1 9 v1 rfl rfl) h1
  have w1 : s1.size ≤ 140737488351232 := by
    have z := sized_string hsz (j := 1) (t := 9) rfl rfl
    rw [Array.length_toList] at z
    exact z
  obtain ⟨⟨l1⟩⟩ := s1
  clear hA0 hval0 hsz0 hsz
  refine (lawFnExactDiskRead_walk ⟨_, rfl, hK0⟩ (Nat.le_trans (show l1.length ≤ 140737488351232 from w1) (by decide))).mono fun e W' ⟨he, hnew⟩ => ?_
  have bel := Mod.toBelow hnew
  subst he
  exact ⟨_, rfl, _, _, _, [], _, [], hW', trodAll_mk1 (shut_bool Try.underlying4 _), (trodAll_cons_mk (Below.trod laidOut (by kernel_rfl) (of_decide_eq_true (by kernel_rfl)) k0 bel lt0) (trodAll_cons_mk (Below.trod laidOut (by kernel_rfl) (of_decide_eq_true (by kernel_rfl)) k1 bel lt1) trodAll_mk0)), rfl, bel.frame _, fun h => by cases h⟩
theorem bt {a b : Bool} (h : a = true) (k : b = true) : (a && b) = true := by rw [h, k]; rfl
theorem fact0 : (Rows.fnExactDiskReadRow.wf (OpenSpec.ofChange Rows.fnExactDiskReadSpec)) = true := by kernel_rfl
theorem fact3 : (Try.f4.params.all (Try.prog.readableRec ·)) = true := by kernel_rfl
theorem fact4 : (namedTie Try.prog Rows.fnExactDiskReadRow.named Rows.fnExactDiskReadSpec.vars) = true := by kernel_rfl
theorem fact5 : ((Rows.fnExactDiskReadRow.stops == [])) = true := by kernel_rfl
theorem fact7 : ((Rows.fnExactDiskReadRow.knobs == [])) = true := by kernel_rfl
theorem fact9 : ((Rows.fnExactDiskReadRow.inPlace == Try.prog.inPlace 4)) = true := by kernel_rfl
theorem fact10 : ((Rows.fnExactDiskReadRow.unfollowed == Try.prog.unfollowed 4)) = true := by kernel_rfl
theorem fact11 : ((Rows.fnExactDiskReadRow.recurses == Try.prog.recurses 4)) = true := by kernel_rfl
theorem fact12 : ((Rows.fnExactDiskReadRow.named == Try.prog.varsNamed 4)) = true := by kernel_rfl
theorem fact13 : ((Rows.fnExactDiskReadRow.maps == (Try.f4.params.toList ++ Rows.fnExactDiskReadSpec.plain.varTypes Try.prog).any (Try.prog.mapsRec ·))) = true := by kernel_rfl
theorem fact14 : ((Rows.fnExactDiskReadRow.ifaces == (Try.f4.params.toList ++ Rows.fnExactDiskReadSpec.plain.varTypes Try.prog).any (Try.prog.ifacesRec ·))) = true := by kernel_rfl
theorem fact15 : ((Rows.fnExactDiskReadRow.mapsOut == Try.prog.mapsAmong Try.f4.resultTypes.toList)) = true := by kernel_rfl
theorem fact16 : ((Rows.fnExactDiskReadRow.loops == (Try.f4.params.toList ++ Rows.fnExactDiskReadSpec.plain.varTypes Try.prog).any (Try.prog.loopsFrom ·))) = true := by kernel_rfl
theorem fact17 : ((Rows.fnExactDiskReadRow.wideKeys == (Try.f4.params.toList ++ Rows.fnExactDiskReadSpec.plain.varTypes Try.prog ++ Try.f4.resultTypes.toList).any (Try.prog.wideKeysFrom ·))) = true := by kernel_rfl
theorem fact18 : (Rows.fnExactDiskReadSpec.vars.all (Try.prog.varReadable ·)) = true := by kernel_rfl
theorem fact19 : (Try.f4.resultTypes.all (fun t => Try.prog.readableRec t && decide (t < Try.prog.types.size))) = true := by kernel_rfl
theorem fact20 : ((Rows.fnExactDiskReadRow.ifacesOut == Try.f4.resultTypes.toList.any (Try.prog.ifacesRec ·))) = true := by kernel_rfl
theorem fact21 : ((Rows.fnExactDiskReadRow.loopsOut == Try.f4.resultTypes.toList.any (Try.prog.loopsFrom ·))) = true := by kernel_rfl
theorem fact22 : ((Rows.fnExactDiskReadRow.plainKeys == Try.prog.plainKeys)) = true := by rw [Facts.keys]; rfl
theorem fact23 : (Rows.fnExactDiskReadRow.shortTexts.isNone) = true := by kernel_rfl
theorem fact26 : ((Rows.fnExactDiskReadRow.lifted == Try.prog.liftsFinal)) = true := by rw [Facts.lifts]; rfl
theorem fact27 : ((Try.prog.make == some Rows.fnExactDiskReadRow.make)) = true := by rw [Facts.make]; rfl
theorem fact28 : ((Rows.fnExactDiskReadRow.kinds == (if Rows.fnExactDiskReadRow.domain.isEmpty then [] else Try.f4.params.toList.map fun t => match Try.prog.underlying t with | some (.int k) => some k | _ => none))) = true := by kernel_rfl
theorem fact29 : ((Rows.fnExactDiskReadRow.pinned == Rows.fnExactDiskReadRow.pinnedBy)) = true := by kernel_rfl
theorem fact30 : ((Rows.fnExactDiskReadRow.veiled == (Try.f4.params.toList ++ Rows.fnExactDiskReadSpec.plain.varTypes Try.prog ++ Try.f4.resultTypes.toList).any (Try.prog.veiledRec ·))) = true := by kernel_rfl
theorem fact31 : (Rows.fnExactDiskReadRow.veiledFits Try.prog Try.f4.params.toList (Try.f4.params.toList ++ Rows.fnExactDiskReadSpec.plain.varTypes Try.prog ++ Try.f4.resultTypes.toList)) = true := by kernel_rfl
set_option maxRecDepth 100000 in
theorem closed : joinedFacts Try.prog 4 Try.f4 Rows.fnExactDiskReadSpec Rows.fnExactDiskReadRow = true := (bt (bt (bt (bt (bt (bt (bt (bt (bt (bt (bt (bt (bt (bt (bt (bt (bt (bt (bt (bt (bt (bt (bt (bt (bt (bt (bt (bt (bt (bt (bt fact0 Facts.laidOut) Facts.rowed) fact3) fact4) fact5) Facts.stops) fact7) Facts.knobs) fact9) fact10) fact11) fact12) fact13) fact14) fact15) fact16) fact17) fact18) fact19) fact20) fact21) fact22) fact23) Facts.heard) Facts.enter) fact26) fact27) fact28) fact29) fact30) fact31)
theorem named : Try.prog.funcNamed Rows.fnExactDiskReadRow.func = some 4 := by kernel_rfl
theorem inst : Try.f4.isInstance Try.prog Rows.fnExactDiskReadRow.origin Rows.fnExactDiskReadRow.targs := of_decide_eq_true (by kernel_rfl)
theorem wrap : Try.f4.isWrapper Try.prog Rows.fnExactDiskReadRow.wrapper Rows.fnExactDiskReadRow.mainSum := by unfold Func.isWrapper; first | (rw [if_pos (by decide +kernel)]; kernel_rfl) | (rw [if_neg (by decide +kernel)]; exact ⟨rfl, rfl⟩)
theorem over : Rows.fnExactDiskReadRow.holds Try.pinned (OpenSpec.ofChange Rows.fnExactDiskReadSpec) :=
  OpenClaim.holds_of_wide 4 Try.f4 rfl rfl rfl rfl rfl rfl rfl ⟨rfl, rfl, rfl, rfl, rfl⟩ rfl rfl rfl rfl rfl named Try.func4 closed inst wrap
    (fun os started H enc _ => lifted os started H enc)
theorem proved : Rows.FnExactDiskReadSaid := over
#print axioms proved
end Go.Proofs.Ytinfibggdbakoaa.fnExactDiskRead
namespace Go.Proofs.Ytinfibggdbakoaa
/-- The row, under a short name, for the claim. -/
theorem fnExactDiskRead_holds : Rows.FnExactDiskReadSaid := fnExactDiskRead.proved
end Go.Proofs.Ytinfibggdbakoaa
