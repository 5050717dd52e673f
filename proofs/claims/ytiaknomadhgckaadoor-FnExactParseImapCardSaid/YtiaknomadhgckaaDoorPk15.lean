/- Closed facts on the whole program, each by itself. A row whose contract wants both the listed variables and the world's shape. What the row lists of the flags' names, read off the memory. The program's letters of flags. Decimal numerals. Names of mails, in plain lists. The name of a mail, both ways. What the row lists of the table of letters, read off the memory. What the rows over names list, read off the memory. The flags' names and the world's shape, read off the row. -/
import Derived.Test.YtiaknomadhgckaaDoorProg
import Derived.JoinedOf
import Derived.KernelRfl
import Derived.Handed
import Derived.HandedShaped
import Derived.Shelf.Vars
import Derived.Test.YtiaknomadhgckaaDoorPk3
import Derived.Test.YtiaknomadhgckaaDoorRows
import Derived.LaidLaws
import Derived.ChangeArms
import Derived.ChangeSame
import Derived.OpenShut
import Derived.ChangeSlices
import Derived.ChangeVars
import Derived.Test.YtiaknomadhgckaaDoorPk1
import Derived.Test.YtiaknomadhgckaaDoorShelf
import Derived.Lib.AppendIntMem
import Derived.Test.YtiaknomadhgckaaDoorPk2
import Derived.Lib.ItoaNum
import Derived.Lib.LaidTab
import Derived.Test.YtiaknomadhgckaaDoorPk7
namespace Go.Proofs.YtiaknomadhgckaaDoor.Facts
theorem laidOut : laidOutB Tryd.prog = true := by kernel_rfl
theorem rowed : mapsRowed Tryd.prog = true := by kernel_rfl
theorem stops : (Tryd.prog.stops == []) = true := by kernel_rfl
theorem knobs : (Tryd.prog.stopKnobs == []) = true := by kernel_rfl
theorem keys : Tryd.prog.plainKeys = true := by kernel_rfl
theorem heard : Tryd.prog.stopsHeard = true := by kernel_rfl
theorem enter : Tryd.prog.mayEnter = true := by kernel_rfl
theorem lifts : Tryd.prog.liftsFinal = false := by kernel_rfl
theorem make : Tryd.prog.make = some .cut := by kernel_rfl
end Go.Proofs.YtiaknomadhgckaaDoor.Facts

namespace Go.Proofs.YtiaknomadhgckaaDoor
open Go.RowKit Mem Go.ChangeShapes
set_option linter.unusedVariables false
variable {H : Type} {enc : TypeId × Value → H}
theorem handed_shaped {a : Assume} {C : Checked} {os : Os} {f : FuncId} {fn : Func} {s : ChangeSpec} {conds : List PathCond} {apart fresh handsOn again : Bool} {X : World → Array Value → Prop}
    (hX : ∀ (w w' : World) (args : Array Value), w.heap = w'.heap → X w args → X w' args)
    (own : ownKnob C.prog.godebug = none) (started : os.Started) (noInit : C.prog.inits.idxOf? f = none) (hfn : C.prog.funcs[f]? = some fn)
    (witness : ∃ (w : World) (tape : Tape) (i : Input), w.os = os ∧ (w.forCall tape i).Shaped C.prog ∧ i.vars = [] ∧ Input.okWide C.prog (w.forCall tape i) .any w.heap.size f i ∧
      ((s.pre enc C.prog fn conds apart (w.forCall tape i).memory i.args ∧ X (w.forCall tape i).memory i.args) ∧ sizedMet enc C.prog fn (OpenSpec.ofChange s) apart (w.forCall tape i).memory i.args) ∧ a.holds C.prog (lone (Frame.enter C.prog f i.args .normal) [] (w.forCall tape i)))
    (contract : ∀ (W : World) (base : Nat) (args : Array Value) (ds gs : List (DataW H)) (before : List MemPlace),
      (∀ (j : Nat) t v, fn.params[j]? = some t → args[j]? = some v → Value.okWide C.prog W .any base t v) →
      DataW.Whole enc C.prog fn.params.toList s.vars apart W args.toList ds gs before →
      conds.all (PathCond.test C.prog ⟨fn.params.toList, ds, s.plain.varTypes C.prog, gs⟩) = true →
      (DataW.weightsEach C.prog (fn.params.toList ++ s.plain.varTypes C.prog) (ds ++ gs)).all (· ≤ reachBytes) = true → X W args → W.ShapedOpen C.prog →
      a.holds C.prog (lone (Frame.enter C.prog f args .normal) [] W) →
      Calls C.prog f args W fun e W' => ∃ v, e = .returned v ∧ s.post enc C.prog fn apart fresh handsOn again W args v W') :
    ReturnsInHanded a C os f .any (fun w args => (s.pre enc C.prog fn conds apart w args ∧ X w args) ∧ sizedMet enc C.prog fn (OpenSpec.ofChange s) apart w args) (s.post enc C.prog fn apart fresh handsOn again) := by
  refine returnsInHanded_of_calls own started noInit witness ?_
  intro w tape i _ hsh _ hok hpre hholds
  obtain ⟨_, _, _, fn', hfn', _, _, _, _, hval⟩ := hok
  have e : fn' = fn := Option.some.inj (hfn'.symm.trans hfn)
  subst e
  obtain ⟨⟨⟨ds, gs, before, hw, hc⟩, hx⟩, hz⟩ := hpre
  have hw' := DataW.Whole.of_heap (w' := w.forCall tape i) (by rfl) hw
  refine (contract (w.forCall tape i) w.heap.size i.args ds gs before hval hw' hc (hz.weights hw) (hX _ _ _ (by rfl) hx) hsh hholds).mono fun e W' ⟨v, he, hp⟩ => ?_
  subst he
  exact ChangeSpec.post_blind hp
theorem intAt_of_shaped {w : World} (h : w.ShapedOpen Tryd.prog) : IntAt w :=
  Go.Proofs.cell_of_shapedOpen_int (zero := #[.int .i64 0]) (t := 3) h (of_decide_eq_true (by kernel_rfl)) (by kernel_rfl) rfl (by kernel_rfl) (by kernel_rfl) Tryd.underlying3
end Go.Proofs.YtiaknomadhgckaaDoor

namespace Go.Proofs.YtiaknomadhgckaaDoor
open Go.RowKit Mem Go.ChangeShapes
set_option linter.unusedVariables false
def names5 : List Bytes := (List.range 5).map nameL
def lit1 {H : Type} (x : Bytes) : DataW H := .lit (.string x)
theorem names_is : (Rows.laid_loop_example_s02349_impl_flagNames : DataW Unit) = .slice (names5.map lit1) [] := rfl
theorem namesAt_of_vars {W : World} {rest : List (String × DataW Unit)} {ps : List MemPlace} (h : DataW.LaidVars Tryd.prog W (("loop.example/s02349/impl.flagNames", Rows.laid_loop_example_s02349_impl_flagNames) :: rest) ps) : NamesAt W := by
  obtain ⟨g, t, cs, fuel, p, q, hg, ht, hv, hd, _, _⟩ := h
  obtain rfl := Option.some.inj ((show Tryd.prog.globalNamed "loop.example/s02349/impl.flagNames" = some 1 by kernel_rfl).symm.trans hg)
  obtain rfl := Option.some.inj ((show (Tryd.prog.globals[1]?).map (·.type) = some 100 by kernel_rfl).symm.trans ht)
  rw [names_is] at hd
  rcases DataW.trod_slice Tryd.underlying100 hd with ⟨_, hx⟩ | ⟨a, len, cap, elems, sp, n, _, hcs, hx, hb, hlc, hcm, hel, helem, _, _⟩
  · injection hx with hx _; cases hx
  injection hx with hx _
  injection hx with hx _
  have hlen : len = 5 := by
    have := congrArg List.length hx
    simp [names5] at this
    omega
  subst hlen
  have c1 : Tryd.prog.cellsOf 9 = 1 := by kernel_rfl
  have key : ∀ (j : Nat) (x : Bytes), names5[j]? = some x → W.cell? (a.add j) = some (.string (toS x)) := by
    intro j x hj
    have hj5 : j < 5 := by have := (List.getElem?_eq_some_iff.1 hj).1; simp [names5] at this; exact this
    have h1 : (elems.map (·.1))[j]? = some (lit1 x) := by rw [← hx, List.getElem?_map, hj]; rfl
    rw [List.getElem?_map] at h1
    obtain ⟨y, hy, hy1⟩ := Option.map_eq_some_iff.1 h1
    have hE := helem j hj5
    rw [hy, c1, Nat.mul_one] at hE
    obtain ⟨cs1, hcs1, htr⟩ := Option.bind_eq_some_iff.1 hE
    obtain ⟨s, rfl, rfl, _⟩ := DataW.trod_string Tryd.underlying9 htr
    have hs : s.data.toList = x := by simpa [lit1] using hy1
    subst hs
    have hcell := cell_of_cells?_one hcs1
    rw [hcell]
    cases s; simp [toS]
  have hcell : W.cell? ⟨1, 0, none⟩ = some (.slice (some a) 5 cap) := by
    rw [World.var?_cell hg hv 0]
    have := congrArg (·[0]?) hcs
    simpa using this
  have hblk : a.block < W.heap.size := by
    have := key 0 _ rfl
    rw [show a.add 0 = a from by simp [Addr.add]] at this
    exact World.block_lt_of_cell? W _ this
  refine ⟨a, cap, hcell, rfl, by omega, fun _ => ⟨a, rfl, hblk, fun j x hj => ⟨[.string x], rfl, fun i u hu => ?_⟩⟩⟩
  have hi : i = 0 := by have := (List.getElem?_eq_some_iff.1 hu).1; simpa using this
  subst hi
  rw [show j * Ty.string.sz + 0 = j from Nat.mul_one j]
  have hjx : ∃ y, names5[j]? = some y ∧ x = toS y := by
    rw [List.getElem?_map] at hj
    obtain ⟨q, hq, rfl⟩ := Option.map_eq_some_iff.1 hj
    exact ⟨nameL q, by unfold names5; rw [List.getElem?_map, hq]; rfl, rfl⟩
  obtain ⟨y, hy, rfl⟩ := hjx
  rw [key j y hy]
  simpa using hu
end Go.Proofs.YtiaknomadhgckaaDoor

namespace Go.Proofs.YtiaknomadhgckaaDoor
open Go.RowKit Mem
set_option linter.unusedVariables false
end Go.Proofs.YtiaknomadhgckaaDoor

namespace Go.Proofs.YtiaknomadhgckaaDoor
open Go.RowKit Mem
set_option linter.unusedVariables false
theorem TabIs_new {P : Program} {w w' : World} {n : String} {g : Nat} {k : IntKind} {zs : List Int} (h : Lib.TabIs P w n k zs) (hg : P.globalNamed n = some g) (hm : New w w') : Lib.TabIs P w' n k zs := by
  unfold Lib.TabIs World.var? at h ⊢
  rw [hg, Option.bind_some] at h ⊢
  have hlt : g < w.heap.size := by
    rcases Nat.lt_or_ge g w.heap.size with h1 | h1
    · exact h1
    · simp [Array.getElem?_eq_none h1] at h
  rw [hm.block g hlt id]; exact h
def TabAt (w : World) : Prop := Lib.TabIs Tryd.prog w "internal/strconv.uint64pow10" .u64 Lib.pow10Tab
theorem TabAt.new {w w' : World} (h : TabAt w) (hm : New w w') : TabAt w' := TabIs_new (g := 2) h (by kernel_rfl) hm
end Go.Proofs.YtiaknomadhgckaaDoor

namespace Go.Proofs.YtiaknomadhgckaaDoor
set_option linter.unusedVariables false
open Mem
end Go.Proofs.YtiaknomadhgckaaDoor

namespace Go.Proofs.YtiaknomadhgckaaDoor
open Go.RowKit Mem
set_option linter.unusedVariables false
end Go.Proofs.YtiaknomadhgckaaDoor

namespace Go.Proofs.YtiaknomadhgckaaDoor
open Go.RowKit Mem Go.ChangeShapes
set_option linter.unusedVariables false
end Go.Proofs.YtiaknomadhgckaaDoor

namespace Go.Proofs.YtiaknomadhgckaaDoor
open Go.RowKit Mem Go.ChangeShapes
set_option linter.unusedVariables false
theorem laid_tail {P : Program} {W : World} {x : String × DataW Unit} {rest : List (String × DataW Unit)} {ps : List MemPlace} (h : DataW.LaidVars P W (x :: rest) ps) : ∃ q, DataW.LaidVars P W rest q := by
  obtain ⟨g, t, cs, fuel, p, q, hg, ht, hv, hd, hr, _⟩ := h
  exact ⟨q, hr⟩
end Go.Proofs.YtiaknomadhgckaaDoor

namespace Go.Proofs.YtiaknomadhgckaaDoor
open Go.RowKit Mem Go.ChangeShapes
set_option linter.unusedVariables false
theorem names1_of_laid {W : World} {x : String × DataW Unit} {rest : List (String × DataW Unit)} (h : laidMet Tryd.prog (x :: ("loop.example/s02349/impl.flagNames", Rows.laid_loop_example_s02349_impl_flagNames) :: rest) W) (hs : W.ShapedOpen Tryd.prog) : Names1 W := by
  obtain ⟨ps, h, _⟩ := h
  obtain ⟨q1, h1⟩ := laid_tail h
  exact ⟨namesAt_of_vars h1, intAt_of_shaped hs⟩
end Go.Proofs.YtiaknomadhgckaaDoor
