/- Maps of the call's own, by what they answer. The program's test of a list of names. DiskValid of the program. The program's reading of a file. The plain law of a crash. Operations on a disk, in plain lists. -/
import Derived.Test.YtkkgighgnbbgiaaGreatDoorPk1
import Derived.Maps.OwnOps
import Derived.Maps.Views
import Derived.Test.YtkkgighgnbbgiaaGreatDoorPk5
import Derived.BigQuiet
import Derived.Carry
import Derived.Test.YtkkgighgnbbgiaaGreatDoorPk6
import Derived.Test.YtkkgighgnbbgiaaGreatDoorPk7
namespace Go.Proofs.YtkkgighgnbbgiaaGreatDoor.Mem
open Go.RowKit Go.Maps
set_option linter.unusedVariables false
/-- how keys are spelt -/
structure KeyE (P : Program) (k : TypeId) {κ : Type} (ok : κ → Prop) (kv : κ → Value) (kl : κ → Lit) : Prop where
  keyed : Keyed P k
  key : ∀ x, ok x → keyOf P k (kv x) = some (kl x)
  lit : ∀ x, WideAt.IsKeyLit (kl x)
  inj : ∀ x y, kl x = kl y → x = y
/-- how elements are spelt -/
structure ValE (P : Program) (e : TypeId) {ν : Type} (ok : ν → Prop) (ev : ν → Value) (el : ν → Lit) (z : ν) : Prop where
  val : ∀ x, ok x → plainElem (H := Unit) P e (ev x) = some (.lit (el x), [])
  inv : ∀ u x ps, plainElem (H := Unit) P e u = some (.lit (el x), ps) → u = ev x
  zok : ok z
  zero : ∀ w, (zeroValue e).run P w = .ok (ev z) w
/-- a map at block b that answers as f does -/
def MapOf {κ ν : Type} (P : Program) (k e : TypeId) (kl : κ → Lit) (el : ν → Lit) (z : ν) (w : World) (b n : Nat) (f : κ → ν) : Prop :=
  ∃ D : DataW Unit, w.ownsMap P k (plainElem P e) b n D ∧ IsMap D ∧ ∀ x, D.atKey (kl x) (.lit (el z)) = .lit (el (f x))
section
variable {κ ν : Type} {P : Program} {k e : TypeId} {okk : κ → Prop} {kv : κ → Value} {kl : κ → Lit} {okv : ν → Prop} {ev : ν → Value} {el : ν → Lit} {z : ν} {w w' : World} {b n : Nat} {f : κ → ν}
theorem MapOf.made (w : World) : MapOf P k e kl el z (w.alloc (.map #[] 0)) w.heap.size 0 (fun _ => z) :=
  ⟨_, World.ownsMap_made w P k _, isMap_empty, fun _ => rfl⟩
theorem MapOf.lt (h : MapOf P k e kl el z w b n f) : b < w.heap.size := by obtain ⟨D, h, _⟩ := h; exact h.lt
theorem MapOf.mod {S : Nat → Prop} (h : MapOf P k e kl el z w b n f) (hm : Mod S w w') (hS : ¬ S b) : MapOf P k e kl el z w' b n f := by
  have hlt := h.lt
  obtain ⟨D, ⟨es, clock, hb, hr⟩, h2⟩ := h
  exact ⟨D, ⟨es, clock, (hm.block b hlt hS).trans hb, hr⟩, h2⟩
theorem MapOf.mono (h : MapOf P k e kl el z w b n f) {n' : Nat} (hn : n ≤ n') : MapOf P k e kl el z w b n' f := by
  obtain ⟨D, h, h2⟩ := h; exact ⟨D, h.mono hn, h2⟩
theorem MapOf.look [DecidableEq κ] (K : KeyE P k okk kv kl) (V : ValE P e okv ev el z) (h : MapOf P k e kl el z w b n f) {t : TypeId} (ht : P.underlying t = some (.map k e)) {x : κ} (hx : okk x) :
    (Instr.lookup t (.map (some b)) (kv x) false).run P w = .ok (ev (f x)) w := by
  obtain ⟨D, h, _, hf⟩ := h
  obtain ⟨v, ps, hrun, hv⟩ := h.lookup K.keyed ht (V.zero w) (V.val z V.zok) (K.key x hx)
  rw [hf x] at hv
  rw [hrun, V.inv _ _ _ hv]
theorem MapOf.store [DecidableEq κ] (K : KeyE P k okk kv kl) (V : ValE P e okv ev el z) (h : MapOf P k e kl el z w b n f) (hn : n < maxLen) {t : TypeId} (ht : P.underlying t = some (.map k e)) {x : κ} (hx : okk x) {y : ν} (hy : okv y) :
    ∃ w', (Instr.mapUpdate t (.map (some b)) (kv x) (ev y)).run P w = .ok () w' ∧ MapOf P k e kl el z w' b (n + 1) (fun u => if u = x then y else f u) ∧ Mod (· = b) w w' := by
  obtain ⟨D, h, hD, hf⟩ := h
  obtain ⟨w', hrun, h1, hg⟩ := h.update K.keyed ht hn (K.key x hx) (V.val y hy)
  refine ⟨w', hrun, ⟨_, h1, hD.put _ _, fun u => ?_⟩, (Mod.refl _ _).grown hg fun q hq hl => by injection hq with hq; exact hq.symm⟩
  by_cases hu : u = x
  · subst hu; simp only [if_pos]; rw [atKey_put_same hD (K.lit _)]
  · simp only [if_neg hu]; rw [atKey_put_other (fun h => hu (K.inj _ _ h)), hf u]
theorem wpList_mapSet [DecidableEq κ] {ops : Array Oper} {rest : List Oper} {o : Oper} {a : Act} {Q : Exit → Act → World → Prop} (K : KeyE P k okk kv kl) (V : ValE P e okv ev el z) (hg : o.guard = none) (m x v : Operand) (t : TypeId)
    (hop : o.op = Op.mapUpdate t m x v ∨ o.op = Op.insert t m x v) (ht : P.underlying t = some (.map k e)) (hm : a.eval m = .map (some b)) (h : MapOf P k e kl el z w b n f) (hn : n < maxLen) (kx : κ) (vy : ν) (hx : a.eval x = kv kx) (hv : a.eval v = ev vy) (hkx : okk kx) (hvy : okv vy)
    (hK : ∀ w', MapOf P k e kl el z w' b (n + 1) (fun u => if u = kx then vy else f u) → Mod (· = b) w w' → wpList P ops Q rest (a.put o.dst undef) w') : wpList P ops Q (o :: rest) a w := by
  refine wpList_plain hg fun K' hK' => ?_
  obtain ⟨w', hrun, r1, r2⟩ := h.store K V hn ht hkx hvy
  unfold Oper.wp
  rcases hop with hop | hop
  · simp [execOp, hop, hm, hx, hv, hrun, Result.andThen]
    exact hK' _ _ (hK w' r1 r2)
  · simp [execOp, hop, hm, hx, hv, hrun, Result.andThen]
    exact hK' _ _ (hK w' r1 r2)
theorem wpList_mapGet [DecidableEq κ] {ops : Array Oper} {rest : List Oper} {o : Oper} {a : Act} {Q : Exit → Act → World → Prop} (K : KeyE P k okk kv kl) (V : ValE P e okv ev el z) (hg : o.guard = none) (m x : Operand) (t : TypeId)
    (hop : o.op = Op.lookup t m x false) (ht : P.underlying t = some (.map k e)) (hm : a.eval m = .map (some b)) (h : MapOf P k e kl el z w b n f) (kx : κ) (hx : a.eval x = kv kx) (hkx : okk kx)
    (hK : wpList P ops Q rest (a.put o.dst (ev (f kx))) w) : wpList P ops Q (o :: rest) a w := by
  refine wpList_plain hg fun K' hK' => ?_
  have hrun := h.look K V ht hkx
  unfold Oper.wp
  simp [execOp, hop, hm, hx, hrun, Result.andThen]
  exact hK' _ _ hK
end
/-- keys that are texts, elements that are numbers -/
theorem keyS {P : Program} {k : TypeId} (hk : P.underlying k = some .string) : KeyE P k (fun x : List UInt8 => x.length ≤ 1048576) (fun x => .string ⟨x.toArray⟩) (fun x => .string x) where
  keyed := string_keyed hk
  key := fun x hx => by have := WideMaps.keyOf_string_mk (P := P) (k := k) hk (s := ⟨x.toArray⟩) (by show x.toArray.size ≤ maxLen; simp only [maxLen, List.size_toArray]; omega); simpa using this
  lit := fun x => by first | trivial | exact ⟨_, rfl⟩ | simp [WideAt.IsKeyLit]
  inj := fun x y h => by injection h
theorem valI {P : Program} {e : TypeId} (he : P.underlying e = some (.int .i64)) (hz : ∀ w, (zeroValue e).run P w = .ok (.int .i64 0) w) : ValE P e (fun x : Int => (Lit.int .i64 x).wf = true) (fun x => .int .i64 x) (fun x => .int .i64 x) 0 where
  val := fun x h => plainElem_int he h
  inv := fun u x ps h => by
    obtain ⟨a, rfl, h1, _⟩ := plainElem_int_inv he h
    injection h1 with h1 _
    injection h1 with h1
    injection h1 with _ h1
    rw [h1]
  zok := by decide
  zero := hz
theorem keyI {P : Program} {k : TypeId} (hk : P.underlying k = some (.int .i64)) : KeyE P k (fun x : Int => (Lit.int .i64 x).wf = true) (fun x => .int .i64 x) (fun x => .int .i64 x) where
  keyed := int_keyed hk
  key := fun x h => keyOf_int_mk hk h
  lit := fun x => by first | trivial | exact ⟨_, rfl⟩ | simp [WideAt.IsKeyLit]
  inj := fun x y h => by injection h
theorem valB {P : Program} {e : TypeId} (he : P.underlying e = some .bool) (hz : ∀ w, (zeroValue e).run P w = .ok (.bool false) w) : ValE P e (fun _ : Bool => True) (fun x => .bool x) (fun x => .bool x) false where
  val := fun x _ => plainElem_bool he x
  inv := fun u x ps h => by
    unfold plainElem at h
    rw [he] at h
    cases u <;> simp at h
    rw [h.1]
  zok := trivial
  zero := hz
end Go.Proofs.YtkkgighgnbbgiaaGreatDoor.Mem

namespace Go.Proofs.YtkkgighgnbbgiaaGreatDoor
open Go.RowKit Mem Go.Maps
set_option linter.unusedVariables false
set_option linter.unusedSimpArgs false
theorem hasNode_false {l : List EntL} {k : Nat} {v : Int} (hk : k < l.length) : hasNode (l.take k) v = false ↔ ∀ j (hj : j < k), (l[j]'(by omega)).2 ≠ v := by
  unfold hasNode
  rw [List.any_eq_false]
  constructor
  · intro h j hj
    have hm : (l[j]'(by omega)) ∈ l.take k := by
      rw [List.mem_take_iff_getElem]
      exact ⟨j, by omega, rfl⟩
    have := h _ hm
    simpa using this
  · intro h x hx
    rw [List.mem_take_iff_getElem] at hx
    obtain ⟨j, hj, rfl⟩ := hx
    simpa using h j (by omega)
theorem atOk_iff {l : List EntL} {nodes : Int} {k : Nat} (hk : k < l.length) (hp : ∀ j, j < k → atOk l nodes j) :
    atOk l nodes k ↔ goodL l[k].1 = true ∧ 0 ≤ l[k].2 ∧ l[k].2 < nodes ∧ (∀ (h : 0 < k), (l[k - 1]'(by omega)).1 < l[k].1) ∧ hasNode (l.take k) l[k].2 = false := by
  constructor
  · intro h
    obtain ⟨h1, h2, h3, h4⟩ := h hk
    exact ⟨h1, h2, h3, fun h0 => (h4 (k - 1) (by omega)).1, (hasNode_false hk).2 fun j hj => (h4 j hj).2⟩
  · rintro ⟨h1, h2, h3, h4, h5⟩ _
    refine ⟨h1, h2, h3, fun j hj => ⟨?_, (hasNode_false hk).1 h5 j hj⟩⟩
    rcases Nat.lt_or_eq_of_le (show j ≤ k - 1 by omega) with h | h
    · exact lb_trans ((hp (k - 1) (by omega) (by omega)).2.2.2 j h).1 (h4 (by omega))
    · subst h; exact h4 (by omega)
theorem mkMapIB (w : World) : (Instr.makeMap 118 none).run Tryz.prog w = .ok (.map (some w.heap.size)) (w.alloc (.map #[] 0)) := run_makeMap _ w
theorem kInt : KeyE Tryz.prog 3 (fun x : Int => (Lit.int .i64 x).wf = true) (fun x => .int .i64 x) (fun x => .int .i64 x) := keyI Tryz.underlying3
theorem vBool : ValE Tryz.prog 4 (fun _ : Bool => True) (fun x => .bool x) (fun x => .bool x) false := valB Tryz.underlying4 (fun w => by go_simp)
abbrev MapIB (w : World) (b n : Nat) (f : Int → Bool) : Prop := MapOf Tryz.prog 3 4 (fun x : Int => .int .i64 x) (fun x : Bool => .bool x) false w b n f
theorem wfInt {u : Int} (h : IntKind.i64.wrap u = u) : (Lit.int .i64 u).wf = true := by
  rw [IntKind.wrap_i64] at h
  simp [Lit.wf, IntKind.min, IntKind.max, IntKind.bits, IntKind.signed]; omega
set_option maxHeartbeats 40000000 in
set_option maxRecDepth 100000 in
theorem inOrder_calls {A : Option Addr} {c : Nat} {xs : List EntryT} {B : Nat → Prop} {w : World} (h : Row dEntry w B A xs.length xs) (hB : ∀ k, B k → k < w.heap.size) (nodes : Int) : Calls Tryz.prog 61 #[.slice A xs.length c, .int .i64 nodes] w (Ret (.bool (inOrdL xs nodes)) w) := by
  have hmx := h.2.1
  have HR := Sec.mk h
  have HB := Sec.mk hB
  have HI := Sec.mk (inOrdL_iff xs nodes)
  have HF : Sec (¬ (xs.length ≤ 300 ∧ ∀ k, atOk xs nodes k) → inOrdL xs nodes = false) := ⟨fun h => by
    cases hg : inOrdL xs nodes with
    | false => rfl
    | true => exact absurd (HI.out.1 hg) h⟩
  generalize inOrdL xs nodes = r at *
  clear h hB
  by_cases h3 : xs.length ≤ 300
  rotate_left
  · have HE : Sec (r = false) := ⟨HF.out (fun h => h3 h.1)⟩
    have h3i : (300 : Int) < (xs.length : Int) := by omega
    clear h3
    go_enter Tryz.func61, Tryz.ntmps61
    go_wp2
    go_ret
    exact ⟨by rw [HE.out]; rfl, Mod.refl _ _⟩
  have h3i : ¬ (300 : Int) < (xs.length : Int) := by omega
  have mk := mkMapIB
  go_enter Tryz.func61, Tryz.ntmps61
  go_wp2
  clear mk
  have HM0 : Sec (New w (w.alloc (.map #[] 0))) := ⟨(Mod.refl _ _).alloc _⟩
  have HP0 : Sec (MapIB (w.alloc (.map #[] 0)) w.heap.size 0 (fun _ => false)) := ⟨MapOf.made _⟩
  go_loopw [14] (fun i wr => ∃ k : Nat, k ≤ xs.length ∧ i = .int .i64 (k : Int) ∧ Sec (∀ j, j < k → atOk xs nodes j) ∧ Sec (New w wr) ∧ Sec (MapIB wr w.heap.size k (fun v => hasNode (xs.take k) v))) (fun i _ => xs.length - (intOf i).toNat)
  case atStart => exact ⟨0, Nat.zero_le _, rfl, ⟨fun j h => absurd h (Nat.not_lt_zero _)⟩, HM0, HP0⟩
  case round =>
    obtain ⟨k, hk, rfl, HN, HM, HP⟩ := hrel
    clear HM0 HP0
    by_cases hlt : k < xs.length
    · obtain ⟨ad, rfl, h0, h1, hzn, hzw⟩ := ent_at HR.out (w' := wr) (fun i hi => HM.out.block i (HB.out i hi) id) hlt
      have hki : (k : Int) < (xs.length : Int) := by omega
      have HAT := Sec.mk (atOk_iff hlt HN.out)
      have HBAD : Sec (¬ atOk xs nodes k → r = false) := ⟨fun h => HF.out (fun hh => h (hh.2 k))⟩
      have HNX : Sec (atOk xs nodes k → ∀ j, j < k + 1 → atOk xs nodes j) := ⟨fun h j hj => by rcases Nat.lt_succ_iff_lt_or_eq.1 hj with h' | rfl; exact HN.out j h'; exact h⟩
      have HPV : Sec (∀ (h : 0 < k), wr.cell? (ad.add ((k - 1) * 2)) = some (.string ⟨(xs[k - 1]'(by omega)).1.toArray⟩)) := ⟨fun h => by
        obtain ⟨ad', hA, y0, _, _, _⟩ := ent_at HR.out (w' := wr) (fun i hi => HM.out.block i (HB.out i hi) id) (k := k - 1) (by omega)
        obtain rfl := Option.some.inj hA
        exact y0⟩
      have HTK : Sec ((fun v => if v = xs[k].2 then true else hasNode (xs.take k) v) = fun v => hasNode (xs.take (k + 1)) v) := ⟨funext fun v => by
        rw [hasNode_take hlt]
        by_cases hv : v = xs[k].2
        · rw [if_pos hv, decide_eq_true hv.symm, Bool.or_true]
        · rw [if_neg hv, decide_eq_false (fun h => hv h.symm), Bool.or_false]⟩
      have HWF := Sec.mk (wfInt hzw)
      obtain ⟨⟨z, u⟩, hx⟩ : ∃ q, q = xs[k] := ⟨_, rfl⟩
      rw [← hx] at h0 h1 HAT hzn HTK HWF
      simp only at h0 h1 HAT hzn HTK HWF
      clear hx hzw HN
      generalize atOk xs nodes k = OKK at *
      have HZ := Sec.mk hzn
      have HMa := Sec.mk (HM.out.alloc (.cells #[.string ⟨z.toArray⟩, .int .i64 u] 98))
      have HPa := Sec.mk (HP.out.mod (w' := wr.alloc (.cells #[.string ⟨z.toArray⟩, .int .i64 u] 98)) ((Mod.refl (fun _ => False) _).alloc _) id)
      have HLK : Sec (∀ W, New (wr.alloc (.cells #[.string ⟨z.toArray⟩, .int .i64 u] 98)) W → (Instr.lookup 118 (.map (some w.heap.size)) (.int .i64 u) false).run Tryz.prog W = .ok (.bool (hasNode (xs.take k) u)) W) := ⟨fun W hW => (HPa.out.mod hW id).look kInt vBool Tryz.underlying118 HWF.out⟩
      have hlk1 := HLK.out _ (Mod.refl _ _)
      have hlk2 := HLK.out _ (Mod.refl _ _).drew
      have hlk3 := fun q => HLK.out _ ((Mod.refl _ _).drewN q)
      have HPq : Sec (∀ q, MapIB ((wr.alloc (.cells #[.string ⟨z.toArray⟩, .int .i64 u] 98)).drewN q) w.heap.size k (fun v => hasNode (xs.take k) v)) := ⟨fun q => HPa.out.mod ((Mod.refl (fun _ => False) _).drewN q) id⟩
      clear hzn HM HP HPa HLK
      generalize hsn : hasNode (xs.take k) u = sn at *
      have HSN := Sec.mk hsn
      clear hsn
      cases hg : goodL z
      · have HE : Sec (r = false) := ⟨HBAD.out (fun hh => by have := (HAT.out.1 hh).1; rw [hg] at this; cases this)⟩
        have hgc := goodI_calls z HZ.out
        rw [hg] at hgc
        clear HPV
        go_wp2
        refine wp_region_quiet_lit (by kernel_rfl) (by kernel_rfl) ?_
        repeat ((with_reducible refine wpQuiet_step (fun K hK => ?_)); go_simp; first | (refine hK _ ?_; clear hK K) | (apply Exists.intro; refine ⟨fun _ => ?_, hK _ ?_⟩; (first | (go_at_call 65; refine Calls.quiet_of_same (hgc _))); clear hK K))
        refine wpQuiet_nil ?_
        intro _ hwq
        obtain ⟨nq, hwqq⟩ := hwq
        subst hwqq
        go_wp2
        go_ret
        exact ⟨by rw [HE.out]; rfl, HMa.out.drewN _⟩
      have HG := Sec.mk hg
      have hgc := goodI_calls z HZ.out
      rw [hg] at hgc
      clear hg
      by_cases hk0 : 0 < k
      · have hki0 : (0 : Int) < (k : Int) := by omega
        have y0 : (wr.alloc (.cells #[.string ⟨z.toArray⟩, .int .i64 u] 98)).cell? (ad.add ((k - 1) * 2)) = some (.string ⟨(xs[k - 1]'(by omega)).1.toArray⟩) := ((Mod.refl (fun _ => False) wr).alloc _ : New wr _).cell_of (HPV.out hk0)
        have HAT2 := Sec.mk fun hh => (HAT.out.1 hh).2.2.2.1 hk0
        have hkm : (k : Int) - 1 = ((k - 1 : Nat) : Int) := by omega
        have hkw : IntKind.i64.wrap ((k - 1 : Nat) : Int) = ((k - 1 : Nat) : Int) := by rw [IntKind.wrap_i64]; omega
        have hkl : ((k - 1 : Nat) : Int) < (xs.length : Int) := by omega
        have HPR0 : Sec (∀ zp, zp = (xs[k - 1]'(by omega)).1 → zp < z → (xs[k - 1]'(by omega)).1 < z) := ⟨fun zp e h => e ▸ h⟩
        obtain ⟨zp, hzp⟩ : ∃ zp, zp = (xs[k - 1]'(by omega)).1 := ⟨_, rfl⟩
        rw [← hzp] at y0
        have HZP := Sec.mk hzp
        clear hzp HPV
        have hge := fun w => strGe zp z w
        by_cases he : zp < z
        rotate_left
        · have HE : Sec (r = false) := ⟨HBAD.out (fun hh => he (by rw [HZP.out]; exact HAT2.out hh))⟩
          rw [decide_eq_true he] at hge
          clear he
          go_wp2
          refine wp_region_quiet_lit (by kernel_rfl) (by kernel_rfl) ?_
          repeat ((with_reducible refine wpQuiet_step (fun K hK => ?_)); go_simp; first | (refine hK _ ?_; clear hK K) | (apply Exists.intro; refine ⟨fun _ => ?_, hK _ ?_⟩; (first | (go_at_call 65; refine Calls.quiet_of_same (hgc _))); clear hK K))
          refine wpQuiet_nil ?_
          intro _ hwq
          obtain ⟨nq, hwqq⟩ := hwq
          subst hwqq
          go_wp2
          go_ret
          exact ⟨by rw [HE.out]; rfl, HMa.out.drewN _⟩
        rw [decide_eq_false (fun h => h he)] at hge
        have HPR := Sec.mk (HPR0.out zp HZP.out he)
        clear he
        by_cases hn0 : 0 ≤ u
        rotate_left
        · have HE : Sec (r = false) := ⟨HBAD.out (fun hh => hn0 (HAT.out.1 hh).2.1)⟩
          have hn0' : u < 0 := by omega
          clear hn0
          go_wp2
          refine wp_region_quiet_lit (by kernel_rfl) (by kernel_rfl) ?_
          repeat ((with_reducible refine wpQuiet_step (fun K hK => ?_)); go_simp; first | (refine hK _ ?_; clear hK K) | (apply Exists.intro; refine ⟨fun _ => ?_, hK _ ?_⟩; (first | (go_at_call 65; refine Calls.quiet_of_same (hgc _))); clear hK K))
          refine wpQuiet_nil ?_
          intro _ hwq
          obtain ⟨nq, hwqq⟩ := hwq
          subst hwqq
          go_wp2
          go_ret
          exact ⟨by rw [HE.out]; rfl, HMa.out.drewN _⟩
        have hn0' : ¬ u < 0 := by omega
        by_cases hn1 : u < nodes
        rotate_left
        · have HE : Sec (r = false) := ⟨HBAD.out (fun hh => hn1 (HAT.out.1 hh).2.2.1)⟩
          have hn1' : nodes ≤ u := by omega
          clear hn1
          go_wp2
          refine wp_region_quiet_lit (by kernel_rfl) (by kernel_rfl) ?_
          repeat ((with_reducible refine wpQuiet_step (fun K hK => ?_)); go_simp; first | (refine hK _ ?_; clear hK K) | (apply Exists.intro; refine ⟨fun _ => ?_, hK _ ?_⟩; (first | (go_at_call 65; refine Calls.quiet_of_same (hgc _))); clear hK K))
          refine wpQuiet_nil ?_
          intro _ hwq
          obtain ⟨nq, hwqq⟩ := hwq
          subst hwqq
          go_wp2
          go_ret
          exact ⟨by rw [HE.out]; rfl, HMa.out.drewN _⟩
        have hn1' : ¬ nodes ≤ u := by omega
        cases sn
        rotate_left
        · have HE : Sec (r = false) := ⟨HBAD.out (fun hh => by have := (HAT.out.1 hh).2.2.2.2; cases this)⟩
          go_wp2
          refine wp_region_quiet_lit (by kernel_rfl) (by kernel_rfl) ?_
          repeat ((with_reducible refine wpQuiet_step (fun K hK => ?_)); go_simp; first | (refine hK _ ?_; clear hK K) | (apply Exists.intro; refine ⟨fun _ => ?_, hK _ ?_⟩; (first | (go_at_call 65; refine Calls.quiet_of_same (hgc _))); clear hK K))
          refine wpQuiet_nil ?_
          intro _ hwq
          obtain ⟨nq, hwqq⟩ := hwq
          subst hwqq
          go_wp2
          go_ret
          exact ⟨by rw [HE.out]; rfl, HMa.out.drewN _⟩
        have HN' := Sec.mk (HNX.out (HAT.out.2 ⟨HG.out, hn0, hn1, (fun h0 => HPR.out), rfl⟩))
        clear hn0 hn1
        go_wp2
        refine wp_region_quiet_lit (by kernel_rfl) (by kernel_rfl) ?_
        repeat ((with_reducible refine wpQuiet_step (fun K hK => ?_)); go_simp; first | (refine hK _ ?_; clear hK K) | (apply Exists.intro; refine ⟨fun _ => ?_, hK _ ?_⟩; (first | (go_at_call 65; refine Calls.quiet_of_same (hgc _))); clear hK K))
        refine wpQuiet_nil ?_
        intro _ hwq
        obtain ⟨nq, hwqq⟩ := hwq
        subst hwqq
        have HPd := Sec.mk fun q => HPq.out q
        clear hlk1 hlk2 hlk3 hgc HPd
        go_wp2_with (refine wpList_mapSet (w := _) kInt vBool rfl _ _ _ _ (.inl rfl) Tryz.underlying118 rfl (HPq.out _) (by simp only [maxLen]; omega) u true rfl rfl HWF.out trivial ?_; intro m1 hmap hmod; rw [HTK.out] at hmap; have HP1 := Sec.mk hmap; have HM1 := Sec.mk ((HMa.out.drewN _).trans hmod (fun i hi hl => by omega)); clear hmap hmod)
        go_roundw
        case rel => exact ⟨k + 1, by omega, by go_num, HN', HM1, HP1⟩
        case measure => simp [intOf]; omega
      have hki0 : decide (0 < k) = false := decide_eq_false hk0
      have HK0 := Sec.mk hk0
      clear hk0
      clear HPV
      by_cases hn0 : 0 ≤ u
      rotate_left
      · have HE : Sec (r = false) := ⟨HBAD.out (fun hh => hn0 (HAT.out.1 hh).2.1)⟩
        have hn0' : u < 0 := by omega
        clear hn0
        go_wp2
        refine wp_region_quiet_lit (by kernel_rfl) (by kernel_rfl) ?_
        repeat ((with_reducible refine wpQuiet_step (fun K hK => ?_)); go_simp; first | (refine hK _ ?_; clear hK K) | (apply Exists.intro; refine ⟨fun _ => ?_, hK _ ?_⟩; (first | (go_at_call 65; refine Calls.quiet_of_same (hgc _))); clear hK K))
        refine wpQuiet_nil ?_
        intro _ hwq
        obtain ⟨nq, hwqq⟩ := hwq
        subst hwqq
        go_wp2
        go_ret
        exact ⟨by rw [HE.out]; rfl, HMa.out.drewN _⟩
      have hn0' : ¬ u < 0 := by omega
      by_cases hn1 : u < nodes
      rotate_left
      · have HE : Sec (r = false) := ⟨HBAD.out (fun hh => hn1 (HAT.out.1 hh).2.2.1)⟩
        have hn1' : nodes ≤ u := by omega
        clear hn1
        go_wp2
        refine wp_region_quiet_lit (by kernel_rfl) (by kernel_rfl) ?_
        repeat ((with_reducible refine wpQuiet_step (fun K hK => ?_)); go_simp; first | (refine hK _ ?_; clear hK K) | (apply Exists.intro; refine ⟨fun _ => ?_, hK _ ?_⟩; (first | (go_at_call 65; refine Calls.quiet_of_same (hgc _))); clear hK K))
        refine wpQuiet_nil ?_
        intro _ hwq
        obtain ⟨nq, hwqq⟩ := hwq
        subst hwqq
        go_wp2
        go_ret
        exact ⟨by rw [HE.out]; rfl, HMa.out.drewN _⟩
      have hn1' : ¬ nodes ≤ u := by omega
      cases sn
      rotate_left
      · have HE : Sec (r = false) := ⟨HBAD.out (fun hh => by have := (HAT.out.1 hh).2.2.2.2; cases this)⟩
        go_wp2
        refine wp_region_quiet_lit (by kernel_rfl) (by kernel_rfl) ?_
        repeat ((with_reducible refine wpQuiet_step (fun K hK => ?_)); go_simp; first | (refine hK _ ?_; clear hK K) | (apply Exists.intro; refine ⟨fun _ => ?_, hK _ ?_⟩; (first | (go_at_call 65; refine Calls.quiet_of_same (hgc _))); clear hK K))
        refine wpQuiet_nil ?_
        intro _ hwq
        obtain ⟨nq, hwqq⟩ := hwq
        subst hwqq
        go_wp2
        go_ret
        exact ⟨by rw [HE.out]; rfl, HMa.out.drewN _⟩
      have HN' := Sec.mk (HNX.out (HAT.out.2 ⟨HG.out, hn0, hn1, (fun h0 => absurd h0 HK0.out), rfl⟩))
      clear hn0 hn1
      go_wp2
      refine wp_region_quiet_lit (by kernel_rfl) (by kernel_rfl) ?_
      repeat ((with_reducible refine wpQuiet_step (fun K hK => ?_)); go_simp; first | (refine hK _ ?_; clear hK K) | (apply Exists.intro; refine ⟨fun _ => ?_, hK _ ?_⟩; (first | (go_at_call 65; refine Calls.quiet_of_same (hgc _))); clear hK K))
      refine wpQuiet_nil ?_
      intro _ hwq
      obtain ⟨nq, hwqq⟩ := hwq
      subst hwqq
      have HPd := Sec.mk fun q => HPq.out q
      clear hlk1 hlk2 hlk3 hgc HPd
      go_wp2_with (refine wpList_mapSet (w := _) kInt vBool rfl _ _ _ _ (.inl rfl) Tryz.underlying118 rfl (HPq.out _) (by simp only [maxLen]; omega) u true rfl rfl HWF.out trivial ?_; intro m1 hmap hmod; rw [HTK.out] at hmap; have HP1 := Sec.mk hmap; have HM1 := Sec.mk ((HMa.out.drewN _).trans hmod (fun i hi hl => by omega)); clear hmap hmod)
      go_roundw
      case rel => exact ⟨k + 1, by omega, by go_num, HN', HM1, HP1⟩
      case measure => simp [intOf]; omega
    · obtain rfl : k = xs.length := by omega
      have HE : Sec (r = true) := ⟨HI.out.2 ⟨h3, fun j hj => HN.out j hj hj⟩⟩
      go_wp2
      go_ret
      exact ⟨by rw [HE.out]; rfl, HM.out⟩
end Go.Proofs.YtkkgighgnbbgiaaGreatDoor

namespace Go.Proofs.YtkkgighgnbbgiaaGreatDoor
open Go.RowKit Mem
set_option linter.unusedVariables false
set_option linter.unusedSimpArgs false
set_option maxHeartbeats 8000000 in
set_option maxRecDepth 100000 in
theorem diskValidI_v {w : World} {v : Value} {x : DiskT} (h : RdV true dDisk w v x) : Calls Tryz.prog 28 #[v] w (Ret (.bool (DiskValidL x)) w) := by
  have hqw := okDisk h
  obtain ⟨v0, v1, v2, v3, rfl, k0, k1, k2, k3⟩ := rdDisk h
  obtain ⟨nodes, names, kept, pend, quota⟩ := x
  simp only at k0 k1 k2 k3 hqw ⊢
  have HI := Sec.mk (DiskValidL_iff (nodes, names, kept, pend, quota))
  have HF : Sec (¬ diskOk (nodes, names, kept, pend, quota) → DiskValidL (nodes, names, kept, pend, quota) = false) := ⟨DiskValidL_not⟩
  have HD : Sec (diskOk (nodes, names, kept, pend, quota) ↔ (0 ≤ quota ∧ quota ≤ 1000000 ∧ nodes.length ≤ 600 ∧ pend.length ≤ 1000 ∧ (∀ k, (hk : k < nodes.length) → nodeOk nodes[k] = true) ∧ sumD nodes ≤ 200000 ∧ inOrdL names nodes.length = true ∧ inOrdL kept nodes.length = true ∧ replaysL nodes.length kept pend = some names)) := ⟨Iff.rfl⟩
  generalize diskOk (nodes, names, kept, pend, quota) = OKD at *
  generalize DiskValidL (nodes, names, kept, pend, quota) = r at *
  obtain ⟨A0, c0, rfl, hc0, hr0⟩ := k0.slice
  obtain ⟨A1, c1, rfl, hc1, hr1⟩ := k1.slice
  obtain ⟨A2, c2, rfl, hc2, hr2⟩ := k2.slice
  obtain ⟨A3, c3, rfl, hc3, hr3⟩ := k3.slice
  have hm0 := hr0.2.1
  have hm1 := hr1.2.1
  have hm2 := hr2.2.1
  have hm3 := hr3.2.1
  have HR0 := Sec.mk hr0
  have HR1 := Sec.mk hr1
  have HR2 := Sec.mk hr2
  have HR3 := Sec.mk hr3
  have HBX := Sec.mk (Blk.new w 34 [.slice A0 nodes.length c0, .slice A1 names.length c1, .slice A2 kept.length c2, .slice A3 pend.length c3, .int .i64 quota])
  have HM0 := Sec.mk ((Mod.refl (fun _ => False) w).alloc (.cells #[.slice A0 nodes.length c0, .slice A1 names.length c1, .slice A2 kept.length c2, .slice A3 pend.length c3, .int .i64 quota] 34))
  clear h k0 k1 k2 k3 hr0 hr1 hr2 hr3 hqw
  by_cases hq0 : 0 ≤ quota
  rotate_left
  · have HE : Sec (r = false) := ⟨HF.out (fun h => hq0 (HD.out.1 h).1)⟩
    have hq0' : quota < 0 := by omega
    clear hq0
    go_enter Tryz.func28, Tryz.ntmps28
    go_wp2
    go_ret
    exact ⟨by rw [HE.out]; rfl, HM0.out⟩
  have hq0' : ¬ quota < 0 := by omega
  by_cases hq1 : quota ≤ 1000000
  rotate_left
  · have HE : Sec (r = false) := ⟨HF.out (fun h => hq1 (HD.out.1 h).2.1)⟩
    have hq1' : 1000000 < quota := by omega
    clear hq1
    go_enter Tryz.func28, Tryz.ntmps28
    go_wp2
    go_ret
    exact ⟨by rw [HE.out]; rfl, HM0.out⟩
  have hq1' : ¬ 1000000 < quota := by omega
  by_cases hn : nodes.length ≤ 600
  rotate_left
  · have HE : Sec (r = false) := ⟨HF.out (fun h => hn (HD.out.1 h).2.2.1)⟩
    have hn' : (600 : Int) < (nodes.length : Int) := by omega
    clear hn
    go_enter Tryz.func28, Tryz.ntmps28
    go_wp2
    go_ret
    exact ⟨by rw [HE.out]; rfl, HM0.out⟩
  have hn' : ¬ (600 : Int) < (nodes.length : Int) := by omega
  by_cases hp : pend.length ≤ 1000
  rotate_left
  · have HE : Sec (r = false) := ⟨HF.out (fun h => hp (HD.out.1 h).2.2.2.1)⟩
    have hp' : (1000 : Int) < (pend.length : Int) := by omega
    clear hp
    go_enter Tryz.func28, Tryz.ntmps28
    go_wp2
    go_ret
    exact ⟨by rw [HE.out]; rfl, HM0.out⟩
  have hp' : ¬ (1000 : Int) < (pend.length : Int) := by omega
  go_enter Tryz.func28, Tryz.ntmps28
  go_wp2
  go_loopw [3, 33] (fun t i wr => ∃ k : Nat, k ≤ nodes.length ∧ i = .int .i64 (k : Int) ∧ t = .int .i64 ((sumD (nodes.take k) : Nat) : Int) ∧ sumD (nodes.take k) ≤ k * 40000 ∧ Sec (∀ j, j < k → (hj : j < nodes.length) → nodeOk nodes[j] = true) ∧ Sec (Blk wr w.heap.size 34 [.slice A0 nodes.length c0, .slice A1 names.length c1, .slice A2 kept.length c2, .slice A3 pend.length c3, .int .i64 quota]) ∧ Sec (New w wr)) (fun _ i _ => nodes.length - (intOf i).toNat)
  case atStart => exact ⟨0, Nat.zero_le _, rfl, rfl, by simp [sumD], ⟨fun j h => absurd h (Nat.not_lt_zero _)⟩, HBX, HM0⟩
  case round =>
    obtain ⟨k, hk, rfl, rfl, hsum, HN, HBr, HMr⟩ := hrel
    clear HBX HM0
    by_cases hlt : k < nodes.length
    · obtain ⟨ad, A', c', rfl, h0, h1, hcc, hcm, hrow, hw⟩ := node_at HR0.out (w' := wr) (fun i hi => HMr.out.block i hi id) hlt
      have hki : (k : Int) < (nodes.length : Int) := by omega
      have HST := Sec.mk (sumD_take hlt)
      have HOKN : Sec (nodeOk nodes[k] = decide (nodes[k].1.length ≤ 40000 ∧ 0 ≤ nodes[k].2 ∧ nodes[k].2 ≤ nodes[k].1.length)) := ⟨rfl⟩
      have HBAD : Sec (¬ nodeOk nodes[k] = true → r = false) := ⟨fun h => HF.out (fun hh => h ((HD.out.1 hh).2.2.2.2.1 k hlt))⟩
      have HNX : Sec (nodeOk nodes[k] = true → ∀ j, j < k + 1 → (hj : j < nodes.length) → nodeOk nodes[j] = true) := ⟨fun h j hj hjl => by rcases Nat.lt_succ_iff_lt_or_eq.1 hj with h' | rfl; exact HN.out j h' hjl; exact h⟩
      obtain ⟨⟨dt, sf⟩, hx⟩ : ∃ q, q = nodes[k] := ⟨_, rfl⟩
      rw [← hx] at h0 h1 HST HOKN HBAD HNX
      clear hx hrow hw
      simp only at h0 h1 HST HOKN
      generalize hss : sumD (nodes.take k) = s at *
      generalize nodeOk (dt, sf) = okn at *
      have HMa := Sec.mk (HMr.out.alloc (.cells #[.slice A' dt.length c', .int .i64 sf] 88))
      by_cases g0 : dt.length ≤ 40000
      rotate_left
      · have HE : Sec (r = false) := ⟨HBAD.out (by rw [HOKN.out]; simp only [decide_eq_true_eq]; exact fun h => g0 h.1)⟩
        have g0' : (40000 : Int) < (dt.length : Int) := by omega
        clear g0
        go_wp2
        go_ret
        exact ⟨by rw [HE.out]; rfl, HMa.out⟩
      have g0' : ¬ (40000 : Int) < (dt.length : Int) := by omega
      by_cases g1 : 0 ≤ sf
      rotate_left
      · have HE : Sec (r = false) := ⟨HBAD.out (by rw [HOKN.out]; simp only [decide_eq_true_eq]; exact fun h => g1 h.2.1)⟩
        have g1' : sf < 0 := by omega
        clear g1
        go_wp2
        go_ret
        exact ⟨by rw [HE.out]; rfl, HMa.out⟩
      have g1' : ¬ sf < 0 := by omega
      by_cases g2 : sf ≤ (dt.length : Int)
      rotate_left
      · have HE : Sec (r = false) := ⟨HBAD.out (by rw [HOKN.out]; simp only [decide_eq_true_eq]; exact fun h => g2 h.2.2)⟩
        have g2' : (dt.length : Int) < sf := by omega
        clear g2
        go_wp2
        go_ret
        exact ⟨by rw [HE.out]; rfl, HMa.out⟩
      have g2' : ¬ (dt.length : Int) < sf := by omega
      have HNX2 := Sec.mk (HNX.out (by rw [HOKN.out]; exact decide_eq_true ⟨g0, g1, g2⟩))
      have HBa := Sec.mk (HBr.out.alloc (.cells #[.slice A' dt.length c', .int .i64 sf] 88))
      go_wp2
      go_roundw
      case rel => exact ⟨k + 1, by omega, by go_num, by rw [HST.out]; congr 1, by rw [HST.out]; omega, HNX2, HBa, HMa⟩
      case measure => simp [intOf]; omega
    · obtain rfl : k = nodes.length := by omega
      have hsl : nodes.take nodes.length = nodes := List.take_length
      rw [hsl] at hsum ⊢
      clear hsl
      have hwr : w.heap.size < wr.heap.size := HBr.out.lt
      have p1 : wr.cell? ⟨w.heap.size, 1, none⟩ = some (.slice A1 names.length c1) := HBr.out.cell 1
      have p0 : wr.cell? ⟨w.heap.size, 0, none⟩ = some (.slice A0 nodes.length c0) := HBr.out.cell 0
      have p2 : wr.cell? ⟨w.heap.size, 2, none⟩ = some (.slice A2 kept.length c2) := HBr.out.cell 2
      have p3 : wr.cell? ⟨w.heap.size, 3, none⟩ = some (.slice A3 pend.length c3) := HBr.out.cell 3
      by_cases hs2 : sumD nodes ≤ 200000
      rotate_left
      · have HE : Sec (r = false) := ⟨HF.out (fun h => hs2 (HD.out.1 h).2.2.2.2.2.1)⟩
        have hs2' : (200000 : Int) < ((sumD nodes : Nat) : Int) := by omega
        clear hs2
        go_wp2
        go_ret
        exact ⟨by rw [HE.out]; rfl, HMr.out⟩
      have hs2' : ¬ (200000 : Int) < ((sumD nodes : Nat) : Int) := by omega
      have HNALL : Sec (∀ j, (hj : j < nodes.length) → nodeOk nodes[j] = true) := ⟨fun j hj => HN.out j hj hj⟩
      clear HN
      generalize hsd : sumD nodes = sd at *
      go_wp2_with fail
      refine (inOrder_calls (HR1.out.mod (w' := wr) (fun _ h => h) (fun k hk => HMr.out.block k hk id)) (fun k hk => Nat.lt_of_lt_of_le hk HMr.out.size) (nodes.length : Int)).mono ?_
      rintro e w2 ⟨rfl, hm2⟩
      have HM2 := Sec.mk (HMr.out.transN hm2)
      have HB2 := Sec.mk (HBr.out.mod hm2 id)
      clear hm2 p0 p1 p2 p3
      have p0 : w2.cell? ⟨w.heap.size, 0, none⟩ = some (.slice A0 nodes.length c0) := HB2.out.cell 0
      have p2 : w2.cell? ⟨w.heap.size, 2, none⟩ = some (.slice A2 kept.length c2) := HB2.out.cell 2
      by_cases hio : inOrdL names (nodes.length : Int) = true
      rotate_left
      · have HE : Sec (r = false) := ⟨HF.out (fun h => hio (HD.out.1 h).2.2.2.2.2.2.1)⟩
        have hio' : inOrdL names (nodes.length : Int) = false := by simpa using hio
        rw [hio']
        clear hio hio'
        go_wp2
        go_ret
        exact ⟨by rw [HE.out]; rfl, HM2.out⟩
      rw [hio]
      go_wp2_with fail
      refine (inOrder_calls (HR2.out.mod (w' := w2) (fun _ h => h) (fun k hk => HM2.out.block k hk id)) (fun k hk => Nat.lt_of_lt_of_le hk HM2.out.size) (nodes.length : Int)).mono ?_
      rintro e w3 ⟨rfl, hm3⟩
      have HM3 := Sec.mk (HM2.out.transN hm3)
      have HB3 := Sec.mk (HB2.out.mod hm3 id)
      clear hm3 p0 p2
      have p0 : w3.cell? ⟨w.heap.size, 0, none⟩ = some (.slice A0 nodes.length c0) := HB3.out.cell 0
      have p1 : w3.cell? ⟨w.heap.size, 1, none⟩ = some (.slice A1 names.length c1) := HB3.out.cell 1
      have p2 : w3.cell? ⟨w.heap.size, 2, none⟩ = some (.slice A2 kept.length c2) := HB3.out.cell 2
      have p3 : w3.cell? ⟨w.heap.size, 3, none⟩ = some (.slice A3 pend.length c3) := HB3.out.cell 3
      by_cases hik : inOrdL kept (nodes.length : Int) = true
      rotate_left
      · have HE : Sec (r = false) := ⟨HF.out (fun h => hik (HD.out.1 h).2.2.2.2.2.2.2.1)⟩
        have hik' : inOrdL kept (nodes.length : Int) = false := by simpa using hik
        rw [hik']
        clear hik hik'
        go_wp2
        go_ret
        exact ⟨by rw [HE.out]; rfl, HM3.out⟩
      rw [hik]
      have HALL : Sec (replaysL nodes.length kept pend = some names → r = true) := ⟨fun h => HI.out.2 (HD.out.2 ⟨hq0, hq1, hn, hp, HNALL.out, hs2, hio, hik, h⟩)⟩
      have HNON : Sec (replaysL nodes.length kept pend ≠ some names → r = false) := ⟨fun h => HF.out (fun hh => h (HD.out.1 hh).2.2.2.2.2.2.2.2)⟩
      have HOK := Sec.mk (inOrdL_ord hik)
      have hk300 : kept.length ≤ 300 := ((inOrdL_iff kept nodes.length).1 hik).1
      have hn300 : names.length ≤ 300 := ((inOrdL_iff names nodes.length).1 hio).1
      clear hio hik HI HF HD HNALL HMr HBr HM2 HB2
      go_wp2
      go_loopw [6, 85] (fun l i wr => ∃ (k : Nat) (A' : Option Addr) (c' : Nat) (cur : List EntryT), k ≤ pend.length ∧ i = .int .i64 (k : Int) ∧ l = .slice A' cur.length c' ∧ Sec (Row dEntry wr (· < wr.heap.size) A' cur.length cur) ∧ Sec (Ord cur) ∧ cur.length ≤ 300 ∧ cur.length ≤ c' ∧ Sec (replaysL nodes.length kept pend = replaysL nodes.length cur (pend.drop k)) ∧ Sec (Blk wr w.heap.size 34 [.slice A0 nodes.length c0, .slice A1 names.length c1, .slice A2 kept.length c2, .slice A3 pend.length c3, .int .i64 quota]) ∧ Sec (New w wr)) (fun _ i _ => pend.length - (intOf i).toNat)
      case atStart => exact ⟨0, A2, c2, kept, Nat.zero_le _, rfl, rfl, ⟨HR2.out.mod (fun k hk => Nat.lt_of_lt_of_le hk HM3.out.size) (fun k hk => HM3.out.block k hk id)⟩, HOK, hk300, hc2, ⟨by rw [List.drop_zero]⟩, HB3, HM3⟩
      case round =>
        obtain ⟨k, A', c', cur, hk, rfl, rfl, HC, HOC, hcl, hcc, HP, HBr, HMr⟩ := hrel
        have hwr : w.heap.size < wr.heap.size := HBr.out.lt
        have q0 : wr.cell? ⟨w.heap.size, 0, none⟩ = some (.slice A0 nodes.length c0) := HBr.out.cell 0
        have q1 : wr.cell? ⟨w.heap.size, 1, none⟩ = some (.slice A1 names.length c1) := HBr.out.cell 1
        by_cases hlt : k < pend.length
        · obtain ⟨ad, rfl, d0, d1, d2, d3, g0, g1, g2, g3⟩ := dop_at HR3.out (w' := wr) (fun i hi => HMr.out.block i hi id) hlt
          have hki : (k : Int) < (pend.length : Int) := by omega
          have HS := Sec.mk (HP.out.trans (replaysL_at hlt))
          have HG := Sec.mk (And.intro g0 (And.intro g1 (And.intro g2 g3)))
          clear g0 g1 g2 g3 HP
          have HPX : Sec (∃ q : DirOpT, q = pend[k]) := ⟨⟨_, rfl⟩⟩
          obtain ⟨q, hq⟩ := HPX.out
          rw [← hq] at d0 d1 d2 d3 HG HS
          clear hq HPX
          have HBa := Sec.mk (HBr.out.alloc (.cells #[.int .i64 q.1, .string ⟨q.2.1.toArray⟩, .string ⟨q.2.2.1.toArray⟩, .int .i64 q.2.2.2] 90))
          have HMa := Sec.mk (HMr.out.alloc (.cells #[.int .i64 q.1, .string ⟨q.2.1.toArray⟩, .string ⟨q.2.2.1.toArray⟩, .int .i64 q.2.2.2] 90))
          have HCa := Sec.mk (HC.out.mod (w' := wr.alloc (.cells #[.int .i64 q.1, .string ⟨q.2.1.toArray⟩, .string ⟨q.2.2.1.toArray⟩, .int .i64 q.2.2.2] 90)) (B' := (· < wr.heap.size)) (fun _ h => h) (fun k hk => Below.heap_alloc _ _ _ hk))
          go_wp2_with fail
          refine (replay_calls HCa.out (fun k hk => Nat.lt_of_lt_of_le hk (by simp)) hcc (by omega) HOC.out q HG.out.2.1 HG.out.2.2.1 HG.out.2.2.2 (nodes.length : Int)).mono ?_
          intro e w5 hr5
          have HRO := Sec.mk (fun m (h : replayL cur q nodes.length = some m) => replayL_ord HOC.out h)
          generalize replayL cur q (nodes.length : Int) = res at *
          cases res with
          | none =>
            obtain ⟨rfl, hm5⟩ := hr5
            have HE : Sec (r = false) := ⟨HNON.out (by rw [HS.out]; simp)⟩
            have HM5 := Sec.mk (HMa.out.transN hm5)
            clear hm5
            go_wp2
            go_ret
            exact ⟨by rw [HE.out]; rfl, HM5.out⟩
          | some m =>
            obtain ⟨A5, c5, rfl, hmine⟩ := hr5
            have HM5 := Sec.mk (HMa.out.transN hmine.new)
            have HB5 := Sec.mk (HBa.out.mod hmine.new id)
            have HC5 := Sec.mk (hmine.row.mod (B' := (· < w5.heap.size)) (fun _ h => h.2) (fun _ _ => rfl))
            have hyc := hmine.len.2.1
            clear hmine
            by_cases hml : m.length ≤ 300
            rotate_left
            · have HE : Sec (r = false) := ⟨HNON.out (by rw [HS.out]; simp only [if_neg hml]; simp)⟩
              have hml' : (300 : Int) < (m.length : Int) := by omega
              clear hml
              go_wp2
              go_ret
              exact ⟨by rw [HE.out]; rfl, HM5.out⟩
            have hml' : ¬ (300 : Int) < (m.length : Int) := by omega
            have HS' : Sec (replaysL nodes.length kept pend = replaysL nodes.length m (pend.drop (k + 1))) := ⟨by rw [HS.out]; simp only [if_pos hml]⟩
            have HO5 := Sec.mk (HRO.out m rfl)
            go_wp2
            go_roundw
            case rel => exact ⟨k + 1, A5, c5, m, by omega, by go_num, rfl, HC5, HO5, hml, hyc, HS', HB5, HM5⟩
            case measure => simp [intOf]; omega
        · obtain rfl : k = pend.length := by omega
          rw [List.drop_length] at HP
          have HS : Sec (replaysL nodes.length kept pend = some cur) := ⟨HP.out⟩
          go_wp2_with fail
          refine (sameEntries_calls HC.out (HR1.out.mod (w' := wr) (fun k hk => Nat.lt_of_lt_of_le hk HMr.out.size) (fun k hk => HMr.out.block k hk id)) (fun k hk => hk)).mono ?_
          rintro e w5 ⟨rfl, hm5⟩
          have HM5 := Sec.mk (HMr.out.transN hm5)
          clear hm5
          by_cases hcn : cur = names
          · have HE : Sec (r = true) := ⟨HALL.out (by rw [HS.out, hcn])⟩
            rw [decide_eq_true hcn]
            clear hcn
            go_wp2
            go_ret
            exact ⟨by rw [HE.out]; rfl, HM5.out⟩
          · have HE : Sec (r = false) := ⟨HNON.out (by rw [HS.out]; intro h; exact hcn (Option.some.inj h))⟩
            rw [decide_eq_false hcn]
            clear hcn
            go_wp2
            go_ret
            exact ⟨by rw [HE.out]; rfl, HM5.out⟩
end Go.Proofs.YtkkgighgnbbgiaaGreatDoor

namespace Go.Proofs.YtkkgighgnbbgiaaGreatDoor
open Go.RowKit Mem
set_option linter.unusedVariables false
set_option linter.unusedSimpArgs false
set_option maxHeartbeats 4000000 in
set_option maxRecDepth 100000 in
theorem find_no {w : World} {g : Nat} {A1 : Option Addr} {c1 : Nat} {v0 v2 v3 v4 : Value} {xs : List EntryT} {B : Nat → Prop} (hb : Blk w g 34 [v0, .slice A1 xs.length c1, v2, v3, v4]) (h : Row dEntry w B A1 xs.length xs) (hB : ∀ k, B k → k < w.heap.size) (hl : xs.length ≤ 1048576) (ho : Ord xs) (nm : Bytes) (hh : hasE xs nm = false) :
    Calls Tryz.prog 67 #[.pointer (some ⟨g, 0, none⟩), .string ⟨nm.toArray⟩] w (Ret (.tuple #[.pointer none, .bool false]) w) := by
  have HP := Sec.mk (place_calls (c := c1) h hB hl ho nm)
  have p1 : w.cell? ⟨g, 1, none⟩ = some (.slice A1 xs.length c1) := hb.cell 1
  have hlt := hb.lt
  clear h hB hb
  go_enter Tryz.func67, Tryz.ntmps67
  go_wp2_with fail
  refine HP.out.mono ?_
  rintro e w1 ⟨rfl, hm1⟩
  have HM1 := Sec.mk hm1
  rw [hh]
  clear hm1
  go_wp2
  go_ret2
  exact ⟨rfl, HM1.out⟩
set_option maxHeartbeats 4000000 in
set_option maxRecDepth 100000 in
theorem find_yes {w : World} {g : Nat} {A0 A1 : Option Addr} {c0 c1 : Nat} {v2 v3 v4 : Value} {ns : List NodeT} {xs : List EntryT} {B0 B : Nat → Prop} (hb : Blk w g 34 [.slice A0 ns.length c0, .slice A1 xs.length c1, v2, v3, v4]) (hn : Row dNode w B0 A0 ns.length ns) (hB0 : ∀ k, B0 k → k < w.heap.size) (h : Row dEntry w B A1 xs.length xs) (hB : ∀ k, B k → k < w.heap.size) (hl : xs.length ≤ 1048576) (ho : Ord xs) (nm : Bytes) (hh : hasE xs nm = true) {nd : Nat} (hnd : (xs[placeE xs nm]?.getD ([], 0)).2 = nd) (hnl : nd < ns.length) :
    Calls Tryz.prog 67 #[.pointer (some ⟨g, 0, none⟩), .string ⟨nm.toArray⟩] w (fun e W => ∃ bd : Addr, A0 = some bd ∧ Ret (.tuple #[.pointer (some (bd.add (nd * 2))), .bool true]) w e W) := by
  have HP := Sec.mk (place_calls (c := c1) h hB hl ho nm)
  have p0 : w.cell? ⟨g, 0, none⟩ = some (.slice A0 ns.length c0) := hb.cell 0
  have p1 : w.cell? ⟨g, 1, none⟩ = some (.slice A1 xs.length c1) := hb.cell 1
  have hlt := hb.lt
  obtain ⟨hplt, -⟩ := (place_at ho nm).1.mp hh
  rw [List.getElem?_eq_getElem hplt] at hnd
  have HE := Sec.mk h
  have HN := Sec.mk hn
  have HB0 := Sec.mk hB0
  have HB := Sec.mk hB
  have HBl := Sec.mk hb
  have HND := Sec.mk hnd
  clear h hn hB hB0 hb hnd
  go_enter Tryz.func67, Tryz.ntmps67
  go_wp2_with fail
  refine HP.out.mono ?_
  rintro e w1 ⟨rfl, hm1⟩
  have HM1 := Sec.mk hm1
  rw [hh]
  have q0 := (HBl.out.mod hm1 id).cell 0
  have q1 := (HBl.out.mod hm1 id).cell 1
  obtain ⟨ad, hA1, -, e1, -, -⟩ := ent_at (HE.out.mod (w' := w1) (fun _ h => h) (fun k hk => hm1.block k (HB.out k hk) id)) (w' := w1) (fun _ _ => rfl) hplt
  obtain ⟨bd, A', c', hA0, n0, n1, hcc, hcm, hrow, hw⟩ := node_at (HN.out.mod (w' := w1) (fun _ h => h) (fun k hk => hm1.block k (HB0.out k hk) id)) (w' := w1) (fun _ _ => rfl) hnl
  clear hrow hw hm1
  subst hA0 hA1
  have hnd := HND.out
  have e1' : w1.cell? ⟨(ad.add (placeE xs nm * 2)).block, (ad.add (placeE xs nm * 2)).off + 1, none⟩ = some (.int .i64 (nd : Int)) := by rw [e1]; exact congrArg (fun z => some (Value.int .i64 z)) hnd
  clear e1 hnd n0 n1
  generalize placeE xs nm = pl at *
  clear hh
  go_wp2
  refine wp_region_quiet_lit (by kernel_rfl) (by kernel_rfl) ?_
  repeat ((with_reducible refine wpQuiet_step (fun K hK => ?_)); go_simp; first | (refine hK _ ?_; clear hK K) | (apply Exists.intro; refine ⟨fun _ => ?_, hK _ ?_⟩; (fail); clear hK K))
  refine wpQuiet_nil ?_
  intro _ hwq
  obtain ⟨nq, hwqq⟩ := hwq
  subst hwqq
  go_wp2
  go_ret2
  exact ⟨_, rfl, rfl, HM1.out.drewN _⟩














































































































end Go.Proofs.YtkkgighgnbbgiaaGreatDoor

namespace Go.Proofs.YtkkgighgnbbgiaaGreatDoor
set_option linter.unusedVariables false
/-- the names behind the first operations -/
def runL (nodes : Int) : List EntL → List DopL → List EntL
  | l, [] => l
  | l, o :: r => runL nodes ((replayL l o nodes).getD []) r
theorem runL_snoc (nodes : Int) (o : DopL) : ∀ (p : List DopL) (l : List EntL), runL nodes l (p ++ [o]) = (replayL (runL nodes l p) o nodes).getD [] := by
  intro p
  induction p with
  | nil => intro l; rfl
  | cons a r ih => intro l; exact ih _
theorem runL_take (nodes : Int) (l : List EntL) (p : List DopL) {k : Nat} (hk : k < p.length) : runL nodes l (p.take (k + 1)) = (replayL (runL nodes l (p.take k)) p[k] nodes).getD [] := by
  rw [List.take_succ_eq_append_getElem hk, runL_snoc]
/-- all nodes of a list of names are there -/
def InR (nodes : Int) (l : List EntL) : Prop := ∀ e, e ∈ l → 0 ≤ e.2 ∧ e.2 < nodes
theorem inR_of {l : List EntL} {nodes : Int} (h : inOrdL l nodes = true) : InR nodes l := by
  unfold inOrdL at h
  simp only [Bool.and_eq_true, decide_eq_true_eq, List.all_eq_true] at h
  intro e he
  exact (h.1.2 e he).2
theorem inR_out {l : List EntL} {nodes : Int} (h : InR nodes l) (n : LB) : InR nodes (outE l n) := fun e he => h e (List.mem_filter.1 he).1
theorem inR_with {l : List EntL} {nodes : Int} (h : InR nodes l) (n : LB) {k : Int} (h0 : 0 ≤ k) (h1 : k < nodes) : InR nodes (withE l n k) := by
  intro e he
  unfold withE lowE highE at he
  rcases List.mem_append.1 he with he | he
  · exact h e (List.mem_filter.1 he).1
  · rcases List.mem_cons.1 he with he | he
    · subst he; exact ⟨h0, h1⟩
    · exact h e (List.mem_filter.1 he).1
theorem inR_replay {l m : List EntL} {o : DopL} {nodes : Int} (ho : Ord l) (h : InR nodes l) (hr : replayL l o nodes = some m) : InR nodes m := by
  unfold replayL at hr
  split at hr
  · split at hr
    · rename_i hh
      rw [← Option.some.inj hr]
      exact inR_with h _ hh.2.2.1 hh.2.2.2.1
    · cases hr
  · split at hr
    · split at hr
      · rename_i hh
        rw [← Option.some.inj hr]
        obtain ⟨hl, -⟩ := (place_at ho o.2.1).1.mp hh.1
        have := h _ (List.getElem_mem hl)
        refine inR_with (inR_out h _) _ ?_ ?_
        · rw [List.getElem?_eq_getElem hl]; exact this.1
        · rw [List.getElem?_eq_getElem hl]; exact this.2
      · cases hr
    · split at hr
      · split at hr
        · rw [← Option.some.inj hr]
          exact inR_out h _
        · cases hr
      · cases hr
/-- one step of a valid replay -/
theorem replays_step {nodes : Int} {l names : List EntL} {p : List DopL} {k : Nat} (hk : k < p.length) (h : replaysL nodes l (p.drop k) = some names) :
    ∃ m, replayL l p[k] nodes = some m ∧ m.length ≤ 300 ∧ replaysL nodes m (p.drop (k + 1)) = some names := by
  rw [replaysL_at hk] at h
  cases hr : replayL l p[k] nodes with
  | none => rw [hr] at h; cases h
  | some m =>
    rw [hr] at h
    simp only at h
    by_cases hm : m.length ≤ 300
    · rw [if_pos hm] at h; exact ⟨m, rfl, hm, h⟩
    · rw [if_neg hm] at h; cases h
/-- how much of a node a crash keeps -/
def keepN (n : NodL) (picks : List Int) (i : Nat) : Int :=
  if 0 < picks.length then (if 0 < picks[i % picks.length]?.getD 0 then n.2 + (picks[i % picks.length]?.getD 0) % ((n.1.length : Int) - n.2 + 1) else n.2) else n.2
theorem keepN_in {n : NodL} (h : nodeOk n = true) (picks : List Int) (i : Nat) : 0 ≤ keepN n picks i ∧ keepN n picks i ≤ n.1.length := by
  unfold nodeOk at h
  have h := of_decide_eq_true h
  unfold keepN
  split
  · split
    · have h1 := Int.emod_nonneg (picks[i % picks.length]?.getD 0) (b := (n.1.length : Int) - n.2 + 1) (by omega)
      have h2 := Int.emod_lt_of_pos (picks[i % picks.length]?.getD 0) (b := (n.1.length : Int) - n.2 + 1) (by omega)
      omega
    · omega
  · omega
def crashNode (nodes : List NodL) (picks : List Int) (i : Nat) (e : EntL) : NodL :=
  ((nodes[e.2.toNat]?.getD ([], 0)).1.take (keepN (nodes[e.2.toNat]?.getD ([], 0)) picks i).toNat, keepN (nodes[e.2.toNat]?.getD ([], 0)) picks i)
theorem crashNode_at {nodes : List NodL} {nd : Nat} (h : nd < nodes.length) (picks : List Int) (i : Nat) (nm : LB) : crashNode nodes picks i (nm, (nd : Int)) = (nodes[nd].1.take (keepN nodes[nd] picks i).toNat, keepN nodes[nd] picks i) := by
  have e : (nodes[((nm, (nd : Int)) : EntL).2.toNat]?.getD ([], 0)) = nodes[nd] := by
    show nodes[((nd : Int)).toNat]?.getD ([], 0) = _
    rw [Int.toNat_natCast, List.getElem?_eq_getElem h]
    rfl
  unfold crashNode
  rw [e]
def crashNs (nodes : List NodL) (picks : List Int) (l : List EntL) : List NodL := l.mapIdx (crashNode nodes picks)
def crashEs (l : List EntL) : List EntL := l.mapIdx fun i e => (e.1, (i : Int))
theorem crashNs_take (nodes : List NodL) (picks : List Int) (l : List EntL) {k : Nat} (hk : k < l.length) : crashNs nodes picks (l.take (k + 1)) = crashNs nodes picks (l.take k) ++ [crashNode nodes picks k l[k]] := by
  unfold crashNs
  rw [List.take_succ_eq_append_getElem hk, List.mapIdx_concat]
  simp [Nat.min_eq_left (Nat.le_of_lt hk)]
theorem crashEs_take (l : List EntL) {k : Nat} (hk : k < l.length) : crashEs (l.take (k + 1)) = crashEs (l.take k) ++ [(l[k].1, (k : Int))] := by
  unfold crashEs
  rw [List.take_succ_eq_append_getElem hk, List.mapIdx_concat]
  simp [Nat.min_eq_left (Nat.le_of_lt hk)]
def listAt (d : DiskL) (dirs : Int) : List EntL := runL d.1.length d.2.2.1 (d.2.2.2.1.take dirs.toNat)
def crashL (d : DiskL) (dirs : Int) (picks : List Int) : DiskL :=
  if DiskValidL d = true then (crashNs d.1 picks (listAt d dirs), crashEs (listAt d dirs), crashEs (listAt d dirs), [], d.2.2.2.2) else ([], [], [], [], 0)
theorem crashEs_len (l : List EntL) : (crashEs l).length = l.length := by simp [crashEs]
theorem crashNs_len (nodes : List NodL) (picks : List Int) (l : List EntL) : (crashNs nodes picks l).length = l.length := by simp [crashNs]
end Go.Proofs.YtkkgighgnbbgiaaGreatDoor

namespace Go.Proofs.YtkkgighgnbbgiaaGreatDoor
set_option linter.unusedVariables false
abbrev OpL := Int × LB × LB × LB
def nodeAt (d : DiskL) (i : Int) : NodL := d.1[i.toNat]?.getD ([], 0)
def settleL (d : DiskL) : DiskL := (d.2.1.map fun e => nodeAt d e.2, crashEs d.2.1, crashEs d.2.1, [], d.2.2.2.2)
def usedL (d : DiskL) : Nat := (d.2.1.map fun e => (nodeAt d e.2).1.length).sum
def dirL (d : DiskL) (x : DopL) : DiskL := (d.1, (replayL d.2.1 x d.1.length).getD [], d.2.2.1, d.2.2.2.1 ++ [x], d.2.2.2.2)
def withNode (d : DiskL) (i : Int) (n : NodL) : DiskL := (d.1.set i.toNat n, d.2)
def nodeOf (d : DiskL) (nm : LB) : Int := (d.2.1[placeE d.2.1 nm]?.getD ([], 0)).2
/-- one operation: the disk, and a code -/
def oneL (d : DiskL) (o : OpL) : DiskL × Int :=
  if o.1 < 1 ∨ 6 < o.1 then (d, 2)
  else if o.1 = 6 then (settleL d, 0)
  else if goodL o.2.1 = false ∨ (o.1 = 4 ∧ goodL o.2.2.1 = false) then (d, 3)
  else if o.1 = 1 then
    (if 600 ≤ d.1.length ∨ 1000 ≤ d.2.2.2.1.length ∨ (hasE d.2.1 o.2.1 = false ∧ 300 ≤ d.2.1.length) then (d, 6)
     else (dirL (d.1 ++ [([], 0)], d.2) (1, o.2.1, [], (d.1.length : Int)), 0))
  else if hasE d.2.1 o.2.1 = false then (d, 4)
  else if o.1 = 2 then
    (if d.2.2.2.2 < (usedL d : Int) + (o.2.2.2.length : Int) then (d, 5)
     else if 40000 < (nodeAt d (nodeOf d o.2.1)).1.length + o.2.2.2.length ∨ 200000 < sumD d.1 + o.2.2.2.length then (d, 6)
     else (withNode d (nodeOf d o.2.1) ((nodeAt d (nodeOf d o.2.1)).1 ++ o.2.2.2, (nodeAt d (nodeOf d o.2.1)).2), 0))
  else if o.1 = 3 then (withNode d (nodeOf d o.2.1) ((nodeAt d (nodeOf d o.2.1)).1, ((nodeAt d (nodeOf d o.2.1)).1.length : Int)), 0)
  else if o.1 = 4 ∧ o.2.2.1 = o.2.1 then (d, 0)
  else if 1000 ≤ d.2.2.2.1.length then (d, 6)
  else (dirL d (o.1, o.2.1, if o.1 = 4 then o.2.2.1 else [], 0), 0)
/-- all operations: the disk, how many are done, a code -/
def doL : DiskL → List OpL → Nat → DiskL × (Int × Int)
  | d, [], n => (d, ((n : Int), 0))
  | d, o :: r, n => if (oneL d o).2 = 0 then doL (oneL d o).1 r (n + 1) else (d, ((n : Int), (oneL d o).2))
def diskDoL (d : DiskL) (ops : List OpL) : DiskL × (Int × Int) :=
  if ops.length ≤ 2000 ∧ DiskValidL d = true then doL d ops 0 else (([], [], [], [], 0), (0, 1))
/-- what holds of a disk that operations make -/
structure DInv (N : Nat) (d : DiskL) : Prop where
  nodes : d.1.length ≤ 600 + N
  names : d.2.1.length ≤ N
  pend : d.2.2.2.1.length ≤ 1000
  len : ∀ n, n ∈ d.1 → n.1.length ≤ 40000
  ord : Ord d.2.1
  inr : InR d.1.length d.2.1
  quota : 0 ≤ d.2.2.2.2 ∧ d.2.2.2.2 ≤ 1000000
theorem DInv.mono {N M : Nat} {d : DiskL} (h : DInv N d) (hm : N ≤ M) : DInv M d := ⟨Nat.le_trans h.nodes (by omega), Nat.le_trans h.names hm, h.pend, h.len, h.ord, h.inr, h.quota⟩
theorem DInv.of_valid {d : DiskL} (h : DiskValidL d = true) : DInv 300 d := by
  have hok := (DiskValidL_iff d).1 h
  refine ⟨by have := hok.2.2.1; omega, ((inOrdL_iff d.2.1 d.1.length).1 hok.2.2.2.2.2.2.1).1, hok.2.2.2.1, fun n hn => ?_, inOrdL_ord hok.2.2.2.2.2.2.1, inR_of hok.2.2.2.2.2.2.1, hok.1, hok.2.1⟩
  obtain ⟨k, hk, rfl⟩ := List.getElem_of_mem hn
  have := hok.2.2.2.2.1 k hk
  unfold nodeOk at this
  exact (of_decide_eq_true this).1
theorem nodeAt_len {N : Nat} {d : DiskL} (h : DInv N d) (i : Int) : (nodeAt d i).1.length ≤ 40000 := by
  unfold nodeAt
  by_cases hk : i.toNat < d.1.length
  · rw [List.getElem?_eq_getElem hk]; exact h.len _ (List.getElem_mem hk)
  · rw [List.getElem?_eq_none (by omega)]; simp
theorem ord_crash {l : List EntL} (h : Ord l) : Ord (crashEs l) := by
  unfold Ord at *
  rw [List.pairwise_iff_getElem] at *
  intro i j hi hj hij
  unfold crashEs at *
  simp only [List.getElem_mapIdx]
  exact h i j (by simpa using hi) (by simpa using hj) hij
theorem inR_crash (l : List EntL) : InR l.length (crashEs l) := by
  intro e he
  unfold crashEs at he
  obtain ⟨i, hi, rfl⟩ := List.mem_mapIdx.1 he
  exact ⟨by omega, by simp only; omega⟩
theorem InR.mono {n m : Int} {l : List EntL} (h : InR n l) (hnm : n ≤ m) : InR m l := fun e he => ⟨(h e he).1, Int.lt_of_lt_of_le (h e he).2 hnm⟩
theorem DInv.settle {N : Nat} {d : DiskL} (h : DInv N d) : DInv N (settleL d) := by
  refine ⟨?_, ?_, by simp [settleL], ?_, ord_crash h.ord, ?_, h.quota⟩
  · simp only [settleL, List.length_map]; have := h.names; omega
  · simp only [settleL, crashEs_len]; exact h.names
  · intro n hn
    obtain ⟨e, he, rfl⟩ := List.mem_map.1 hn
    exact nodeAt_len h _
  · simp only [settleL, List.length_map]
    exact inR_crash _
theorem DInv.dir {N : Nat} {d : DiskL} (h : DInv N d) (x : DopL) (hp : d.2.2.2.1.length < 1000) : DInv (N + 1) (dirL d x) := by
  have hb := h.names
  have hn := h.nodes
  cases hr : replayL d.2.1 x d.1.length with
  | none =>
    have e : dirL d x = (d.1, [], d.2.2.1, d.2.2.2.1 ++ [x], d.2.2.2.2) := by unfold dirL; rw [hr]; rfl
    rw [e]
    exact ⟨by simp only; omega, by simp, by simp; omega, h.len, List.Pairwise.nil, fun e he => (by cases he), h.quota⟩
  | some m =>
    have e : dirL d x = (d.1, m, d.2.2.1, d.2.2.2.1 ++ [x], d.2.2.2.2) := by unfold dirL; rw [hr]; rfl
    rw [e]
    exact ⟨by simp only; omega, by have := replayL_len hr; simp only; omega, by simp; omega, h.len, replayL_ord h.ord hr, inR_replay h.ord h.inr hr, h.quota⟩
theorem DInv.node {N : Nat} {d : DiskL} (h : DInv N d) (i : Int) {n : NodL} (hn : n.1.length ≤ 40000) : DInv N (withNode d i n) := by
  refine ⟨by simp only [withNode, List.length_set]; exact h.nodes, h.names, h.pend, fun m hm => ?_, h.ord, by simp only [withNode, List.length_set]; exact h.inr, h.quota⟩
  rcases List.mem_or_eq_of_mem_set hm with hm | rfl
  · exact h.len m hm
  · exact hn
theorem DInv.one {N : Nat} {d : DiskL} (h : DInv N d) (o : OpL) (hc : (oneL d o).2 = 0) : DInv (N + 1) (oneL d o).1 := by
  unfold oneL at hc ⊢
  split at hc
  · simp at hc
  rename_i h1
  rw [if_neg h1]
  split at hc
  · rename_i h2; rw [if_pos h2]; exact h.settle.mono (Nat.le_succ N)
  rename_i h2
  rw [if_neg h2]
  split at hc
  · simp at hc
  rename_i h3
  rw [if_neg h3]
  split at hc
  · rename_i h4
    rw [if_pos h4]
    split at hc
    · simp at hc
    rename_i h5
    rw [if_neg h5]
    have hn : d.1.length < 600 := by omega
    have hp : d.2.2.2.1.length < 1000 := by omega
    have hi : DInv N (d.1 ++ [([], 0)], d.2) := ⟨by simp only [List.length_append, List.length_singleton]; omega, h.names, h.pend, fun n hn => by
      rcases List.mem_append.1 hn with hn | hn
      · exact h.len n hn
      · rw [List.mem_singleton.1 hn]; simp, h.ord, by
      have := h.inr.mono (m := ((d.1 ++ [([], 0)]).length : Int)) (by simp; omega)
      exact this, h.quota⟩
    exact hi.dir _ hp
  rename_i h4
  rw [if_neg h4]
  split at hc
  · simp at hc
  rename_i h5
  rw [if_neg h5]
  split at hc
  · rename_i h6
    rw [if_pos h6]
    split at hc
    · simp at hc
    rename_i h7
    rw [if_neg h7]
    split at hc
    · simp at hc
    rename_i h8
    rw [if_neg h8]
    exact (h.node _ (by simp only [List.length_append]; omega)).mono (Nat.le_succ N)
  rename_i h6
  rw [if_neg h6]
  split at hc
  · rename_i h7
    rw [if_pos h7]
    have hh := h.node (nodeOf d o.2.1) (n := ((nodeAt d (nodeOf d o.2.1)).1, ((nodeAt d (nodeOf d o.2.1)).1.length : Int))) (nodeAt_len h (nodeOf d o.2.1))
    exact hh.mono (Nat.le_succ N)
  rename_i h7
  rw [if_neg h7]
  split at hc
  · rename_i h8; rw [if_pos h8]; exact h.mono (Nat.le_succ N)
  rename_i h8
  rw [if_neg h8]
  split at hc
  · simp at hc
  rename_i h9
  rw [if_neg h9]
  exact h.dir _ (by omega)
theorem sumD_le {N : Nat} {d : DiskL} (h : DInv N d) : sumD d.1 ≤ 40000 * d.1.length := by
  have key : ∀ l : List NodL, (∀ n, n ∈ l → n.1.length ≤ 40000) → sumD l ≤ 40000 * l.length := by
    intro l
    induction l with
    | nil => intro _; simp [sumD]
    | cons n r ih =>
      intro hl
      have h1 := ih (fun m hm => hl m (by simp [hm]))
      have h2 := hl n (by simp)
      unfold sumD at *
      simp only [List.map_cons, List.sum_cons, List.length_cons]
      omega
  exact key _ h.len
theorem sumD_take_le {l : List NodL} (h : ∀ n, n ∈ l → n.1.length ≤ 40000) : ∀ k, sumD (l.take k) ≤ 40000 * k := by
  intro k
  induction k with
  | zero => simp [sumD]
  | succ k ih =>
    by_cases hk : k < l.length
    · rw [sumD_take hk]; have := h _ (List.getElem_mem hk); omega
    · have e1 : l.take (k + 1) = l.take k := by rw [List.take_of_length_le (by omega), List.take_of_length_le (by omega)]
      rw [e1]; omega
theorem used_take {d : DiskL} {k : Nat} (hk : k < d.2.1.length) : ((d.2.1.take (k + 1)).map fun e => (nodeAt d e.2).1.length).sum = ((d.2.1.take k).map fun e => (nodeAt d e.2).1.length).sum + (nodeAt d d.2.1[k].2).1.length := by
  rw [List.take_succ_eq_append_getElem hk, List.map_append, List.sum_append]
  simp
theorem used_le {N : Nat} {d : DiskL} (h : DInv N d) : ∀ k, ((d.2.1.take k).map fun e => (nodeAt d e.2).1.length).sum ≤ 40000 * k := by
  intro k
  induction k with
  | zero => simp
  | succ k ih =>
    by_cases hk : k < d.2.1.length
    · rw [used_take hk]; have := nodeAt_len h d.2.1[k].2; omega
    · have e1 : d.2.1.take (k + 1) = d.2.1.take k := by rw [List.take_of_length_le (by omega), List.take_of_length_le (by omega)]
      rw [e1]; omega
end Go.Proofs.YtkkgighgnbbgiaaGreatDoor
