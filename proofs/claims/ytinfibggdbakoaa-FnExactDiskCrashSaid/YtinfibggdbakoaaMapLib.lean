/- Maps of the call's own, by what they answer. -/
import Derived.Test.YtinfibggdbakoaaMem3
import Derived.Maps.OwnOps
import Derived.Maps.Views
namespace Go.Proofs.Ytinfibggdbakoaa.Mem
open Go.RowKit Go.Maps
set_option linter.unusedVariables false
/-- how keys are spelt -/
structure KeyE (P : Program) (k : TypeId) {κ : Type} (ok : κ → Prop) (kv : κ → Value) (kl : κ → Lit) : Prop where
  keyed : Keyed P k
  key : ∀ x, ok x → keyOf P k (kv x) = some (kl x)
  lit : ∀ x, WideAt.IsKeyLit (kl x)
  inj : ∀ x y, kl x = kl y → x = y
/-- how elements are spelt -/
structure ValE (P : Program) (e : TypeId) {ν : Type} (ok : ν → Prop) (ev : ν → Value) (el : ν → Lit) (z : ν) : Prop where
  val : ∀ x, ok x → plainElem (H := Unit) P e (ev x) = some (.lit (el x), [])
  inv : ∀ u x ps, plainElem (H := Unit) P e u = some (.lit (el x), ps) → u = ev x
  zok : ok z
  zero : ∀ w, (zeroValue e).run P w = .ok (ev z) w
/-- a map at block b that answers as f does -/
def MapOf {κ ν : Type} (P : Program) (k e : TypeId) (kl : κ → Lit) (el : ν → Lit) (z : ν) (w : World) (b n : Nat) (f : κ → ν) : Prop :=
  ∃ D : DataW Unit, w.ownsMap P k (plainElem P e) b n D ∧ IsMap D ∧ ∀ x, D.atKey (kl x) (.lit (el z)) = .lit (el (f x))
section
variable {κ ν : Type} {P : Program} {k e : TypeId} {okk : κ → Prop} {kv : κ → Value} {kl : κ → Lit} {okv : ν → Prop} {ev : ν → Value} {el : ν → Lit} {z : ν} {w w' : World} {b n : Nat} {f : κ → ν}
theorem MapOf.made (w : World) : MapOf P k e kl el z (w.alloc (.map #[] 0)) w.heap.size 0 (fun _ => z) :=
  ⟨_, World.ownsMap_made w P k _, isMap_empty, fun _ => rfl⟩
theorem MapOf.lt (h : MapOf P k e kl el z w b n f) : b < w.heap.size := by obtain ⟨D, h, _⟩ := h; exact h.lt
theorem MapOf.mod {S : Nat → Prop} (h : MapOf P k e kl el z w b n f) (hm : Mod S w w') (hS : ¬ S b) : MapOf P k e kl el z w' b n f := by
  have hlt := h.lt
  obtain ⟨D, ⟨es, clock, hb, hr⟩, h2⟩ := h
  exact ⟨D, ⟨es, clock, (hm.block b hlt hS).trans hb, hr⟩, h2⟩
theorem MapOf.mono (h : MapOf P k e kl el z w b n f) {n' : Nat} (hn : n ≤ n') : MapOf P k e kl el z w b n' f := by
  obtain ⟨D, h, h2⟩ := h; exact ⟨D, h.mono hn, h2⟩
theorem MapOf.look [DecidableEq κ] (K : KeyE P k okk kv kl) (V : ValE P e okv ev el z) (h : MapOf P k e kl el z w b n f) {t : TypeId} (ht : P.underlying t = some (.map k e)) {x : κ} (hx : okk x) :
    (Instr.lookup t (.map (some b)) (kv x) false).run P w = .ok (ev (f x)) w := by
  obtain ⟨D, h, _, hf⟩ := h
  obtain ⟨v, ps, hrun, hv⟩ := h.lookup K.keyed ht (V.zero w) (V.val z V.zok) (K.key x hx)
  rw [hf x] at hv
  rw [hrun, V.inv _ _ _ hv]
theorem MapOf.store [DecidableEq κ] (K : KeyE P k okk kv kl) (V : ValE P e okv ev el z) (h : MapOf P k e kl el z w b n f) (hn : n < maxLen) {t : TypeId} (ht : P.underlying t = some (.map k e)) {x : κ} (hx : okk x) {y : ν} (hy : okv y) :
    ∃ w', (Instr.mapUpdate t (.map (some b)) (kv x) (ev y)).run P w = .ok () w' ∧ MapOf P k e kl el z w' b (n + 1) (fun u => if u = x then y else f u) ∧ Mod (· = b) w w' := by
  obtain ⟨D, h, hD, hf⟩ := h
  obtain ⟨w', hrun, h1, hg⟩ := h.update K.keyed ht hn (K.key x hx) (V.val y hy)
  refine ⟨w', hrun, ⟨_, h1, hD.put _ _, fun u => ?_⟩, (Mod.refl _ _).grown hg fun q hq hl => by injection hq with hq; exact hq.symm⟩
  by_cases hu : u = x
  · subst hu; simp only [if_pos]; rw [atKey_put_same hD (K.lit _)]
  · simp only [if_neg hu]; rw [atKey_put_other (fun h => hu (K.inj _ _ h)), hf u]
theorem wpList_mapSet [DecidableEq κ] {ops : Array Oper} {rest : List Oper} {o : Oper} {a : Act} {Q : Exit → Act → World → Prop} (K : KeyE P k okk kv kl) (V : ValE P e okv ev el z) (hg : o.guard = none) (m x v : Operand) (t : TypeId)
    (hop : o.op = Op.mapUpdate t m x v ∨ o.op = Op.insert t m x v) (ht : P.underlying t = some (.map k e)) (hm : a.eval m = .map (some b)) (h : MapOf P k e kl el z w b n f) (hn : n < maxLen) (kx : κ) (vy : ν) (hx : a.eval x = kv kx) (hv : a.eval v = ev vy) (hkx : okk kx) (hvy : okv vy)
    (hK : ∀ w', MapOf P k e kl el z w' b (n + 1) (fun u => if u = kx then vy else f u) → Mod (· = b) w w' → wpList P ops Q rest (a.put o.dst undef) w') : wpList P ops Q (o :: rest) a w := by
  refine wpList_plain hg fun K' hK' => ?_
  obtain ⟨w', hrun, r1, r2⟩ := h.store K V hn ht hkx hvy
  unfold Oper.wp
  rcases hop with hop | hop
  · simp [execOp, hop, hm, hx, hv, hrun, Result.andThen]
    exact hK' _ _ (hK w' r1 r2)
  · simp [execOp, hop, hm, hx, hv, hrun, Result.andThen]
    exact hK' _ _ (hK w' r1 r2)
theorem wpList_mapGet [DecidableEq κ] {ops : Array Oper} {rest : List Oper} {o : Oper} {a : Act} {Q : Exit → Act → World → Prop} (K : KeyE P k okk kv kl) (V : ValE P e okv ev el z) (hg : o.guard = none) (m x : Operand) (t : TypeId)
    (hop : o.op = Op.lookup t m x false) (ht : P.underlying t = some (.map k e)) (hm : a.eval m = .map (some b)) (h : MapOf P k e kl el z w b n f) (kx : κ) (hx : a.eval x = kv kx) (hkx : okk kx)
    (hK : wpList P ops Q rest (a.put o.dst (ev (f kx))) w) : wpList P ops Q (o :: rest) a w := by
  refine wpList_plain hg fun K' hK' => ?_
  have hrun := h.look K V ht hkx
  unfold Oper.wp
  simp [execOp, hop, hm, hx, hrun, Result.andThen]
  exact hK' _ _ hK
end
/-- keys that are texts, elements that are numbers -/
theorem keyS {P : Program} {k : TypeId} (hk : P.underlying k = some .string) : KeyE P k (fun x : List UInt8 => x.length ≤ 1048576) (fun x => .string ⟨x.toArray⟩) (fun x => .string x) where
  keyed := string_keyed hk
  key := fun x hx => by have := WideMaps.keyOf_string_mk (P := P) (k := k) hk (s := ⟨x.toArray⟩) (by show x.toArray.size ≤ maxLen; simp only [maxLen, List.size_toArray]; omega); simpa using this
  lit := fun x => by first | trivial | exact ⟨_, rfl⟩ | simp [WideAt.IsKeyLit]
  inj := fun x y h => by injection h
theorem valI {P : Program} {e : TypeId} (he : P.underlying e = some (.int .i64)) (hz : ∀ w, (zeroValue e).run P w = .ok (.int .i64 0) w) : ValE P e (fun x : Int => (Lit.int .i64 x).wf = true) (fun x => .int .i64 x) (fun x => .int .i64 x) 0 where
  val := fun x h => plainElem_int he h
  inv := fun u x ps h => by
    obtain ⟨a, rfl, h1, _⟩ := plainElem_int_inv he h
    injection h1 with h1 _
    injection h1 with h1
    injection h1 with _ h1
    rw [h1]
  zok := by decide
  zero := hz
theorem keyI {P : Program} {k : TypeId} (hk : P.underlying k = some (.int .i64)) : KeyE P k (fun x : Int => (Lit.int .i64 x).wf = true) (fun x => .int .i64 x) (fun x => .int .i64 x) where
  keyed := int_keyed hk
  key := fun x h => keyOf_int_mk hk h
  lit := fun x => by first | trivial | exact ⟨_, rfl⟩ | simp [WideAt.IsKeyLit]
  inj := fun x y h => by injection h
theorem valB {P : Program} {e : TypeId} (he : P.underlying e = some .bool) (hz : ∀ w, (zeroValue e).run P w = .ok (.bool false) w) : ValE P e (fun _ : Bool => True) (fun x => .bool x) (fun x => .bool x) false where
  val := fun x _ => plainElem_bool he x
  inv := fun u x ps h => by
    unfold plainElem at h
    rw [he] at h
    cases u <;> simp at h
    rw [h.1]
  zok := trivial
  zero := hz
end Go.Proofs.Ytinfibggdbakoaa.Mem
