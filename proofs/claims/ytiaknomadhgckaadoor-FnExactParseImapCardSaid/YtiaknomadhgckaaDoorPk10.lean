/- Maps of the call's own, by what they answer, whatever their elements are. The program's verbs by name. The program's reading of a line behind its tag. -/
import Derived.Test.YtiaknomadhgckaaDoorPk3
import Derived.Test.YtiaknomadhgckaaDoorPk9
import Derived.Test.YtiaknomadhgckaaDoorShelf
import Derived.WalkMore
import Derived.ScopeJumps
namespace Go.Proofs.YtiaknomadhgckaaDoor.Mem
open Go.RowKit Go.Maps
set_option linter.unusedVariables false
structure ValR (P : Program) (e : TypeId) (R : Value → Option (DataW Unit × List MemPlace)) {ν : Type} (ev : ν → Value) (el : ν → Lit) (z : ν) : Prop where
  val : ∀ x, R (ev x) = some (.lit (el x), [])
  inv : ∀ u x ps, R u = some (.lit (el x), ps) → u = ev x
  zero : ∀ w, (zeroValue e).run P w = .ok (ev z) w
def MapR {κ ν : Type} (P : Program) (k : TypeId) (R : Value → Option (DataW Unit × List MemPlace)) (kl : κ → Lit) (el : ν → Lit) (z : ν) (w : World) (b n : Nat) (f : κ → ν) : Prop :=
  ∃ D : DataW Unit, w.ownsMap P k R b n D ∧ IsMap D ∧ ∀ x, D.atKey (kl x) (.lit (el z)) = .lit (el (f x))
section
variable {κ ν : Type} {P : Program} {k e : TypeId} {R : Value → Option (DataW Unit × List MemPlace)} {okk : κ → Prop} {kv : κ → Value} {kl : κ → Lit} {ev : ν → Value} {el : ν → Lit} {z : ν} {w w' : World} {b n : Nat} {f : κ → ν}
theorem MapR.made (w : World) : MapR P k R kl el z (w.alloc (.map #[] 0)) w.heap.size 0 (fun _ => z) :=
  ⟨_, World.ownsMap_made w P k _, isMap_empty, fun _ => rfl⟩
theorem MapR.lt (h : MapR P k R kl el z w b n f) : b < w.heap.size := by obtain ⟨D, h, _⟩ := h; exact h.lt
theorem MapR.mod {S : Nat → Prop} (h : MapR P k R kl el z w b n f) (hm : Mod S w w') (hS : ¬ S b) : MapR P k R kl el z w' b n f := by
  have hlt := h.lt
  obtain ⟨D, ⟨es, clock, hb, hr⟩, h2⟩ := h
  exact ⟨D, ⟨es, clock, (hm.block b hlt hS).trans hb, hr⟩, h2⟩
theorem MapR.look [DecidableEq κ] (K : KeyE P k okk kv kl) (V : ValR P e R ev el z) (h : MapR P k R kl el z w b n f) {t : TypeId} (ht : P.underlying t = some (.map k e)) {x : κ} (hx : okk x) :
    (Instr.lookup t (.map (some b)) (kv x) false).run P w = .ok (ev (f x)) w := by
  obtain ⟨D, h, _, hf⟩ := h
  obtain ⟨v, ps, hrun, hv⟩ := h.lookup K.keyed ht (V.zero w) (V.val z) (K.key x hx)
  rw [hf x] at hv
  rw [hrun, V.inv _ _ _ hv]
theorem MapR.store [DecidableEq κ] (K : KeyE P k okk kv kl) (V : ValR P e R ev el z) (h : MapR P k R kl el z w b n f) (hn : n < maxLen) {t : TypeId} (ht : P.underlying t = some (.map k e)) {x : κ} (hx : okk x) (y : ν) :
    ∃ w', (Instr.mapUpdate t (.map (some b)) (kv x) (ev y)).run P w = .ok () w' ∧ MapR P k R kl el z w' b (n + 1) (fun u => if u = x then y else f u) ∧ Mod (· = b) w w' := by
  obtain ⟨D, h, hD, hf⟩ := h
  obtain ⟨w', hrun, h1, hg⟩ := h.update K.keyed ht hn (K.key x hx) (V.val y)
  refine ⟨w', hrun, ⟨_, h1, hD.put _ _, fun u => ?_⟩, (Mod.refl _ _).grown hg fun q hq hl => by injection hq with hq; exact hq.symm⟩
  by_cases hu : u = x
  · subst hu; simp only [if_pos]; rw [atKey_put_same hD (K.lit _)]
  · simp only [if_neg hu]; rw [atKey_put_other (fun h => hu (K.inj _ _ h)), hf u]
theorem wpList_mapSetR [DecidableEq κ] {ops : Array Oper} {rest : List Oper} {o : Oper} {a : Act} {Q : Exit → Act → World → Prop} (K : KeyE P k okk kv kl) (V : ValR P e R ev el z) (hg : o.guard = none) (m x v : Operand) (t : TypeId)
    (hop : o.op = Op.mapUpdate t m x v ∨ o.op = Op.insert t m x v) (ht : P.underlying t = some (.map k e)) (hm : a.eval m = .map (some b)) (h : MapR P k R kl el z w b n f) (hn : n < maxLen) (kx : κ) (vy : ν) (hx : a.eval x = kv kx) (hv : a.eval v = ev vy) (hkx : okk kx)
    (hK : ∀ w', MapR P k R kl el z w' b (n + 1) (fun u => if u = kx then vy else f u) → Mod (· = b) w w' → wpList P ops Q rest (a.put o.dst undef) w') : wpList P ops Q (o :: rest) a w := by
  refine wpList_plain hg fun K' hK' => ?_
  obtain ⟨w', hrun, r1, r2⟩ := h.store K V hn ht hkx vy
  unfold Oper.wp
  rcases hop with hop | hop
  · simp [execOp, hop, hm, hx, hv, hrun, Result.andThen]
    exact hK' _ _ (hK w' r1 r2)
  · simp [execOp, hop, hm, hx, hv, hrun, Result.andThen]
    exact hK' _ _ (hK w' r1 r2)
end
end Go.Proofs.YtiaknomadhgckaaDoor.Mem

namespace Go.Proofs.YtiaknomadhgckaaDoor
open Go.RowKit Mem
set_option linter.unusedVariables false
set_option linter.unusedSimpArgs false
inductive VerbI where
  | none : VerbI
  | fetch : VerbI
  | store : VerbI
  | plain (b : Nat) : VerbI
def verbV : VerbI → Value
  | .none => .nilFunc
  | .fetch => .func (.func 73) #[] #[]
  | .store => .func (.func 74) #[] #[]
  | .plain b => .func (.func 99) #[] #[.pointer (some ⟨b, 0, none⟩)]
def verbCode : VerbI → Lit
  | .none => .int .i64 0
  | .fetch => .int .i64 1
  | .store => .int .i64 2
  | .plain b => .int .i64 (3 + (b : Int))
theorem verbV_inj : ∀ x y, verbV x = verbV y → x = y := by
  intro x y h
  cases x <;> cases y <;> simp [verbV] at h ⊢ <;> exact h
theorem verbCode_inj : ∀ x y, verbCode x = verbCode y → x = y := by
  intro x y h
  cases x <;> cases y <;> simp [verbCode] at h ⊢ <;> omega
open Classical in
noncomputable def verbR (u : Value) : Option (DataW Unit × List MemPlace) := if h : ∃ y, verbV y = u then some (.lit (verbCode h.choose), []) else none
theorem zeroVerb (w : World) : (zeroValue 110).run Tryd.prog w = .ok .nilFunc w := by go_simp
theorem verbVal (x : VerbI) : verbR (verbV x) = some (.lit (verbCode x), []) := by
  have h : ∃ y, verbV y = verbV x := ⟨x, rfl⟩
  unfold verbR
  rw [dif_pos h, verbV_inj _ _ h.choose_spec]
theorem vVerb : ValR Tryd.prog 110 verbR verbV verbCode .none where
  val := verbVal
  inv := by
    intro u x ps h
    unfold verbR at h
    split at h
    · rename_i hh
      have h1 := (Prod.mk.inj (Option.some.inj h)).1
      have h2 := verbCode_inj _ _ (DataW.lit.inj h1)
      rw [← h2, hh.choose_spec]
    · cases h
  zero := zeroVerb
theorem mkMapSV (w : World) : (Instr.makeMap 112 none).run Tryd.prog w = .ok (.map (some w.heap.size)) (w.alloc (.map #[] 0)) := run_makeMap _ w
abbrev MapSV (w : World) (b n : Nat) (f : Bytes → VerbI) : Prop := MapR Tryd.prog 9 verbR (fun x : Bytes => .string x) verbCode .none w b n f
set_option maxHeartbeats 1000000 in
theorem plain_calls (k : Int) (w : World) : Calls Tryd.prog 72 #[.int .i64 k] w (fun e w' => ∃ b, e = .returned (verbV (.plain b)) ∧ w.heap.size ≤ b ∧ b < w'.heap.size ∧ Blk w' b 3 [.int .i64 k] ∧ New w w') := by
  have hb := Blk.new w 3 [.int .i64 k]
  go_enter Tryd.func72, Tryd.ntmps72
  go_wp2
  go_ret
  exact ⟨w.heap.size, rfl, Nat.le_refl _, by simp, hb, (Mod.refl _ _).alloc _⟩
set_option maxHeartbeats 1000000 in
theorem plain1_calls {g r b : Nat} {w0 w : World} {t : Bytes} {bb : Bool} {k : Int} (hg0 : w0.heap.size ≤ g) (hk : IntKind.i64.wrap k = k) (hc : HalfSt w g t false) (hr : Blk w r 115 [.string ⟨([] : Bytes).toArray⟩, .bool bb]) (hb : Blk w b 3 [.int .i64 k]) (hgr : g ≠ r) (hgb : g ≠ b) :
    Calls Tryd.prog 99 #[.pointer (some ⟨g, 0, none⟩), .pointer (some ⟨r, 0, none⟩), .pointer (some ⟨b, 0, none⟩)] w (RetVerb w0.heap.size g r t (kindC t k) w) := by
  have HC := Sec.mk hc
  have HR := Sec.mk hr
  have c0 : w.cell? ⟨g, 0, none⟩ = some (.int .i64 0) := hc.cell 0
  have f0 : w.frozen? ⟨g, 0, none⟩ = false := hc.frozen 0
  have b0 : w.cell? ⟨b, 0, none⟩ = some (.int .i64 k) := hb.cell 0
  have hr2 := hr.far (p := ⟨g, 0, none⟩) (fun h => hgr h.symm) (.int .i64 k)
  have r0 : (w.setCell ⟨g, 0, none⟩ (.int .i64 k)).cell? ⟨r, 0, none⟩ = some (.string ⟨([] : Bytes).toArray⟩) := hr2.cell 0
  have HCS : Sec (CmdSt w0.heap.size (w.setCell ⟨g, 0, none⟩ (.int .i64 k)) g (kindC t k)) := ⟨⟨⟨_, _, [], [], hc.set_ 0 (.int .i64 k), Own.nil _ _ _, Own.nil _ _ _, (fun k hk => by simp), (fun k hk => by simp at hk)⟩, hk, show IntKind.u32.wrap 0 = 0 by decide, show IntKind.i64.wrap 0 = 0 by decide, show IntKind.i64.wrap 0 = 0 by decide, show IntKind.u32.wrap 0 = 0 by decide⟩⟩
  have HM : Sec (Mod (fun j => j = g ∨ j = r) w (w.setCell ⟨g, 0, none⟩ (.int .i64 k))) := ⟨(Mod.refl _ _).setCell (p := ⟨g, 0, none⟩) (fun _ => Or.inl rfl) _⟩
  clear hc hr hb hr2
  go_enter Tryd.func99, Tryd.ntmps99
  go_wp2
  go_ret
  exact ⟨true, rfl, (fun _ => HCS.out), (fun h => by cases h), HM.out⟩
end Go.Proofs.YtiaknomadhgckaaDoor

namespace Go.Proofs.YtiaknomadhgckaaDoor
open Go.RowKit Mem
set_option linter.unusedVariables false
set_option linter.unusedSimpArgs false
theorem contains_cut (b : UInt8) (xs : Bytes) : decide (0 ≤ Lib.indexByte (⟨xs.toArray⟩ : ByteArray).data.toList b) = (cutL b xs).2.2 := by
  have h := index_cut b xs
  rw [Lib.index_one] at h
  have e : Lib.indexByte (⟨xs.toArray⟩ : ByteArray).data.toList b = Lib.indexByte xs b := by simp
  rw [e, h]
  cases (cutL b xs).2.2
  · rfl
  · simp
theorem neNil (f : Fn) (a c : Array Value) (w : World) : (binOp .neq 110 (.func f a c) .nilFunc).run Tryd.prog w = .ok (.bool true) w := by kernel_rfl
theorem neNil0 (w : World) : (binOp .neq 110 .nilFunc .nilFunc).run Tryd.prog w = .ok (.bool false) w := by kernel_rfl
def verbF (b1 b2 b3 : Nat) (u : Bytes) : VerbI :=
  if u = [83, 84, 79, 82, 69] then .store else if u = [70, 69, 84, 67, 72] then .fetch else if u = [69, 88, 80, 85, 78, 71, 69] then .plain b3 else if u = [76, 79, 71, 79, 85, 84] then .plain b2 else if u = [78, 79, 79, 80] then .plain b1 else .none
structure RestSt (w0 w : World) (t rs : Bytes) (uid : Bool) (g r mp b1 b2 b3 : Nat) (W : World) : Prop where
  half : HalfSt W g t uid
  rd : ∃ bb, Blk W r 115 [.string ⟨rs.toArray⟩, .bool bb]
  map : MapSV W mp 5 (verbF b1 b2 b3)
  k1 : Blk W b1 3 [.int .i64 1]
  k2 : Blk W b2 3 [.int .i64 2]
  k3 : Blk W b3 3 [.int .i64 11]
  mod : Mod (fun k => k = g ∨ w.heap.size ≤ k) w W
  base : Mod (fun k => w0.heap.size ≤ k) w0 W
  lts : w0.heap.size ≤ g ∧ g < w.heap.size ∧ w.heap.size ≤ r ∧ w.heap.size ≤ mp ∧ w.heap.size ≤ b1 ∧ w.heap.size ≤ b2 ∧ w.heap.size ≤ b3 ∧ r ≠ mp ∧ r ≠ b1 ∧ r ≠ b2 ∧ r ≠ b3
theorem RestSt.new {w0 w W W' : World} {t rs : Bytes} {uid : Bool} {g r mp b1 b2 b3 : Nat} (h : RestSt w0 w t rs uid g r mp b1 b2 b3 W) (hm : New W W') : RestSt w0 w t rs uid g r mp b1 b2 b3 W' :=
  ⟨h.half.mod hm id, let ⟨bb, hb⟩ := h.rd; ⟨bb, hb.mod hm id⟩, MapR.mod (S := fun _ => False) h.map hm id, h.k1.mod hm id, h.k2.mod hm id, h.k3.mod hm id, h.mod.transN hm, h.base.transN hm, h.lts⟩
theorem RestSt.read {w0 w W W' : World} {t rs rs' : Bytes} {uid bb : Bool} {g r mp b1 b2 b3 : Nat} (h : RestSt w0 w t rs uid g r mp b1 b2 b3 W) (hm : Mod (fun k => k = r) W W') (hb : Blk W' r 115 [.string ⟨rs'.toArray⟩, .bool bb]) : RestSt w0 w t rs' uid g r mp b1 b2 b3 W' := by
  obtain ⟨a1, a2, a3, a4, a5, a6, a7, a8, a9, a10, a11⟩ := h.lts
  have hs := h.mod.size
  exact ⟨h.half.mod hm (by omega), ⟨bb, hb⟩, MapR.mod (S := fun k => k = r) h.map hm (by omega), h.k1.mod hm (by omega), h.k2.mod hm (by omega), h.k3.mod hm (by omega), h.mod.trans hm (fun i hi hl => by omega), h.base.trans hm (fun i hi hl => by have := h.base.size; subst hi; exact Nat.le_trans (Nat.le_of_lt (Nat.lt_of_le_of_lt a1 a2)) a3), h.lts⟩
def RestR (w0 w : World) (g : Nat) (t : Bytes) (c : CmdT) (e : Ending) (w' : World) : Prop :=
  ∃ ok : Bool, e = .returned (.bool ok) ∧ (ok = true → CmdSt w0.heap.size w' g c) ∧ (ok = false → c = badC t) ∧ Mod (fun k => k = g) w w'
theorem RestSt.bad {w0 w W : World} {t rs : Bytes} {uid : Bool} {g r mp b1 b2 b3 : Nat} (h : RestSt w0 w t rs uid g r mp b1 b2 b3 W) {c : CmdT} (hc : c = badC t) : RestR w0 w g t c (.returned (.bool false)) W :=
  ⟨false, rfl, (fun h => by cases h), (fun _ => hc), h.mod.mono (fun i h1 h2 => by omega)⟩
theorem RestSt.done {w0 w W W' : World} {t rs : Bytes} {uid ok : Bool} {g r mp b1 b2 b3 : Nat} (h : RestSt w0 w t rs uid g r mp b1 b2 b3 W) {c : CmdT} (h1 : ok = true → CmdSt w0.heap.size W' g c) (h2 : ok = false → c = badC t) (hm : Mod (fun k => k = g ∨ k = r) W W') : RestR w0 w g t c (.returned (.bool ok)) W' := by
  obtain ⟨a1, a2, a3, -⟩ := h.lts
  exact ⟨ok, rfl, h1, h2, (h.mod.trans (T := fun k => k = g ∨ k = r) (S := fun k => k = g ∨ w.heap.size ≤ k) hm (fun i hi hl => by omega)).mono (fun i h3 h4 => by omega)⟩
theorem RestSt.uid {w0 w W : World} {t rs : Bytes} {g r mp b1 b2 b3 : Nat} (h : RestSt w0 w t rs false g r mp b1 b2 b3 W) : RestSt w0 w t rs true g r mp b1 b2 b3 (W.setCell ⟨g, 3, none⟩ (.bool true)) := by
  obtain ⟨a1, a2, a3, a4, a5, a6, a7, a8, a9, a10, a11⟩ := h.lts
  have hm := (Mod.refl (fun k => k = g) W).setCell (p := ⟨g, 3, none⟩) (fun _ => rfl) (.bool true)
  obtain ⟨bb, hb⟩ := h.rd
  exact ⟨h.half.set_ 3 (.bool true), ⟨bb, hb.mod hm (by omega)⟩, MapR.mod (S := fun k => k = g) h.map hm (by omega), h.k1.mod hm (by omega), h.k2.mod hm (by omega), h.k3.mod hm (by omega), h.mod.trans hm (fun i hi hl => Or.inl hi), h.base.trans hm (fun i hi hl => by subst hi; exact a1), h.lts⟩
set_option maxHeartbeats 16000000 in
set_option maxRecDepth 100000 in
theorem imapRest_calls {g : Nat} {w0 w : World} {t rest : Bytes} (hN : Names1 w0) (hM : Mod (fun k => w0.heap.size ≤ k) w0 w) (hg0 : w0.heap.size ≤ g) (hc : HalfSt w g t false) (hl : rest.length ≤ 1048576) :
    Calls Tryd.prog 45 #[.pointer (some ⟨g, 0, none⟩), .string ⟨rest.toArray⟩] w (RestR w0 w g t (restC t rest)) := by
  have HC := Sec.mk hc
  have HN := Sec.mk hN
  have HM := Sec.mk hM
  have hgl := hc.lt
  have hsz0 := hM.size
  clear hc hN hM
  have HD : Sec (restC t rest = if upL (cutL 32 rest).1 = uidU ∧ (cutL 32 rest).2.2 = true then verbC t true (upL (cutL 32 (cutL 32 rest).2.1).1) (cutL 32 (cutL 32 rest).2.1).2.2 (cutL 32 (cutL 32 rest).2.1).2.1
    else verbC t false (upL (cutL 32 rest).1) (cutL 32 rest).2.2 (cutL 32 rest).2.1) := ⟨rfl⟩
  have HNB : Sec ((cutL 32 rest).2.2 = false → (cutL 32 rest).2.1 = []) := ⟨fun h => by rw [cutL_no 32 rest h]⟩
  have mk := mkMapSV
  go_enter Tryd.func45, Tryd.ntmps45
  go_wp2_with fail
  obtain ⟨J, HJJ⟩ : ∃ J : Act → World → Prop, Sec (J = (fun a' W => ∃ (u2 u3 u4 u7 u8 u9 u10 u11 u12 u13 u14 u15 u16 u17 u18 u19 u20 u21 u22 u23 u24 u25 u26 u27 u28 u29 u30 u31 u32 u33 u34 u35 u36 u37 u38 u39 u40 u41 u42 u43 u44 u45 u46 u47 u48 u49 u50 u51 u52 u53 u54 u55 u56 u57 u58 u59 u60 u61 u62 u63 u64 u65 u66 u67 u68 u69 u70 u71 u72 u73 : Value) (r mp b1 b2 b3 : Nat) (y : Bytes), a' = { tmps := #[.pointer (some ⟨g, 0, none⟩), .string ⟨rest.toArray⟩, u2, u3, u4, .map (some mp), .pointer (some ⟨r, 0, none⟩), u7, u8, u9, u10, u11, u12, u13, u14, u15, u16, u17, u18, u19, u20, u21, u22, u23, u24, u25, u26, u27, u28, u29, u30, u31, u32, u33, u34, u35, u36, u37, u38, u39, u40, u41, u42, u43, u44, u45, u46, u47, u48, u49, u50, u51, u52, u53, u54, u55, u56, u57, u58, u59, u60, u61, u62, u63, u64, u65, u66, u67, u68, u69, u70, u71, u72, u73], defers := [] } ∧ Sec (RestSt w0 w t y true g r mp b1 b2 b3 W) ∧ Sec (restC t rest = verbC t true (upL (cutL 32 y).1) (cutL 32 y).2.2 (cutL 32 y).2.1) ∧ y.length ≤ 1048576)) := ⟨_, ⟨rfl⟩⟩
  refine wp_scope_jumps 0 J (fun _ _ => 0) rfl ?_ ?_
  · have P0 : Sec (MapSV (w.alloc (.map #[] 0)) w.heap.size 0 (fun _ => .none)) := ⟨MapR.made _⟩
    have N0 : Sec (New w (w.alloc (.map #[] 0))) := ⟨(Mod.refl _ _).alloc _⟩
    have hs0 : w.heap.size < (w.alloc (.map #[] 0)).heap.size := by simp
    go_wp2_with fail
    refine (plain_calls 1 _).mono ?_
    rintro e wa ⟨b1, rfl, hb1, hb1', hk1, hn1⟩
    have P1 := Sec.mk (MapR.mod (S := fun _ => False) P0.out hn1 id)
    have N1 := Sec.mk (N0.out.transN hn1)
    have K1 := Sec.mk hk1
    have h1 : w.heap.size < b1 := by omega
    clear hk1 hn1 P0 N0 hs0 hb1 hb1'
    go_wp2_with (first | (refine wpList_mapSetR (w := _) kStr vVerb rfl _ _ _ _ (.inr rfl) Tryd.underlying112 rfl P1.out (by decide) [78, 79, 79, 80] (.plain b1) rfl rfl (by decide) ?_; intro m1 hmap hmod; have P2 := Sec.mk hmap; have N2 := Sec.mk (N1.out.trans hmod (fun i hi hl => by omega)); have K12 := Sec.mk (K1.out.mod hmod (by omega)); clear hmap hmod) | fail)
    refine (plain_calls 2 _).mono ?_
    rintro e wb ⟨b2, rfl, hb2, hb2', hk2, hn2⟩
    have P3 := Sec.mk (MapR.mod (S := fun _ => False) P2.out hn2 id)
    have N3 := Sec.mk (N2.out.transN hn2)
    have K13 := Sec.mk (K12.out.mod hn2 id)
    have K2 := Sec.mk hk2
    have h2 : w.heap.size < b2 := by have := P2.out.lt; omega
    clear hk2 hn2 P2 N2 K12 hb2 hb2'
    go_wp2_with (first | (refine wpList_mapSetR (w := _) kStr vVerb rfl _ _ _ _ (.inr rfl) Tryd.underlying112 rfl P3.out (by decide) [76, 79, 71, 79, 85, 84] (.plain b2) rfl rfl (by decide) ?_; intro m2 hmap hmod; have P4 := Sec.mk hmap; have N4 := Sec.mk (N3.out.trans hmod (fun i hi hl => by omega)); have K14 := Sec.mk (K13.out.mod hmod (by omega)); have K24 := Sec.mk (K2.out.mod hmod (by omega)); clear hmap hmod) | fail)
    refine (plain_calls 11 _).mono ?_
    rintro e wc ⟨b3, rfl, hb3, hb3', hk3, hn3⟩
    have P5 := Sec.mk (MapR.mod (S := fun _ => False) P4.out hn3 id)
    have N5 := Sec.mk (N4.out.transN hn3)
    have K15 := Sec.mk (K14.out.mod hn3 id)
    have K25 := Sec.mk (K24.out.mod hn3 id)
    have K3 := Sec.mk hk3
    have h3 : w.heap.size < b3 := by have := P4.out.lt; omega
    clear hk3 hn3 P4 N4 K14 K24 hb3 hb3'
    go_wp2_with (first | (refine wpList_mapSetR (w := _) kStr vVerb rfl _ _ _ _ (.inr rfl) Tryd.underlying112 rfl P5.out (by decide) [69, 88, 80, 85, 78, 71, 69] (.plain b3) rfl rfl (by decide) ?_; intro m3 hmap hmod; have P6 := Sec.mk hmap; have N6 := Sec.mk (N5.out.trans hmod (fun i hi hl => by omega)); have K16 := Sec.mk (K15.out.mod hmod (by omega)); have K26 := Sec.mk (K25.out.mod hmod (by omega)); have K36 := Sec.mk (K3.out.mod hmod (by omega)); clear hmap hmod) | (refine wpList_mapSetR (w := _) kStr vVerb rfl _ _ _ _ (.inr rfl) Tryd.underlying112 rfl P6.out (by decide) [70, 69, 84, 67, 72] .fetch rfl rfl (by decide) ?_; intro m4 hmap hmod; have P7 := Sec.mk hmap; have N7 := Sec.mk (N6.out.trans hmod (fun i hi hl => by omega)); have K17 := Sec.mk (K16.out.mod hmod (by omega)); have K27 := Sec.mk (K26.out.mod hmod (by omega)); have K37 := Sec.mk (K36.out.mod hmod (by omega)); clear hmap hmod) | (refine wpList_mapSetR (w := _) kStr vVerb rfl _ _ _ _ (.inr rfl) Tryd.underlying112 rfl P7.out (by decide) [83, 84, 79, 82, 69] .store rfl rfl (by decide) ?_; intro m5 hmap hmod; have P8 := Sec.mk hmap; have N8 := Sec.mk (N7.out.trans hmod (fun i hi hl => by omega)); have K18 := Sec.mk (K17.out.mod hmod (by omega)); have K28 := Sec.mk (K27.out.mod hmod (by omega)); have K38 := Sec.mk (K37.out.mod hmod (by omega)); clear hmap hmod) | fail)
    have hb : Blk (m5.alloc (.cells #[.string ⟨rest.toArray⟩, .bool false] 115)) m5.heap.size 115 [.string ⟨rest.toArray⟩, .bool false] := Blk.new m5 _ _
    have hn : New m5 (m5.alloc (.cells #[.string ⟨rest.toArray⟩, .bool false] 115)) := (Mod.refl _ _).alloc _
    have HS : Sec (RestSt w0 w t rest false g m5.heap.size w.heap.size b1 b2 b3 (m5.alloc (.cells #[.string ⟨rest.toArray⟩, .bool false] 115))) := ⟨⟨HC.out.mod (N8.out.transN hn) id, ⟨_, hb⟩, MapR.mod (S := fun _ => False) P8.out hn id, K18.out.mod hn id, K28.out.mod hn id, K38.out.mod hn id, Mod.ofNew (N8.out.transN hn), HM.out.transN (N8.out.transN hn), ⟨hg0, hgl, N8.out.size, Nat.le_refl _, Nat.le_of_lt h1, Nat.le_of_lt h2, Nat.le_of_lt h3, by have := P8.out.lt; omega, by have := K18.out.lt; omega, by have := K28.out.lt; omega, by have := K38.out.lt; omega⟩⟩⟩
    have HG : Sec (¬ (upL (cutL 32 rest).1 = uidU ∧ (cutL 32 rest).2.2 = true) → restC t rest = verbC t false (upL (cutL 32 rest).1) (cutL 32 rest).2.2 (cutL 32 rest).2.1) := ⟨fun h => by rw [HD.out, if_neg h]⟩
    have HJ : Sec ((upL (cutL 32 rest).1 = uidU ∧ (cutL 32 rest).2.2 = true) → restC t rest = verbC t true (upL (cutL 32 (cutL 32 rest).2.1).1) (cutL 32 (cutL 32 rest).2.1).2.2 (cutL 32 (cutL 32 rest).2.1).2.1) := ⟨fun h => by rw [HD.out, if_pos h]⟩
    clear hb hn HD P1 P3 P5 P6 P7 P8 N1 N3 N5 N6 N7 N8 K1 K13 K2 K15 K25 K3 K16 K26 K36 K17 K27 K37 K18 K28 K38 h1 h2 h3 HC HM mk
    generalize (m5.alloc (.cells #[.string ⟨rest.toArray⟩, .bool false] 115)) = wA at *
    generalize m5.heap.size = r at *
    go_step3
    obtain ⟨bb, hbb⟩ := HS.out.rd
    have r0 : wA.cell? ⟨r, 0, none⟩ = some (.string ⟨rest.toArray⟩) := hbb.cell 0
    have HCO := Sec.mk (contains_cut 32 rest)
    have HWD := Sec.mk (word_calls hbb (by omega))
    have hle := cut_le rest
    clear hbb
    generalize (cutL 32 rest).2.2 = bl at *
    generalize (cutL 32 rest).1 = x at *
    generalize (cutL 32 rest).2.1 = y at *
    have HU := Sec.mk (upper_calls x (by omega))
    have hul : (upL x).length ≤ 1048576 := by rw [upL_len]; omega
    generalize upL x = u at *
    go_wp2_with fail
    refine (Tryd.strings_Contains_one _ 32 _).mono ?_
    rw [HCO.out]
    rintro e wB ⟨rfl, rfl⟩
    go_wp2_with fail
    refine HWD.out.mono ?_
    rintro e wC ⟨rfl, ⟨b', hb'⟩, hmC⟩
    have HSC := Sec.mk (HS.out.read hmC hb')
    clear hmC hb' HWD HCO r0 HS
    go_wp2_with fail
    refine (HU.out _).mono ?_
    rintro e wD ⟨rfl, hmD⟩
    have HSD := Sec.mk (HSC.out.new hmD)
    clear hmD HSC HU
    have c3 : wD.cell? ⟨g, 3, none⟩ = some (.bool false) := HSD.out.half.cell 3
    have hnn := fun f a c => neNil f a c wD
    have hn0 := neNil0 wD
    have hlk := MapR.look kStr vVerb HSD.out.map Tryd.underlying112 (x := u) hul
    have HLV : Sec (verbF b1 b2 b3 u = if u = [83, 84, 79, 82, 69] then .store else if u = [70, 69, 84, 67, 72] then .fetch else if u = [69, 88, 80, 85, 78, 71, 69] then .plain b3 else if u = [76, 79, 71, 79, 85, 84] then .plain b2 else if u = [78, 79, 79, 80] then .plain b1 else .none) := ⟨rfl⟩
    by_cases hu : u = [85, 73, 68]
    · cases bl
      · have HE : Sec (restC t rest = badC t) := ⟨by rw [HG.out (fun h => by cases h.2), hu]; rfl⟩
        have xU : (u == [85, 73, 68]) = true := by simp [hu]
        have xF : (u == [70, 69, 84, 67, 72]) = false := by simp [hu]
        have xS : (u == [83, 84, 79, 82, 69]) = false := by simp [hu]
        have HV : verbF b1 b2 b3 u = .none := by rw [HLV.out, hu]; rfl
        rw [HV] at hlk
        clear hu HV HLV
        simp only [verbV] at hlk
        go_wp2
        try simp only [Exit.jump]
        go_ret
        exact HSD.out.bad HE.out
      · have HJ2 := Sec.mk (HJ.out ⟨hu, rfl⟩)
        have xU : (u == [85, 73, 68]) = true := by simp [hu]
        have xF : (u == [70, 69, 84, 67, 72]) = false := by simp [hu]
        have xS : (u == [83, 84, 79, 82, 69]) = false := by simp [hu]
        have f3 : wD.frozen? ⟨g, 3, none⟩ = false := HSD.out.half.frozen 3
        have HB3 := Sec.mk (HSD.out.half.set_ 3 (.bool true))
        have HSE : Sec (RestSt w0 w t y true g r w.heap.size b1 b2 b3 (wD.setCell ⟨g, 3, none⟩ (.bool true))) := ⟨HSD.out.uid⟩
        clear hu HLV hlk HG HJ HB3
        go_wp2
        go_step3
        refine ⟨rfl, ?_⟩
        rw [HJJ.out]
        exact ⟨_, _, _, _, _, _, _, _, _, _, _, _, _, _, _, _, _, _, _, _, _, _, _, _, _, _, _, _, _, _, _, _, _, _, _, _, _, _, _, _, _, _, _, _, _, _, _, _, _, _, _, _, _, _, _, _, _, _, _, _, _, _, _, _, _, _, _, _, _, _, r, w.heap.size, b1, b2, b3, y, rfl, HSE, HJ2, by omega⟩
    have hnu := hu
    have xU : (u == [85, 73, 68]) = false := by simpa using hnu
    have HG2 := Sec.mk (HG.out (fun h => hnu h.1))
    clear HG HJ
    clear hu hnu
    by_cases hu : u = [70, 69, 84, 67, 72]
    · have xF : (u == [70, 69, 84, 67, 72]) = true := by simp [hu]
      have xS : (u == [83, 84, 79, 82, 69]) = false := by simp [hu]
      have HV : verbF b1 b2 b3 u = .fetch := by rw [HLV.out, hu]; rfl
      rw [HV] at hlk
      simp only [verbV] at hlk
      cases bl
      · have HE : Sec (restC t rest = badC t) := ⟨by rw [HG2.out, hu]; rfl⟩
        clear hu HV HLV HG2
        go_wp2
        try simp only [Exit.jump]
        go_ret
        exact HSD.out.bad HE.out
      · have HE : Sec (restC t rest = fetchC t false y) := ⟨by rw [HG2.out, hu]; rfl⟩
        clear hu HV HLV HG2
        obtain ⟨bD, hbD⟩ := HSD.out.rd
        have HLT := Sec.mk HSD.out.lts
        have HCL := Sec.mk (fetch_calls (r := r) HN.out HSD.out.base HLT.out.1 (by have := HLT.out; have := hsz0; omega) HSD.out.half hbD (by have := HLT.out; omega) (by omega))
        clear hbD
        go_wp2_with fail
        refine HCL.out.mono ?_
        rintro e wE ⟨ok, rfl, h1, h2, hmE⟩
        have HR := Sec.mk (HSD.out.done h1 h2 hmE)
        rw [← HE.out] at HR
        clear h1 h2 hmE HCL
        go_wp2
        try simp only [Exit.jump]
        go_ret
        exact HR.out
    have xF : (u == [70, 69, 84, 67, 72]) = false := by simpa using hu
    have hnF := hu
    clear hu
    by_cases hu : u = [83, 84, 79, 82, 69]
    · have xF : (u == [70, 69, 84, 67, 72]) = false := by simp [hu]
      have xS : (u == [83, 84, 79, 82, 69]) = true := by simp [hu]
      have HV : verbF b1 b2 b3 u = .store := by rw [HLV.out, hu]; rfl
      rw [HV] at hlk
      simp only [verbV] at hlk
      cases bl
      · have HE : Sec (restC t rest = badC t) := ⟨by rw [HG2.out, hu]; rfl⟩
        clear hu HV HLV HG2
        go_wp2
        try simp only [Exit.jump]
        go_ret
        exact HSD.out.bad HE.out
      · have HE : Sec (restC t rest = storeC t false y) := ⟨by rw [HG2.out, hu]; rfl⟩
        clear hu HV HLV HG2
        obtain ⟨bD, hbD⟩ := HSD.out.rd
        have HLT := Sec.mk HSD.out.lts
        have HCL := Sec.mk (store_calls (r := r) HN.out HSD.out.base HLT.out.1 (by have := HLT.out; have := hsz0; omega) HSD.out.half hbD (by have := HLT.out; omega) (by omega))
        clear hbD
        go_wp2_with fail
        refine HCL.out.mono ?_
        rintro e wE ⟨ok, rfl, h1, h2, hmE⟩
        have HR := Sec.mk (HSD.out.done h1 h2 hmE)
        rw [← HE.out] at HR
        clear h1 h2 hmE HCL
        go_wp2
        try simp only [Exit.jump]
        go_ret
        exact HR.out
    have xS : (u == [83, 84, 79, 82, 69]) = false := by simpa using hu
    have hnS := hu
    clear hu
    by_cases hu : u = [69, 88, 80, 85, 78, 71, 69]
    · have HV : verbF b1 b2 b3 u = .plain b3 := by rw [HLV.out, hu]; rfl
      rw [HV] at hlk
      simp only [verbV] at hlk
      cases bl
      · have HE : Sec (restC t rest = kindC t 11) := ⟨by rw [HG2.out, hu]; rfl⟩
        have hy : y = [] := HNB.out rfl
        clear hu HV HLV HG2 hnF hnS
        obtain ⟨bD, hbD⟩ := HSD.out.rd
        rw [hy] at hbD
        have HLT := Sec.mk HSD.out.lts
        have HCL := Sec.mk (plain1_calls (w0 := w0) (k := 11) (b := b3) (r := r) HLT.out.1 (by decide) HSD.out.half hbD HSD.out.k3 (by have := HLT.out; omega) (by have := HLT.out; omega))
        clear hbD hy
        go_wp2_with fail
        refine HCL.out.mono ?_
        rintro e wE ⟨ok, rfl, h1, h2, hmE⟩
        have HR := Sec.mk (HSD.out.done h1 h2 hmE)
        rw [← HE.out] at HR
        clear h1 h2 hmE HCL
        go_wp2
        try simp only [Exit.jump]
        go_ret
        exact HR.out
      · have HE : Sec (restC t rest = badC t) := ⟨by rw [HG2.out, hu]; rfl⟩
        clear hu HV HLV HG2 hnF hnS
        go_wp2
        try simp only [Exit.jump]
        go_ret
        exact HSD.out.bad HE.out
    have hnk3 := hu
    clear hu
    by_cases hu : u = [76, 79, 71, 79, 85, 84]
    · have HV : verbF b1 b2 b3 u = .plain b2 := by rw [HLV.out, hu]; rfl
      rw [HV] at hlk
      simp only [verbV] at hlk
      cases bl
      · have HE : Sec (restC t rest = kindC t 2) := ⟨by rw [HG2.out, hu]; rfl⟩
        have hy : y = [] := HNB.out rfl
        clear hu HV HLV HG2 hnF hnS
        obtain ⟨bD, hbD⟩ := HSD.out.rd
        rw [hy] at hbD
        have HLT := Sec.mk HSD.out.lts
        have HCL := Sec.mk (plain1_calls (w0 := w0) (k := 2) (b := b2) (r := r) HLT.out.1 (by decide) HSD.out.half hbD HSD.out.k2 (by have := HLT.out; omega) (by have := HLT.out; omega))
        clear hbD hy
        go_wp2_with fail
        refine HCL.out.mono ?_
        rintro e wE ⟨ok, rfl, h1, h2, hmE⟩
        have HR := Sec.mk (HSD.out.done h1 h2 hmE)
        rw [← HE.out] at HR
        clear h1 h2 hmE HCL
        go_wp2
        try simp only [Exit.jump]
        go_ret
        exact HR.out
      · have HE : Sec (restC t rest = badC t) := ⟨by rw [HG2.out, hu]; rfl⟩
        clear hu HV HLV HG2 hnF hnS
        go_wp2
        try simp only [Exit.jump]
        go_ret
        exact HSD.out.bad HE.out
    have hnk2 := hu
    clear hu
    by_cases hu : u = [78, 79, 79, 80]
    · have HV : verbF b1 b2 b3 u = .plain b1 := by rw [HLV.out, hu]; rfl
      rw [HV] at hlk
      simp only [verbV] at hlk
      cases bl
      · have HE : Sec (restC t rest = kindC t 1) := ⟨by rw [HG2.out, hu]; rfl⟩
        have hy : y = [] := HNB.out rfl
        clear hu HV HLV HG2 hnF hnS
        obtain ⟨bD, hbD⟩ := HSD.out.rd
        rw [hy] at hbD
        have HLT := Sec.mk HSD.out.lts
        have HCL := Sec.mk (plain1_calls (w0 := w0) (k := 1) (b := b1) (r := r) HLT.out.1 (by decide) HSD.out.half hbD HSD.out.k1 (by have := HLT.out; omega) (by have := HLT.out; omega))
        clear hbD hy
        go_wp2_with fail
        refine HCL.out.mono ?_
        rintro e wE ⟨ok, rfl, h1, h2, hmE⟩
        have HR := Sec.mk (HSD.out.done h1 h2 hmE)
        rw [← HE.out] at HR
        clear h1 h2 hmE HCL
        go_wp2
        try simp only [Exit.jump]
        go_ret
        exact HR.out
      · have HE : Sec (restC t rest = badC t) := ⟨by rw [HG2.out, hu]; rfl⟩
        clear hu HV HLV HG2 hnF hnS
        go_wp2
        try simp only [Exit.jump]
        go_ret
        exact HSD.out.bad HE.out
    have hnk1 := hu
    clear hu
    have HV : verbF b1 b2 b3 u = .none := by rw [HLV.out, if_neg hnS, if_neg hnF, if_neg hnk3, if_neg hnk2, if_neg hnk1]
    rw [HV] at hlk
    simp only [verbV] at hlk
    have HE : Sec (restC t rest = badC t) := ⟨by
      rw [HG2.out]
      unfold verbC
      rw [if_neg hnF, if_neg hnS]
      split
      · unfold kindC plainK
        rw [if_neg hnk1, if_neg hnk2, if_neg hnk3]
        rfl
      · rfl⟩
    clear hnF hnS hnk1 hnk2 hnk3 HV HLV HG2
    cases bl
    · go_wp2
      try simp only [Exit.jump]
      go_ret
      exact HSD.out.bad HE.out
    · go_wp2
      try simp only [Exit.jump]
      go_ret
      exact HSD.out.bad HE.out
  · clear HD HNB mk HC HM
    rintro a' wA hJ
    rw [HJJ.out] at hJ
    obtain ⟨u2, u3, u4, u7, u8, u9, u10, u11, u12, u13, u14, u15, u16, u17, u18, u19, u20, u21, u22, u23, u24, u25, u26, u27, u28, u29, u30, u31, u32, u33, u34, u35, u36, u37, u38, u39, u40, u41, u42, u43, u44, u45, u46, u47, u48, u49, u50, u51, u52, u53, u54, u55, u56, u57, u58, u59, u60, u61, u62, u63, u64, u65, u66, u67, u68, u69, u70, u71, u72, u73, r, mp, b1, b2, b3, ys, rfl, HS, HJ, hyl⟩ := hJ
    clear HJJ
    obtain ⟨bb, hbb⟩ := HS.out.rd
    have r0 : wA.cell? ⟨r, 0, none⟩ = some (.string ⟨ys.toArray⟩) := hbb.cell 0
    have HCO := Sec.mk (contains_cut 32 ys)
    have HWD := Sec.mk (word_calls hbb (by omega))
    have hle := cut_le ys
    clear hbb
    generalize (cutL 32 ys).2.2 = bl at *
    generalize (cutL 32 ys).1 = x at *
    generalize (cutL 32 ys).2.1 = y at *
    have HU := Sec.mk (upper_calls x (by omega))
    have hul : (upL x).length ≤ 1048576 := by rw [upL_len]; omega
    generalize upL x = u at *
    go_wp2_with fail
    refine (Tryd.strings_Contains_one _ 32 _).mono ?_
    rw [HCO.out]
    rintro e wB ⟨rfl, rfl⟩
    go_wp2_with fail
    refine HWD.out.mono ?_
    rintro e wC ⟨rfl, ⟨b', hb'⟩, hmC⟩
    have HSC := Sec.mk (HS.out.read hmC hb')
    clear hmC hb' HWD HCO r0 HS
    go_wp2_with fail
    refine (HU.out _).mono ?_
    rintro e wD ⟨rfl, hmD⟩
    have HSD := Sec.mk (HSC.out.new hmD)
    clear hmD HSC HU
    have c3 : wD.cell? ⟨g, 3, none⟩ = some (.bool true) := HSD.out.half.cell 3
    have hnn := fun f a c => neNil f a c wD
    have hn0 := neNil0 wD
    have hlk := MapR.look kStr vVerb HSD.out.map Tryd.underlying112 (x := u) hul
    have HLV : Sec (verbF b1 b2 b3 u = if u = [83, 84, 79, 82, 69] then .store else if u = [70, 69, 84, 67, 72] then .fetch else if u = [69, 88, 80, 85, 78, 71, 69] then .plain b3 else if u = [76, 79, 71, 79, 85, 84] then .plain b2 else if u = [78, 79, 79, 80] then .plain b1 else .none) := ⟨rfl⟩
    by_cases hu : u = [85, 73, 68]
    · have HE : Sec (verbC t true u bl y = badC t) := ⟨by rw [hu]; cases bl <;> rfl⟩
      have xU : (u == [85, 73, 68]) = true := by simp [hu]
      have xF : (u == [70, 69, 84, 67, 72]) = false := by simp [hu]
      have xS : (u == [83, 84, 79, 82, 69]) = false := by simp [hu]
      have HV : verbF b1 b2 b3 u = .none := by rw [HLV.out, hu]; rfl
      rw [HV] at hlk
      rw [← HJ.out] at HE
      clear hu HV HLV
      simp only [verbV] at hlk
      cases bl
      · go_wp2
        try simp only [Exit.jump]
        go_ret
        exact HSD.out.bad HE.out
      · go_wp2
        try simp only [Exit.jump]
        go_ret
        exact HSD.out.bad HE.out
    have hnu := hu
    have xU : (u == [85, 73, 68]) = false := by simpa using hnu
    have HG2 := HJ
    clear hu hnu
    by_cases hu : u = [70, 69, 84, 67, 72]
    · have xF : (u == [70, 69, 84, 67, 72]) = true := by simp [hu]
      have xS : (u == [83, 84, 79, 82, 69]) = false := by simp [hu]
      have HV : verbF b1 b2 b3 u = .fetch := by rw [HLV.out, hu]; rfl
      rw [HV] at hlk
      simp only [verbV] at hlk
      cases bl
      · have HE : Sec (restC t rest = badC t) := ⟨by rw [HG2.out, hu]; rfl⟩
        clear hu HV HLV HG2
        go_wp2
        try simp only [Exit.jump]
        go_ret
        exact HSD.out.bad HE.out
      · have HE : Sec (restC t rest = fetchC t true y) := ⟨by rw [HG2.out, hu]; rfl⟩
        clear hu HV HLV HG2
        obtain ⟨bD, hbD⟩ := HSD.out.rd
        have HLT := Sec.mk HSD.out.lts
        have HCL := Sec.mk (fetch_calls (r := r) HN.out HSD.out.base HLT.out.1 (by have := HLT.out; have := hsz0; omega) HSD.out.half hbD (by have := HLT.out; omega) (by omega))
        clear hbD
        go_wp2_with fail
        refine HCL.out.mono ?_
        rintro e wE ⟨ok, rfl, h1, h2, hmE⟩
        have HR := Sec.mk (HSD.out.done h1 h2 hmE)
        rw [← HE.out] at HR
        clear h1 h2 hmE HCL
        go_wp2
        try simp only [Exit.jump]
        go_ret
        exact HR.out
    have xF : (u == [70, 69, 84, 67, 72]) = false := by simpa using hu
    have hnF := hu
    clear hu
    by_cases hu : u = [83, 84, 79, 82, 69]
    · have xF : (u == [70, 69, 84, 67, 72]) = false := by simp [hu]
      have xS : (u == [83, 84, 79, 82, 69]) = true := by simp [hu]
      have HV : verbF b1 b2 b3 u = .store := by rw [HLV.out, hu]; rfl
      rw [HV] at hlk
      simp only [verbV] at hlk
      cases bl
      · have HE : Sec (restC t rest = badC t) := ⟨by rw [HG2.out, hu]; rfl⟩
        clear hu HV HLV HG2
        go_wp2
        try simp only [Exit.jump]
        go_ret
        exact HSD.out.bad HE.out
      · have HE : Sec (restC t rest = storeC t true y) := ⟨by rw [HG2.out, hu]; rfl⟩
        clear hu HV HLV HG2
        obtain ⟨bD, hbD⟩ := HSD.out.rd
        have HLT := Sec.mk HSD.out.lts
        have HCL := Sec.mk (store_calls (r := r) HN.out HSD.out.base HLT.out.1 (by have := HLT.out; have := hsz0; omega) HSD.out.half hbD (by have := HLT.out; omega) (by omega))
        clear hbD
        go_wp2_with fail
        refine HCL.out.mono ?_
        rintro e wE ⟨ok, rfl, h1, h2, hmE⟩
        have HR := Sec.mk (HSD.out.done h1 h2 hmE)
        rw [← HE.out] at HR
        clear h1 h2 hmE HCL
        go_wp2
        try simp only [Exit.jump]
        go_ret
        exact HR.out
    have xS : (u == [83, 84, 79, 82, 69]) = false := by simpa using hu
    have hnS := hu
    clear hu
    by_cases hu : u = [69, 88, 80, 85, 78, 71, 69]
    · have HV : verbF b1 b2 b3 u = .plain b3 := by rw [HLV.out, hu]; rfl
      rw [HV] at hlk
      simp only [verbV] at hlk
      cases bl
      · have HE : Sec (restC t rest = badC t) := ⟨by rw [HG2.out, hu]; rfl⟩
        clear hu HV HLV HG2 hnF hnS
        go_wp2
        try simp only [Exit.jump]
        go_ret
        exact HSD.out.bad HE.out
      · have HE : Sec (restC t rest = badC t) := ⟨by rw [HG2.out, hu]; rfl⟩
        clear hu HV HLV HG2 hnF hnS
        go_wp2
        try simp only [Exit.jump]
        go_ret
        exact HSD.out.bad HE.out
    have hnk3 := hu
    clear hu
    by_cases hu : u = [76, 79, 71, 79, 85, 84]
    · have HV : verbF b1 b2 b3 u = .plain b2 := by rw [HLV.out, hu]; rfl
      rw [HV] at hlk
      simp only [verbV] at hlk
      cases bl
      · have HE : Sec (restC t rest = badC t) := ⟨by rw [HG2.out, hu]; rfl⟩
        clear hu HV HLV HG2 hnF hnS
        go_wp2
        try simp only [Exit.jump]
        go_ret
        exact HSD.out.bad HE.out
      · have HE : Sec (restC t rest = badC t) := ⟨by rw [HG2.out, hu]; rfl⟩
        clear hu HV HLV HG2 hnF hnS
        go_wp2
        try simp only [Exit.jump]
        go_ret
        exact HSD.out.bad HE.out
    have hnk2 := hu
    clear hu
    by_cases hu : u = [78, 79, 79, 80]
    · have HV : verbF b1 b2 b3 u = .plain b1 := by rw [HLV.out, hu]; rfl
      rw [HV] at hlk
      simp only [verbV] at hlk
      cases bl
      · have HE : Sec (restC t rest = badC t) := ⟨by rw [HG2.out, hu]; rfl⟩
        clear hu HV HLV HG2 hnF hnS
        go_wp2
        try simp only [Exit.jump]
        go_ret
        exact HSD.out.bad HE.out
      · have HE : Sec (restC t rest = badC t) := ⟨by rw [HG2.out, hu]; rfl⟩
        clear hu HV HLV HG2 hnF hnS
        go_wp2
        try simp only [Exit.jump]
        go_ret
        exact HSD.out.bad HE.out
    have hnk1 := hu
    clear hu
    have HV : verbF b1 b2 b3 u = .none := by rw [HLV.out, if_neg hnS, if_neg hnF, if_neg hnk3, if_neg hnk2, if_neg hnk1]
    rw [HV] at hlk
    simp only [verbV] at hlk
    have HE : Sec (restC t rest = badC t) := ⟨by
      rw [HG2.out]
      unfold verbC
      rw [if_neg hnF, if_neg hnS]
      split
      · unfold kindC plainK
        rw [if_neg hnk1, if_neg hnk2, if_neg hnk3]
        rfl
      · rfl⟩
    clear hnF hnS hnk1 hnk2 hnk3 HV HLV HG2
    cases bl
    · go_wp2
      try simp only [Exit.jump]
      go_ret
      exact HSD.out.bad HE.out
    · go_wp2
      try simp only [Exit.jump]
      go_ret
      exact HSD.out.bad HE.out
end Go.Proofs.YtiaknomadhgckaaDoor
