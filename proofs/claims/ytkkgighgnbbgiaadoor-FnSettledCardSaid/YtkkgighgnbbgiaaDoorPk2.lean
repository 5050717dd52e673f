/- Decimal numerals of the specification. Values of any type as the laws hold them: read, and owned in a range of blocks. Fields of structs that lie in rows: read, stored, changed below. The laws' marks of texts. Openers: an argument that can be read as data reads as an abstract value. The laws' helpers over bytes and over rows of bytes, by value. Marks over bytes, the number given as an integer. The laws' helpers over Op and over slices of it. Drawn operations on a disk: how many, and how long, whatever is drawn. Drawn operations, one behind the other. -/
import Derived.Test.YtkkgighgnbbgiaaDoorPk1
import Derived.Lib.ItoaNum
import Derived.WalkKit
import Derived.Test.YtkkgighgnbbgiaaDoorProg
import Derived.Test.YtkkgighgnbbgiaaDoorPk0
import Derived.KernelRfl
import Derived.Deep.Slices
import Derived.ChangeArms
import Derived.ChangeSame
import Derived.RowKit3
import Derived.Deep.DeepCutAuto
import Derived.Deep.Cut
import Derived.Deep.CutBlock
namespace Go.Proofs.YtkkgighgnbbgiaaDoor
open Go.RowKit Mem
set_option linter.unusedVariables false
theorem ba_app' (xs ys : Bytes) : (⟨xs.toArray⟩ : ByteArray) ++ ⟨ys.toArray⟩ = ⟨(xs ++ ys).toArray⟩ := ByteArray.ext (by rw [ByteArray.data_append]; simp)
theorem dec_big {u : Nat} (h : 10 ≤ u) : Lib.decDigits u = Lib.decDigits (u / 10) ++ [UInt8.ofNat (48 + u % 10)] := by rw [Lib.decDigits, dif_neg (by omega)]
theorem dec_small {u : Nat} (h : u < 10) : Lib.decDigits u = [UInt8.ofNat (48 + u)] := by rw [Lib.decDigits, dif_pos h]
theorem dec_len (u : Nat) (h : u ≤ 1000000000000) : (Lib.decDigits u).length ≤ 13 := by
  rw [Lib.decDigits_length]
  rcases Nat.lt_or_ge (Lib.nDigits u) 14 with h1 | h1
  · omega
  · exfalso
    have hlow : ∀ k u, k + 1 ≤ Lib.nDigits u → 10 ^ k ≤ u ∨ k = 0 := by
      intro k
      induction k with
      | zero => intro u _; exact .inr rfl
      | succ k ih =>
        intro u hk
        by_cases hu : u < 10
        · rw [Lib.nDigits_small hu] at hk; omega
        · rw [Lib.nDigits_big hu] at hk
          left
          rw [Nat.pow_succ]
          rcases ih (u / 10) (by omega) with h | h
          · have := Nat.mul_le_mul_right 10 h
            omega
          · subst h; simp; omega
    rcases hlow 13 u h1 with h2 | h2
    · have : (10 : Nat) ^ 13 = 10000000000000 := by decide
      omega
    · omega
def DecSt (N m : Nat) (s : Bytes) : Prop := if m = 0 then s = Lib.decDigits N else Lib.decDigits m ++ s = Lib.decDigits N
theorem DecSt.step {N m : Nat} {s : Bytes} (h : DecSt N m s) (hm : m ≠ 0) : DecSt N (m / 10) ([UInt8.ofNat (48 + m % 10)] ++ s) := by
  unfold DecSt at h ⊢
  rw [if_neg hm] at h
  by_cases h10 : m < 10
  · rw [if_pos (by omega), ← h, dec_small h10, show m % 10 = m by omega]
  · rw [if_neg (by omega), ← h, dec_big (u := m) (by omega), List.append_assoc]
set_option maxHeartbeats 1000000 in
set_option maxRecDepth 100000 in
theorem l1Dec_calls (N : Nat) (hN : N ≤ 9999999999999) (w : World) : Calls Tryd.prog 29 #[.int .i64 (N : Int)] w (Ret (.string ⟨(Lib.decDigits N).toArray⟩) w) := by
  by_cases h0 : N = 0
  · subst h0
    go_enter Tryd.func29, Tryd.ntmps29
    go_wp2
    go_ret
    rw [dec_small (u := 0) (by omega)]
    exact ⟨rfl, Mod.refl _ _⟩
  · have hni : ¬ (N : Int) = 0 := by omega
    have hnb : ((N : Int) == 0) = false := by simp only [beq_eq_false_iff_ne, ne_eq]; exact hni
    have HS0 : Sec (DecSt N N []) := ⟨by unfold DecSt; rw [if_neg h0, List.append_nil]⟩
    clear h0
    go_enter Tryd.func29, Tryd.ntmps29
    go_wp2
    clear hni hnb
    go_loopw [0, 3] (fun q s wr => ∃ (m : Nat) (js : Bytes), m ≤ N ∧ q = .int .i64 (m : Int) ∧ s = .string ⟨js.toArray⟩ ∧ js.length ≤ 100000000000000 - m ∧ Sec (DecSt N m js) ∧ Sec (New w wr)) (fun q _ _ => (intOf q).toNat)
    case atStart => exact ⟨N, [], Nat.le_refl _, rfl, rfl, by simp, HS0, ⟨Mod.refl _ _⟩⟩
    case round =>
      obtain ⟨m, js, hm, rfl, rfl, hjl, HS, HM⟩ := hrel
      clear HS0
      by_cases hm0 : m = 0
      · subst hm0
        have hE : js = Lib.decDigits N := by have := HS.out; unfold DecSt at this; rwa [if_pos rfl] at this
        have HE := Sec.mk hE
        clear hE
        go_wp2
        go_ret
        rw [HE.out]
        exact ⟨rfl, HM.out⟩
      · have hmi : (0 : Int) < (m : Int) := by omega
        have HS' := Sec.mk (HS.out.step hm0)
        have HRO := Row.one wr 5 (UInt8.ofNat (48 + m % 10)) (48 + (m : Int) % 10) (by rw [UInt8.toNat_ofNat']; omega)
        have hcv := HRO.conv (P := Tryd.prog) Tryd.underlying22 Tryd.underlying5 Tryd.underlying9 1
        clear HRO
        go_wp2
        refine ⟨⟨m / 10, [UInt8.ofNat (48 + m % 10)] ++ js, by omega, ?_, ?_, ?_, HS', ⟨HM.out.alloc _⟩⟩, ?_⟩
        · go_num
        · rw [← ba_app']; simp
        · simp only [List.length_append, List.length_singleton]; omega
        · simp [intOf]; omega
end Go.Proofs.YtkkgighgnbbgiaaDoor

namespace Go.Proofs.YtkkgighgnbbgiaaDoor.Mem
open Go.RowKit
set_option linter.unusedVariables false
def enc (str : Bool) (cs : List Value) : Value := match str with
  | true => .agg cs.toArray
  | false => cs.headD default
def RdV {α : Type} (str : Bool) (d : Ty α) (w : World) (v : Value) (x : α) : Prop := ∃ cs, v = enc str cs ∧ d.K w (· < w.heap.size) x cs
def OwV {α : Type} (str : Bool) (d : Ty α) (w : World) (lo hi : Nat) (v : Value) (x : α) : Prop := ∃ cs F, v = enc str cs ∧ d.M w F x cs ∧ ∀ k, k ∈ F → lo ≤ k ∧ k < hi
def RetV {α : Type} (str : Bool) (d : Ty α) (w : World) (x : α) (e : Ending) (w' : World) : Prop := ∃ v, e = .returned v ∧ OwV str d w' w.heap.size w'.heap.size v x ∧ New w w'
section
variable {α : Type} {str : Bool} {d : Ty α} {w w' : World} {lo hi : Nat} {v : Value} {x : α}
theorem RdV.step (h : RdV str d w v x) (hm : New w w') : RdV str d w' v x := by
  obtain ⟨cs, rfl, hK⟩ := h
  exact ⟨cs, rfl, d.K_mod hK (fun k hk => Nat.lt_of_lt_of_le hk hm.size) (fun k hk => hm.block k hk id)⟩
theorem OwV.rd (h : OwV str d w lo hi v x) : RdV str d w v x := by
  obtain ⟨cs, F, rfl, hM, hF⟩ := h
  exact ⟨cs, rfl, d.K_mod (d.M_K hM) (fun k hk => d.M_lt hM k hk) (fun _ _ => rfl)⟩
theorem OwV.keep {S : Nat → Prop} (h : OwV str d w lo hi v x) (hm : Mod S w w') (hS : ∀ k, lo ≤ k → k < hi → ¬ S k) : OwV str d w' lo hi v x := by
  obtain ⟨cs, F, rfl, hM, hF⟩ := h
  exact ⟨cs, F, rfl, d.M_mod hM (fun k hk => hm.block k (d.M_lt hM k hk) (hS k (hF k hk).1 (hF k hk).2)), hF⟩
theorem OwV.step (h : OwV str d w lo hi v x) (hm : New w w') : OwV str d w' lo hi v x := h.keep hm fun _ _ _ h => h
end
/-! slices -/
theorem RdV.slice {α : Type} {d : Ty α} {e : TypeId} {w : World} {v : Value} {xs : List α} (h : RdV false (Ty.slice e d) w v xs) : ∃ A c, v = .slice A xs.length c ∧ xs.length ≤ c ∧ Row d w (· < w.heap.size) A xs.length xs := by
  obtain ⟨cs, rfl, A, c, rfl, h1, h2, h3⟩ := h
  exact ⟨A, c, rfl, h1, h3⟩
theorem OwV.slice {α : Type} {d : Ty α} {e : TypeId} {w : World} {lo hi : Nat} {v : Value} {xs : List α} (h : OwV false (Ty.slice e d) w lo hi v xs) : ∃ A c F, v = .slice A xs.length c ∧ Own d e w F v xs ∧ ∀ k, k ∈ F → lo ≤ k ∧ k < hi := by
  obtain ⟨cs, F, rfl, ⟨v', rfl, h⟩, hF⟩ := h
  obtain ⟨A, c, rfl, _⟩ := h.form
  exact ⟨A, c, F, rfl, h, hF⟩
theorem RdV.of_row {α : Type} {d : Ty α} {e : TypeId} {w : World} {A : Option Addr} {c : Nat} {xs : List α} (h : Row d w (· < w.heap.size) A xs.length xs) (hc : xs.length ≤ c) (hm : c ≤ 9223372036854775807) : RdV false (Ty.slice e d) w (.slice A xs.length c) xs := ⟨_, rfl, A, c, rfl, hc, hm, h⟩
def OwF {α : Type} (str : Bool) (d : Ty α) (w : World) (F : List Nat) (v : Value) (x : α) : Prop := ∃ cs, v = enc str cs ∧ d.M w F x cs
theorem OwF.slice {α : Type} {d : Ty α} {e : TypeId} {w : World} {F : List Nat} {v : Value} {xs : List α} (h : OwF false (Ty.slice e d) w F v xs) : ∃ A c, v = .slice A xs.length c ∧ Own d e w F v xs := by
  obtain ⟨cs, rfl, v', rfl, h⟩ := h
  obtain ⟨A, c, rfl, _⟩ := h.form
  exact ⟨A, c, rfl, h⟩
end Go.Proofs.YtkkgighgnbbgiaaDoor.Mem

namespace Go.Proofs.YtkkgighgnbbgiaaDoor.Mem
open Go.RowKit
set_option linter.unusedVariables false
def Ty.str : Ty Bytes where
  sz := 1
  K := fun _ _ x cs => cs = [.string ⟨x.toArray⟩] ∧ x.length ≤ 9223372036854775807
  M := fun _ F x cs => F = [] ∧ cs = [.string ⟨x.toArray⟩] ∧ x.length ≤ 9223372036854775807
  K_len := fun h => by rw [h.1]; rfl
  K_one := fun h u hu => by rw [h.1] at hu; rw [List.mem_singleton.1 hu]; rfl
  K_mod := fun h _ _ => h
  M_K := fun h => h.2
  M_mod := fun h _ => h
  M_lt := fun h k hk => by rw [h.1] at hk; cases hk
  M_nd := fun h => by rw [h.1]; exact List.nodup_nil
structure Fld {α β : Type} (d : Ty α) (i : Nat) (b : Ty β) (get : α → β) (put : α → β → α) : Prop where
  lt : i < d.sz
  sz1 : b.sz = 1
  K : ∀ {w B x cs}, d.K w B x cs → ∃ v, cs[i]? = some v ∧ b.K w B (get x) [v]
  M : ∀ {w F x cs}, d.M w F x cs → ∃ v G, cs[i]? = some v ∧ b.M w G (get x) [v] ∧ (∀ k, k ∈ G → k ∈ F) ∧
    ∀ w' v' y G', (∀ k, k ∈ F → k ∉ G → w'.heap[k]? = w.heap[k]?) → b.M w' G' y [v'] → (∀ k, k ∈ G' → k ∈ G ∨ k ∉ F) → ∃ F', d.M w' F' (put x y) (cs.set i v') ∧ ∀ k, k ∈ F' → k ∈ F ∨ k ∈ G'
theorem Fld.one {β : Type} {b : Ty β} (h : b.sz = 1) : Fld b 0 b id (fun _ y => y) where
  lt := by omega
  sz1 := h
  K := fun {w B x cs} hK => by
    have := b.K_len hK
    match cs, (this.trans h) with
    | [v], _ => exact ⟨v, rfl, hK⟩
  M := fun {w F x cs} hM => by
    have := b.K_len (b.M_K hM)
    match cs, (this.trans h) with
    | [v], _ => exact ⟨v, F, rfl, hM, fun _ h => h, fun w' v' y G' _ hM' _ => ⟨G', hM', fun k hk => .inr hk⟩⟩
theorem Fld.snd {α γ β : Type} {a : Ty α} {c : Ty γ} {b : Ty β} {i j : Nat} {get : γ → β} {put : γ → β → γ} (h : Fld c i b get put) (hj : j = a.sz + i) : Fld (Ty.pair a c) j b (fun x => get x.2) (fun x y => (x.1, put x.2 y)) where
  lt := by subst hj; exact Nat.add_lt_add_left h.lt _
  sz1 := h.sz1
  K := by
    subst hj
    rintro w B x cs ⟨c0, c1, rfl, h0, h1⟩
    obtain ⟨v, hv, hK⟩ := h.K h1
    have := a.K_len h0
    exact ⟨v, by rw [List.getElem?_append_right (by omega), this, Nat.add_sub_cancel_left]; exact hv, hK⟩
  M := by
    subst hj
    rintro w F x cs ⟨c0, c1, F0, F1, rfl, rfl, hn, h0, h1⟩
    obtain ⟨v, G, hv, hM, hG, hst⟩ := h.M h1
    have hl := a.K_len (a.M_K h0)
    refine ⟨v, G, by rw [List.getElem?_append_right (by omega), hl, Nat.add_sub_cancel_left]; exact hv, hM, fun k hk => List.mem_append_right _ (hG k hk), fun w' v' y G' hb hM' hG' => ?_⟩
    obtain ⟨n0, n1, n2⟩ := List.nodup_append.1 hn
    obtain ⟨F', hF', hFF⟩ := hst w' v' y G' (fun k hk hkG => hb k (List.mem_append_right _ hk) hkG) hM' (fun k hk => (hG' k hk).imp id fun h hF => h (List.mem_append_right _ hF))
    refine ⟨F0 ++ F', ⟨c0, c1.set i v', F0, F', by rw [List.set_append_right _ _ (by omega), hl, Nat.add_sub_cancel_left], rfl, ?_, a.M_mod h0 fun k hk => hb k (List.mem_append_left _ hk) fun hkG => n2 k hk k (hG k hkG) rfl, hF'⟩, fun k hk => ?_⟩
    · refine List.nodup_append.2 ⟨n0, c.M_nd hF', fun p hp q hq e => ?_⟩
      subst e
      rcases hFF p hq with h | h
      · exact n2 p hp p h rfl
      · rcases hG' p h with h | h
        · exact n2 p hp p (hG p h) rfl
        · exact h (List.mem_append_left _ hp)
    · rcases List.mem_append.1 hk with h | h
      · exact .inl (List.mem_append_left _ h)
      · exact (hFF k h).imp (fun h => List.mem_append_right _ h) id
section
variable {α β : Type} {d : Ty α} {i : Nat} {b : Ty β} {get : α → β} {put : α → β → α} {e : TypeId} {w : World} {F : List Nat} {A : Option Addr} {n cp : Nat} {xs : List α}
theorem Own.fstore (L : Fld d i b get put) (hb : ∀ w G x cs, b.M w G x cs → G = []) (h : Own d e w F (.slice A n cp) xs) {j : Nat} (hj : j < xs.length) :
    ∃ g v, A = some ⟨g, 0, none⟩ ∧ g ∈ F ∧ w.cell? ⟨g, j * d.sz + i, none⟩ = some v ∧ b.K w (fun _ => True) (get xs[j]) [v] ∧ w.frozen? ⟨g, j * d.sz + i, none⟩ = false ∧
      ∀ v' y, (∀ w, b.M w [] y [v']) → ∃ F', Own d e (w.setCell ⟨g, j * d.sz + i, none⟩ v') F' (.slice A n cp) (xs.set j (put xs[j] y)) ∧ ∀ k, k ∈ F' → k ∈ F := by
  obtain ⟨g, cs, f, rfl, hgF, hgf, hfF, hM, hcl, hc, hz, hst⟩ := h.elem hj
  obtain ⟨v, G, hv, hMv, hG, hp⟩ := L.M hM
  obtain rfl := hb _ _ _ _ hMv
  refine ⟨g, v, rfl, hgF, by rw [hc i L.lt, hv], b.K_mod (b.M_K hMv) (fun _ _ => trivial) (fun _ _ => rfl), hz _, fun v' y hM' => ?_⟩
  obtain ⟨f', hf', hff⟩ := hp (w.setCell ⟨g, j * d.sz + i, none⟩ v') v' y [] (fun k hk _ => Below.heap_setCell _ _ _ _ (fun e => hgf ((show k = g from e) ▸ hk))) (hM' _) (by simp)
  obtain ⟨F', ho, _, hF'⟩ := hst i v' _ f' L.lt hf' (fun k hk => .inl ((hff k hk).elim id (by simp)))
  exact ⟨F', ho, fun k hk => (hF' k hk).elim id fun h => hfF k ((hff k h).elim id (by simp))⟩
theorem Own.cellsAt (h : Own d e w F (.slice A n cp) xs) {j : Nat} (hj : j < xs.length) : ∃ g, A = some ⟨g, 0, none⟩ ∧ g ∈ F ∧ (∀ i, i < d.sz → ∃ v, w.cell? ⟨g, j * d.sz + i, none⟩ = some v) ∧ ∀ i, w.frozen? ⟨g, i, none⟩ = false := by
  obtain ⟨g, cs, f, rfl, hgF, hgf, hfF, hM, hcl, hc, hz, hst⟩ := h.elem hj
  exact ⟨g, rfl, hgF, fun i hi => ⟨cs[i]'(by omega), by rw [hc i hi]; exact List.getElem?_eq_getElem _⟩, hz⟩
theorem OwF.one (h : b.sz = 1) {w : World} {G : List Nat} {v : Value} {y : β} (ho : OwF false b w G v y) : b.M w G y [v] := by
  obtain ⟨cs, rfl, hM⟩ := ho
  have := b.K_len (b.M_K hM)
  match cs, (this.trans h) with
  | [u], _ => exact hM
theorem OwF.rd {str : Bool} {v : Value} {x : α} (h : OwF str d w F v x) : RdV str d w v x := by
  obtain ⟨cs, rfl, hM⟩ := h
  exact ⟨cs, rfl, d.K_mod (d.M_K hM) (fun k hk => d.M_lt hM k hk) (fun _ _ => rfl)⟩
theorem OwF.lt {str : Bool} {v : Value} {x : α} (h : OwF str d w F v x) : ∀ k, k ∈ F → k < w.heap.size := by
  obtain ⟨cs, rfl, hM⟩ := h
  exact d.M_lt hM
theorem load_struct {P : Program} (w : World) (ad : Addr) (ty : TypeId) (cs : List Value) (t : TypeDesc) (hu : P.underlying ty = some t) (ht : (match t with | .struct _ | .array _ _ => true | _ => false) = true) (hi : (P.info? ty).map (·.size) = some cs.length)
    (h : ∀ j v, cs[j]? = some v → w.cell? (ad.add j) = some v) : (Instr.loadAt ty (.pointer (some ad))).run P w = .ok (.agg cs.toArray) w := by
  have hl := run_loadCells_list (P := P) w ad cs h
  cases hq : P.info? ty with
  | none => simp [hq] at hi
  | some i =>
    have hs : i.size = cs.length := by simpa [hq] using hi
    have hagg : (isAgg ty).run P w = .ok true w := by
      unfold isAgg
      rw [Sem.run_bind, run_underlying hu w]
      cases t <;> simp_all
    simp [Instr.loadAt, Instr.sureAddr, loadVar, Sem.run_bind, hagg, sizeOf, typeInfo, hq, hs, hl]
theorem Row.elem {P : Program} {B : Nat → Prop} (h : Row d w B A n xs) {k : Nat} (hk : k < xs.length) (ty : TypeId) {t : TypeDesc} (hu : P.underlying ty = some t) (ht : (match t with | .struct _ | .array _ _ => true | _ => false) = true) (hi : (P.info? ty).map (·.size) = some d.sz) :
    ∃ ad v, A = some ad ∧ ∀ w', (∀ i, B i → w'.heap[i]? = w.heap[i]?) → (∀ i, B i → i < w'.heap.size) → (Instr.loadAt ty (.pointer (some (ad.add (k * d.sz))))).run P w' = .ok v w' ∧ RdV true d w' v xs[k] := by
  obtain ⟨ad, cs, hlt, rfl, hB, hK, hc⟩ := h.at_ (k := k) (by rw [← h.1]; exact hk)
  refine ⟨ad, .agg cs.toArray, rfl, fun w' hb hl => ⟨load_struct w' _ ty cs t hu ht (by rw [d.K_len hK]; exact hi) fun j v hj => ?_, cs, rfl, d.K_mod hK (fun k hk => hl k hk) (fun k hk => hb k hk)⟩⟩
  have := hc j v hj
  rw [← this, add_add]
  refine World.cell?_of_block ?_
  rw [add_block]
  exact hb _ hB
theorem Row.field (L : Fld d i b get put) {B : Nat → Prop} (h : Row d w B A n xs) {w' : World} (hb : ∀ k, B k → w'.heap[k]? = w.heap[k]?) {j : Nat} (hj : j < xs.length) :
    ∃ ad v, A = some ad ∧ (match i with | 0 => w'.cell? (ad.add (j * d.sz)) | m + 1 => w'.cell? ⟨(ad.add (j * d.sz)).block, (ad.add (j * d.sz)).off + (m + 1), none⟩) = some v ∧ b.K w' B (get xs[j]) [v] := by
  obtain ⟨ad, cs, rfl, hK, h0, h1⟩ := h.cells_at hb hj
  obtain ⟨v, hv, hKv⟩ := L.K hK
  refine ⟨ad, v, rfl, ?_, b.K_mod hKv (fun _ h => h) hb⟩
  cases i with
  | zero => exact h0 _ hv
  | succ m => exact h1 m _ hv
end
end Go.Proofs.YtkkgighgnbbgiaaDoor.Mem

namespace Go.Proofs.YtkkgighgnbbgiaaDoor
open Go.RowKit Mem
set_option linter.unusedVariables false
theorem ldStr {w : World} {p : Addr} {v : Value} (h : w.cell? p = some v) : (Instr.loadAt 9 (.pointer (some p))).run Tryd.prog w = .ok v w := by go_simp
end Go.Proofs.YtkkgighgnbbgiaaDoor

namespace Go.Proofs.YtkkgighgnbbgiaaDoor.Mem
open Go.RowKit Go.Deep
set_option linter.unusedVariables false
theorem wf_wrap {k : IntKind} {n : Int} (h : (Lit.int k n).wf = true) : k.wrap n = n := by
  simp only [Lit.wf, Bool.and_eq_true, decide_eq_true_eq] at h
  cases k <;> simp [IntKind.wrap, IntKind.bits, IntKind.signed, IntKind.min, IntKind.max] at h ⊢ <;> (try split) <;> omega
def Opens {α : Type} (P : Program) (d : Ty α) (t : TypeId) : Prop :=
  P.cellsOf t = d.sz ∧ 0 < d.sz ∧ ∀ {H : Type} (enc : TypeId × Value → H) (w : World) (base : Nat) (spare : Nat → Bool) (held : Bool) (fuel : Nat) (cs : List Value) (x : DataW H × List MemPlace),
    DataW.trod enc P w base spare held fuel t cs = some x → ∃ a, d.K w (· < w.heap.size) a cs
theorem Opens.int {P : Program} {t : TypeId} {k : IntKind} (ht : P.underlying t = some (.int k)) (hc : P.cellsOf t = 1) : Opens P (Ty.int k) t :=
  ⟨hc, Nat.one_pos, fun enc w base spare held fuel cs x h => by
    obtain ⟨n, rfl, _, hw⟩ := DataW.trod_int ht h
    exact ⟨n, rfl, wf_wrap hw⟩⟩
theorem Opens.byte {P : Program} {t : TypeId} (ht : P.underlying t = some (.int .u8)) (hc : P.cellsOf t = 1) : Opens P Ty.byte t :=
  ⟨hc, Nat.one_pos, fun enc w base spare held fuel cs x h => by
    obtain ⟨n, rfl, _, hw⟩ := DataW.trod_int ht h
    have h1 := wf_wrap hw
    rw [IntKind.wrap_u8] at h1
    refine ⟨UInt8.ofNat n.toNat, ?_⟩
    show [_] = [Value.int .u8 _]
    rw [UInt8.toNat_ofNat']
    congr 2
    omega⟩
theorem Opens.bool {P : Program} {t : TypeId} (ht : P.underlying t = some .bool) (hc : P.cellsOf t = 1) : Opens P Ty.bool t :=
  ⟨hc, Nat.one_pos, fun enc w base spare held fuel cs x h => by
    obtain ⟨n, rfl, _⟩ := DataW.trod_bool ht h
    exact ⟨n, rfl⟩⟩
theorem Opens.string {P : Program} {t : TypeId} (ht : P.underlying t = some .string) (hc : P.cellsOf t = 1) : Opens P Ty.string t :=
  ⟨hc, Nat.one_pos, fun enc w base spare held fuel cs x h => by
    obtain ⟨n, rfl, _, _⟩ := DataW.trod_string ht h
    exact ⟨n, rfl⟩⟩
theorem Opens.slice {α : Type} {P : Program} {t e : TypeId} {d : Ty α} (ht : P.underlying t = some (.slice e)) (hc : P.cellsOf t = 1) (hd : Opens P d e) : Opens P (Ty.slice e d) t :=
  ⟨hc, Nat.one_pos, fun enc w base spare held fuel cs x h => by
    obtain ⟨h1, h2, h3⟩ := hd
    rcases open_slice ht h with ⟨rfl, _⟩ | ⟨a, len, cap, m, n, D, Pl, rfl, hb, hl, hm, hmm, _, hi⟩
    · exact ⟨[], none, 0, rfl, by simp, by omega, Row.none_ _ _ _ _⟩
    · have hlm : len ≤ m := by rw [hmm]; split <;> omega
      have key : ∀ k, k ≤ len → ∃ xs : List α, xs.length = k ∧ ∀ j y, xs[j]? = some y → ∃ c, d.K w (· < w.heap.size) y c ∧ ∀ i u, c[i]? = some u → w.cell? (a.add (j * d.sz + i)) = some u := by
        intro k
        induction k with
        | zero => intro _; exact ⟨[], rfl, fun j y hj => by simp at hj⟩
        | succ k ih =>
          intro hk
          obtain ⟨xs, hxl, hx⟩ := ih (by omega)
          obtain ⟨cs', hcs, htr⟩ := hi k (by omega)
          rw [h1] at hcs
          obtain ⟨_, hcl, hat⟩ := World.cells?_some hcs
          obtain ⟨y, hy⟩ := h3 enc w base spare held n cs' _ htr
          refine ⟨xs ++ [y], by simp [hxl], fun j z hj => ?_⟩
          rcases Nat.lt_or_ge j xs.length with hlt | hge
          · rw [List.getElem?_append_left hlt] at hj; exact hx j z hj
          · rw [List.getElem?_append_right hge] at hj
            have hj0 : j - xs.length = 0 := by
              have := (List.getElem?_eq_some_iff.1 hj).1
              simp at this; omega
            rw [hj0] at hj
            obtain rfl : y = z := by simpa using hj
            refine ⟨cs', hy, fun i u hu => ?_⟩
            have hlt : i < d.sz := by rw [← hcl]; exact (List.getElem?_eq_some_iff.1 hu).1
            rw [show j = k by omega, ← add_add, hat i hlt]
            exact hu
      obtain ⟨xs, hxl, hx⟩ := key len (Nat.le_refl _)
      refine ⟨xs, some a, cap, by rw [hxl], by omega, by unfold maxLen at hm; omega, rfl, by unfold maxLen at hm; omega, fun hn => ⟨a, rfl, ?_, hx⟩⟩
      obtain ⟨c, hK, hc'⟩ := hx 0 xs[0] (List.getElem?_eq_getElem (by omega))
      have hcl := d.K_len hK
      have := World.block_lt_of_cell? w _ (hc' 0 c[0] (List.getElem?_eq_getElem (by omega)))
      rwa [add_block] at this⟩
def OpensF {α : Type} (P : Program) (d : Ty α) (fs : List Field) (off : Nat) : Prop :=
  0 < d.sz ∧ ∀ {H : Type} (enc : TypeId × Value → H) (w : World) (base : Nat) (spare : Nat → Bool) (held : Bool) (n : Nat) (cs : List Value), cs.length = off + d.sz →
    (∀ (i : Nat) (f : Field), fs[i]? = some f → ∃ y, DataW.trod enc P w base spare held n f.type ((cs.drop f.offset).take (P.cellsOf f.type)) = some y) → ∃ a, d.K w (· < w.heap.size) a (cs.drop off)
theorem OpensF.cons {α β : Type} {P : Program} {d : Ty α} {d' : Ty β} {f : Field} {fs : List Field} {off : Nat} (ho : f.offset = off) (hd : Opens P d f.type) (hr : OpensF P d' fs (off + d.sz)) : OpensF P (Ty.pair d d') (f :: fs) off :=
  ⟨by show 0 < d.sz + d'.sz; have := hd.2.1; omega, fun enc w base spare held n cs hl h => by
    have hl' : cs.length = off + (d.sz + d'.sz) := hl
    obtain ⟨y, hy⟩ := h 0 f rfl
    rw [ho, hd.1] at hy
    obtain ⟨a, ha⟩ := hd.2.2 enc w base spare held n _ y hy
    obtain ⟨b, hb⟩ := hr.2 enc w base spare held n cs (by omega) (fun i g hg => h (i + 1) g (by simpa using hg))
    refine ⟨(a, b), _, _, ?_, ha, hb⟩
    rw [← List.drop_drop, List.take_append_drop]⟩
theorem Opens.struct {α : Type} {P : Program} {t : TypeId} {fs : List Field} {d : Ty α} (ht : P.underlying t = some (.struct fs.toArray)) (hc : P.cellsOf t = d.sz) (hd : OpensF P d fs 0) : Opens P d t :=
  ⟨hc, hd.1, fun enc w base spare held fuel cs x h => by
    obtain ⟨xs, n, _, _, hl, hlen, hf⟩ := DataW.trod_struct ht h
    obtain ⟨a, ha⟩ := hd.2 enc w base spare held n cs (by omega) (fun i f hi => by
      have hi' : i < xs.length := by rw [hlen]; have := (List.getElem?_eq_some_iff.1 hi).1; simpa using this
      exact ⟨xs[i], by rw [hf i f (by simpa using hi), List.getElem?_eq_getElem hi']⟩)
    exact ⟨a, by simpa using ha⟩⟩
end Go.Proofs.YtkkgighgnbbgiaaDoor.Mem
namespace Go.Proofs.YtkkgighgnbbgiaaDoor
open Mem
theorem opens_byte : Opens Tryd.prog Ty.byte 5 := Opens.byte Tryd.underlying5 (by kernel_rfl)
theorem opens_bytes : Opens Tryd.prog (Ty.slice 5 Ty.byte) 22 := Opens.slice Tryd.underlying22 (by kernel_rfl) opens_byte
end Go.Proofs.YtkkgighgnbbgiaaDoor

namespace Go.Proofs.YtkkgighgnbbgiaaDoor
open Go.RowKit Mem
set_option linter.unusedVariables false
abbrev dBS : Ty Bytes := Ty.slice 5 Ty.byte
end Go.Proofs.YtkkgighgnbbgiaaDoor

namespace Go.Proofs.YtkkgighgnbbgiaaDoor
open Go.RowKit Mem
set_option linter.unusedVariables false
end Go.Proofs.YtkkgighgnbbgiaaDoor

namespace Go.Proofs.YtkkgighgnbbgiaaDoor
open Go.RowKit Mem
set_option linter.unusedVariables false
set_option linter.unusedSimpArgs false
abbrev OpT := Int × (Bytes × (Bytes × Bytes))
abbrev dOp : Ty OpT := Ty.pair (Ty.int .i64) (Ty.pair Ty.str (Ty.pair Ty.str dBS))
set_option synthInstance.maxSize 2000
theorem eltOp : Elt Tryd.prog 39 dOp.sz (.agg #[.int .i64 0, .string ⟨#[]⟩, .string ⟨#[]⟩, .slice none 0 0]) := Elt.of (b := 64) (by kernel_rfl) rfl (by decide) (by decide)
theorem mOp {w : World} {x : OpT} {F3 : List Nat} {v3 : Value} (g0 : IntKind.i64.wrap x.1 = x.1) (g1 : x.2.1.length ≤ 9223372036854775807) (g2 : x.2.2.1.length ≤ 9223372036854775807) (o3 : Own Ty.byte 5 w F3 v3 x.2.2.2) : dOp.M w (F3) x [.int .i64 x.1, .string ⟨(x.2.1).toArray⟩, .string ⟨(x.2.2.1).toArray⟩, v3] :=
  ⟨_, _, [], _, rfl, rfl, (by simpa using o3.nd), ⟨rfl, rfl, g0⟩, ⟨_, _, [], _, rfl, rfl, (by simpa using o3.nd), ⟨rfl, rfl, g1⟩, ⟨_, _, [], _, rfl, rfl, (by simpa using o3.nd), ⟨rfl, rfl, g2⟩, ⟨_, rfl, o3⟩⟩⟩⟩
abbrev OpST := List OpT
abbrev dOpS : Ty OpST := Ty.slice 39 dOp
end Go.Proofs.YtkkgighgnbbgiaaDoor

namespace Go.Proofs.YtkkgighgnbbgiaaDoor
open Go.RowKit Mem
set_option linter.unusedVariables false
set_option linter.unusedSimpArgs false
def RD (w0 : World) (g : Nat) (w : World) : Prop := (∃ ys, Rdr w g ys) ∧ Mod (· = g) w0 w
theorem RD.new {w0 w w' : World} {g : Nat} (h : RD w0 g w) (hn : New w w') : RD w0 g w' := ⟨let ⟨ys, h1⟩ := h.1; ⟨ys, h1.mod hn (fun _ _ h => h)⟩, h.2.trans hn (fun i hi hlt => absurd hi (fun h => h))⟩
theorem RD.mod {S : Nat → Prop} {w0 w w' : World} {g : Nat} (h : RD w0 g w) (hn : Mod S w w') (hS : ∀ k, S k → w0.heap.size ≤ k) (hg : g < w0.heap.size) : RD w0 g w' := ⟨let ⟨ys, h1⟩ := h.1; ⟨ys, h1.mod hn (fun k hk hs => by have := hS k hs; omega)⟩, h.2.trans hn (fun i hi hlt => by have := hS i hi; omega)⟩
theorem RD.lt {w0 w : World} {g : Nat} (h : RD w0 g w) : g < w.heap.size := by obtain ⟨⟨ys, hr⟩, _⟩ := h; exact hr.lt
theorem RD.size {w0 w : World} {g : Nat} (h : RD w0 g w) : w0.heap.size ≤ w.heap.size := h.2.size
theorem rd_next {w0 w : World} {g : Nat} (h : Sec (RD w0 g w)) : Calls Tryd.prog 26 #[.pointer (some ⟨g, 0, none⟩)] w (fun e w' => ∃ c : Nat, e = .returned (.int .i64 (c : Int)) ∧ c < 256 ∧ Sec (RD w0 g w') ∧ Sec (Mod (· = g) w w')) := by
  obtain ⟨ys, hr⟩ := h.out.1
  exact (next_calls hr).mono fun e w' ⟨h1, h2, h3⟩ => ⟨_, h1, nextD_lt ys, ⟨⟨_, h2⟩, h.out.2.trans h3 (fun i hi _ => hi)⟩, ⟨h3⟩⟩
theorem rd_more {w0 w : World} {g : Nat} (h : Sec (RD w0 g w)) : Calls Tryd.prog 31 #[.pointer (some ⟨g, 0, none⟩)] w (fun e w' => ∃ b : Bool, e = .returned (.bool b) ∧ Sec (RD w0 g w') ∧ Sec (Mod (· = g) w w')) := by
  obtain ⟨ys, hr⟩ := h.out.1
  exact (more_calls hr).mono fun e w' ⟨⟨b, h1⟩, h2, h3⟩ => ⟨b, h1, ⟨⟨_, h2⟩, h.out.2.trans h3 (fun i hi _ => hi)⟩, ⟨h3⟩⟩
theorem rd_data {w0 w : World} {g : Nat} (h : Sec (RD w0 g w)) : Calls Tryd.prog 33 #[.pointer (some ⟨g, 0, none⟩)] w (fun e w' => ∃ A c xs, e = .returned (.slice A xs.length c) ∧ xs.length < 256 ∧ Sec (OwP Ty.byte 5 w' (fun k => w.heap.size ≤ k) (.slice A xs.length c) xs) ∧ Sec (RD w0 g w') ∧ Sec (Mod (· = g) w w')) := by
  obtain ⟨ys, hr⟩ := h.out.1
  exact (l1Data_calls hr).mono fun e w' ⟨A, c, h1, h2, h3, h4⟩ => ⟨A, c, _, h1, dataD_len ys, ⟨h2⟩, ⟨⟨_, h3⟩, h.out.2.trans h4 (fun i hi _ => hi)⟩, ⟨h4⟩⟩
def NameR (w : World) (e : Ending) (w' : World) : Prop := ∃ nm : Bytes, e = .returned (.string ⟨nm.toArray⟩) ∧ nm.length ≤ 20 ∧ New w w'
theorem dec_nm (N : Nat) (hN : N ≤ 9999999) (w : World) : Calls Tryd.prog 29 #[.int .i64 (N : Int)] w (fun e w' => ∃ Y : ByteArray, e = .returned (.string Y) ∧ Y.size ≤ 13 ∧ Sec (New w w')) := by
  refine (l1Dec_calls N (by omega) w).mono ?_
  rintro e w' ⟨rfl, hn⟩
  exact ⟨_, rfl, by simpa [ByteArray.size] using dec_len N (by omega), ⟨hn⟩⟩
theorem name_of {w w' : World} (X : ByteArray) (hX : X.size ≤ 20) (h : New w w') : NameR w (.returned (.string X)) w' := by
  obtain ⟨⟨xs⟩⟩ := X
  exact ⟨xs, rfl, hX, h⟩
set_option maxHeartbeats 2000000 in
set_option maxRecDepth 100000 in
theorem l1Name_calls (c : Nat) (hc : c < 256) (w : World) : Calls Tryd.prog 32 #[.int .i64 (c : Int)] w (NameR w) := by
  rcases (show c % 8 = 0 ∨ c % 8 = 1 ∨ c % 8 = 2 ∨ c % 8 = 3 ∨ c % 8 = 4 ∨ 5 ≤ c % 8 by omega) with hj | hj | hj | hj | hj | hj
  · have hi : ((c : Int) % 8) = 0 := by omega
    clear hj
    go_enter Tryd.func32, Tryd.ntmps32
    go_wp2
    go_ret
    exact name_of _ (by decide) (Mod.refl _ _)
  · have hi : ((c : Int) % 8) = 1 := by omega
    clear hj
    go_enter Tryd.func32, Tryd.ntmps32
    go_wp2
    go_ret
    exact name_of _ (by decide) (Mod.refl _ _)
  · have hi : ((c : Int) % 8) = 2 := by omega
    clear hj
    go_enter Tryd.func32, Tryd.ntmps32
    go_wp2
    go_ret
    exact name_of _ (by decide) (Mod.refl _ _)
  · have hi : ((c : Int) % 8) = 3 := by omega
    have hcc : ((c : Int) / 8) = ((c / 8 : Nat) : Int) := by omega
    have HD := Sec.mk (fun w => dec_nm (c / 8) (by omega) w)
    rw [← hcc] at HD
    clear hcc hj
    go_enter Tryd.func32, Tryd.ntmps32
    go_wp2_with fail
    refine (HD.out _).mono ?_
    rintro e w1 ⟨Y, rfl, hY, hn⟩
    go_wp2
    go_ret
    exact name_of _ (by rw [ByteArray.size_append]; have : ByteArray.size ⟨#[116, 109, 112, 47]⟩ = 4 := rfl; omega) hn.out
  · have hi : ((c : Int) % 8) = 4 := by omega
    have hcc : ((c : Int) / 8 % 4) = ((c / 8 % 4 : Nat) : Int) := by omega
    have HD := Sec.mk (fun w => dec_nm (c / 8 % 4) (by omega) w)
    rw [← hcc] at HD
    clear hcc hj
    go_enter Tryd.func32, Tryd.ntmps32
    go_wp2_with fail
    refine (HD.out _).mono ?_
    rintro e w1 ⟨Y, rfl, hY, hn⟩
    go_wp2
    go_ret
    exact name_of _ (by rw [ByteArray.size_append]; have : ByteArray.size ⟨#[99, 117, 114, 47]⟩ = 4 := rfl; omega) hn.out
  · have h0 : (((c : Int) % 8) == 0) = false := by simp only [beq_eq_false_iff_ne]; omega
    have h1 : (((c : Int) % 8) == 1) = false := by simp only [beq_eq_false_iff_ne]; omega
    have h2 : (((c : Int) % 8) == 2) = false := by simp only [beq_eq_false_iff_ne]; omega
    have h3 : (((c : Int) % 8) == 3) = false := by simp only [beq_eq_false_iff_ne]; omega
    have h4 : (((c : Int) % 8) == 4) = false := by simp only [beq_eq_false_iff_ne]; omega
    have hcc : ((c : Int) / 8 % 9) = ((c / 8 % 9 : Nat) : Int) := by omega
    have HD := Sec.mk (fun w => dec_nm (c / 8 % 9) (by omega) w)
    rw [← hcc] at HD
    clear hcc hj
    go_enter Tryd.func32, Tryd.ntmps32
    go_wp2_with fail
    refine (HD.out _).mono ?_
    rintro e w1 ⟨Y, rfl, hY, hn⟩
    go_wp2
    go_ret
    exact name_of _ (by rw [ByteArray.size_append]; have : ByteArray.size ⟨#[110]⟩ = 1 := rfl; omega) hn.out
theorem rd_name {w : World} (c : Nat) (hc : c < 256) : Calls Tryd.prog 32 #[.int .i64 (c : Int)] w (fun e w' => ∃ nm : Bytes, e = .returned (.string ⟨nm.toArray⟩) ∧ nm.length ≤ 20 ∧ Sec (New w w')) :=
  (l1Name_calls c hc w).mono fun e w' ⟨nm, h1, h2, h3⟩ => ⟨nm, h1, h2, ⟨h3⟩⟩
end Go.Proofs.YtkkgighgnbbgiaaDoor

namespace Go.Proofs.YtkkgighgnbbgiaaDoor
open Go.RowKit Mem
set_option linter.unusedVariables false
set_option linter.unusedSimpArgs false
def opFew (o : OpT) : Prop := o.2.1.length ≤ 20 ∧ o.2.2.1.length ≤ 20 ∧ o.2.2.2.length < 256
def OpsR (w0 w : World) (g m : Nat) (e : Ending) (w' : World) : Prop :=
  ∃ (A : Option Addr) (c : Nat) (ops : OpST), e = .returned (.slice A ops.length c) ∧ ops.length ≤ m ∧ Sec (∀ o, o ∈ ops → opFew o) ∧ Sec (OwI dOp 39 w' w.heap.size w'.heap.size (.slice A ops.length c) ops) ∧ Sec (RD w0 g w') ∧ Sec (Mod (· = g) w w')
structure OneO (w0 w wr : World) (g b : Nat) (v : Value) (ops : OpST) (wx : World) (kd : Int) (nm tn dat : Bytes) (Ad : Option Addr) (cd : Nat) : Prop where
  wk : IntKind.i64.wrap kd = kd
  ln : nm.length ≤ 20
  lt : tn.length ≤ 20
  ld : dat.length < 256
  blk : Blk wx b 39 [.int .i64 kd, .string ⟨nm.toArray⟩, .string ⟨tn.toArray⟩, .slice Ad dat.length cd]
  own : OwI Ty.byte 5 wx (b + 1) wx.heap.size (.slice Ad dat.length cd) dat
  ops : OwI dOp 39 wx w.heap.size wr.heap.size v ops
  rd : RD w0 g wx
  mod : Mod (· = g) w wx
  gb : g < w.heap.size ∧ w.heap.size ≤ wr.heap.size ∧ wr.heap.size ≤ b
  base : w0.heap.size ≤ w.heap.size
namespace OneO
variable {w0 w wr : World} {g b : Nat} {v : Value} {ops : OpST} {wx wy : World} {kd : Int} {nm tn dat : Bytes} {Ad : Option Addr} {cd : Nat}
theorem sb (h : OneO w0 w wr g b v ops wx kd nm tn dat Ad cd) : b + 1 ≤ wx.heap.size := h.blk.lt
theorem set (h : OneO w0 w wr g b v ops wx kd nm tn dat Ad cd) (k : Nat) (x : Value) (hg0 : g < w0.heap.size) : OwI Ty.byte 5 (wx.setCell ⟨b, k, none⟩ x) (b + 1) (wx.setCell ⟨b, k, none⟩ x).heap.size (.slice Ad dat.length cd) dat ∧ OwI dOp 39 (wx.setCell ⟨b, k, none⟩ x) w.heap.size wr.heap.size v ops ∧ RD w0 g (wx.setCell ⟨b, k, none⟩ x) ∧ Mod (· = g) w (wx.setCell ⟨b, k, none⟩ x) := by
  have hm : Mod (fun k => k = b) wx (wx.setCell ⟨b, k, none⟩ x) := (Mod.refl (fun k => k = b) wx).setCell (p := ⟨b, k, none⟩) (fun _ => rfl) x
  have hgb := h.gb
  have hbs := h.base
  refine ⟨(h.own.keep hm (fun i h1 h2 h3 => by omega)).wide (Nat.le_refl _) (by simp), h.ops.keep hm (fun i h1 h2 h3 => by omega), h.rd.mod hm (fun i hi => by omega) hg0, h.mod.trans hm (fun i hi hlt => by omega)⟩
theorem setK (h : OneO w0 w wr g b v ops wx kd nm tn dat Ad cd) (hg0 : g < w0.heap.size) (k : Int) (hk : IntKind.i64.wrap k = k) : OneO w0 w wr g b v ops (wx.setCell ⟨b, 0, none⟩ (.int .i64 k)) k nm tn dat Ad cd := by
  obtain ⟨a1, a2, a3, a4⟩ := h.set 0 (.int .i64 k) hg0
  have hb := h.blk.set_ 0 (.int .i64 k)
  simp only [List.set_cons_zero, List.set_cons_succ] at hb
  exact ⟨hk, h.ln, h.lt, h.ld, hb, a1, a2, a3, a4, h.gb, h.base⟩
theorem setN (h : OneO w0 w wr g b v ops wx kd nm tn dat Ad cd) (hg0 : g < w0.heap.size) (x : Bytes) (hx : x.length ≤ 20) : OneO w0 w wr g b v ops (wx.setCell ⟨b, 1, none⟩ (.string ⟨x.toArray⟩)) kd x tn dat Ad cd := by
  obtain ⟨a1, a2, a3, a4⟩ := h.set 1 (.string ⟨x.toArray⟩) hg0
  have hb := h.blk.set_ 1 (.string ⟨x.toArray⟩)
  simp only [List.set_cons_zero, List.set_cons_succ] at hb
  exact ⟨h.wk, hx, h.lt, h.ld, hb, a1, a2, a3, a4, h.gb, h.base⟩
theorem setT (h : OneO w0 w wr g b v ops wx kd nm tn dat Ad cd) (hg0 : g < w0.heap.size) (x : Bytes) (hx : x.length ≤ 20) : OneO w0 w wr g b v ops (wx.setCell ⟨b, 2, none⟩ (.string ⟨x.toArray⟩)) kd nm x dat Ad cd := by
  obtain ⟨a1, a2, a3, a4⟩ := h.set 2 (.string ⟨x.toArray⟩) hg0
  have hb := h.blk.set_ 2 (.string ⟨x.toArray⟩)
  simp only [List.set_cons_zero, List.set_cons_succ] at hb
  exact ⟨h.wk, h.ln, hx, h.ld, hb, a1, a2, a3, a4, h.gb, h.base⟩
theorem call (h : OneO w0 w wr g b v ops wx kd nm tn dat Ad cd) (hm : Mod (· = g) wx wy) (hr : RD w0 g wy) : OneO w0 w wr g b v ops wy kd nm tn dat Ad cd := by
  have hgb := h.gb
  exact ⟨h.wk, h.ln, h.lt, h.ld, h.blk.mod hm (by omega), (h.own.keep hm (fun i h1 h2 h3 => by omega)).wide (Nat.le_refl _) hm.size, h.ops.keep hm (fun i h1 h2 h3 => by omega), hr, h.mod.trans hm (fun i hi _ => hi), h.gb, h.base⟩
theorem setD (h : OneO w0 w wr g b v ops wx kd nm tn dat Ad cd) (hg0 : g < w0.heap.size) {A' : Option Addr} {c' : Nat} {xs : Bytes} {lo : Nat} (ho : OwP Ty.byte 5 wx (fun k => lo ≤ k) (.slice A' xs.length c') xs) (hlo : b + 1 ≤ lo) (hx : xs.length < 256) : OneO w0 w wr g b v ops (wx.setCell ⟨b, 3, none⟩ (.slice A' xs.length c')) kd nm tn xs A' c' := by
  obtain ⟨a1, a2, a3, a4⟩ := h.set 3 (.slice A' xs.length c') hg0
  have hb := h.blk.set_ 3 (.slice A' xs.length c')
  simp only [List.set_cons_zero, List.set_cons_succ] at hb
  have hm : Mod (fun k => k = b) wx (wx.setCell ⟨b, 3, none⟩ (.slice A' xs.length c')) := (Mod.refl (fun k => k = b) wx).setCell (p := ⟨b, 3, none⟩) (fun _ => rfl) _
  have hlo' : ∀ i, lo ≤ i → b + 1 ≤ i := fun i h => Nat.le_trans hlo h
  obtain ⟨F, hF', hX⟩ := ho.keep hm (fun i (hi : lo ≤ i) hb => by have := hlo' i hi; omega)
  exact ⟨h.wk, h.ln, h.lt, hx, hb, ⟨F, hF', fun i hi => ⟨hlo' i (hX i hi), hF'.lt i hi⟩⟩, a2, a3, a4, h.gb, h.base⟩
end OneO
set_option maxHeartbeats 4000000 in
set_option maxRecDepth 100000 in
theorem l1Ops_calls {w0 w : World} {g m : Nat} (h : Sec (RD w0 g w)) (hm : m ≤ 1000) (hg0 : g < w0.heap.size) : Calls Tryd.prog 15 #[.pointer (some ⟨g, 0, none⟩), .int .i64 (m : Int)] w (OpsR w0 w g m) := by
  have hg := h.out.lt
  have hbase := h.out.size
  go_enter Tryd.func15, Tryd.ntmps15
  go_wp2
  go_loopw [6, 5] (fun i o wr => ∃ (k : Nat) (ops : OpST) (A : Option Addr) (n' c' : Nat), i = .int .i64 (k : Int) ∧ k ≤ m ∧ o = .slice A n' c' ∧ ops.length ≤ k ∧ Sec (∀ o, o ∈ ops → opFew o) ∧ Sec (OwI dOp 39 wr w.heap.size wr.heap.size (.slice A n' c') ops) ∧ Sec (RD w0 g wr) ∧ Sec (Mod (· = g) w wr)) (fun i _ _ => (m - (intOf i).toNat))
  case atStart => exact ⟨0, [], none, 0, 0, rfl, Nat.zero_le _, rfl, Nat.le_refl _, ⟨fun o ho => (by cases ho)⟩, ⟨OwI.nil _ _ _ _ _⟩, h, ⟨Mod.refl _ _⟩⟩
  case round =>
    obtain ⟨k, ops, A, n', c', rfl, hkm, rfl, hol, HF, HO, HR, HM⟩ := hrel
    have hsr := HM.out.size
    clear h
    by_cases hlt : k < m
    rotate_left
    · obtain rfl : k = m := by omega
      obtain rfl := HO.out.len.1
      go_wp2
      go_ret
      exact ⟨_, _, ops, rfl, hol, HF, HO, HR, HM⟩
    have hlti : (k : Int) < (m : Int) := by omega
    go_wp2_with fail
    refine (rd_more HR).mono ?_
    rintro e w1 ⟨b, rfl, HR1, HM1⟩
    have hs1 := HM1.out.size
    have HO1 := Sec.mk (HO.out.keep HM1.out (fun k h1 h2 he => by omega))
    have HMt1 := Sec.mk (HM.out.trans HM1.out (fun i h _ => h))
    clear HR HO HM
    cases b
    · obtain rfl := HO1.out.len.1
      go_wp2
      go_ret
      exact ⟨_, _, ops, rfl, by omega, HF, ⟨HO1.out.wide (Nat.le_refl _) hs1⟩, HR1, HMt1⟩
    go_wp2_with fail
    refine (rd_next HR1).mono ?_
    rintro e w2 ⟨c, rfl, hc, HR2, HM2⟩
    have hs2 := HM2.out.size
    have HO2 := Sec.mk (HO1.out.keep HM2.out (fun k h1 h2 he => by omega))
    have HMt2 := Sec.mk (HMt1.out.trans HM2.out (fun i h _ => h))
    clear HR1 HO1 HMt1 HM1
    go_wp2_with fail
    refine (rd_next HR2).mono ?_
    rintro e w3 ⟨c2, rfl, hc2, HR3, HM3⟩
    have hs3 := HM3.out.size
    have HO3 := Sec.mk (HO2.out.keep HM3.out (fun k h1 h2 he => by omega))
    have HMt3 := Sec.mk (HMt2.out.trans HM3.out (fun i h _ => h))
    clear HR2 HO2 HMt2 HM2
    go_wp2_with fail
    refine (rd_name c2 hc2).mono ?_
    rintro e w4 ⟨nm, rfl, hnm, HN4⟩
    have hs4 := HN4.out.size
    have HR4 := Sec.mk (HR3.out.new HN4.out)
    have HO4 := Sec.mk (HO3.out.new HN4.out)
    have HMt4 := Sec.mk (HMt3.out.trans HN4.out (fun i h _ => h.elim))
    clear HR3 HO3 HMt3 HM3 HN4 hc2
    go_upto_block 2 with (fail)
    have HB5 := Sec.mk (Blk.new w4 39 [.int .i64 0, .string ⟨nm.toArray⟩, .string ⟨#[]⟩, .slice none 0 0])
    generalize hw5 : (w4.alloc (.cells #[.int .i64 0, .string ⟨nm.toArray⟩, .string ⟨#[]⟩, .slice none 0 0] 39)) = w5 at *
    have HN5 : Sec (New w4 w5) := ⟨by rw [← hw5]; exact (Mod.refl _ _).alloc _⟩
    have hs5 : w5.heap.size = w4.heap.size + 1 := by rw [← hw5]; simp
    have HR5 := Sec.mk (HR4.out.new HN5.out)
    have HO5 := Sec.mk (HO4.out.new HN5.out)
    have HMt5 := Sec.mk (HMt4.out.trans HN5.out (fun i h _ => h.elim))
    clear HR4 HO4 HMt4 HN5 hw5
    generalize w4.heap.size = b at *
    have kb0 : w5.cell? ⟨b, 0, none⟩ = some (.int .i64 0) := HB5.out.cell 0
    have kb1 : w5.cell? ⟨b, 1, none⟩ = some (.string ⟨nm.toArray⟩) := HB5.out.cell 1
    have kb2 : w5.cell? ⟨b, 2, none⟩ = some (.string ⟨#[]⟩) := HB5.out.cell 2
    have kb3 : w5.cell? ⟨b, 3, none⟩ = some (.slice none 0 0) := HB5.out.cell 3
    have fb0 : w5.frozen? ⟨b, 0, none⟩ = false := HB5.out.frozen 0
    have fb1 : w5.frozen? ⟨b, 1, none⟩ = false := HB5.out.frozen 1
    have fb2 : w5.frozen? ⟨b, 2, none⟩ = false := HB5.out.frozen 2
    have fb3 : w5.frozen? ⟨b, 3, none⟩ = false := HB5.out.frozen 3
    have HST : Sec (OneO w0 w wr g b (.slice A n' c') ops w5 0 nm [] [] none 0) := ⟨⟨by decide, hnm, by decide, by decide, HB5.out, OwI.nil _ _ _ _ _, HO5.out, HR5.out, HMt5.out, ⟨hg, hsr, by omega⟩, hbase⟩⟩
    go_cut [25] (fun _ wx => ∃ (kd : Int) (nm' tn dat : Bytes) (Ad : Option Addr) (cd : Nat), Sec (OneO w0 w wr g b (.slice A n' c') ops wx kd nm' tn dat Ad cd))
    case first =>
      clear HB5 HR5 HO5 HMt5
      rcases (show c % 12 = 0 ∨ c % 12 = 1 ∨ c % 12 = 2 ∨ c % 12 = 3 ∨ c % 12 = 4 ∨ c % 12 = 5 ∨ c % 12 = 6 ∨ c % 12 = 7 ∨ c % 12 = 8 ∨ c % 12 = 9 ∨ c % 12 = 10 ∨ c % 12 = 11 by omega) with hj | hj | hj | hj | hj | hj | hj | hj | hj | hj | hj | hj
      case' inr.inr.inr.inl | inr.inr.inr.inr.inl | inr.inr.inr.inr.inr.inl =>
        have hi : ((c : Int) % 12) = ((c % 12 : Nat) : Int) := by omega
        rw [hj] at hi
        clear hj
        have H2 := Sec.mk (HST.out.setK hg0 2 (by decide))
        go_wp2_with fail
        refine (rd_data ⟨H2.out.rd⟩).mono ?_
        rintro e w6 ⟨Ad, cd, xs, rfl, hxl, HOD, HR6, HM6⟩
        have H3 := Sec.mk (H2.out.call HM6.out HR6.out)
        have H4 := Sec.mk (H3.out.setD hg0 HOD.out (by have := H2.out.sb; exact this) hxl)
        have kq : w6.cell? ⟨b, 3, none⟩ = some (.slice none 0 0) := H3.out.blk.cell 3
        have fq : w6.frozen? ⟨b, 3, none⟩ = false := H3.out.blk.frozen 3
        go_wp2
        go_meet
        exact ⟨_, _, _, _, _, _, H4⟩
      case' inr.inr.inr.inr.inr.inr.inr.inr.inl =>
        have hi : ((c : Int) % 12) = ((c % 12 : Nat) : Int) := by omega
        rw [hj] at hi
        clear hj
        have H2 := Sec.mk (HST.out.setK hg0 4 (by decide))
        go_wp2_with fail
        refine (rd_next ⟨H2.out.rd⟩).mono ?_
        rintro e w6 ⟨c3, rfl, hc3, HR6, HM6⟩
        have H3 := Sec.mk (H2.out.call HM6.out HR6.out)
        go_wp2_with fail
        refine (rd_name c3 hc3).mono ?_
        rintro e w7 ⟨tn, rfl, htn, HN7⟩
        have H4 := Sec.mk (H3.out.call ((Mod.refl (· = g) _).trans HN7.out (fun i h _ => h.elim)) (H3.out.rd.new HN7.out))
        have H5 := Sec.mk (H4.out.setT hg0 tn htn)
        have kq : w7.cell? ⟨b, 2, none⟩ = some (.string ⟨#[]⟩) := H4.out.blk.cell 2
        have fq : w7.frozen? ⟨b, 2, none⟩ = false := H4.out.blk.frozen 2
        go_wp2
        go_meet
        exact ⟨_, _, _, _, _, _, H5⟩
      all_goals
        have hi : ((c : Int) % 12) = ((c % 12 : Nat) : Int) := by omega
        rw [hj] at hi
        clear hj
        go_wp2
        go_meet
        first
          | exact ⟨_, _, _, _, _, _, ⟨HST.out.setK hg0 _ (by decide)⟩⟩
          | exact ⟨_, _, _, _, _, _, ⟨(HST.out.setK hg0 _ (by decide)).setN hg0 [] (by decide)⟩⟩
    case rest =>
      obtain ⟨kd, nm', tn, dat, Ad, cd, HOne⟩ := hcut
      have HNAB : Sec (OneO w0 w wr g b (.slice A n' c') ops (wc.setCell ⟨b, 1, none⟩ (.string ⟨[97, 32, 98].toArray⟩)) kd [97, 32, 98] tn dat Ad cd) := ⟨HOne.out.setN hg0 [97, 32, 98] (by decide)⟩
      have HK7 := Sec.mk (HOne.out.setK hg0 7 (by decide))
      have k0 : wc.cell? ⟨b, 0, none⟩ = some (.int .i64 kd) := HOne.out.blk.cell 0
      have k1 : wc.cell? ⟨b, 1, none⟩ = some (.string ⟨nm'.toArray⟩) := HOne.out.blk.cell 1
      have k2 : wc.cell? ⟨b, 2, none⟩ = some (.string ⟨tn.toArray⟩) := HOne.out.blk.cell 2
      have k3 : wc.cell? ⟨b, 3, none⟩ = some (.slice Ad dat.length cd) := HOne.out.blk.cell 3
      have f0 : wc.frozen? ⟨b, 0, none⟩ = false := HOne.out.blk.frozen 0
      have f1 : wc.frozen? ⟨b, 1, none⟩ = false := HOne.out.blk.frozen 1
      clear HST HB5 HR5 HO5 HMt5 kb0 kb1 kb2 kb3 fb0 fb1 fb2 fb3
      rcases (show c = 251 ∨ c = 252 ∨ (c ≠ 251 ∧ c ≠ 252) by omega) with hj | hj | ⟨hj, hj'⟩
      · have hi1 : (c : Int) = 251 := by omega
        have hi2 : ((c : Int) == 252) = false := by simp only [beq_eq_false_iff_ne]; omega
        clear hj hc
        go_upto_region 33 with (fail)
        clear k0 k1 k2 k3 f0 f1 HOne HK7
        generalize wc.setCell ⟨b, 1, none⟩ (.string ⟨#[97, 32, 98]⟩) = wy at *
        generalize ([97, 32, 98] : Bytes) = nm2 at *
        rename Sec (OneO _ _ _ _ _ _ _ wy _ _ _ _ _ _) => HZ
        have q0 : wy.cell? ⟨b, 0, none⟩ = some (.int .i64 kd) := HZ.out.blk.cell 0
        have q1 : wy.cell? ⟨b, 1, none⟩ = some (.string ⟨nm2.toArray⟩) := HZ.out.blk.cell 1
        have q2 : wy.cell? ⟨b, 2, none⟩ = some (.string ⟨tn.toArray⟩) := HZ.out.blk.cell 2
        have q3 : wy.cell? ⟨b, 3, none⟩ = some (.slice Ad dat.length cd) := HZ.out.blk.cell 3
        obtain ⟨Fd, hFd, hFX⟩ := HZ.out.own
        have HFd := Sec.mk hFd
        have HG : Sec (∀ i, i ∈ Fd → wr.heap.size ≤ i) := ⟨fun i hi => by have := (hFX i hi).1; have := HZ.out.gb; omega⟩
        have HOW := Sec.mk (HZ.out.ops.new ((Mod.refl _ _).alloc (.cells #[.int .i64 kd, .string ⟨nm2.toArray⟩, .string ⟨tn.toArray⟩, .slice Ad dat.length cd] 39)))
        have HSZ : Sec (wr.heap.size ≤ (wy.alloc (.cells #[.int .i64 kd, .string ⟨nm2.toArray⟩, .string ⟨tn.toArray⟩, .slice Ad dat.length cd] 39)).heap.size) := ⟨by have := HZ.out.sb; have := HZ.out.gb; simp; omega⟩
        clear hFd hFX
        go_wp2_with (at_builtin; go_loud (refine wpList_appO _ rfl (.tmp 64) (.tmp 66) _ rfl Tryd.underlying28 eltOp rfl rfl HOW.out (y := (kd, nm2, tn, dat)) (G := Fd) (mOp HZ.out.wk (Nat.le_trans HZ.out.ln (by decide)) (Nat.le_trans HZ.out.lt (by decide)) (HFd.out.new ((Mod.refl _ _).alloc _))) HG.out (lit_cells _ _ _ rfl) (show w.heap.size ≤ wr.heap.size from hsr) HSZ.out (show ops.length + 1 ≤ 34359738368 by omega) ?_; intro A7 n7 c7 w7 HO7 hm7; have HO7s := Sec.mk HO7; have HM7s := Sec.mk hm7; clear HO7 hm7))
        have HRW := HZ.out.rd.new ((Mod.refl _ _).alloc (.cells #[.int .i64 kd, .string ⟨nm2.toArray⟩, .string ⟨tn.toArray⟩, .slice Ad dat.length cd] 39))
        have HR7 := Sec.mk (HRW.mod HM7s.out (fun i hi => by omega) hg0)
        have HM7 := Sec.mk ((HZ.out.mod.alloc (.cells #[.int .i64 kd, .string ⟨nm2.toArray⟩, .string ⟨tn.toArray⟩, .slice Ad dat.length cd] 39)).trans HM7s.out (fun i h1 h2 => by omega))
        have HF7 : Sec (∀ o, o ∈ ops ++ [((kd, nm2, tn, dat) : OpT)] → opFew o) := ⟨fun o ho => by
          rcases List.mem_append.1 ho with h | h
          · exact HF.out o h
          · rw [List.mem_singleton.1 h]; exact ⟨HZ.out.ln, HZ.out.lt, HZ.out.ld⟩⟩
        go_roundw
        case rel => exact ⟨k + 1, _, A7, n7, c7, by go_num, by omega, rfl, by simp; omega, HF7, HO7s, HR7, HM7⟩
        case measure => simp [intOf]; omega
      · have hi1 : (c : Int) = 252 := by omega
        have hi2 : ((c : Int) == 251) = false := by simp only [beq_eq_false_iff_ne]; omega
        clear hj hc
        go_upto_region 33 with (fail)
        clear k0 k1 k2 k3 f0 f1 HOne HNAB
        generalize wc.setCell ⟨b, 0, none⟩ (.int .i64 7) = wy at *
        rename Sec (OneO _ _ _ _ _ _ _ wy _ _ _ _ _ _) => HZ
        have q0 : wy.cell? ⟨b, 0, none⟩ = some (.int .i64 7) := HZ.out.blk.cell 0
        have q1 : wy.cell? ⟨b, 1, none⟩ = some (.string ⟨nm'.toArray⟩) := HZ.out.blk.cell 1
        have q2 : wy.cell? ⟨b, 2, none⟩ = some (.string ⟨tn.toArray⟩) := HZ.out.blk.cell 2
        have q3 : wy.cell? ⟨b, 3, none⟩ = some (.slice Ad dat.length cd) := HZ.out.blk.cell 3
        obtain ⟨Fd, hFd, hFX⟩ := HZ.out.own
        have HFd := Sec.mk hFd
        have HG : Sec (∀ i, i ∈ Fd → wr.heap.size ≤ i) := ⟨fun i hi => by have := (hFX i hi).1; have := HZ.out.gb; omega⟩
        have HOW := Sec.mk (HZ.out.ops.new ((Mod.refl _ _).alloc (.cells #[.int .i64 7, .string ⟨nm'.toArray⟩, .string ⟨tn.toArray⟩, .slice Ad dat.length cd] 39)))
        have HSZ : Sec (wr.heap.size ≤ (wy.alloc (.cells #[.int .i64 7, .string ⟨nm'.toArray⟩, .string ⟨tn.toArray⟩, .slice Ad dat.length cd] 39)).heap.size) := ⟨by have := HZ.out.sb; have := HZ.out.gb; simp; omega⟩
        clear hFd hFX
        go_wp2_with (at_builtin; go_loud (refine wpList_appO _ rfl (.tmp 64) (.tmp 66) _ rfl Tryd.underlying28 eltOp rfl rfl HOW.out (y := (7, nm', tn, dat)) (G := Fd) (mOp HZ.out.wk (Nat.le_trans HZ.out.ln (by decide)) (Nat.le_trans HZ.out.lt (by decide)) (HFd.out.new ((Mod.refl _ _).alloc _))) HG.out (lit_cells _ _ _ rfl) (show w.heap.size ≤ wr.heap.size from hsr) HSZ.out (show ops.length + 1 ≤ 34359738368 by omega) ?_; intro A7 n7 c7 w7 HO7 hm7; have HO7s := Sec.mk HO7; have HM7s := Sec.mk hm7; clear HO7 hm7))
        have HRW := HZ.out.rd.new ((Mod.refl _ _).alloc (.cells #[.int .i64 7, .string ⟨nm'.toArray⟩, .string ⟨tn.toArray⟩, .slice Ad dat.length cd] 39))
        have HR7 := Sec.mk (HRW.mod HM7s.out (fun i hi => by omega) hg0)
        have HM7 := Sec.mk ((HZ.out.mod.alloc (.cells #[.int .i64 7, .string ⟨nm'.toArray⟩, .string ⟨tn.toArray⟩, .slice Ad dat.length cd] 39)).trans HM7s.out (fun i h1 h2 => by omega))
        have HF7 : Sec (∀ o, o ∈ ops ++ [((7, nm', tn, dat) : OpT)] → opFew o) := ⟨fun o ho => by
          rcases List.mem_append.1 ho with h | h
          · exact HF.out o h
          · rw [List.mem_singleton.1 h]; exact ⟨HZ.out.ln, HZ.out.lt, HZ.out.ld⟩⟩
        go_roundw
        case rel => exact ⟨k + 1, _, A7, n7, c7, by go_num, by omega, rfl, by simp; omega, HF7, HO7s, HR7, HM7⟩
        case measure => simp [intOf]; omega
      · have hi1 : ((c : Int) == 252) = false := by simp only [beq_eq_false_iff_ne]; omega
        have hi2 : ((c : Int) == 251) = false := by simp only [beq_eq_false_iff_ne]; omega
        clear hj hj' hc
        go_upto_region 33 with (fail)
        clear k0 k1 k2 k3 f0 f1 HK7 HNAB
        rename Sec (OneO _ _ _ _ _ _ _ wc _ _ _ _ _ _) => HZ
        have q0 : wc.cell? ⟨b, 0, none⟩ = some (.int .i64 kd) := HZ.out.blk.cell 0
        have q1 : wc.cell? ⟨b, 1, none⟩ = some (.string ⟨nm'.toArray⟩) := HZ.out.blk.cell 1
        have q2 : wc.cell? ⟨b, 2, none⟩ = some (.string ⟨tn.toArray⟩) := HZ.out.blk.cell 2
        have q3 : wc.cell? ⟨b, 3, none⟩ = some (.slice Ad dat.length cd) := HZ.out.blk.cell 3
        obtain ⟨Fd, hFd, hFX⟩ := HZ.out.own
        have HFd := Sec.mk hFd
        have HG : Sec (∀ i, i ∈ Fd → wr.heap.size ≤ i) := ⟨fun i hi => by have := (hFX i hi).1; have := HZ.out.gb; omega⟩
        have HOW := Sec.mk (HZ.out.ops.new ((Mod.refl _ _).alloc (.cells #[.int .i64 kd, .string ⟨nm'.toArray⟩, .string ⟨tn.toArray⟩, .slice Ad dat.length cd] 39)))
        have HSZ : Sec (wr.heap.size ≤ (wc.alloc (.cells #[.int .i64 kd, .string ⟨nm'.toArray⟩, .string ⟨tn.toArray⟩, .slice Ad dat.length cd] 39)).heap.size) := ⟨by have := HZ.out.sb; have := HZ.out.gb; simp; omega⟩
        clear hFd hFX
        go_wp2_with (at_builtin; go_loud (refine wpList_appO _ rfl (.tmp 64) (.tmp 66) _ rfl Tryd.underlying28 eltOp rfl rfl HOW.out (y := (kd, nm', tn, dat)) (G := Fd) (mOp HZ.out.wk (Nat.le_trans HZ.out.ln (by decide)) (Nat.le_trans HZ.out.lt (by decide)) (HFd.out.new ((Mod.refl _ _).alloc _))) HG.out (lit_cells _ _ _ rfl) (show w.heap.size ≤ wr.heap.size from hsr) HSZ.out (show ops.length + 1 ≤ 34359738368 by omega) ?_; intro A7 n7 c7 w7 HO7 hm7; have HO7s := Sec.mk HO7; have HM7s := Sec.mk hm7; clear HO7 hm7))
        have HRW := HZ.out.rd.new ((Mod.refl _ _).alloc (.cells #[.int .i64 kd, .string ⟨nm'.toArray⟩, .string ⟨tn.toArray⟩, .slice Ad dat.length cd] 39))
        have HR7 := Sec.mk (HRW.mod HM7s.out (fun i hi => by omega) hg0)
        have HM7 := Sec.mk ((HZ.out.mod.alloc (.cells #[.int .i64 kd, .string ⟨nm'.toArray⟩, .string ⟨tn.toArray⟩, .slice Ad dat.length cd] 39)).trans HM7s.out (fun i h1 h2 => by omega))
        have HF7 : Sec (∀ o, o ∈ ops ++ [((kd, nm', tn, dat) : OpT)] → opFew o) := ⟨fun o ho => by
          rcases List.mem_append.1 ho with h | h
          · exact HF.out o h
          · rw [List.mem_singleton.1 h]; exact ⟨HZ.out.ln, HZ.out.lt, HZ.out.ld⟩⟩
        go_roundw
        case rel => exact ⟨k + 1, _, A7, n7, c7, by go_num, by omega, rfl, by simp; omega, HF7, HO7s, HR7, HM7⟩
        case measure => simp [intOf]; omega
end Go.Proofs.YtkkgighgnbbgiaaDoor
