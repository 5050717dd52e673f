/- Values of any type as the laws hold them: read, and owned in a range of blocks. The laws' marks over bytes: markByteS writes them, heldByteS finds them. Marks over lists in plain words. Rows of rows of bytes: the laws' helpers. Openers: an argument that can be read as data reads as an abstract value. The laws' helpers over bytes and over rows of bytes, by value. -/
import Derived.Test.YtciiejkfppnimaaPk1
import Derived.Test.YtciiejkfppnimaaPk2
import Derived.Deep.RegionHeld3
import Derived.Test.YtciiejkfppnimaaProg
import Derived.Test.YtciiejkfppnimaaPk0
import Derived.KernelRfl
import Derived.Deep.Slices
import Derived.ChangeArms
import Derived.ChangeSame
import Derived.RowKit3
namespace Go.Proofs.Ytciiejkfppnimaa.Mem
open Go.RowKit
set_option linter.unusedVariables false

/-- a value of these cells: a struct's, or one cell -/
def enc (str : Bool) (cs : List Value) : Value := match str with
  | true => .agg cs.toArray
  | false => cs.headD default
def RdV {α : Type} (str : Bool) (d : Ty α) (w : World) (v : Value) (x : α) : Prop := ∃ cs, v = enc str cs ∧ d.K w (· < w.heap.size) x cs
/-- all its blocks lie from lo on and below hi -/
def OwV {α : Type} (str : Bool) (d : Ty α) (w : World) (lo hi : Nat) (v : Value) (x : α) : Prop := ∃ cs F, v = enc str cs ∧ d.M w F x cs ∧ ∀ k, k ∈ F → lo ≤ k ∧ k < hi
def RetV {α : Type} (str : Bool) (d : Ty α) (w : World) (x : α) (e : Ending) (w' : World) : Prop := ∃ v, e = .returned v ∧ OwV str d w' w.heap.size w'.heap.size v x ∧ New w w'
section
variable {α : Type} {str : Bool} {d : Ty α} {w w' : World} {lo hi : Nat} {v : Value} {x : α}
theorem RdV.step (h : RdV str d w v x) (hm : New w w') : RdV str d w' v x := by
  obtain ⟨cs, rfl, hK⟩ := h
  exact ⟨cs, rfl, d.K_mod hK (fun k hk => Nat.lt_of_lt_of_le hk hm.size) (fun k hk => hm.block k hk id)⟩
theorem OwV.rd (h : OwV str d w lo hi v x) : RdV str d w v x := by
  obtain ⟨cs, F, rfl, hM, hF⟩ := h
  exact ⟨cs, rfl, d.K_mod (d.M_K hM) (fun k hk => d.M_lt hM k hk) (fun _ _ => rfl)⟩
theorem OwV.keep {S : Nat → Prop} (h : OwV str d w lo hi v x) (hm : Mod S w w') (hS : ∀ k, lo ≤ k → k < hi → ¬ S k) : OwV str d w' lo hi v x := by
  obtain ⟨cs, F, rfl, hM, hF⟩ := h
  exact ⟨cs, F, rfl, d.M_mod hM (fun k hk => hm.block k (d.M_lt hM k hk) (hS k (hF k hk).1 (hF k hk).2)), hF⟩
theorem OwV.step (h : OwV str d w lo hi v x) (hm : New w w') : OwV str d w' lo hi v x := h.keep hm fun _ _ _ h => h
end
/-! slices -/
theorem RdV.slice {α : Type} {d : Ty α} {e : TypeId} {w : World} {v : Value} {xs : List α} (h : RdV false (Ty.slice e d) w v xs) : ∃ A c, v = .slice A xs.length c ∧ xs.length ≤ c ∧ Row d w (· < w.heap.size) A xs.length xs := by
  obtain ⟨cs, rfl, A, c, rfl, h1, h2, h3⟩ := h
  exact ⟨A, c, rfl, h1, h3⟩
theorem RdV.slice3 {α : Type} {d : Ty α} {e : TypeId} {w : World} {v : Value} {xs : List α} (h : RdV false (Ty.slice e d) w v xs) : ∃ A c, v = .slice A xs.length c ∧ xs.length ≤ c ∧ c ≤ 9223372036854775807 ∧ Row d w (· < w.heap.size) A xs.length xs := by
  obtain ⟨cs, rfl, A, c, rfl, h1, h2, h3⟩ := h
  exact ⟨A, c, rfl, h1, h2, h3⟩
theorem OwV.slice {α : Type} {d : Ty α} {e : TypeId} {w : World} {lo hi : Nat} {v : Value} {xs : List α} (h : OwV false (Ty.slice e d) w lo hi v xs) : ∃ A c F, v = .slice A xs.length c ∧ Own d e w F v xs ∧ ∀ k, k ∈ F → lo ≤ k ∧ k < hi := by
  obtain ⟨cs, F, rfl, ⟨v', rfl, h⟩, hF⟩ := h
  obtain ⟨A, c, rfl, _⟩ := h.form
  exact ⟨A, c, F, rfl, h, hF⟩
theorem OwV.of_slice {α : Type} {d : Ty α} {e : TypeId} {w : World} {lo hi : Nat} {v : Value} {xs : List α} {F : List Nat} (h : Own d e w F v xs) (hF : ∀ k, k ∈ F → lo ≤ k ∧ k < hi) : OwV false (Ty.slice e d) w lo hi v xs := ⟨[v], F, rfl, ⟨v, rfl, h⟩, hF⟩
theorem RetOwn.toV {α : Type} {d : Ty α} {t : TypeId} {w w' : World} {xs : List α} {e : Ending} (h : RetOwn d t w xs e w') : RetV false (Ty.slice t d) w xs e w' := by
  obtain ⟨A, c, F, rfl, ho, hF, hm⟩ := h
  exact ⟨_, rfl, OwV.of_slice ho fun k hk => ⟨hF k hk, ho.lt k hk⟩, hm⟩
theorem RdV.of_row {α : Type} {d : Ty α} {e : TypeId} {w : World} {A : Option Addr} {c : Nat} {xs : List α} (h : Row d w (· < w.heap.size) A xs.length xs) (hc : xs.length ≤ c) (hm : c ≤ 9223372036854775807) : RdV false (Ty.slice e d) w (.slice A xs.length c) xs := ⟨_, rfl, A, c, rfl, hc, hm, h⟩
/-- owned with these blocks -/
def OwF {α : Type} (str : Bool) (d : Ty α) (w : World) (F : List Nat) (v : Value) (x : α) : Prop := ∃ cs, v = enc str cs ∧ d.M w F x cs
/-- what a function that marks comes to -/
def Marks {α : Type} (str : Bool) (d : Ty α) (w : World) (F : List Nat) (v : Value) (k : Nat) (y : α) (e : Ending) (w' : World) : Prop :=
  e = .returned (.int .i64 (k : Int)) ∧ (∃ F', OwF str d w' F' v y ∧ ∀ i, i ∈ F' → i ∈ F) ∧ Mod (· ∈ F) w w'
theorem OwV.mark {α : Type} {str : Bool} {d : Ty α} {w : World} {lo hi : Nat} {v : Value} {x y : α} {P : Program} {f : Nat} {args : Array Value} {k : Nat}
    (hc : ∀ F, OwF str d w F v x → Calls P f args w (Marks str d w F v k y)) (h : OwV str d w lo hi v x) :
    Calls P f args w fun e w' => e = .returned (.int .i64 (k : Int)) ∧ OwV str d w' lo hi v y ∧ Mod (fun i => lo ≤ i ∧ i < hi) w w' := by
  obtain ⟨cs, F, rfl, hM, hF⟩ := h
  refine (hc F ⟨cs, rfl, hM⟩).mono ?_
  rintro e w' ⟨rfl, ⟨F', ⟨cs', hv, hM'⟩, hF'⟩, hm⟩
  exact ⟨rfl, ⟨cs', F', hv, hM', fun i hi => hF i (hF' i hi)⟩, hm.mono fun i _ hi => hF i hi⟩
theorem OwF.slice {α : Type} {d : Ty α} {e : TypeId} {w : World} {F : List Nat} {v : Value} {xs : List α} (h : OwF false (Ty.slice e d) w F v xs) : ∃ A c, v = .slice A xs.length c ∧ Own d e w F v xs := by
  obtain ⟨cs, rfl, v', rfl, h⟩ := h
  obtain ⟨A, c, rfl, _⟩ := h.form
  exact ⟨A, c, rfl, h⟩
theorem OwF.of_slice {α : Type} {d : Ty α} {e : TypeId} {w : World} {F : List Nat} {v : Value} {xs : List α} (h : Own d e w F v xs) : OwF false (Ty.slice e d) w F v xs := ⟨[v], rfl, v, rfl, h⟩
end Go.Proofs.Ytciiejkfppnimaa.Mem

namespace Go.Proofs.Ytciiejkfppnimaa
open Go.RowKit Mem
set_option linter.unusedVariables false

def mkB (k n : Nat) : Bytes := (List.range n).map fun i => UInt8.ofNat (k + i)
theorem mkB_len (k n : Nat) : (mkB k n).length = n := by simp [mkB]
theorem mkB_at (k n i : Nat) (h : i < (mkB k n).length) : (mkB k n)[i] = UInt8.ofNat (k + i) := by simp [mkB]
theorem set_len {α : Type} (l : List α) (i : Nat) (x : α) : (l.set i x).length = l.length := List.length_set
theorem u8_of (m : Nat) : ((UInt8.ofNat m).toNat : Int) = IntKind.u8.wrap (m : Int) := by
  rw [IntKind.wrap_u8, UInt8.toNat_ofNat']; omega

set_option maxHeartbeats 400000 in
theorem markByteS_calls {A : Option Addr} {c : Nat} {xs : Bytes} {F : List Nat} {w : World} (h : Own Ty.byte 5 w F (.slice A xs.length c) xs) (k : Nat) (hk : k + xs.length ≤ 1152921504606846976) :
    Calls Try.prog 17 #[.slice A xs.length c, .int .i64 k] w fun e w' => e = .returned (.int .i64 ((k + xs.length : Nat) : Int)) ∧ ∃ F', Own Ty.byte 5 w' F' (.slice A (mkB k xs.length).length c) (mkB k xs.length) ∧ (∀ i, i ∈ F' → i ∈ F) ∧ Mod (· ∈ F) w w' := by
  have HO := Sec.mk h
  clear h
  go_enter Try.func17, Try.ntmps17
  go_wp2
  go_loopw [1, 5] (fun q i wr => ∃ (j : Nat) (ys : Bytes) (G : List Nat), j ≤ xs.length ∧ i = .int .i64 j ∧ q = .int .i64 ((k + j : Nat) : Int) ∧ Sec (ys.length = xs.length) ∧ Sec (ys.take j = (mkB k xs.length).take j) ∧ Sec (Own Ty.byte 5 wr G (.slice A xs.length c) ys) ∧ Sec (∀ k, k ∈ G → k ∈ F) ∧ Sec (Mod (· ∈ F) w wr)) (fun _ i _ => xs.length - (intOf i).toNat)
  case atStart => exact ⟨0, xs, F, Nat.zero_le _, rfl, rfl, ⟨rfl⟩, ⟨by simp⟩, HO, ⟨fun _ h => h⟩, ⟨Mod.refl _ _⟩⟩
  case round =>
    obtain ⟨j, ys, G, hj, rfl, rfl, HL, HT, HO, HF, HM⟩ := hrel
    by_cases hlt : j < xs.length
    · obtain ⟨g, rfl, hgF, hc0, hfz0, hst⟩ := HO.out.byte_elem (j := j) (by rw [HL.out]; exact hlt)
      obtain ⟨G', ho', hG'⟩ := hst (UInt8.ofNat (k + j))
      have HU := Sec.mk (u8_of (k + j))
      have HO' := Sec.mk ho'
      have HG' := Sec.mk hG'
      have HgF := Sec.mk hgF
      clear hst ho' hG' hgF
      go_wp2
      go_roundw
      case rel =>
        refine ⟨j + 1, _, G', by omega, by go_num, by go_num, ⟨(set_len ys j (UInt8.ofNat (k + j))).trans HL.out⟩, ⟨?_⟩, ⟨?_⟩, ⟨fun i hi => HF.out i (HG'.out i hi)⟩, ⟨?_⟩⟩
        · have := set_prefix (mkB k xs.length) ys j (by rw [mkB_len]; exact hlt) (by rw [mkB_len]; exact HL.out) HT.out
          rwa [mkB_at] at this
        · have := HO'.out
          rw [HU.out, IntKind.wrap_u8, Int.natCast_add] at this
          exact this
        · exact HM.out.setCell (fun _ => HF.out _ HgF.out) _
      case measure => simp [intOf]; omega
    · obtain rfl : j = xs.length := by omega
      go_wp2
      go_ret
      have he : ys = mkB k xs.length := by
        have h1 := HT.out
        rw [List.take_of_length_le (by rw [HL.out]; omega), List.take_of_length_le (by rw [mkB_len]; omega)] at h1
        exact h1
      refine ⟨by simp, G, ?_, HF.out, HM.out⟩
      rw [mkB_len, ← he]
      exact HO.out

set_option maxHeartbeats 400000 in
theorem heldByteS_calls {A : Option Addr} {c : Nat} {xs : Bytes} {B : Nat → Prop} {w : World} (h : Row Ty.byte w B A xs.length xs) (k : Nat) (hx : xs = mkB k xs.length) (hk : k + xs.length ≤ 1152921504606846976) :
    Calls Try.prog 38 #[.slice A xs.length c, .int .i64 k] w (Ret (.int .i64 ((k + xs.length : Nat) : Int)) w) := by
  have HR := Sec.mk h
  have HX := Sec.mk hx
  clear h hx
  go_enter Try.func38, Try.ntmps38
  go_wp2
  go_loopw [1, 5] (fun q i wr => ∃ (j : Nat), j ≤ xs.length ∧ i = .int .i64 j ∧ q = .int .i64 ((k + j : Nat) : Int) ∧ wr = w) (fun _ i _ => xs.length - (intOf i).toNat)
  case atStart => exact ⟨0, Nat.zero_le _, rfl, rfl, rfl⟩
  case round =>
    obtain ⟨j, hj, rfl, rfl, rfl⟩ := hrel
    by_cases hlt : j < xs.length
    · obtain ⟨ad, rfl, hx⟩ := HR.out.byte_at (fun i hi => rfl) hlt
      have hv : xs[j] = UInt8.ofNat (k + j) := by
        have := mkB_at k xs.length j (by rw [mkB_len]; exact hlt)
        rw [← this]; congr 1; exact HX.out
      rw [hv, u8_of] at hx
      clear hv
      go_wp2
      go_roundw
      case rel => exact ⟨j + 1, by omega, by go_num, by go_num, trivial⟩
      case measure => simp [intOf]; omega
    · obtain rfl : j = xs.length := by omega
      go_wp2
      go_ret
      exact ⟨by simp, Mod.refl _ _⟩
end Go.Proofs.Ytciiejkfppnimaa

namespace Go.Proofs.Ytciiejkfppnimaa
section
variable {α : Type}
def preS (cnt : α → Nat) (xs : List α) (i : Nat) : Nat := ((xs.take i).map cnt).sum
def markL (mk : Nat → α → α) (cnt : α → Nat) (k : Nat) (xs : List α) : List α := xs.mapIdx fun i x => mk (k + preS cnt xs i) x
theorem preS_zero (cnt : α → Nat) (xs : List α) : preS cnt xs 0 = 0 := by simp [preS]
theorem preS_succ (cnt : α → Nat) (xs : List α) {i : Nat} (h : i < xs.length) : preS cnt xs (i + 1) = preS cnt xs i + cnt xs[i] := by
  unfold preS
  rw [List.take_succ_eq_append_getElem h, List.map_append, List.sum_append]
  simp
theorem preS_mono (cnt : α → Nat) (xs : List α) : ∀ {i j : Nat}, i ≤ j → preS cnt xs i ≤ preS cnt xs j := by
  intro i j hij
  unfold preS
  have : xs.take j = xs.take i ++ (xs.drop i).take (j - i) := by
    rw [← List.take_append_drop i (xs.take j), List.take_take, Nat.min_eq_left hij, List.drop_take]
  rw [this, List.map_append, List.sum_append]; omega
theorem preS_le (cnt : α → Nat) (xs : List α) (i : Nat) : preS cnt xs i ≤ preS cnt xs xs.length := by
  rcases Nat.le_total i xs.length with h | h
  · exact preS_mono cnt xs h
  · unfold preS; rw [List.take_of_length_le h, List.take_length]; omega
theorem markL_len (mk : Nat → α → α) (cnt : α → Nat) (k : Nat) (xs : List α) : (markL mk cnt k xs).length = xs.length := by simp [markL]
theorem markL_at (mk : Nat → α → α) (cnt : α → Nat) (k : Nat) (xs : List α) {i : Nat} (h : i < (markL mk cnt k xs).length) : (markL mk cnt k xs)[i] = mk (k + preS cnt xs i) (xs[i]'(by simpa [markL] using h)) := by simp [markL]
/-- one more element marked -/
theorem take_drop_set {zs xs : List α} (hl : zs.length = xs.length) {j : Nat} (h : j < xs.length) : (zs.take j ++ xs.drop j).set j (zs[j]'(by omega)) = zs.take (j + 1) ++ xs.drop (j + 1) := by
  rw [List.set_append_right _ _ (by rw [List.length_take]; omega), List.length_take, Nat.min_eq_left (by omega), Nat.sub_self, List.drop_eq_getElem_cons h, List.set_cons_zero, List.take_succ_eq_append_getElem (show j < zs.length by omega), List.append_assoc]
  rfl
theorem take_drop_at {zs xs : List α} (hl : zs.length = xs.length) {j : Nat} (h : j < xs.length) (h' : j < (zs.take j ++ xs.drop j).length) : (zs.take j ++ xs.drop j)[j] = xs[j] := by
  rw [List.getElem_append_right (by rw [List.length_take]; omega)]
  simp [List.length_take, Nat.min_eq_left (show j ≤ zs.length by omega)]
theorem take_drop_len {zs xs : List α} (hl : zs.length = xs.length) (j : Nat) : (zs.take j ++ xs.drop j).length = xs.length := by
  rw [List.length_append, List.length_take, List.length_drop]; omega
theorem preS_mark (mk : Nat → α → α) (cnt : α → Nat) (hc : ∀ k x, cnt (mk k x) = cnt x) (k : Nat) (xs : List α) (i : Nat) : preS cnt (markL mk cnt k xs) i = preS cnt xs i := by
  unfold preS
  congr 1
  apply List.ext_getElem (by simp [markL])
  intro j h1 h2
  simp [markL, hc]
theorem markL_idem (mk : Nat → α → α) (cnt : α → Nat) (hc : ∀ k x, cnt (mk k x) = cnt x) (hm : ∀ k k' x, mk k' (mk k x) = mk k' x) (k k' : Nat) (xs : List α) : markL mk cnt k' (markL mk cnt k xs) = markL mk cnt k' xs := by
  apply List.ext_getElem (by simp [markL])
  intro j h1 h2
  rw [markL_at, markL_at, markL_at, preS_mark mk cnt hc, hm]
end
end Go.Proofs.Ytciiejkfppnimaa

namespace Go.Proofs.Ytciiejkfppnimaa
open Go.RowKit Mem
set_option linter.unusedVariables false

def tB : Ty Bytes := Ty.slice 5 Ty.byte
theorem elt_b : Elt Try.prog 22 tB.sz (.slice none 0 0) := Elt.of (b := 24) (by kernel_rfl) rfl (by decide) (by decide)
theorem bss_at {w w' : World} {B : Nat → Prop} {A : Option Addr} {n : Nat} {xs : List Bytes} (h : Row tB w B A n xs) (hb : ∀ k, B k → w'.heap[k]? = w.heap[k]?) {k : Nat} (hk : k < xs.length) :
    ∃ ad A' c', A = some ad ∧ w'.cell? (ad.add k) = some (.slice A' xs[k].length c') ∧ xs[k].length ≤ c' ∧ Row Ty.byte w' B A' xs[k].length xs[k] := by
  obtain ⟨ad, c, rfl, ⟨A', c', rfl, h1, h2, h3⟩, h0, _⟩ := h.cells_at hb hk
  have := h0 _ rfl
  rw [show k * tB.sz = k from by show k * 1 = k; omega] at this
  exact ⟨ad, A', c', rfl, this, h1, h3.mod (fun _ h => h) hb⟩





















































def szB (xs : List Bytes) : Nat := xs.length + preS List.length xs xs.length











































































theorem eqByteS_as (r : Bool) {A A' : Option Addr} {c c' n n' : Nat} {xs ys : Bytes} {B : Nat → Prop} {w : World} (h : Sec (Row Ty.byte w B A n xs)) (h' : Sec (Row Ty.byte w B A' n' ys)) (hB : Sec (∀ k, B k → k < w.heap.size)) (hr : Sec (decide (xs = ys) = r)) :
    Calls Try.prog 16 #[.slice A n c, .slice A' n' c'] w (Ret (.bool r) w) := by
  obtain rfl := h.out.1
  obtain rfl := h'.out.1
  rw [← hr.out]; exact eqByteS_calls h.out h'.out hB.out















































































def mkBS (k : Nat) (xs : List Bytes) : List Bytes := markL (fun k x => mkB k x.length) List.length k xs
theorem mkBS_len (k : Nat) (xs : List Bytes) : (mkBS k xs).length = xs.length := markL_len _ _ _ _
theorem mkBS_at (k : Nat) (xs : List Bytes) {i : Nat} (h : i < (mkBS k xs).length) : (mkBS k xs)[i] = mkB (k + preS List.length xs i) (xs[i]'(by rw [mkBS_len] at h; exact h)).length := markL_at _ _ _ _ _
theorem mkBS_pre (k : Nat) (xs : List Bytes) (i : Nat) : preS List.length (mkBS k xs) i = preS List.length xs i := preS_mark _ _ (fun k x => mkB_len _ _) _ _ _
theorem mkBS_idem (k k' : Nat) (xs : List Bytes) : mkBS k' (mkBS k xs) = mkBS k' xs := markL_idem _ _ (fun k x => mkB_len _ _) (fun k k' x => by simp [mkB_len]) _ _ _









































































































end Go.Proofs.Ytciiejkfppnimaa

namespace Go.Proofs.Ytciiejkfppnimaa.Mem
open Go.RowKit Go.Deep
set_option linter.unusedVariables false

theorem wf_wrap {k : IntKind} {n : Int} (h : (Lit.int k n).wf = true) : k.wrap n = n := by
  simp only [Lit.wf, Bool.and_eq_true, decide_eq_true_eq] at h
  cases k <;> simp [IntKind.wrap, IntKind.bits, IntKind.signed, IntKind.min, IntKind.max] at h ⊢ <;> (try split) <;> omega

def Opens {α : Type} (P : Program) (d : Ty α) (t : TypeId) : Prop :=
  P.cellsOf t = d.sz ∧ 0 < d.sz ∧ ∀ {H : Type} (enc : TypeId × Value → H) (w : World) (base : Nat) (spare : Nat → Bool) (held : Bool) (fuel : Nat) (cs : List Value) (x : DataW H × List MemPlace),
    DataW.trod enc P w base spare held fuel t cs = some x → ∃ a, d.K w (· < w.heap.size) a cs

theorem Opens.int {P : Program} {t : TypeId} {k : IntKind} (ht : P.underlying t = some (.int k)) (hc : P.cellsOf t = 1) : Opens P (Ty.int k) t :=
  ⟨hc, Nat.one_pos, fun enc w base spare held fuel cs x h => by
    obtain ⟨n, rfl, _, hw⟩ := DataW.trod_int ht h
    exact ⟨n, rfl, wf_wrap hw⟩⟩
theorem Opens.byte {P : Program} {t : TypeId} (ht : P.underlying t = some (.int .u8)) (hc : P.cellsOf t = 1) : Opens P Ty.byte t :=
  ⟨hc, Nat.one_pos, fun enc w base spare held fuel cs x h => by
    obtain ⟨n, rfl, _, hw⟩ := DataW.trod_int ht h
    have h1 := wf_wrap hw
    rw [IntKind.wrap_u8] at h1
    refine ⟨UInt8.ofNat n.toNat, ?_⟩
    show [_] = [Value.int .u8 _]
    rw [UInt8.toNat_ofNat']
    congr 2
    omega⟩
theorem Opens.bool {P : Program} {t : TypeId} (ht : P.underlying t = some .bool) (hc : P.cellsOf t = 1) : Opens P Ty.bool t :=
  ⟨hc, Nat.one_pos, fun enc w base spare held fuel cs x h => by
    obtain ⟨n, rfl, _⟩ := DataW.trod_bool ht h
    exact ⟨n, rfl⟩⟩
theorem Opens.string {P : Program} {t : TypeId} (ht : P.underlying t = some .string) (hc : P.cellsOf t = 1) : Opens P Ty.string t :=
  ⟨hc, Nat.one_pos, fun enc w base spare held fuel cs x h => by
    obtain ⟨n, rfl, _, _⟩ := DataW.trod_string ht h
    exact ⟨n, rfl⟩⟩
theorem Opens.slice {α : Type} {P : Program} {t e : TypeId} {d : Ty α} (ht : P.underlying t = some (.slice e)) (hc : P.cellsOf t = 1) (hd : Opens P d e) : Opens P (Ty.slice e d) t :=
  ⟨hc, Nat.one_pos, fun enc w base spare held fuel cs x h => by
    obtain ⟨h1, h2, h3⟩ := hd
    rcases open_slice ht h with ⟨rfl, _⟩ | ⟨a, len, cap, m, n, D, Pl, rfl, hb, hl, hm, hmm, _, hi⟩
    · exact ⟨[], none, 0, rfl, by simp, by omega, Row.none_ _ _ _ _⟩
    · have hlm : len ≤ m := by rw [hmm]; split <;> omega
      have key : ∀ k, k ≤ len → ∃ xs : List α, xs.length = k ∧ ∀ j y, xs[j]? = some y → ∃ c, d.K w (· < w.heap.size) y c ∧ ∀ i u, c[i]? = some u → w.cell? (a.add (j * d.sz + i)) = some u := by
        intro k
        induction k with
        | zero => intro _; exact ⟨[], rfl, fun j y hj => by simp at hj⟩
        | succ k ih =>
          intro hk
          obtain ⟨xs, hxl, hx⟩ := ih (by omega)
          obtain ⟨cs', hcs, htr⟩ := hi k (by omega)
          rw [h1] at hcs
          obtain ⟨_, hcl, hat⟩ := World.cells?_some hcs
          obtain ⟨y, hy⟩ := h3 enc w base spare held n cs' _ htr
          refine ⟨xs ++ [y], by simp [hxl], fun j z hj => ?_⟩
          rcases Nat.lt_or_ge j xs.length with hlt | hge
          · rw [List.getElem?_append_left hlt] at hj; exact hx j z hj
          · rw [List.getElem?_append_right hge] at hj
            have hj0 : j - xs.length = 0 := by
              have := (List.getElem?_eq_some_iff.1 hj).1
              simp at this; omega
            rw [hj0] at hj
            obtain rfl : y = z := by simpa using hj
            refine ⟨cs', hy, fun i u hu => ?_⟩
            have hlt : i < d.sz := by rw [← hcl]; exact (List.getElem?_eq_some_iff.1 hu).1
            rw [show j = k by omega, ← add_add, hat i hlt]
            exact hu
      obtain ⟨xs, hxl, hx⟩ := key len (Nat.le_refl _)
      refine ⟨xs, some a, cap, by rw [hxl], by omega, by unfold maxLen at hm; omega, rfl, by unfold maxLen at hm; omega, fun hn => ⟨a, rfl, ?_, hx⟩⟩
      obtain ⟨c, hK, hc'⟩ := hx 0 xs[0] (List.getElem?_eq_getElem (by omega))
      have hcl := d.K_len hK
      have := World.block_lt_of_cell? w _ (hc' 0 c[0] (List.getElem?_eq_getElem (by omega)))
      rwa [add_block] at this⟩
/-- the fields of a struct from a place on -/
def OpensF {α : Type} (P : Program) (d : Ty α) (fs : List Field) (off : Nat) : Prop :=
  0 < d.sz ∧ ∀ {H : Type} (enc : TypeId × Value → H) (w : World) (base : Nat) (spare : Nat → Bool) (held : Bool) (n : Nat) (cs : List Value), cs.length = off + d.sz →
    (∀ (i : Nat) (f : Field), fs[i]? = some f → ∃ y, DataW.trod enc P w base spare held n f.type ((cs.drop f.offset).take (P.cellsOf f.type)) = some y) → ∃ a, d.K w (· < w.heap.size) a (cs.drop off)
theorem OpensF.last {α : Type} {P : Program} {d : Ty α} {f : Field} {off : Nat} (ho : f.offset = off) (hd : Opens P d f.type) : OpensF P d [f] off :=
  ⟨hd.2.1, fun enc w base spare held n cs hl h => by
    obtain ⟨y, hy⟩ := h 0 f rfl
    rw [ho, hd.1, List.take_of_length_le (by rw [List.length_drop]; omega)] at hy
    exact hd.2.2 enc w base spare held n _ y hy⟩
theorem OpensF.cons {α β : Type} {P : Program} {d : Ty α} {d' : Ty β} {f : Field} {fs : List Field} {off : Nat} (ho : f.offset = off) (hd : Opens P d f.type) (hr : OpensF P d' fs (off + d.sz)) : OpensF P (Ty.pair d d') (f :: fs) off :=
  ⟨by show 0 < d.sz + d'.sz; have := hd.2.1; omega, fun enc w base spare held n cs hl h => by
    have hl' : cs.length = off + (d.sz + d'.sz) := hl
    obtain ⟨y, hy⟩ := h 0 f rfl
    rw [ho, hd.1] at hy
    obtain ⟨a, ha⟩ := hd.2.2 enc w base spare held n _ y hy
    obtain ⟨b, hb⟩ := hr.2 enc w base spare held n cs (by omega) (fun i g hg => h (i + 1) g (by simpa using hg))
    refine ⟨(a, b), _, _, ?_, ha, hb⟩
    rw [← List.drop_drop, List.take_append_drop]⟩
theorem Opens.struct {α : Type} {P : Program} {t : TypeId} {fs : List Field} {d : Ty α} (ht : P.underlying t = some (.struct fs.toArray)) (hc : P.cellsOf t = d.sz) (hd : OpensF P d fs 0) : Opens P d t :=
  ⟨hc, hd.1, fun enc w base spare held fuel cs x h => by
    obtain ⟨xs, n, _, _, hl, hlen, hf⟩ := DataW.trod_struct ht h
    obtain ⟨a, ha⟩ := hd.2 enc w base spare held n cs (by omega) (fun i f hi => by
      have hi' : i < xs.length := by rw [hlen]; have := (List.getElem?_eq_some_iff.1 hi).1; simpa using this
      exact ⟨xs[i], by rw [hf i f (by simpa using hi), List.getElem?_eq_getElem hi']⟩)
    exact ⟨a, by simpa using ha⟩⟩
theorem Opens.iso {α β : Type} {P : Program} {t : TypeId} {d : Ty α} (f : β → α) (g : α → β) (hg : ∀ a, f (g a) = a) (h : Opens P d t) : Opens P (Ty.iso d f) t :=
  ⟨h.1, h.2.1, fun enc w base spare held fuel cs x hx => by
    obtain ⟨a, ha⟩ := h.2.2 enc w base spare held fuel cs x hx
    exact ⟨g a, by show d.K w _ (f (g a)) cs; rw [hg]; exact ha⟩⟩
end Go.Proofs.Ytciiejkfppnimaa.Mem
namespace Go.Proofs.Ytciiejkfppnimaa
open Mem
theorem opens_byte : Opens Try.prog Ty.byte 5 := Opens.byte Try.underlying5 (by kernel_rfl)
theorem opens_bytes : Opens Try.prog (Ty.slice 5 Ty.byte) 22 := Opens.slice Try.underlying22 (by kernel_rfl) opens_byte
end Go.Proofs.Ytciiejkfppnimaa

namespace Go.Proofs.Ytciiejkfppnimaa
open Go.RowKit Mem
set_option linter.unusedVariables false
abbrev dBS : Ty Bytes := Ty.slice 5 Ty.byte
abbrev dBSS : Ty (List Bytes) := Ty.slice 22 tB

def szBS (xs : Bytes) : Nat := xs.length
def cntBS (xs : Bytes) : Nat := xs.length
def mkBS1 (k : Nat) (xs : Bytes) : Bytes := mkB k xs.length
theorem cntBS_lt {x : Bytes} (h : szBS x ≤ 1048576) : cntBS x ≤ 1048576 := h
theorem cntBS_mk (k : Nat) (x : Bytes) : cntBS (mkBS1 k x) = cntBS x := mkB_len _ _
theorem mkBS1_idem (k k' : Nat) (x : Bytes) : mkBS1 k' (mkBS1 k x) = mkBS1 k' x := by unfold mkBS1; rw [mkB_len]






theorem toByteS_v {w : World} {v : Value} {x : Bytes} (h : RdV false dBS w v x) (hs : szBS x ≤ 1048576) : Calls Try.prog 13 #[v] w (RetV false dBS w x) := by
  obtain ⟨A, c, rfl, hc, hr⟩ := h.slice
  exact (toByteS_calls hr (fun _ h => h) (by unfold szBS at hs; omega)).mono fun _ _ h => h.toV
theorem eqByteS_v {w : World} {v v' : Value} {x x' : Bytes} (h : RdV false dBS w v x) (h' : RdV false dBS w v' x') : Calls Try.prog 16 #[v, v'] w (Ret (.bool (decide (x = x'))) w) := by
  obtain ⟨A, c, rfl, hc, hr⟩ := h.slice
  obtain ⟨A', c', rfl, hc', hr'⟩ := h'.slice
  exact eqByteS_calls hr hr' (fun _ h => h)
theorem markByteS_f {w : World} {F : List Nat} {v : Value} {x : Bytes} (h : OwF false dBS w F v x) (k : Nat) (hk : k + cntBS x ≤ 1152921504606846976) :
    Calls Try.prog 17 #[v, .int .i64 k] w (Marks false dBS w F v (k + cntBS x) (mkBS1 k x)) := by
  obtain ⟨A, c, rfl, ho⟩ := h.slice
  refine (markByteS_calls ho k hk).mono ?_
  rintro e w' ⟨rfl, F', ho', hF', hm⟩
  rw [mkB_len] at ho'
  exact ⟨rfl, ⟨F', OwF.of_slice ho', hF'⟩, hm⟩
theorem markByteS_v {w : World} {lo hi : Nat} {v : Value} {x : Bytes} (h : OwV false dBS w lo hi v x) (k : Nat) (hk : k + cntBS x ≤ 1152921504606846976) :
    Calls Try.prog 17 #[v, .int .i64 k] w fun e w' => e = .returned (.int .i64 ((k + cntBS x : Nat) : Int)) ∧ OwV false dBS w' lo hi v (mkBS1 k x) ∧ Mod (fun i => lo ≤ i ∧ i < hi) w w' :=
  h.mark fun F hF => markByteS_f hF k hk
theorem heldByteS_v {w : World} {v : Value} {x : Bytes} (h : RdV false dBS w v x) (k : Nat) (hx : x = mkBS1 k x) (hk : k + cntBS x ≤ 1152921504606846976) : Calls Try.prog 38 #[v, .int .i64 k] w (Ret (.int .i64 ((k + cntBS x : Nat) : Int)) w) := by
  obtain ⟨A, c, rfl, hc, hr⟩ := h.slice
  exact heldByteS_calls hr k hx hk

def szBSS (xs : List Bytes) : Nat := szB xs
def cntBSS (xs : List Bytes) : Nat := preS List.length xs xs.length
def mkBSS1 (k : Nat) (xs : List Bytes) : List Bytes := mkBS k xs
theorem cntBSS_mk (k : Nat) (x : List Bytes) : cntBSS (mkBSS1 k x) = cntBSS x := by unfold cntBSS mkBSS1; rw [mkBS_pre, mkBS_len]
theorem mkBSS1_idem (k k' : Nat) (x : List Bytes) : mkBSS1 k' (mkBSS1 k x) = mkBSS1 k' x := mkBS_idem _ _ _
theorem szBSS_cnt (x : List Bytes) : cntBSS x ≤ szBSS x := by unfold cntBSS szBSS szB; omega
theorem cntBSS_lt {x : List Bytes} (h : szBSS x ≤ 1048576) : cntBSS x ≤ 1048576 := Nat.le_trans (szBSS_cnt x) h
theorem szBSS_mem {x : List Bytes} {b : Bytes} (h : b ∈ x) : b.length ≤ szBSS x := by
  obtain ⟨j, hj, rfl⟩ := List.getElem_of_mem h
  have h1 := preS_succ List.length x hj
  have h2 := preS_le List.length x (j + 1)
  unfold szBSS szB; omega





































theorem opens_bss : Opens Try.prog dBSS 23 := Opens.slice Try.underlying23 (by kernel_rfl) opens_bytes

end Go.Proofs.Ytciiejkfppnimaa
