/- The laws' own helpers over bytes: toByteS copies, eqByteS compares. The laws' marks over bytes: markByteS writes them, heldByteS finds them. Rows of rows of bytes: the laws' helpers. Openers: an argument that can be read as data reads as an abstract value. The laws' helpers over bytes and over rows of bytes, by value. Marks over bytes, the number given as an integer. The laws' helpers over Node and over slices of it. Decimal numerals of the specification. The laws' marks of texts. -/
import Derived.Test.YtkkgighgnbbgiaaGreatDoorProg
import Derived.Test.YtkkgighgnbbgiaaGreatDoorPk0
import Derived.KernelRfl
import Derived.BigQuiet
import Derived.Deep.QuietTactic
import Derived.Deep.LoopGhost
import Derived.Test.YtkkgighgnbbgiaaGreatDoorPk1
import Derived.Deep.RegionHeld3
import Derived.Deep.Slices
import Derived.ChangeArms
import Derived.ChangeSame
import Derived.RowKit3
import Derived.WalkKit
import Derived.Lib.ItoaNum
namespace Go.Proofs.YtkkgighgnbbgiaaGreatDoor
open Go.RowKit Mem
set_option linter.unusedVariables false

theorem elt_byte : Elt Tryz.prog 5 1 (.int .u8 0) := Elt.of (b := 1) (by kernel_rfl) rfl (by decide) (by decide)

theorem set_prefix {α : Type} (xs ys : List α) (k : Nat) (hk : k < xs.length) (hl : ys.length = xs.length) (h : ys.take k = xs.take k) : (ys.set k xs[k]).take (k + 1) = xs.take (k + 1) := by
  rw [List.take_succ_eq_append_getElem (by rw [List.length_set]; omega), List.take_succ_eq_append_getElem hk, List.take_set_of_le (Nat.le_refl _), h]
  simp


set_option maxHeartbeats 400000 in
theorem toByteS_calls {A : Option Addr} {c : Nat} {xs : Bytes} {B : Nat → Prop} {w : World} (h : Row Ty.byte w B A xs.length xs) (hB : ∀ k, B k → k < w.heap.size) (hl : xs.length ≤ 34359738368) :
    Calls Tryz.prog 60 #[.slice A xs.length c] w (RetOwn Ty.byte 5 w xs) := by
  have HR := Sec.mk h
  clear h
  go_enter Tryz.func60, Tryz.ntmps60
  go_wp2_with (refine wpList_make _ rfl (.tmp 6) _ rfl Ty.byte 5 Tryz.underlying52 elt_byte 0 (fun _ => ⟨rfl, rfl⟩) xs.length rfl hl ?_; intro w1 ho1 hm1; have HO1 := Sec.mk ho1; have HM1 := Sec.mk hm1; clear ho1 hm1)
  go_loopw [4] (fun i wr => ∃ (k : Nat) (ys : Bytes) (F : List Nat), k ≤ xs.length ∧ i = .int .i64 k ∧ Sec (ys.length = xs.length) ∧ Sec (ys.take k = xs.take k) ∧ Sec (Own Ty.byte 5 wr F (.slice (some ⟨w.heap.size, 0, none⟩) xs.length xs.length) ys) ∧ Sec (∀ k, k ∈ F → w.heap.size ≤ k) ∧ Sec (New w wr)) (fun i _ => xs.length - (intOf i).toNat)
  case atStart => exact ⟨0, _, _, Nat.zero_le _, rfl, Sec.mk (by simp), Sec.mk (by simp), HO1, Sec.mk (by simp), HM1⟩
  case round =>
    obtain ⟨k, ys, F, hk, rfl, HL, HT, HO, HF, HM⟩ := hrel
    clear HO1 HM1
    by_cases hlt : k < xs.length
    · obtain ⟨ad, rfl, hx⟩ := HR.out.byte_at (fun i hi => HM.out.block i (hB i hi) id) hlt
      obtain ⟨g, hA, hgF, hc0, hfz0, hst⟩ := HO.out.byte_elem (j := k) (by rw [HL.out]; exact hlt)
      have hA' : w.heap.size = g := by injection hA with hA; injection hA
      subst hA'
      obtain ⟨F', ho', hF'⟩ := hst xs[k]
      have HO' := Sec.mk ho'
      have HF' := Sec.mk hF'
      clear hA hgF hst ho' hF'
      go_wp2
      go_roundw
      case rel => exact ⟨k + 1, _, F', by omega, by go_num, Sec.mk (by rw [List.length_set]; exact HL.out), Sec.mk (set_prefix xs ys k hlt HL.out HT.out), HO', Sec.mk (fun i hi => HF.out i (HF'.out i hi)), Sec.mk (HM.out.setCell (fun h => absurd h (Nat.lt_irrefl _)) _)⟩
      case measure => simp [intOf]; omega
    · go_wp2
      go_ret
      have he : ys = xs := by
        have h1 := HT.out
        rw [List.take_of_length_le (by rw [HL.out]; omega), List.take_of_length_le (by omega)] at h1
        exact h1
      subst he
      exact RetOwn.of HO.out HF.out HM.out


set_option maxHeartbeats 400000 in
theorem eqByteS_calls {A A' : Option Addr} {c c' : Nat} {xs ys : Bytes} {B : Nat → Prop} {w : World} (h : Row Ty.byte w B A xs.length xs) (h' : Row Ty.byte w B A' ys.length ys) (hB : ∀ k, B k → k < w.heap.size) :
    Calls Tryz.prog 74 #[.slice A xs.length c, .slice A' ys.length c'] w (Ret (.bool (decide (xs = ys))) w) := by
  have hl := h.2.1
  have HR := Sec.mk h
  have HR' := Sec.mk h'
  clear h h'
  by_cases hne : xs.length = ys.length
  · have hnb : ((xs.length : Int) != (ys.length : Int)) = false := by simp [hne]
    go_enter Tryz.func74, Tryz.ntmps74
    go_wp2
    go_loopw [5] (fun i wr => ∃ k : Nat, k ≤ xs.length ∧ i = .int .i64 k ∧ Sec (xs.take k = ys.take k) ∧ Sec (New w wr)) (fun i _ => xs.length - (intOf i).toNat)
    case atStart => exact ⟨0, Nat.zero_le _, rfl, Sec.mk (by simp), Sec.mk (Mod.refl _ _)⟩
    case round =>
      obtain ⟨k, hk, rfl, HT, HM⟩ := hrel
      by_cases hlt : k < xs.length
      · obtain ⟨ad, rfl, hx⟩ := HR.out.byte_at (fun i hi => HM.out.block i (hB i hi) id) hlt
        obtain ⟨ad', rfl, hx'⟩ := HR'.out.byte_at (fun i hi => HM.out.block i (hB i hi) id) (k := k) (by omega)
        go_wp2
        go_quiet (fail)
        go_wp2
        · have hxy : xs[k] ≠ ys[k] := by
            intro he
            have hb : ((xs[k].toNat : Int) != (ys[k].toNat : Int)) = true := by assumption
            rw [he] at hb; simp at hb
          go_ret
          refine ⟨?_, HM.out.drewN _⟩
          have : xs ≠ ys := fun e => hxy (by subst e; rfl)
          simp [this]
        · have hxy : xs[k] = ys[k] := by
            have hb : ((xs[k].toNat : Int) != (ys[k].toNat : Int)) = false := by assumption
            have hb' : (xs[k].toNat : Int) = (ys[k].toNat : Int) := by simpa using hb
            exact UInt8.toNat_inj.1 (by omega)
          have HXY := Sec.mk hxy
          clear hxy
          go_roundw
          case rel => exact ⟨k + 1, by omega, by go_num, Sec.mk (by rw [List.take_succ_eq_append_getElem hlt, List.take_succ_eq_append_getElem (by omega), HT.out, HXY.out]), Sec.mk (HM.out.drewN _)⟩
          case measure => simp [intOf]; omega
      · go_wp2
        go_ret
        have he : xs = ys := by
          have h1 := HT.out
          rw [List.take_of_length_le (by omega), List.take_of_length_le (by omega)] at h1
          exact h1
        exact ⟨by simp [he], HM.out⟩
  · have hnb : ((xs.length : Int) != (ys.length : Int)) = true := by simp; omega
    go_enter Tryz.func74, Tryz.ntmps74
    go_wp2
    go_ret
    exact ⟨by simp [show xs ≠ ys from fun e => hne (by rw [e])], Mod.refl _ _⟩

end Go.Proofs.YtkkgighgnbbgiaaGreatDoor

namespace Go.Proofs.YtkkgighgnbbgiaaGreatDoor
open Go.RowKit Mem
set_option linter.unusedVariables false

def mkB (k n : Nat) : Bytes := (List.range n).map fun i => UInt8.ofNat (k + i)
theorem mkB_len (k n : Nat) : (mkB k n).length = n := by simp [mkB]
theorem mkB_at (k n i : Nat) (h : i < (mkB k n).length) : (mkB k n)[i] = UInt8.ofNat (k + i) := by simp [mkB]
theorem set_len {α : Type} (l : List α) (i : Nat) (x : α) : (l.set i x).length = l.length := List.length_set
theorem u8_of (m : Nat) : ((UInt8.ofNat m).toNat : Int) = IntKind.u8.wrap (m : Int) := by
  rw [IntKind.wrap_u8, UInt8.toNat_ofNat']; omega

set_option maxHeartbeats 400000 in
theorem markByteS_calls {A : Option Addr} {c : Nat} {xs : Bytes} {F : List Nat} {w : World} (h : Own Ty.byte 5 w F (.slice A xs.length c) xs) (k : Nat) (hk : k + xs.length ≤ 1152921504606846976) :
    Calls Tryz.prog 40 #[.slice A xs.length c, .int .i64 k] w fun e w' => e = .returned (.int .i64 ((k + xs.length : Nat) : Int)) ∧ ∃ F', Own Ty.byte 5 w' F' (.slice A (mkB k xs.length).length c) (mkB k xs.length) ∧ (∀ i, i ∈ F' → i ∈ F) ∧ Mod (· ∈ F) w w' := by
  have HO := Sec.mk h
  clear h
  go_enter Tryz.func40, Tryz.ntmps40
  go_wp2
  go_loopw [1, 5] (fun q i wr => ∃ (j : Nat) (ys : Bytes) (G : List Nat), j ≤ xs.length ∧ i = .int .i64 j ∧ q = .int .i64 ((k + j : Nat) : Int) ∧ Sec (ys.length = xs.length) ∧ Sec (ys.take j = (mkB k xs.length).take j) ∧ Sec (Own Ty.byte 5 wr G (.slice A xs.length c) ys) ∧ Sec (∀ k, k ∈ G → k ∈ F) ∧ Sec (Mod (· ∈ F) w wr)) (fun _ i _ => xs.length - (intOf i).toNat)
  case atStart => exact ⟨0, xs, F, Nat.zero_le _, rfl, rfl, ⟨rfl⟩, ⟨by simp⟩, HO, ⟨fun _ h => h⟩, ⟨Mod.refl _ _⟩⟩
  case round =>
    obtain ⟨j, ys, G, hj, rfl, rfl, HL, HT, HO, HF, HM⟩ := hrel
    by_cases hlt : j < xs.length
    · obtain ⟨g, rfl, hgF, hc0, hfz0, hst⟩ := HO.out.byte_elem (j := j) (by rw [HL.out]; exact hlt)
      obtain ⟨G', ho', hG'⟩ := hst (UInt8.ofNat (k + j))
      have HU := Sec.mk (u8_of (k + j))
      have HO' := Sec.mk ho'
      have HG' := Sec.mk hG'
      have HgF := Sec.mk hgF
      clear hst ho' hG' hgF
      go_wp2
      go_roundw
      case rel =>
        refine ⟨j + 1, _, G', by omega, by go_num, by go_num, ⟨(set_len ys j (UInt8.ofNat (k + j))).trans HL.out⟩, ⟨?_⟩, ⟨?_⟩, ⟨fun i hi => HF.out i (HG'.out i hi)⟩, ⟨?_⟩⟩
        · have := set_prefix (mkB k xs.length) ys j (by rw [mkB_len]; exact hlt) (by rw [mkB_len]; exact HL.out) HT.out
          rwa [mkB_at] at this
        · have := HO'.out
          rw [HU.out, IntKind.wrap_u8, Int.natCast_add] at this
          exact this
        · exact HM.out.setCell (fun _ => HF.out _ HgF.out) _
      case measure => simp [intOf]; omega
    · obtain rfl : j = xs.length := by omega
      go_wp2
      go_ret
      have he : ys = mkB k xs.length := by
        have h1 := HT.out
        rw [List.take_of_length_le (by rw [HL.out]; omega), List.take_of_length_le (by rw [mkB_len]; omega)] at h1
        exact h1
      refine ⟨by simp, G, ?_, HF.out, HM.out⟩
      rw [mkB_len, ← he]
      exact HO.out

set_option maxHeartbeats 400000 in
theorem heldByteS_calls {A : Option Addr} {c : Nat} {xs : Bytes} {B : Nat → Prop} {w : World} (h : Row Ty.byte w B A xs.length xs) (k : Nat) (hx : xs = mkB k xs.length) (hk : k + xs.length ≤ 1152921504606846976) :
    Calls Tryz.prog 88 #[.slice A xs.length c, .int .i64 k] w (Ret (.int .i64 ((k + xs.length : Nat) : Int)) w) := by
  have HR := Sec.mk h
  have HX := Sec.mk hx
  clear h hx
  go_enter Tryz.func88, Tryz.ntmps88
  go_wp2
  go_loopw [1, 5] (fun q i wr => ∃ (j : Nat), j ≤ xs.length ∧ i = .int .i64 j ∧ q = .int .i64 ((k + j : Nat) : Int) ∧ wr = w) (fun _ i _ => xs.length - (intOf i).toNat)
  case atStart => exact ⟨0, Nat.zero_le _, rfl, rfl, rfl⟩
  case round =>
    obtain ⟨j, hj, rfl, rfl, rfl⟩ := hrel
    by_cases hlt : j < xs.length
    · obtain ⟨ad, rfl, hx⟩ := HR.out.byte_at (fun i hi => rfl) hlt
      have hv : xs[j] = UInt8.ofNat (k + j) := by
        have := mkB_at k xs.length j (by rw [mkB_len]; exact hlt)
        rw [← this]; congr 1; exact HX.out
      rw [hv, u8_of] at hx
      clear hv
      go_wp2
      go_roundw
      case rel => exact ⟨j + 1, by omega, by go_num, by go_num, trivial⟩
      case measure => simp [intOf]; omega
    · obtain rfl : j = xs.length := by omega
      go_wp2
      go_ret
      exact ⟨by simp, Mod.refl _ _⟩
end Go.Proofs.YtkkgighgnbbgiaaGreatDoor

namespace Go.Proofs.YtkkgighgnbbgiaaGreatDoor
open Go.RowKit Mem
set_option linter.unusedVariables false

def tB : Ty Bytes := Ty.slice 5 Ty.byte
theorem elt_b : Elt Tryz.prog 52 tB.sz (.slice none 0 0) := Elt.of (b := 24) (by kernel_rfl) rfl (by decide) (by decide)
theorem bss_at {w w' : World} {B : Nat → Prop} {A : Option Addr} {n : Nat} {xs : List Bytes} (h : Row tB w B A n xs) (hb : ∀ k, B k → w'.heap[k]? = w.heap[k]?) {k : Nat} (hk : k < xs.length) :
    ∃ ad A' c', A = some ad ∧ w'.cell? (ad.add k) = some (.slice A' xs[k].length c') ∧ xs[k].length ≤ c' ∧ Row Ty.byte w' B A' xs[k].length xs[k] := by
  obtain ⟨ad, c, rfl, ⟨A', c', rfl, h1, h2, h3⟩, h0, _⟩ := h.cells_at hb hk
  have := h0 _ rfl
  rw [show k * tB.sz = k from by show k * 1 = k; omega] at this
  exact ⟨ad, A', c', rfl, this, h1, h3.mod (fun _ h => h) hb⟩





















































def szB (xs : List Bytes) : Nat := xs.length + preS List.length xs xs.length

set_option maxHeartbeats 400000 in
theorem szByteS_calls {A : Option Addr} {c n : Nat} {w : World} (left : Int) (h0 : 0 ≤ left) (h1 : left ≤ 1048576) (hn : n ≤ 9223372036854775807) :
    Calls Tryz.prog 45 #[.slice A n c, .int .i64 left] w (fun e w' => e = .returned (.int .i64 (if left < n then -1 else left - n)) ∧ w' = w) := by
  by_cases hlt : left < n
  · go_enter Tryz.func45, Tryz.ntmps45
    go_wp2
    go_ret
    exact ⟨by simp, rfl⟩
  · go_enter Tryz.func45, Tryz.ntmps45
    go_wp2
    go_ret
    exact ⟨by simp, rfl⟩






























































theorem eqByteS_as (r : Bool) {A A' : Option Addr} {c c' n n' : Nat} {xs ys : Bytes} {B : Nat → Prop} {w : World} (h : Sec (Row Ty.byte w B A n xs)) (h' : Sec (Row Ty.byte w B A' n' ys)) (hB : Sec (∀ k, B k → k < w.heap.size)) (hr : Sec (decide (xs = ys) = r)) :
    Calls Tryz.prog 74 #[.slice A n c, .slice A' n' c'] w (Ret (.bool r) w) := by
  obtain rfl := h.out.1
  obtain rfl := h'.out.1
  rw [← hr.out]; exact eqByteS_calls h.out h'.out hB.out















































































def mkBS (k : Nat) (xs : List Bytes) : List Bytes := markL (fun k x => mkB k x.length) List.length k xs
theorem mkBS_len (k : Nat) (xs : List Bytes) : (mkBS k xs).length = xs.length := markL_len _ _ _ _
theorem mkBS_at (k : Nat) (xs : List Bytes) {i : Nat} (h : i < (mkBS k xs).length) : (mkBS k xs)[i] = mkB (k + preS List.length xs i) (xs[i]'(by rw [mkBS_len] at h; exact h)).length := markL_at _ _ _ _ _
theorem mkBS_pre (k : Nat) (xs : List Bytes) (i : Nat) : preS List.length (mkBS k xs) i = preS List.length xs i := preS_mark _ _ (fun k x => mkB_len _ _) _ _ _
theorem mkBS_idem (k k' : Nat) (xs : List Bytes) : mkBS k' (mkBS k xs) = mkBS k' xs := markL_idem _ _ (fun k x => mkB_len _ _) (fun k k' x => by simp [mkB_len]) _ _ _









































































































end Go.Proofs.YtkkgighgnbbgiaaGreatDoor

namespace Go.Proofs.YtkkgighgnbbgiaaGreatDoor.Mem
open Go.RowKit Go.Deep
set_option linter.unusedVariables false

theorem wf_wrap {k : IntKind} {n : Int} (h : (Lit.int k n).wf = true) : k.wrap n = n := by
  simp only [Lit.wf, Bool.and_eq_true, decide_eq_true_eq] at h
  cases k <;> simp [IntKind.wrap, IntKind.bits, IntKind.signed, IntKind.min, IntKind.max] at h ⊢ <;> (try split) <;> omega

def Opens {α : Type} (P : Program) (d : Ty α) (t : TypeId) : Prop :=
  P.cellsOf t = d.sz ∧ 0 < d.sz ∧ ∀ {H : Type} (enc : TypeId × Value → H) (w : World) (base : Nat) (spare : Nat → Bool) (held : Bool) (fuel : Nat) (cs : List Value) (x : DataW H × List MemPlace),
    DataW.trod enc P w base spare held fuel t cs = some x → ∃ a, d.K w (· < w.heap.size) a cs

theorem Opens.int {P : Program} {t : TypeId} {k : IntKind} (ht : P.underlying t = some (.int k)) (hc : P.cellsOf t = 1) : Opens P (Ty.int k) t :=
  ⟨hc, Nat.one_pos, fun enc w base spare held fuel cs x h => by
    obtain ⟨n, rfl, _, hw⟩ := DataW.trod_int ht h
    exact ⟨n, rfl, wf_wrap hw⟩⟩
theorem Opens.byte {P : Program} {t : TypeId} (ht : P.underlying t = some (.int .u8)) (hc : P.cellsOf t = 1) : Opens P Ty.byte t :=
  ⟨hc, Nat.one_pos, fun enc w base spare held fuel cs x h => by
    obtain ⟨n, rfl, _, hw⟩ := DataW.trod_int ht h
    have h1 := wf_wrap hw
    rw [IntKind.wrap_u8] at h1
    refine ⟨UInt8.ofNat n.toNat, ?_⟩
    show [_] = [Value.int .u8 _]
    rw [UInt8.toNat_ofNat']
    congr 2
    omega⟩
theorem Opens.bool {P : Program} {t : TypeId} (ht : P.underlying t = some .bool) (hc : P.cellsOf t = 1) : Opens P Ty.bool t :=
  ⟨hc, Nat.one_pos, fun enc w base spare held fuel cs x h => by
    obtain ⟨n, rfl, _⟩ := DataW.trod_bool ht h
    exact ⟨n, rfl⟩⟩
theorem Opens.string {P : Program} {t : TypeId} (ht : P.underlying t = some .string) (hc : P.cellsOf t = 1) : Opens P Ty.string t :=
  ⟨hc, Nat.one_pos, fun enc w base spare held fuel cs x h => by
    obtain ⟨n, rfl, _, _⟩ := DataW.trod_string ht h
    exact ⟨n, rfl⟩⟩
theorem Opens.slice {α : Type} {P : Program} {t e : TypeId} {d : Ty α} (ht : P.underlying t = some (.slice e)) (hc : P.cellsOf t = 1) (hd : Opens P d e) : Opens P (Ty.slice e d) t :=
  ⟨hc, Nat.one_pos, fun enc w base spare held fuel cs x h => by
    obtain ⟨h1, h2, h3⟩ := hd
    rcases open_slice ht h with ⟨rfl, _⟩ | ⟨a, len, cap, m, n, D, Pl, rfl, hb, hl, hm, hmm, _, hi⟩
    · exact ⟨[], none, 0, rfl, by simp, by omega, Row.none_ _ _ _ _⟩
    · have hlm : len ≤ m := by rw [hmm]; split <;> omega
      have key : ∀ k, k ≤ len → ∃ xs : List α, xs.length = k ∧ ∀ j y, xs[j]? = some y → ∃ c, d.K w (· < w.heap.size) y c ∧ ∀ i u, c[i]? = some u → w.cell? (a.add (j * d.sz + i)) = some u := by
        intro k
        induction k with
        | zero => intro _; exact ⟨[], rfl, fun j y hj => by simp at hj⟩
        | succ k ih =>
          intro hk
          obtain ⟨xs, hxl, hx⟩ := ih (by omega)
          obtain ⟨cs', hcs, htr⟩ := hi k (by omega)
          rw [h1] at hcs
          obtain ⟨_, hcl, hat⟩ := World.cells?_some hcs
          obtain ⟨y, hy⟩ := h3 enc w base spare held n cs' _ htr
          refine ⟨xs ++ [y], by simp [hxl], fun j z hj => ?_⟩
          rcases Nat.lt_or_ge j xs.length with hlt | hge
          · rw [List.getElem?_append_left hlt] at hj; exact hx j z hj
          · rw [List.getElem?_append_right hge] at hj
            have hj0 : j - xs.length = 0 := by
              have := (List.getElem?_eq_some_iff.1 hj).1
              simp at this; omega
            rw [hj0] at hj
            obtain rfl : y = z := by simpa using hj
            refine ⟨cs', hy, fun i u hu => ?_⟩
            have hlt : i < d.sz := by rw [← hcl]; exact (List.getElem?_eq_some_iff.1 hu).1
            rw [show j = k by omega, ← add_add, hat i hlt]
            exact hu
      obtain ⟨xs, hxl, hx⟩ := key len (Nat.le_refl _)
      refine ⟨xs, some a, cap, by rw [hxl], by omega, by unfold maxLen at hm; omega, rfl, by unfold maxLen at hm; omega, fun hn => ⟨a, rfl, ?_, hx⟩⟩
      obtain ⟨c, hK, hc'⟩ := hx 0 xs[0] (List.getElem?_eq_getElem (by omega))
      have hcl := d.K_len hK
      have := World.block_lt_of_cell? w _ (hc' 0 c[0] (List.getElem?_eq_getElem (by omega)))
      rwa [add_block] at this⟩
/-- the fields of a struct from a place on -/
def OpensF {α : Type} (P : Program) (d : Ty α) (fs : List Field) (off : Nat) : Prop :=
  0 < d.sz ∧ ∀ {H : Type} (enc : TypeId × Value → H) (w : World) (base : Nat) (spare : Nat → Bool) (held : Bool) (n : Nat) (cs : List Value), cs.length = off + d.sz →
    (∀ (i : Nat) (f : Field), fs[i]? = some f → ∃ y, DataW.trod enc P w base spare held n f.type ((cs.drop f.offset).take (P.cellsOf f.type)) = some y) → ∃ a, d.K w (· < w.heap.size) a (cs.drop off)
theorem OpensF.last {α : Type} {P : Program} {d : Ty α} {f : Field} {off : Nat} (ho : f.offset = off) (hd : Opens P d f.type) : OpensF P d [f] off :=
  ⟨hd.2.1, fun enc w base spare held n cs hl h => by
    obtain ⟨y, hy⟩ := h 0 f rfl
    rw [ho, hd.1, List.take_of_length_le (by rw [List.length_drop]; omega)] at hy
    exact hd.2.2 enc w base spare held n _ y hy⟩
theorem OpensF.cons {α β : Type} {P : Program} {d : Ty α} {d' : Ty β} {f : Field} {fs : List Field} {off : Nat} (ho : f.offset = off) (hd : Opens P d f.type) (hr : OpensF P d' fs (off + d.sz)) : OpensF P (Ty.pair d d') (f :: fs) off :=
  ⟨by show 0 < d.sz + d'.sz; have := hd.2.1; omega, fun enc w base spare held n cs hl h => by
    have hl' : cs.length = off + (d.sz + d'.sz) := hl
    obtain ⟨y, hy⟩ := h 0 f rfl
    rw [ho, hd.1] at hy
    obtain ⟨a, ha⟩ := hd.2.2 enc w base spare held n _ y hy
    obtain ⟨b, hb⟩ := hr.2 enc w base spare held n cs (by omega) (fun i g hg => h (i + 1) g (by simpa using hg))
    refine ⟨(a, b), _, _, ?_, ha, hb⟩
    rw [← List.drop_drop, List.take_append_drop]⟩
theorem Opens.struct {α : Type} {P : Program} {t : TypeId} {fs : List Field} {d : Ty α} (ht : P.underlying t = some (.struct fs.toArray)) (hc : P.cellsOf t = d.sz) (hd : OpensF P d fs 0) : Opens P d t :=
  ⟨hc, hd.1, fun enc w base spare held fuel cs x h => by
    obtain ⟨xs, n, _, _, hl, hlen, hf⟩ := DataW.trod_struct ht h
    obtain ⟨a, ha⟩ := hd.2 enc w base spare held n cs (by omega) (fun i f hi => by
      have hi' : i < xs.length := by rw [hlen]; have := (List.getElem?_eq_some_iff.1 hi).1; simpa using this
      exact ⟨xs[i], by rw [hf i f (by simpa using hi), List.getElem?_eq_getElem hi']⟩)
    exact ⟨a, by simpa using ha⟩⟩
theorem Opens.iso {α β : Type} {P : Program} {t : TypeId} {d : Ty α} (f : β → α) (g : α → β) (hg : ∀ a, f (g a) = a) (h : Opens P d t) : Opens P (Ty.iso d f) t :=
  ⟨h.1, h.2.1, fun enc w base spare held fuel cs x hx => by
    obtain ⟨a, ha⟩ := h.2.2 enc w base spare held fuel cs x hx
    exact ⟨g a, by show d.K w _ (f (g a)) cs; rw [hg]; exact ha⟩⟩
end Go.Proofs.YtkkgighgnbbgiaaGreatDoor.Mem
namespace Go.Proofs.YtkkgighgnbbgiaaGreatDoor
open Mem
theorem opens_byte : Opens Tryz.prog Ty.byte 5 := Opens.byte Tryz.underlying5 (by kernel_rfl)
theorem opens_bytes : Opens Tryz.prog (Ty.slice 5 Ty.byte) 52 := Opens.slice Tryz.underlying52 (by kernel_rfl) opens_byte
end Go.Proofs.YtkkgighgnbbgiaaGreatDoor

namespace Go.Proofs.YtkkgighgnbbgiaaGreatDoor
open Go.RowKit Mem
set_option linter.unusedVariables false
abbrev dBS : Ty Bytes := Ty.slice 5 Ty.byte
abbrev dBSS : Ty (List Bytes) := Ty.slice 52 tB

def szBS (xs : Bytes) : Nat := xs.length
def cntBS (xs : Bytes) : Nat := xs.length
def mkBS1 (k : Nat) (xs : Bytes) : Bytes := mkB k xs.length
theorem cntBS_lt {x : Bytes} (h : szBS x ≤ 1048576) : cntBS x ≤ 1048576 := h
theorem cntBS_mk (k : Nat) (x : Bytes) : cntBS (mkBS1 k x) = cntBS x := mkB_len _ _
theorem mkBS1_idem (k k' : Nat) (x : Bytes) : mkBS1 k' (mkBS1 k x) = mkBS1 k' x := by unfold mkBS1; rw [mkB_len]

theorem szByteS_v {w : World} {v : Value} {x : Bytes} (h : RdV false dBS w v x) (left : Int) (h0 : 0 ≤ left) (h1 : left ≤ 1048576) :
    Calls Tryz.prog 45 #[v, .int .i64 left] w (fun e w' => e = .returned (.int .i64 (if left < szBS x then -1 else left - szBS x)) ∧ w' = w) := by
  obtain ⟨A, c, rfl, hc, hr⟩ := h.slice
  exact szByteS_calls left h0 h1 hr.2.1

theorem toByteS_v {w : World} {v : Value} {x : Bytes} (h : RdV false dBS w v x) (hs : szBS x ≤ 1048576) : Calls Tryz.prog 60 #[v] w (RetV false dBS w x) := by
  obtain ⟨A, c, rfl, hc, hr⟩ := h.slice
  exact (toByteS_calls hr (fun _ h => h) (by unfold szBS at hs; omega)).mono fun _ _ h => h.toV
theorem eqByteS_v {w : World} {v v' : Value} {x x' : Bytes} (h : RdV false dBS w v x) (h' : RdV false dBS w v' x') : Calls Tryz.prog 74 #[v, v'] w (Ret (.bool (decide (x = x'))) w) := by
  obtain ⟨A, c, rfl, hc, hr⟩ := h.slice
  obtain ⟨A', c', rfl, hc', hr'⟩ := h'.slice
  exact eqByteS_calls hr hr' (fun _ h => h)
theorem markByteS_f {w : World} {F : List Nat} {v : Value} {x : Bytes} (h : OwF false dBS w F v x) (k : Nat) (hk : k + cntBS x ≤ 1152921504606846976) :
    Calls Tryz.prog 40 #[v, .int .i64 k] w (Marks false dBS w F v (k + cntBS x) (mkBS1 k x)) := by
  obtain ⟨A, c, rfl, ho⟩ := h.slice
  refine (markByteS_calls ho k hk).mono ?_
  rintro e w' ⟨rfl, F', ho', hF', hm⟩
  rw [mkB_len] at ho'
  exact ⟨rfl, ⟨F', OwF.of_slice ho', hF'⟩, hm⟩
theorem markByteS_v {w : World} {lo hi : Nat} {v : Value} {x : Bytes} (h : OwV false dBS w lo hi v x) (k : Nat) (hk : k + cntBS x ≤ 1152921504606846976) :
    Calls Tryz.prog 40 #[v, .int .i64 k] w fun e w' => e = .returned (.int .i64 ((k + cntBS x : Nat) : Int)) ∧ OwV false dBS w' lo hi v (mkBS1 k x) ∧ Mod (fun i => lo ≤ i ∧ i < hi) w w' :=
  h.mark fun F hF => markByteS_f hF k hk
theorem heldByteS_v {w : World} {v : Value} {x : Bytes} (h : RdV false dBS w v x) (k : Nat) (hx : x = mkBS1 k x) (hk : k + cntBS x ≤ 1152921504606846976) : Calls Tryz.prog 88 #[v, .int .i64 k] w (Ret (.int .i64 ((k + cntBS x : Nat) : Int)) w) := by
  obtain ⟨A, c, rfl, hc, hr⟩ := h.slice
  exact heldByteS_calls hr k hx hk

def szBSS (xs : List Bytes) : Nat := szB xs
def cntBSS (xs : List Bytes) : Nat := preS List.length xs xs.length
def mkBSS1 (k : Nat) (xs : List Bytes) : List Bytes := mkBS k xs
theorem cntBSS_mk (k : Nat) (x : List Bytes) : cntBSS (mkBSS1 k x) = cntBSS x := by unfold cntBSS mkBSS1; rw [mkBS_pre, mkBS_len]
theorem mkBSS1_idem (k k' : Nat) (x : List Bytes) : mkBSS1 k' (mkBSS1 k x) = mkBSS1 k' x := mkBS_idem _ _ _
theorem szBSS_cnt (x : List Bytes) : cntBSS x ≤ szBSS x := by unfold cntBSS szBSS szB; omega
theorem cntBSS_lt {x : List Bytes} (h : szBSS x ≤ 1048576) : cntBSS x ≤ 1048576 := Nat.le_trans (szBSS_cnt x) h
theorem szBSS_mem {x : List Bytes} {b : Bytes} (h : b ∈ x) : b.length ≤ szBSS x := by
  obtain ⟨j, hj, rfl⟩ := List.getElem_of_mem h
  have h1 := preS_succ List.length x hj
  have h2 := preS_le List.length x (j + 1)
  unfold szBSS szB; omega







































end Go.Proofs.YtkkgighgnbbgiaaGreatDoor

namespace Go.Proofs.YtkkgighgnbbgiaaGreatDoor
open Go.RowKit Mem
set_option linter.unusedVariables false

theorem markByteS_i {w : World} {F : List Nat} {v : Value} {x : Bytes} (h : OwF false dBS w F v x) (q : Int) (k : Nat) (hq : q = (k : Int)) (hk : k + cntBS x ≤ 1152921504606846976) :
    Calls Tryz.prog 40 #[v, .int .i64 q] w (Marks false dBS w F v (k + cntBS x) (mkBS1 k x)) := by subst hq; exact markByteS_f h k hk


theorem heldByteS_i {w : World} {v : Value} {x : Bytes} (h : RdV false dBS w v x) (q : Int) (k : Nat) (hq : q = (k : Int)) (hx : x = mkBS1 k x) (hk : k + cntBS x ≤ 1152921504606846976) :
    Calls Tryz.prog 88 #[v, .int .i64 q] w (Ret (.int .i64 ((k + cntBS x : Nat) : Int)) w) := by subst hq; exact heldByteS_v h k hx hk

end Go.Proofs.YtkkgighgnbbgiaaGreatDoor

namespace Go.Proofs.YtkkgighgnbbgiaaGreatDoor
open Go.RowKit Mem
set_option linter.unusedVariables false
set_option linter.unusedSimpArgs false
abbrev NodeT := Bytes × Int
abbrev dNode : Ty NodeT := Ty.pair dBS (Ty.int .i64)
set_option synthInstance.maxSize 2000
theorem rdNode {w : World} {v : Value} {x : NodeT} (h : RdV true dNode w v x) : ∃ v0, v = .agg #[v0, .int .i64 x.2] ∧ RdV false dBS w v0 x.1 := by
  obtain ⟨cs, rfl, c0, c1, rfl, h0, h1⟩ := h
  obtain ⟨A0, cp0, rfl, g0⟩ := h0
  obtain ⟨rfl, g1⟩ := h1
  exact ⟨_, rfl, ⟨_, rfl, A0, cp0, rfl, g0⟩⟩
theorem cellsNode {w : World} {v : Value} {x : NodeT} (h : RdV true dNode w v x) : ∃ A0 q0, v = .agg #[.slice A0 x.1.length q0, .int .i64 x.2] := by
  obtain ⟨v0, rfl, k0⟩ := rdNode h
  obtain ⟨A0, q0, rfl, _⟩ := k0.slice
  exact ⟨A0, q0, rfl⟩
theorem fldNode0 : Fld dNode 0 dBS (fun x => x.1) (fun x y => (y, x.2)) := (Fld.fst (Fld.one rfl))
theorem fldNode1 : Fld dNode 1 (Ty.int .i64) (fun x => x.2) (fun x y => (x.1, y)) := (Fld.snd (Fld.one rfl) rfl)
theorem eltNode : Elt Tryz.prog 88 dNode.sz (.agg #[.slice none 0 0, .int .i64 0]) := Elt.of (b := 32) (by kernel_rfl) rfl (by decide) (by decide)
theorem mNode {w : World} {x : NodeT} {F0 : List Nat} {v0 : Value} (g1 : IntKind.i64.wrap x.2 = x.2) (o0 : Own Ty.byte 5 w F0 v0 x.1) : dNode.M w (F0 ++ ([])) x [v0, .int .i64 x.2] :=
  ⟨_, _, F0, _, rfl, rfl, (by simpa using o0.nd), ⟨_, rfl, o0⟩, ⟨rfl, rfl, g1⟩⟩
theorem ofNode {w : World} {lo hi : Nat} {x : NodeT} {v0 : Value} (g1 : IntKind.i64.wrap x.2 = x.2) (h : OwI Ty.byte 5 w lo hi v0 x.1) : OwV true dNode w lo hi (.agg #[v0, .int .i64 x.2]) x := by
  obtain ⟨F, ho, hF⟩ := h
  exact ⟨_, _, rfl, mNode g1 ho, by simpa using hF⟩

set_option maxHeartbeats 1000000 in
set_option maxRecDepth 100000 in
theorem eqNode_v {w : World} {v v' : Value} {x x' : NodeT} (h : RdV true dNode w v x) (h' : RdV true dNode w v' x') : Calls Tryz.prog 71 #[v, v'] w (Ret (.bool (decide (x = x'))) w) := by
  obtain ⟨v0, rfl, k0⟩ := rdNode h
  obtain ⟨u0, rfl, k0'⟩ := rdNode h'
  obtain ⟨a0, a1⟩ := x
  obtain ⟨b0, b1⟩ := x'
  simp only at k0 k0' ⊢
  have HB0 := Sec.mk ((Blk.new w 88 [v0, .int .i64 a1]).alloc (.cells #[u0, .int .i64 b1] 88))
  have HB1 := Sec.mk (Blk.new (w.alloc (.cells #[v0, .int .i64 a1] 88)) 88 [u0, .int .i64 b1])
  rw [show (w.alloc (.cells #[v0, .int .i64 a1] 88)).heap.size = w.heap.size + 1 by simp] at HB1
  have HM0 := Sec.mk (((Mod.refl (fun _ => False) w).alloc (.cells #[v0, .int .i64 a1] 88)).alloc (.cells #[u0, .int .i64 b1] 88))
  have H0 := Sec.mk (k0.step HM0.out)
  have H0' := Sec.mk (k0'.step HM0.out)
  clear h h' k0 k0'
  by_cases e0 : a0 = b0
  rotate_left
  · have HE : Sec (decide ((a0, a1) = (b0, b1)) = false) := ⟨by simp [e0]⟩
    have E0 : Sec (decide (a0 = b0) = false) := ⟨by simp [e0]⟩
    clear e0
    go_enter Tryz.func71, Tryz.ntmps71
    go_wp2_with fail
    refine (eqByteS_v (H0.out) (H0'.out)).mono ?_
    rw [E0.out]
    rintro e w0 ⟨rfl, hm0⟩
    have m0 := Sec.mk hm0
    clear hm0
    go_wp2
    go_ret
    exact ⟨by rw [HE.out]; rfl, HM0.out.transN m0.out⟩
  have E0 : Sec (decide (a0 = b0) = true) := ⟨by simp [e0]⟩
  have S0 := Sec.mk e0
  clear e0
  by_cases e1 : a1 = b1
  rotate_left
  · have HE : Sec (decide ((a0, a1) = (b0, b1)) = false) := ⟨by simp [e1]⟩
    have hb1 : (a1 != b1) = true := by simpa using e1
    clear e1
    go_enter Tryz.func71, Tryz.ntmps71
    go_wp2_with fail
    refine (eqByteS_v (H0.out) (H0'.out)).mono ?_
    rw [E0.out]
    rintro e w0 ⟨rfl, hm0⟩
    have m0 := Sec.mk hm0
    have p0_1 : w0.cell? ⟨w.heap.size, 1, none⟩ = some (.int .i64 a1) := (HB0.out.mod m0.out id).cell 1
    have q0_1 : w0.cell? ⟨w.heap.size + 1, 1, none⟩ = some (.int .i64 b1) := (HB1.out.mod m0.out id).cell 1
    clear hm0
    go_wp2
    go_ret
    exact ⟨by rw [HE.out]; rfl, HM0.out.transN m0.out⟩
  have hb1 : (a1 != b1) = false := by simp [e1]
  have S1 := Sec.mk e1
  clear e1
  have HE : Sec (decide ((a0, a1) = (b0, b1)) = true) := ⟨by simp [S0.out, S1.out]⟩
  go_enter Tryz.func71, Tryz.ntmps71
  go_wp2_with fail
  refine (eqByteS_v (H0.out) (H0'.out)).mono ?_
  rw [E0.out]
  rintro e w0 ⟨rfl, hm0⟩
  have m0 := Sec.mk hm0
  have p0_1 : w0.cell? ⟨w.heap.size, 1, none⟩ = some (.int .i64 a1) := (HB0.out.mod m0.out id).cell 1
  have q0_1 : w0.cell? ⟨w.heap.size + 1, 1, none⟩ = some (.int .i64 b1) := (HB1.out.mod m0.out id).cell 1
  clear hm0
  go_wp2
  go_ret
  exact ⟨by rw [HE.out]; rfl, HM0.out.transN m0.out⟩

def mkNode1 (k : Nat) (x : NodeT) : NodeT := (mkBS1 k x.1, (((k + cntBS x.1) : Nat) : Int))
def cntNode (x : NodeT) : Nat := cntBS x.1 + 1
theorem cntNode_mk (k : Nat) (x : NodeT) : cntNode (mkNode1 k x) = cntNode x := by simp only [cntNode, mkNode1, cntBS_mk]
theorem mkNode1_idem (k k' : Nat) (x : NodeT) : mkNode1 k' (mkNode1 k x) = mkNode1 k' x := by simp only [mkNode1, cntBS_mk, mkBS1_idem]
abbrev NodeST := List NodeT
abbrev dNodeS : Ty NodeST := Ty.slice 88 dNode
def cntNodeS (xs : NodeST) : Nat := preS cntNode xs xs.length
def mkNodeS1 (k : Nat) (xs : NodeST) : NodeST := markL mkNode1 cntNode k xs
theorem cntNodeS_mk (k : Nat) (xs : NodeST) : cntNodeS (mkNodeS1 k xs) = cntNodeS xs := by unfold cntNodeS mkNodeS1; rw [preS_mark _ _ cntNode_mk, markL_len]
theorem mkNodeS1_idem (k k' : Nat) (xs : NodeST) : mkNodeS1 k' (mkNodeS1 k xs) = mkNodeS1 k' xs := markL_idem _ _ cntNode_mk mkNode1_idem k k' xs
theorem idxNodeS (ad : Addr) (m c k : Nat) (h : k < m) (w : World) : (Instr.indexAt 30 (.slice (some ad) m c) (.int .i64 (k : Int))).run Tryz.prog w = .ok (.pointer (some (ad.add (k * 2)))) w := by
  have h0 : (0 : Int) ≤ (k : Int) := by omega
  have h1 : (k : Int) < (m : Int) := by omega
  go_simp

set_option maxHeartbeats 1000000 in
set_option maxRecDepth 100000 in
theorem eqNodeS_v {w : World} {v v' : Value} {xs ys : NodeST} (h : RdV false dNodeS w v xs) (h' : RdV false dNodeS w v' ys) : Calls Tryz.prog 32 #[v, v'] w (Ret (.bool (decide (xs = ys))) w) := by
  obtain ⟨A, c, rfl, -, hr⟩ := h.slice
  obtain ⟨A', c', rfl, -, hr'⟩ := h'.slice
  have hl := hr.2.1
  have HR := Sec.mk hr
  have HR' := Sec.mk hr'
  clear h h' hr hr'
  by_cases hne : xs.length = ys.length
  rotate_left
  · have hnb : ((xs.length : Int) != (ys.length : Int)) = true := by simp; omega
    have HE : Sec (decide (xs = ys) = false) := ⟨by simp [show xs ≠ ys from fun e => hne (by rw [e])]⟩
    clear hne
    go_enter Tryz.func32, Tryz.ntmps32
    go_wp2
    go_ret
    exact ⟨by rw [HE.out]; rfl, Mod.refl _ _⟩
  have hnb : ((xs.length : Int) != (ys.length : Int)) = false := by simp [hne]
  have HNE := Sec.mk hne
  clear hne
  go_enter Tryz.func32, Tryz.ntmps32
  go_wp2
  go_loopw [5] (fun i wr => ∃ k : Nat, k ≤ xs.length ∧ i = .int .i64 k ∧ Sec (xs.take k = ys.take k) ∧ Sec (New w wr)) (fun i _ => xs.length - (intOf i).toNat)
  case atStart => exact ⟨0, Nat.zero_le _, rfl, Sec.mk (by simp), Sec.mk (Mod.refl _ _)⟩
  case round =>
    obtain ⟨k, hk, rfl, HT, HM⟩ := hrel
    by_cases hlt : k < xs.length
    · have hlt2 : k < ys.length := by rw [← HNE.out]; exact hlt
      obtain ⟨ad, vx, rfl, hx⟩ := HR.out.elem (P := Tryz.prog) hlt 88 Tryz.underlying88 rfl (by kernel_rfl)
      obtain ⟨ad', vy, rfl, hy⟩ := HR'.out.elem (P := Tryz.prog) hlt2 88 Tryz.underlying88 rfl (by kernel_rfl)
      have HX : Sec (∀ W, New wr W → (Instr.loadAt 88 (.pointer (some (ad.add (k * 2))))).run Tryz.prog W = .ok vx W ∧ RdV true dNode W vx xs[k]) := ⟨fun W hW => hx W (fun i hi => (hW.block i (Nat.lt_of_lt_of_le hi HM.out.size) id).trans (HM.out.block i hi id)) (fun i hi => Nat.lt_of_lt_of_le hi (Nat.le_trans HM.out.size hW.size))⟩
      have HY : Sec (∀ W, New wr W → (Instr.loadAt 88 (.pointer (some (ad'.add (k * 2))))).run Tryz.prog W = .ok vy W ∧ RdV true dNode W vy (ys[k]'hlt2)) := ⟨fun W hW => hy W (fun i hi => (hW.block i (Nat.lt_of_lt_of_le hi HM.out.size) id).trans (HM.out.block i hi id)) (fun i hi => Nat.lt_of_lt_of_le hi (Nat.le_trans HM.out.size hW.size))⟩
      have HXY : Sec (xs[k] = ys[k]'hlt2 → xs.take (k + 1) = ys.take (k + 1)) := ⟨fun h => by rw [List.take_succ_eq_append_getElem hlt, List.take_succ_eq_append_getElem hlt2, HT.out, h]⟩
      have HNQ : Sec (xs[k] ≠ ys[k]'hlt2 → decide (xs = ys) = false) := ⟨fun h => by simp only [decide_eq_false_iff_not]; intro e; exact h (by subst e; rfl)⟩
      clear hx hy HT
      generalize xs[k] = x at *
      generalize ys[k]'hlt2 = y at *
      have hki : (k : Int) < (xs.length : Int) := by omega
      have hkj : (k : Int) < (ys.length : Int) := by omega
      go_wp2
      refine reg_start [] (fun W => Sec (New wr W)) (by kernel_rfl) ?_
      have HSS : Sec (New wr wr.drew) := ⟨(Mod.refl _ _).drew⟩
      refine reg_take (.slice (some ad) xs.length c) (i := 0) (n := 17) HSS rfl (by kernel_rfl) (by kernel_rfl) (by kernel_rfl) (by kernel_rfl) (fun _ _ _ h => h) (fun W hW => exec_move rfl rfl) ?_
      simp only [Act.put, List.setIfInBounds_toArray, List.set_cons_zero, List.set_cons_succ]
      refine reg_take (.int .i64 (k : Int)) (i := 1) (n := 18) HSS rfl (by kernel_rfl) (by kernel_rfl) (by kernel_rfl) (by kernel_rfl) (fun _ _ _ h => h) (fun W hW => exec_move rfl rfl) ?_
      simp only [Act.put, List.setIfInBounds_toArray, List.set_cons_zero, List.set_cons_succ]
      refine reg_take (.pointer (some (ad.add (k * 2)))) (i := 2) (n := 19) HSS rfl (by kernel_rfl) (by kernel_rfl) (by kernel_rfl) (by kernel_rfl) (fun _ _ _ h => h) (fun W hW => exec_indexAddr rfl rfl rfl (idxNodeS _ _ _ _ hlt _)) ?_
      simp only [Act.put, List.setIfInBounds_toArray, List.set_cons_zero, List.set_cons_succ]
      refine reg_take (vx) (i := 3) (n := 20) HSS rfl (by kernel_rfl) (by kernel_rfl) (by kernel_rfl) (by kernel_rfl) (fun _ _ _ h => h) (fun W hW => exec_load rfl rfl (HX.out W hW.out).1) ?_
      simp only [Act.put, List.setIfInBounds_toArray, List.set_cons_zero, List.set_cons_succ]
      refine reg_take (.slice (some ad') ys.length c') (i := 4) (n := 21) HSS rfl (by kernel_rfl) (by kernel_rfl) (by kernel_rfl) (by kernel_rfl) (fun _ _ _ h => h) (fun W hW => exec_move rfl rfl) ?_
      simp only [Act.put, List.setIfInBounds_toArray, List.set_cons_zero, List.set_cons_succ]
      refine reg_take (.int .i64 (k : Int)) (i := 5) (n := 22) HSS rfl (by kernel_rfl) (by kernel_rfl) (by kernel_rfl) (by kernel_rfl) (fun _ _ _ h => h) (fun W hW => exec_move rfl rfl) ?_
      simp only [Act.put, List.setIfInBounds_toArray, List.set_cons_zero, List.set_cons_succ]
      refine reg_take (.pointer (some (ad'.add (k * 2)))) (i := 6) (n := 23) HSS rfl (by kernel_rfl) (by kernel_rfl) (by kernel_rfl) (by kernel_rfl) (fun _ _ _ h => h) (fun W hW => exec_indexAddr rfl rfl rfl (idxNodeS _ _ _ _ hlt2 _)) ?_
      simp only [Act.put, List.setIfInBounds_toArray, List.set_cons_zero, List.set_cons_succ]
      refine reg_take (vy) (i := 7) (n := 24) HSS rfl (by kernel_rfl) (by kernel_rfl) (by kernel_rfl) (by kernel_rfl) (fun _ _ _ h => h) (fun W hW => exec_load rfl rfl (HY.out W hW.out).1) ?_
      simp only [Act.put, List.setIfInBounds_toArray, List.set_cons_zero, List.set_cons_succ]
      refine reg_step (i := 8) rfl (by kernel_rfl) (fun K hK => ?_)
      refine wp_call (n := 25) (vals := [vx, vy]) rfl rfl rfl (by kernel_rfl) (eqNode_v (HX.out _ HSS.out).2 (HY.out _ HSS.out).2) ?_
      rintro e w1 ⟨rfl, hm1⟩
      have HS1 : Sec (New wr w1) := ⟨HSS.out.transN hm1⟩
      refine ⟨_, rfl, hK.out _ _ (fun _ => HS1) ?_⟩
      clear hK K hm1
      simp only [Act.put, List.setIfInBounds_toArray, List.set_cons_zero, List.set_cons_succ]
      refine reg_step (i := 9) rfl (by kernel_rfl) (fun K hK => ?_)
      refine wp_val (n := 26) (v := .bool (!decide (x = y))) (exec_un rfl rfl (Mem.not_r _ _)) rfl (hK.out _ _ (fun _ => HS1) ?_)
      clear hK K
      simp only [Act.put, List.setIfInBounds_toArray, List.set_cons_zero, List.set_cons_succ]
      refine reg_done (by kernel_rfl) ?_ _
      have HM' := Sec.mk (HM.out.transN HS1.out)
      by_cases hxy : x = y
      · have HT' := Sec.mk (HXY.out hxy)
        have hd : decide (x = y) = true := by simp [hxy]
        clear hxy HXY HNQ HX HY
        rw [hd]
        go_wp2
        go_roundw
        case rel => exact ⟨k + 1, by omega, by go_num, HT', HM'⟩
        case measure => simp [intOf]; omega
      · have HE := Sec.mk (HNQ.out hxy)
        have hd : decide (x = y) = false := by simp [hxy]
        clear hxy HXY HNQ HX HY
        rw [hd]
        go_wp2
        go_ret
        exact ⟨by rw [HE.out]; rfl, HM'.out⟩
    · have HE : Sec (decide (xs = ys) = true) := ⟨by
        have h1 := HT.out
        rw [List.take_of_length_le (by omega), List.take_of_length_le (by rw [← HNE.out]; omega)] at h1
        simp [h1]⟩
      go_wp2
      go_ret
      exact ⟨by rw [HE.out]; rfl, HM.out⟩


set_option maxHeartbeats 1000000 in
set_option maxRecDepth 100000 in
theorem markNodeS_calls {A : Option Addr} {c : Nat} {xs : NodeST} {F : List Nat} {w : World} (h : Own dNode 88 w F (.slice A xs.length c) xs) (k : Nat) (hk : k + cntNodeS xs ≤ 1152921504606846976) :
    Calls Tryz.prog 36 #[.slice A xs.length c, .int .i64 k] w fun e w' => e = .returned (.int .i64 ((k + cntNodeS xs : Nat) : Int)) ∧ ∃ F', Own dNode 88 w' F' (.slice A xs.length c) (mkNodeS1 k xs) ∧ (∀ i, i ∈ F' → i ∈ F) ∧ Mod (· ∈ F) w w' := by
  have hlx := h.len_le
  have HO := Sec.mk h
  have HKK : Sec (cntNodeS xs = preS cntNode xs xs.length) := ⟨rfl⟩
  rw [HKK.out] at hk ⊢
  clear h
  go_enter Tryz.func36, Tryz.ntmps36
  go_wp2
  go_loopw [1, 5] (fun q i wr => ∃ (j : Nat) (ys : NodeST) (G : List Nat), j ≤ xs.length ∧ i = .int .i64 j ∧ q = .int .i64 ((k + preS cntNode xs j : Nat) : Int) ∧ Sec (ys = (mkNodeS1 k xs).take j ++ xs.drop j) ∧ Sec (Own dNode 88 wr G (.slice A xs.length c) ys) ∧ Sec (∀ k, k ∈ G → k ∈ F) ∧ Sec (Mod (· ∈ F) w wr)) (fun _ i _ => xs.length - (intOf i).toNat)
  case atStart => exact ⟨0, xs, F, Nat.zero_le _, rfl, by rw [preS_zero]; rfl, ⟨by simp⟩, HO, ⟨fun _ h => h⟩, ⟨Mod.refl _ _⟩⟩
  case round =>
    obtain ⟨j, ys, G, hj, rfl, rfl, HY, HO, HF, HM⟩ := hrel
    by_cases hlt : j < xs.length
    · have hyl : ys.length = xs.length := by rw [HY.out]; exact take_drop_len (markL_len _ _ k xs) j
      have hjy : j < ys.length := by omega
      have hyj : ys[j] = xs[j] := by simp only [HY.out]; exact take_drop_at (markL_len _ _ k xs) hlt _
      have hks := preS_succ cntNode xs hlt
      have hkl := preS_le cntNode xs (j + 1)
      have HZ := Sec.mk (markL_at mkNode1 cntNode k xs (i := j) (by rw [markL_len]; exact hlt))
      have HTD : Sec (ys.set j (mkNode1 (k + preS cntNode xs j) xs[j]) = (mkNodeS1 k xs).take (j + 1) ++ xs.drop (j + 1)) := ⟨by rw [← HZ.out, HY.out]; exact take_drop_set (markL_len _ _ k xs) hlt⟩
      have HX : Sec (Own dNode 88 wr G (.slice A xs.length c) (ys.set j xs[j])) := ⟨by rw [← hyj, List.set_getElem_self]; exact HO.out⟩
      obtain ⟨g, rfl, hgG, -, -⟩ := HO.out.cellsAt hjy
      have HgF := Sec.mk (HF.out g hgG)
      have HKS := Sec.mk hks
      have hkb : preS cntNode xs j + cntNode xs[j] ≤ preS cntNode xs xs.length := by omega
      clear hks hkl hyj HZ HO hgG
      have HCN : Sec (cntNode xs[j] = cntBS xs[j].1 + 1) := ⟨rfl⟩
      have hcn := HCN.out
      generalize hps : preS cntNode xs j = s at *
      generalize hxj : xs[j] = x at *
      have HJ := Sec.mk hjy
      obtain ⟨_, hA0, -, hcell0, hfz0⟩ := HX.out.cellsAt (j := j) (by rw [List.length_set]; exact hjy)
      injection hA0 with hA0
      injection hA0 with hA0
      subst hA0
      simp only [show dNode.sz = 2 from rfl] at hcell0
      clear hcell0 hfz0
      obtain ⟨v0, G0, _, hc0, ho0, hG0, hst0⟩ := Own.fsubAt fldNode0 HJ.out HX.out
      simp only [show dNode.sz = 2 from rfl, Nat.add_zero] at hc0
      have HV0 := Sec.mk ho0
      have HG0 := Sec.mk hG0
      have HT0 := Sec.mk hst0
      clear ho0 hG0 hst0
      go_wp2_with fail
      refine Calls.mono (markByteS_i HV0.out _ (k + s) ?_ ?_) ?_
      · first | rfl | omega
      · (try dsimp only at hcn ⊢); omega
      rintro e w0 ⟨rfl, ⟨F0, ho0, hF0⟩, hm0⟩
      obtain ⟨G0', ho, hG0'⟩ := HT0.out w0 _ F0 hm0 ho0 hF0
      have HX0 := Sec.mk ho
      have HF0 := Sec.mk (fun i hi => HF.out i (hG0' i hi))
      have HM0 : Sec (Mod (· ∈ F) w w0) := ⟨HM.out.trans hm0 fun i hi _ => HF.out i (HG0.out i hi)⟩
      clear ho0 hF0 hm0 ho hG0' HT0 HV0 HG0
      obtain ⟨s0, hs0⟩ : ∃ t, t = (k + s) + cntBS x.1 := ⟨_, rfl⟩
      try dsimp only at HX0
      rw [← hs0]
      have HS0 := Sec.mk hs0
      have hbd0 : s0 ≤ 1152921504606846976 := by have := HS0.out; (try dsimp only at hcn); omega
      clear hs0
      obtain ⟨_, hA1, -, hcell1, hfz1⟩ := HX0.out.cellsAt (j := j) (by rw [List.length_set]; exact hjy)
      injection hA1 with hA1
      injection hA1 with hA1
      subst hA1
      simp only [show dNode.sz = 2 from rfl] at hcell1
      obtain ⟨p1, hc1⟩ := hcell1 1 (by decide)
      have hf1 := hfz1 (j * 2 + 1)
      clear hcell1 hfz1
      obtain ⟨hgg, hst⟩ := Own.fstoreAt fldNode1 (fun _ _ _ _ h => h.1) HJ.out HX0.out
      obtain ⟨G1, ho, hG1⟩ := hst (.int .i64 ((s0 : Int))) ((s0 : Int)) (fun _ => ⟨rfl, rfl, by rw [IntKind.wrap_i64]; omega⟩)
      simp only [show dNode.sz = 2 from rfl] at ho
      have HX1 := Sec.mk ho
      have HF1 := Sec.mk (fun i hi => HF0.out i (hG1 i hi))
      have HM1 := Sec.mk (HM0.out.setCell (p := ⟨g, j * 2 + 1, none⟩) (fun _ => HgF.out) (.int .i64 ((s0 : Int))))
      clear hgg hst ho hG1
      have HEQ : Sec (mkNode1 (k + s) x = (mkBS1 (k + s) x.1, ((s0 : Int)))) := ⟨by have h0 := HS0.out; subst h0; simp only [mkNode1, Int.natCast_add]⟩
      rw [HEQ.out] at HTD
      go_wp2
      go_roundw
      case rel => exact ⟨j + 1, _, G1, by omega, by go_num, by rw [HKS.out, HCN.out]; congr 1; try (have := HS0.out; omega), HTD, HX1, HF1, HM1⟩
      case measure => simp [intOf]; omega
    · obtain rfl : j = xs.length := by omega
      go_wp2
      go_ret
      have he : ys = mkNodeS1 k xs := by
        rw [HY.out, List.take_of_length_le (by unfold mkNodeS1; rw [markL_len]; exact Nat.le_refl _)]; simp
      subst he
      exact ⟨by simp, G, HO.out, HF.out, HM.out⟩


theorem markNodeS_f {w : World} {F : List Nat} {v : Value} {x : NodeST} (h : OwF false dNodeS w F v x) (k : Nat) (hk : k + cntNodeS x ≤ 1152921504606846976) :
    Calls Tryz.prog 36 #[v, .int .i64 k] w (Marks false dNodeS w F v (k + cntNodeS x) (mkNodeS1 k x)) := by
  obtain ⟨A, c, rfl, ho⟩ := h.slice
  refine (markNodeS_calls ho k hk).mono ?_
  rintro e w' ⟨rfl, F', ho', hF', hm⟩
  refine ⟨rfl, ⟨F', ?_, hF'⟩, hm⟩
  have hl : (mkNodeS1 k x).length = x.length := markL_len _ _ k x
  rw [← hl] at ho'
  rw [← hl]
  exact OwF.of_slice ho'
theorem markNodeS_i {w : World} {F : List Nat} {v : Value} {x : NodeST} (h : OwF false dNodeS w F v x) (q : Int) (k : Nat) (hq : q = (k : Int)) (hk : k + cntNodeS x ≤ 1152921504606846976) :
    Calls Tryz.prog 36 #[v, .int .i64 q] w (Marks false dNodeS w F v (k + cntNodeS x) (mkNodeS1 k x)) := by subst hq; exact markNodeS_f h k hk
theorem markNodeS_v {w : World} {lo hi : Nat} {v : Value} {x : NodeST} (h : OwV false dNodeS w lo hi v x) (k : Nat) (hk : k + cntNodeS x ≤ 1152921504606846976) :
    Calls Tryz.prog 36 #[v, .int .i64 k] w fun e w' => e = .returned (.int .i64 ((k + cntNodeS x : Nat) : Int)) ∧ OwV false dNodeS w' lo hi v (mkNodeS1 k x) ∧ Mod (fun i => lo ≤ i ∧ i < hi) w w' :=
  h.mark fun F hF => markNodeS_f hF k hk


set_option maxHeartbeats 1000000 in
set_option maxRecDepth 100000 in
theorem heldNodeS_v {w : World} {v : Value} {xs : NodeST} (h : RdV false dNodeS w v xs) (k : Nat) (hx : xs = mkNodeS1 k xs) (hk : k + cntNodeS xs ≤ 1152921504606846976) :
    Calls Tryz.prog 75 #[v, .int .i64 k] w (Ret (.int .i64 ((k + cntNodeS xs : Nat) : Int)) w) := by
  obtain ⟨A, c, rfl, -, hr⟩ := h.slice
  have hl := hr.2.1
  have HR := Sec.mk hr
  have HX := Sec.mk hx
  have HKK : Sec (cntNodeS xs = preS cntNode xs xs.length) := ⟨rfl⟩
  rw [HKK.out] at hk ⊢
  clear h hr hx
  go_enter Tryz.func75, Tryz.ntmps75
  go_wp2
  go_loopw [1, 5] (fun q i wr => ∃ (j : Nat), j ≤ xs.length ∧ i = .int .i64 j ∧ q = .int .i64 ((k + preS cntNode xs j : Nat) : Int) ∧ Sec (New w wr)) (fun _ i _ => xs.length - (intOf i).toNat)
  case atStart => exact ⟨0, Nat.zero_le _, rfl, by rw [preS_zero]; rfl, ⟨Mod.refl _ _⟩⟩
  case round =>
    obtain ⟨j, hj, rfl, rfl, HM⟩ := hrel
    by_cases hlt : j < xs.length
    · have hks := preS_succ cntNode xs hlt
      have hkl := preS_le cntNode xs (j + 1)
      have hkb : preS cntNode xs j + cntNode xs[j] ≤ preS cntNode xs xs.length := by omega
      have HKS := Sec.mk hks
      have hz : xs[j] = mkNode1 (k + preS cntNode xs j) xs[j] := by
        have := markL_at mkNode1 cntNode k xs (i := j) (by rw [markL_len]; exact hlt)
        rw [← this]; congr 1; exact HX.out
      have HZ := Sec.mk hz
      have HCN : Sec (cntNode xs[j] = cntBS xs[j].1 + 1) := ⟨rfl⟩
      have hcn := HCN.out
      clear hks hkl hz
      have HFD : Sec (∀ W, New w W → ∃ ad A0 c0, A = some ad ∧ W.cell? (ad.add (j * 2)) = some (.slice A0 xs[j].1.length c0) ∧ W.cell? ⟨(ad.add (j * 2)).block, (ad.add (j * 2)).off + 1, none⟩ = some (.int .i64 (xs[j].2)) ∧ RdV false dBS W (.slice A0 xs[j].1.length c0) xs[j].1) := ⟨fun W hW => by
        obtain ⟨ad, v0, hA0, hc0, hK0⟩ := HR.out.field fldNode0 (fun q hq => hW.block q hq id) hlt
        obtain ⟨A0, c0, hv0, hl0, hm0, hr0⟩ := hK0
        obtain rfl : v0 = .slice A0 xs[j].1.length c0 := by simpa using hv0
        have hrd0 := RdV.of_row (e := 5) (hr0.mod (w' := W) (fun _ h => Nat.lt_of_lt_of_le h hW.size) (fun _ _ => rfl)) hl0 hm0
        obtain ⟨ad1, v1, hA1, hc1, hK1⟩ := HR.out.field fldNode1 (fun q hq => hW.block q hq id) hlt
        obtain rfl : ad = ad1 := Option.some.inj (hA0.symm.trans hA1)
        obtain rfl : v1 = .int .i64 (xs[j].2) := by have := hK1.1; simpa using this
        exact ⟨ad, A0, c0, hA0, hc0, hc1, hrd0⟩⟩
      generalize hps : preS cntNode xs j = s at *
      generalize hxj : xs[j] = x at *
      obtain ⟨ad, A0, c0, rfl, hc0, -, hrd0⟩ := HFD.out _ HM.out
      have z0 : x.1 = mkBS1 (k + s) x.1 := by have h := congrArg (fun x : NodeT => x.1) HZ.out; (try simp only [mkNode1] at h); exact h
      have HZ0 := Sec.mk z0
      have HRD0 := Sec.mk hrd0
      clear z0 hrd0
      go_wp2_with fail
      refine Calls.mono (heldByteS_i HRD0.out _ (k + s) ?_ HZ0.out ?_) ?_
      · first | rfl | omega
      · (try dsimp only at hcn ⊢); omega
      rintro e w0 ⟨rfl, hm0⟩
      have HM0 := Sec.mk (HM.out.transN hm0)
      clear hm0
      obtain ⟨s0, hs0⟩ : ∃ t, t = (k + s) + cntBS x.1 := ⟨_, rfl⟩
      rw [← hs0]
      have HS0 := Sec.mk hs0
      have hbd0 : s0 ≤ 1152921504606846976 := by have := HS0.out; (try dsimp only at hcn); omega
      clear hs0
      obtain ⟨adq1, A0, c0, hAq1, -, hc1, -⟩ := HFD.out _ HM0.out
      obtain rfl := Option.some.inj hAq1
      have z1 : x.2 = ((s0 : Int)) := by have h := congrArg (fun x : NodeT => x.2) HZ.out; have h0 := HS0.out; subst h0; (try simp only [mkNode1, Int.natCast_add] at h); exact h
      rw [z1] at hc1
      clear z1
      go_wp2
      go_roundw
      case rel => exact ⟨j + 1, by omega, by go_num, by rw [HKS.out, HCN.out]; congr 1; try (have := HS0.out; omega), HM0⟩
      case measure => simp [intOf]; omega
    · obtain rfl : j = xs.length := by omega
      go_wp2
      go_ret
      exact ⟨by simp, HM.out⟩
theorem heldNodeS_i {w : World} {v : Value} {x : NodeST} (h : RdV false dNodeS w v x) (q : Int) (k : Nat) (hq : q = (k : Int)) (hx : x = mkNodeS1 k x) (hk : k + cntNodeS x ≤ 1152921504606846976) :
    Calls Tryz.prog 75 #[v, .int .i64 q] w (Ret (.int .i64 ((k + cntNodeS x : Nat) : Int)) w) := by subst hq; exact heldNodeS_v h k hx hk

end Go.Proofs.YtkkgighgnbbgiaaGreatDoor

namespace Go.Proofs.YtkkgighgnbbgiaaGreatDoor
open Go.RowKit Mem
set_option linter.unusedVariables false

theorem ba_app' (xs ys : Bytes) : (⟨xs.toArray⟩ : ByteArray) ++ ⟨ys.toArray⟩ = ⟨(xs ++ ys).toArray⟩ := ByteArray.ext (by rw [ByteArray.data_append]; simp)
theorem dec_big {u : Nat} (h : 10 ≤ u) : Lib.decDigits u = Lib.decDigits (u / 10) ++ [UInt8.ofNat (48 + u % 10)] := by rw [Lib.decDigits, dif_neg (by omega)]
theorem dec_small {u : Nat} (h : u < 10) : Lib.decDigits u = [UInt8.ofNat (48 + u)] := by rw [Lib.decDigits, dif_pos h]
theorem dec_len (u : Nat) (h : u ≤ 1000000000000) : (Lib.decDigits u).length ≤ 13 := by
  rw [Lib.decDigits_length]
  rcases Nat.lt_or_ge (Lib.nDigits u) 14 with h1 | h1
  · omega
  · exfalso
    have hlow : ∀ k u, k + 1 ≤ Lib.nDigits u → 10 ^ k ≤ u ∨ k = 0 := by
      intro k
      induction k with
      | zero => intro u _; exact .inr rfl
      | succ k ih =>
        intro u hk
        by_cases hu : u < 10
        · rw [Lib.nDigits_small hu] at hk; omega
        · rw [Lib.nDigits_big hu] at hk
          left
          rw [Nat.pow_succ]
          rcases ih (u / 10) (by omega) with h | h
          · have := Nat.mul_le_mul_right 10 h
            omega
          · subst h; simp; omega
    rcases hlow 13 u h1 with h2 | h2
    · have : (10 : Nat) ^ 13 = 10000000000000 := by decide
      omega
    · omega
/-- what is still to be put ahead -/
def DecSt (N m : Nat) (s : Bytes) : Prop := if m = 0 then s = Lib.decDigits N else Lib.decDigits m ++ s = Lib.decDigits N
theorem DecSt.step {N m : Nat} {s : Bytes} (h : DecSt N m s) (hm : m ≠ 0) : DecSt N (m / 10) ([UInt8.ofNat (48 + m % 10)] ++ s) := by
  unfold DecSt at h ⊢
  rw [if_neg hm] at h
  by_cases h10 : m < 10
  · rw [if_pos (by omega), ← h, dec_small h10, show m % 10 = m by omega]
  · rw [if_neg (by omega), ← h, dec_big (u := m) (by omega), List.append_assoc]












































end Go.Proofs.YtkkgighgnbbgiaaGreatDoor

namespace Go.Proofs.YtkkgighgnbbgiaaGreatDoor
open Go.RowKit Mem
set_option linter.unusedVariables false
/-- the text for a number -/
def markT (k : Nat) : Bytes := 109 :: Lib.decDigits k
theorem markT_len (k : Nat) (hk : k ≤ 2000000000000000000) : (markT k).length ≤ 9223372036854775807 := by
  have hlow : ∀ n, ∀ u, n + 1 ≤ Lib.nDigits u → 10 ^ n ≤ u ∨ n = 0 := by
    intro n
    induction n with
    | zero => intro u _; exact .inr rfl
    | succ n ih =>
      intro u hu
      by_cases h10 : u < 10
      · rw [Lib.nDigits_small h10] at hu; omega
      · rw [Lib.nDigits_big h10] at hu
        left
        rw [Nat.pow_succ]
        rcases ih (u / 10) (by omega) with h | h
        · have := Nat.mul_le_mul_right 10 h
          omega
        · subst h; simp; omega
  have h1 : (markT k).length = Lib.nDigits k + 1 := by unfold markT; rw [List.length_cons, Lib.decDigits_length]
  rw [h1]
  rcases Nat.lt_or_ge (Lib.nDigits k) 20 with h | h
  · omega
  · rcases hlow 19 k h with h2 | h2
    · have : (10 : Nat) ^ 19 = 10000000000000000000 := by decide
      omega
    · omega
theorem ldStr {w : World} {p : Addr} {v : Value} (h : w.cell? p = some v) : (Instr.loadAt 9 (.pointer (some p))).run Tryz.prog w = .ok v w := by go_simp
theorem strNe (s : ByteArray) (x y : Operand) (w : World) : (do eqGuard .neq 9 x y (.string s) (.string s); binOp .neq 9 (.string s) (.string s) : Sem Value).run Tryz.prog w = .ok (.bool false) w := by go_simp

theorem pow_small {n N : Nat} (h : 10 ^ n ≤ N) (hN : N ≤ 2000000000000000000) : n ≤ 18 := by
  rcases Nat.lt_or_ge n 19 with h1 | h1
  · omega
  · have := Nat.pow_le_pow_right (n := 10) (by decide) h1
    have e : (10 : Nat) ^ 19 = 10000000000000000000 := by decide
    omega
set_option maxHeartbeats 1000000 in
set_option maxRecDepth 100000 in
theorem markText_i (q : Int) (N : Nat) (hq : q = (N : Int)) (hN : N ≤ 2000000000000000000) (w : World) : Calls Tryz.prog 39 #[.int .i64 q] w (Ret (.string ⟨(markT N).toArray⟩) w) := by
  subst hq
  by_cases h0 : N = 0
  · subst h0
    have HE : Sec (markT 0 = [109, 48]) := ⟨by unfold markT; rw [dec_small (by omega)]; rfl⟩
    go_enter Tryz.func39, Tryz.ntmps39
    go_wp2
    go_ret
    rw [HE.out]
    exact ⟨rfl, Mod.refl _ _⟩
  · have hni : ¬ (N : Int) ≤ 0 := by omega
    have HS0 : Sec (DecSt N N []) := ⟨by unfold DecSt; rw [if_neg h0, List.append_nil]⟩
    have HMT : Sec (markT N = [109] ++ Lib.decDigits N) := ⟨rfl⟩
    clear h0
    go_enter Tryz.func39, Tryz.ntmps39
    go_wp2
    clear hni
    go_loopw [0, 3] (fun q s wr => ∃ (m : Nat) (js : Bytes), m ≤ N ∧ q = .int .i64 (m : Int) ∧ s = .string ⟨js.toArray⟩ ∧ js.length ≤ 30 ∧ Sec (m = 0 ∨ m * 10 ^ js.length ≤ N) ∧ Sec (DecSt N m js) ∧ Sec (New w wr)) (fun q _ _ => (intOf q).toNat)
    case atStart => exact ⟨N, [], Nat.le_refl _, rfl, rfl, by simp, ⟨.inr (by simp)⟩, HS0, ⟨Mod.refl _ _⟩⟩
    case round =>
      obtain ⟨m, js, hm, rfl, rfl, hjl, HP, HS, HM⟩ := hrel
      clear HS0
      by_cases hm0 : m = 0
      · subst hm0
        have hE : js = Lib.decDigits N := by have := HS.out; unfold DecSt at this; rwa [if_pos rfl] at this
        have HE := Sec.mk hE
        have hap := ba_app' [109] js
        clear hE
        go_wp2
        go_ret
        rw [HMT.out, ← HE.out]
        exact ⟨rfl, HM.out⟩
      · have hmi : (0 : Int) < (m : Int) := by omega
        have HS' := Sec.mk (HS.out.step hm0)
        have hp := HP.out.resolve_left hm0
        have hj18 : js.length ≤ 18 := pow_small (N := N) (Nat.le_trans (Nat.le_mul_of_pos_left _ (by omega)) hp) hN
        have HP' : Sec (m / 10 = 0 ∨ m / 10 * 10 ^ (js.length + 1) ≤ N) := ⟨.inr (by
          rw [Nat.pow_succ, ← Nat.mul_assoc, Nat.mul_right_comm]
          exact Nat.le_trans (Nat.mul_le_mul_right _ (Nat.div_mul_le_self m 10)) hp)⟩
        have HRO := Row.one wr 5 (UInt8.ofNat (48 + m % 10)) (48 + (m : Int) % 10) (by rw [UInt8.toNat_ofNat']; omega)
        have hcv := HRO.conv (P := Tryz.prog) Tryz.underlying52 Tryz.underlying5 Tryz.underlying9 1
        clear HRO hp HP
        go_wp2
        refine ⟨⟨m / 10, [UInt8.ofNat (48 + m % 10)] ++ js, by omega, ?_, ?_, ?_, ?_, HS', ⟨HM.out.alloc _⟩⟩, ?_⟩
        · go_num
        · rw [← ba_app']; simp
        · simp only [List.length_append, List.length_singleton]; omega
        · rw [List.length_append, List.length_singleton, Nat.add_comm]; exact HP'
        · simp [intOf]; omega

end Go.Proofs.YtkkgighgnbbgiaaGreatDoor
