/- The laws' helpers over slices of ints. -/
import Derived.Test.YtinfibggdbakoaaValB
import Derived.Test.YtinfibggdbakoaaMarks
namespace Go.Proofs.Ytinfibggdbakoaa
open Go.RowKit Mem
set_option linter.unusedVariables false
set_option linter.unusedSimpArgs false
abbrev dIntS : Ty (List Int) := Ty.slice 3 (Ty.int .i64)
theorem elt_i64 : Elt Try.prog 3 (Ty.int .i64).sz (.int .i64 0) := Elt.of (b := 8) (by kernel_rfl) rfl (by decide) (by decide)
theorem intRow_at {w w' : World} {B : Nat → Prop} {A : Option Addr} {n : Nat} {xs : List Int} (h : Row (Ty.int .i64) w B A n xs) (hb : ∀ k, B k → w'.heap[k]? = w.heap[k]?) {k : Nat} (hk : k < xs.length) :
    ∃ ad, A = some ad ∧ w'.cell? (ad.add k) = some (.int .i64 xs[k]) ∧ IntKind.i64.wrap xs[k] = xs[k] := by
  obtain rfl := h.1
  obtain ⟨ad, c, hlt, rfl, hbl, hK, hc⟩ := h.at_ hk
  have h0 : w'.cell? (ad.add k) = w.cell? (ad.add k) := World.cell?_of_block (by rw [add_block]; exact hb _ hbl)
  obtain ⟨hK', hw⟩ : c = [Value.int .i64 xs[k]] ∧ IntKind.i64.wrap xs[k] = xs[k] := hK
  refine ⟨ad, rfl, ?_, hw⟩
  rw [h0]
  subst hK'
  have h1 := hc 0 _ rfl
  rwa [show k * (Ty.int .i64).sz + 0 = k from by show k * 1 + 0 = k; omega] at h1
def szIntS (xs : List Int) : Nat := xs.length
def cntIntS (xs : List Int) : Nat := xs.length
def mkI (k n : Nat) : List Int := (List.range n).map fun i => ((k + i : Nat) : Int)
theorem mkI_len (k n : Nat) : (mkI k n).length = n := by simp [mkI]
theorem mkI_at (k n i : Nat) (h : i < (mkI k n).length) : (mkI k n)[i] = ((k + i : Nat) : Int) := by simp [mkI]
def mkIntS1 (k : Nat) (xs : List Int) : List Int := mkI k xs.length
theorem cntIntS_lt {x : List Int} (h : szIntS x ≤ 1048576) : cntIntS x ≤ 1048576 := h
theorem cntIntS_mk (k : Nat) (x : List Int) : cntIntS (mkIntS1 k x) = cntIntS x := mkI_len _ _
theorem mkIntS1_idem (k k' : Nat) (x : List Int) : mkIntS1 k' (mkIntS1 k x) = mkIntS1 k' x := by unfold mkIntS1; rw [mkI_len]
set_option maxHeartbeats 1000000 in
theorem toIntS_calls {A : Option Addr} {c : Nat} {xs : List Int} {B : Nat → Prop} {w : World} (h : Row (Ty.int .i64) w B A xs.length xs) (hB : ∀ k, B k → k < w.heap.size) (hl : xs.length ≤ 34359738368) :
    Calls Try.prog 18 #[.slice A xs.length c] w (RetOwn (Ty.int .i64) 3 w xs) := by
  have HR := Sec.mk h
  clear h
  go_enter Try.func18, Try.ntmps18
  go_wp2_with (refine wpList_make _ rfl (.tmp 6) _ rfl (Ty.int .i64) 3 Try.underlying45 elt_i64 0 (fun _ => ⟨rfl, rfl, by decide⟩) xs.length rfl hl ?_; intro w1 ho1 hm1; have HO1 := Sec.mk ho1; have HM1 := Sec.mk hm1; clear ho1 hm1)
  go_loopw [4] (fun i wr => ∃ (k : Nat) (ys : List Int) (F : List Nat), k ≤ xs.length ∧ i = .int .i64 k ∧ Sec (ys.length = xs.length) ∧ Sec (ys.take k = xs.take k) ∧ Sec (Own (Ty.int .i64) 3 wr F (.slice (some ⟨w.heap.size, 0, none⟩) xs.length xs.length) ys) ∧ Sec (∀ k, k ∈ F → w.heap.size ≤ k) ∧ Sec (New w wr)) (fun i _ => xs.length - (intOf i).toNat)
  case atStart => exact ⟨0, _, _, Nat.zero_le _, rfl, Sec.mk (by simp), Sec.mk (by simp), HO1, Sec.mk (by simp), HM1⟩
  case round =>
    obtain ⟨k, ys, F, hk, rfl, HL, HT, HO, HF, HM⟩ := hrel
    clear HO1 HM1
    by_cases hlt : k < xs.length
    · obtain ⟨ad, rfl, hx, hwx⟩ := intRow_at HR.out (fun i hi => HM.out.block i (hB i hi) id) hlt
      obtain ⟨g, hA, hgF, hc0, hfz0, hst⟩ := HO.out.int_elem (j := k) (by rw [HL.out]; exact hlt)
      have hA' : w.heap.size = g := by injection hA with hA; injection hA
      subst hA'
      obtain ⟨F', ho', hF'⟩ := hst xs[k] hwx
      have HO' := Sec.mk ho'
      have HF' := Sec.mk hF'
      clear hA hgF hst ho' hF' hwx
      go_wp2
      go_roundw
      case rel => exact ⟨k + 1, _, F', by omega, by go_num, Sec.mk (by rw [List.length_set]; exact HL.out), Sec.mk (set_prefix xs ys k hlt HL.out HT.out), HO', Sec.mk (fun i hi => HF.out i (HF'.out i hi)), Sec.mk (HM.out.setCell (fun h => absurd h (Nat.lt_irrefl _)) _)⟩
      case measure => simp [intOf]; omega
    · go_wp2
      go_ret
      have he : ys = xs := by
        have h1 := HT.out
        rw [List.take_of_length_le (by rw [HL.out]; omega), List.take_of_length_le (by omega)] at h1
        exact h1
      subst he
      exact RetOwn.of HO.out HF.out HM.out
theorem toIntS_v {w : World} {v : Value} {x : List Int} (h : RdV false dIntS w v x) (hs : szIntS x ≤ 1048576) : Calls Try.prog 18 #[v] w (RetV false dIntS w x) := by
  obtain ⟨A, c, rfl, hc, hr⟩ := h.slice
  exact (toIntS_calls hr (fun _ h => h) (by unfold szIntS at hs; omega)).mono fun _ _ h => h.toV
set_option maxHeartbeats 1000000 in
theorem eqIntS_calls {A A' : Option Addr} {c c' : Nat} {xs ys : List Int} {B : Nat → Prop} {w : World} (h : Row (Ty.int .i64) w B A xs.length xs) (h' : Row (Ty.int .i64) w B A' ys.length ys) (hB : ∀ k, B k → k < w.heap.size) :
    Calls Try.prog 20 #[.slice A xs.length c, .slice A' ys.length c'] w (Ret (.bool (decide (xs = ys))) w) := by
  have hl := h.2.1
  have HR := Sec.mk h
  have HR' := Sec.mk h'
  clear h h'
  by_cases hne : xs.length = ys.length
  · have hnb : ((xs.length : Int) != (ys.length : Int)) = false := by simp [hne]
    go_enter Try.func20, Try.ntmps20
    go_wp2
    go_loopw [5] (fun i wr => ∃ k : Nat, k ≤ xs.length ∧ i = .int .i64 k ∧ Sec (xs.take k = ys.take k) ∧ Sec (New w wr)) (fun i _ => xs.length - (intOf i).toNat)
    case atStart => exact ⟨0, Nat.zero_le _, rfl, Sec.mk (by simp), Sec.mk (Mod.refl _ _)⟩
    case round =>
      obtain ⟨k, hk, rfl, HT, HM⟩ := hrel
      by_cases hlt : k < xs.length
      · obtain ⟨ad, rfl, hx, -⟩ := intRow_at HR.out (fun i hi => HM.out.block i (hB i hi) id) hlt
        obtain ⟨ad', rfl, hx', -⟩ := intRow_at HR'.out (fun i hi => HM.out.block i (hB i hi) id) (k := k) (by omega)
        go_wp2
        go_quiet (fail)
        go_wp2
        · have hxy : xs[k] ≠ ys[k] := by
            intro he
            have hb : (xs[k] != ys[k]) = true := by assumption
            rw [he] at hb; simp at hb
          go_ret
          refine ⟨?_, HM.out.drewN _⟩
          have : xs ≠ ys := fun e => hxy (by subst e; rfl)
          simp [this]
        · have hxy : xs[k] = ys[k] := by
            have hb : (xs[k] != ys[k]) = false := by assumption
            simpa using hb
          have HXY := Sec.mk hxy
          clear hxy
          go_roundw
          case rel => exact ⟨k + 1, by omega, by go_num, Sec.mk (by rw [List.take_succ_eq_append_getElem hlt, List.take_succ_eq_append_getElem (by omega), HT.out, HXY.out]), Sec.mk (HM.out.drewN _)⟩
          case measure => simp [intOf]; omega
      · go_wp2
        go_ret
        have he : xs = ys := by
          have h1 := HT.out
          rw [List.take_of_length_le (by omega), List.take_of_length_le (by omega)] at h1
          exact h1
        exact ⟨by simp [he], HM.out⟩
  · have hnb : ((xs.length : Int) != (ys.length : Int)) = true := by simp; omega
    go_enter Try.func20, Try.ntmps20
    go_wp2
    go_ret
    exact ⟨by simp [show xs ≠ ys from fun e => hne (by rw [e])], Mod.refl _ _⟩
theorem eqIntS_v {w : World} {v v' : Value} {x x' : List Int} (h : RdV false dIntS w v x) (h' : RdV false dIntS w v' x') : Calls Try.prog 20 #[v, v'] w (Ret (.bool (decide (x = x'))) w) := by
  obtain ⟨A, c, rfl, hc, hr⟩ := h.slice
  obtain ⟨A', c', rfl, hc', hr'⟩ := h'.slice
  exact eqIntS_calls hr hr' (fun _ h => h)
set_option maxHeartbeats 1000000 in
theorem markIntS_calls {A : Option Addr} {c : Nat} {xs : List Int} {F : List Nat} {w : World} (h : Own (Ty.int .i64) 3 w F (.slice A xs.length c) xs) (k : Nat) (hk : k + xs.length ≤ 1152921504606846976) :
    Calls Try.prog 21 #[.slice A xs.length c, .int .i64 k] w fun e w' => e = .returned (.int .i64 ((k + xs.length : Nat) : Int)) ∧ ∃ F', Own (Ty.int .i64) 3 w' F' (.slice A (mkI k xs.length).length c) (mkI k xs.length) ∧ (∀ i, i ∈ F' → i ∈ F) ∧ Mod (· ∈ F) w w' := by
  have HO := Sec.mk h
  clear h
  go_enter Try.func21, Try.ntmps21
  go_wp2
  go_loopw [1, 5] (fun q i wr => ∃ (j : Nat) (ys : List Int) (G : List Nat), j ≤ xs.length ∧ i = .int .i64 j ∧ q = .int .i64 ((k + j : Nat) : Int) ∧ Sec (ys.length = xs.length) ∧ Sec (ys.take j = (mkI k xs.length).take j) ∧ Sec (Own (Ty.int .i64) 3 wr G (.slice A xs.length c) ys) ∧ Sec (∀ k, k ∈ G → k ∈ F) ∧ Sec (Mod (· ∈ F) w wr)) (fun _ i _ => xs.length - (intOf i).toNat)
  case atStart => exact ⟨0, xs, F, Nat.zero_le _, rfl, rfl, ⟨rfl⟩, ⟨by simp⟩, HO, ⟨fun _ h => h⟩, ⟨Mod.refl _ _⟩⟩
  case round =>
    obtain ⟨j, ys, G, hj, rfl, rfl, HL, HT, HO, HF, HM⟩ := hrel
    by_cases hlt : j < xs.length
    · obtain ⟨g, rfl, hgF, hc0, hfz0, hst⟩ := HO.out.int_elem (j := j) (by rw [HL.out]; exact hlt)
      obtain ⟨G', ho', hG'⟩ := hst ((k + j : Nat) : Int) (by rw [IntKind.wrap_i64]; omega)
      have HO' := Sec.mk ho'
      have HG' := Sec.mk hG'
      have HgF := Sec.mk hgF
      clear hst ho' hG' hgF
      go_wp2
      go_roundw
      case rel =>
        refine ⟨j + 1, _, G', by omega, by go_num, by go_num, ⟨(set_len ys j ((k + j : Nat) : Int)).trans HL.out⟩, ⟨?_⟩, ⟨?_⟩, ⟨fun i hi => HF.out i (HG'.out i hi)⟩, ⟨?_⟩⟩
        · have := set_prefix (mkI k xs.length) ys j (by rw [mkI_len]; exact hlt) (by rw [mkI_len]; exact HL.out) HT.out
          rwa [mkI_at] at this
        · have := HO'.out
          rw [Int.natCast_add] at this ⊢
          exact this
        · exact HM.out.setCell (fun _ => HF.out _ HgF.out) _
      case measure => simp [intOf]; omega
    · obtain rfl : j = xs.length := by omega
      go_wp2
      go_ret
      have he : ys = mkI k xs.length := by
        have h1 := HT.out
        rw [List.take_of_length_le (by rw [HL.out]; omega), List.take_of_length_le (by rw [mkI_len]; omega)] at h1
        exact h1
      refine ⟨by simp, G, ?_, HF.out, HM.out⟩
      rw [mkI_len, ← he]
      exact HO.out
theorem markIntS_f {w : World} {F : List Nat} {v : Value} {x : List Int} (h : OwF false dIntS w F v x) (k : Nat) (hk : k + cntIntS x ≤ 1152921504606846976) :
    Calls Try.prog 21 #[v, .int .i64 k] w (Marks false dIntS w F v (k + cntIntS x) (mkIntS1 k x)) := by
  obtain ⟨A, c, rfl, ho⟩ := h.slice
  refine (markIntS_calls ho k hk).mono ?_
  rintro e w' ⟨rfl, F', ho', hF', hm⟩
  rw [mkI_len] at ho'
  exact ⟨rfl, ⟨F', OwF.of_slice ho', hF'⟩, hm⟩
theorem markIntS_v {w : World} {lo hi : Nat} {v : Value} {x : List Int} (h : OwV false dIntS w lo hi v x) (k : Nat) (hk : k + cntIntS x ≤ 1152921504606846976) :
    Calls Try.prog 21 #[v, .int .i64 k] w fun e w' => e = .returned (.int .i64 ((k + cntIntS x : Nat) : Int)) ∧ OwV false dIntS w' lo hi v (mkIntS1 k x) ∧ Mod (fun i => lo ≤ i ∧ i < hi) w w' :=
  h.mark fun F hF => markIntS_f hF k hk
end Go.Proofs.Ytinfibggdbakoaa
