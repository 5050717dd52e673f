/- Rows of rows of bytes: the laws' helpers. -/
import Derived.Test.YtciaoedjiggonaaMarks
import Derived.Test.YtciaoedjiggonaaMarkL
import Derived.Deep.RegionHeld3
namespace Go.Proofs.Ytciaoedjiggonaa
open Go.RowKit Mem
set_option linter.unusedVariables false

def tB : Ty Bytes := Ty.slice 5 Ty.byte
theorem elt_b : Elt Try.prog 22 tB.sz (.slice none 0 0) := Elt.of (b := 24) (by kernel_rfl) rfl (by decide) (by decide)
theorem bss_at {w w' : World} {B : Nat → Prop} {A : Option Addr} {n : Nat} {xs : List Bytes} (h : Row tB w B A n xs) (hb : ∀ k, B k → w'.heap[k]? = w.heap[k]?) {k : Nat} (hk : k < xs.length) :
    ∃ ad A' c', A = some ad ∧ w'.cell? (ad.add k) = some (.slice A' xs[k].length c') ∧ xs[k].length ≤ c' ∧ Row Ty.byte w' B A' xs[k].length xs[k] := by
  obtain ⟨ad, c, rfl, ⟨A', c', rfl, h1, h2, h3⟩, h0, _⟩ := h.cells_at hb hk
  have := h0 _ rfl
  rw [show k * tB.sz = k from by show k * 1 = k; omega] at this
  exact ⟨ad, A', c', rfl, this, h1, h3.mod (fun _ h => h) hb⟩

def szB (xs : List Bytes) : Nat := xs.length + preS List.length xs xs.length
theorem eqByteS_as (r : Bool) {A A' : Option Addr} {c c' n n' : Nat} {xs ys : Bytes} {B : Nat → Prop} {w : World} (h : Sec (Row Ty.byte w B A n xs)) (h' : Sec (Row Ty.byte w B A' n' ys)) (hB : Sec (∀ k, B k → k < w.heap.size)) (hr : Sec (decide (xs = ys) = r)) :
    Calls Try.prog 23 #[.slice A n c, .slice A' n' c'] w (Ret (.bool r) w) := by
  obtain rfl := h.out.1
  obtain rfl := h'.out.1
  rw [← hr.out]; exact eqByteS_calls h.out h'.out hB.out
set_option maxHeartbeats 1000000 in
set_option maxRecDepth 100000 in
theorem eqByteSS_calls {A A' : Option Addr} {c c' : Nat} {xs ys : List Bytes} {B : Nat → Prop} {w : World} (h : Row tB w B A xs.length xs) (h' : Row tB w B A' ys.length ys) (hB : ∀ k, B k → k < w.heap.size) :
    Calls Try.prog 55 #[.slice A xs.length c, .slice A' ys.length c'] w (Ret (.bool (decide (xs = ys))) w) := by
  have hl := h.2.1
  have HR := Sec.mk h
  have HR' := Sec.mk h'
  have HB := Sec.mk hB
  clear h h' hB
  by_cases hne : xs.length = ys.length
  · have hnb : ((xs.length : Int) != (ys.length : Int)) = false := by simp [hne]
    have HNE := Sec.mk hne
    clear hne
    go_enter Try.func55, Try.ntmps55
    go_wp2
    go_loopw [5] (fun i wr => ∃ k : Nat, k ≤ xs.length ∧ i = .int .i64 k ∧ Sec (xs.take k = ys.take k) ∧ Sec (New w wr)) (fun i _ => xs.length - (intOf i).toNat)
    case atStart => exact ⟨0, Nat.zero_le _, rfl, Sec.mk (by simp), Sec.mk (Mod.refl _ _)⟩
    case round =>
      obtain ⟨k, hk, rfl, HT, HM⟩ := hrel
      by_cases hlt : k < xs.length
      · obtain ⟨ad, A1, c1, rfl, hx0, hxc, hrow⟩ := bss_at HR.out (fun i hi => HM.out.block i (HB.out i hi) id) hlt
        obtain ⟨ad', A2, c2, rfl, hy0, hyc, hrow'⟩ := bss_at HR'.out (fun i hi => HM.out.block i (HB.out i hi) id) (k := k) (by rw [← HNE.out]; exact hlt)
        have hi1 : (k : Int) < (xs.length : Int) := by omega
        have hi2 : (k : Int) < (ys.length : Int) := by rw [← HNE.out]; omega
        have HROW := Sec.mk hrow
        have HROW' := Sec.mk hrow'
        have HLT : Sec (∀ i, B i → i < wr.heap.size) := ⟨fun i hi => Nat.lt_of_lt_of_le (HB.out i hi) HM.out.size⟩
        have HXY : Sec (∃ p q r, p = xs[k] ∧ q = ys[k]'(by rw [← HNE.out]; exact hlt) ∧ r = decide (p = q)) := ⟨⟨_, _, _, rfl, rfl, rfl⟩⟩
        clear hrow hrow' hxc hyc
        obtain ⟨p, q, r, hp, hq, hr⟩ := HXY.out
        rw [← hp] at hx0 HROW
        rw [← hq] at hy0 HROW'
        have HP := Sec.mk hp
        have HQ := Sec.mk hq
        have HRR := Sec.mk hr.symm
        clear hp hq hr HXY
        have HX1 : Sec (Row Ty.byte wr.drew B A1 p.length p) := ⟨HROW.out.mod (fun _ h => h) (fun _ _ => rfl)⟩
        have HY1 : Sec (Row Ty.byte wr.drew B A2 q.length q) := ⟨HROW'.out.mod (fun _ h => h) (fun _ _ => rfl)⟩
        have HL1 : Sec (∀ i, B i → i < wr.drew.heap.size) := HLT
        clear HROW HROW' HLT
        cases r with
        | true =>
          go_wp2
          go_region_held3 (fun w' => w'.cell? (ad.add k) = some (.slice A1 p.length c1) ∧ w'.cell? (ad'.add k) = some (.slice A2 q.length c2))
            (first | go_keep | (refine ⟨hm2.cell_of ?_, hm2.cell_of ?_⟩ <;> assumption) | (go_split_ands; refine ⟨hm2.cell_of ?_, hm2.cell_of ?_⟩ <;> assumption))
            ((go_at_call 23; refine (eqByteS_as true HX1 HY1 HL1 HRR).mono ?_; rintro e w2 ⟨rfl, hm2⟩))
          have HM2 := Sec.mk (HM.out.drew.transN hm2)
          clear hm2
          go_wp2
          go_roundw
          case rel => exact ⟨k + 1, by omega, by go_num, ⟨by rw [List.take_succ_eq_append_getElem hlt, List.take_succ_eq_append_getElem (by rw [← HNE.out]; exact hlt), HT.out, ← HP.out, ← HQ.out, of_decide_eq_true HRR.out]⟩, HM2⟩
          case measure => simp [intOf]; omega
        | false =>
          have HXY : Sec (¬ xs = ys) := ⟨fun e => of_decide_eq_false HRR.out (by rw [HP.out, HQ.out]; subst e; rfl)⟩
          go_wp2
          go_region_held3 (fun w' => w'.cell? (ad.add k) = some (.slice A1 p.length c1) ∧ w'.cell? (ad'.add k) = some (.slice A2 q.length c2))
            (first | go_keep | (refine ⟨hm2.cell_of ?_, hm2.cell_of ?_⟩ <;> assumption) | (go_split_ands; refine ⟨hm2.cell_of ?_, hm2.cell_of ?_⟩ <;> assumption))
            ((go_at_call 23; refine (eqByteS_as false HX1 HY1 HL1 HRR).mono ?_; rintro e w2 ⟨rfl, hm2⟩))
          have HM2 := Sec.mk (HM.out.drew.transN hm2)
          clear hm2
          go_wp2
          go_ret
          exact ⟨by simp [HXY.out], HM2.out⟩
      · have he : xs = ys := by
          have h1 := HT.out
          rw [List.take_of_length_le (by omega), List.take_of_length_le (by rw [← HNE.out]; omega)] at h1
          exact h1
        have HE := Sec.mk he
        clear he
        go_wp2
        go_ret
        exact ⟨by simp [HE.out], HM.out⟩
  · have hnb : ((xs.length : Int) != (ys.length : Int)) = true := by simp; omega
    go_enter Try.func55, Try.ntmps55
    go_wp2
    go_ret
    exact ⟨by simp [show xs ≠ ys from fun e => hne (by rw [e])], Mod.refl _ _⟩
def mkBS (k : Nat) (xs : List Bytes) : List Bytes := markL (fun k x => mkB k x.length) List.length k xs
theorem mkBS_len (k : Nat) (xs : List Bytes) : (mkBS k xs).length = xs.length := markL_len _ _ _ _
theorem mkBS_at (k : Nat) (xs : List Bytes) {i : Nat} (h : i < (mkBS k xs).length) : (mkBS k xs)[i] = mkB (k + preS List.length xs i) (xs[i]'(by rw [mkBS_len] at h; exact h)).length := markL_at _ _ _ _ _
theorem mkBS_pre (k : Nat) (xs : List Bytes) (i : Nat) : preS List.length (mkBS k xs) i = preS List.length xs i := preS_mark _ _ (fun k x => mkB_len _ _) _ _ _
theorem mkBS_idem (k k' : Nat) (xs : List Bytes) : mkBS k' (mkBS k xs) = mkBS k' xs := markL_idem _ _ (fun k x => mkB_len _ _) (fun k k' x => by simp [mkB_len]) _ _ _
set_option maxHeartbeats 1000000 in
set_option maxRecDepth 100000 in
theorem markByteSS_calls {A : Option Addr} {c : Nat} {xs : List Bytes} {F : List Nat} {w : World} (h : Own tB 22 w F (.slice A xs.length c) xs) (k : Nat) (hk : k + preS List.length xs xs.length ≤ 1152921504606846976) :
    Calls Try.prog 56 #[.slice A xs.length c, .int .i64 k] w fun e w' => e = .returned (.int .i64 ((k + preS List.length xs xs.length : Nat) : Int)) ∧ ∃ F', Own tB 22 w' F' (.slice A (mkBS k xs).length c) (mkBS k xs) ∧ (∀ i, i ∈ F' → i ∈ F) ∧ Mod (· ∈ F) w w' := by
  have hlx := h.len_le
  have HO := Sec.mk h
  clear h
  go_enter Try.func56, Try.ntmps56
  go_wp2
  go_loopw [1, 5] (fun q i wr => ∃ (j : Nat) (ys : List Bytes) (G : List Nat), j ≤ xs.length ∧ i = .int .i64 j ∧ q = .int .i64 ((k + preS List.length xs j : Nat) : Int) ∧ Sec (ys = (mkBS k xs).take j ++ xs.drop j) ∧ Sec (Own tB 22 wr G (.slice A xs.length c) ys) ∧ Sec (∀ k, k ∈ G → k ∈ F) ∧ Sec (Mod (· ∈ F) w wr)) (fun _ i _ => xs.length - (intOf i).toNat)
  case atStart => exact ⟨0, xs, F, Nat.zero_le _, rfl, by rw [preS_zero]; rfl, ⟨by simp⟩, HO, ⟨fun _ h => h⟩, ⟨Mod.refl _ _⟩⟩
  case round =>
    obtain ⟨j, ys, G, hj, rfl, rfl, HY, HO, HF, HM⟩ := hrel
    by_cases hlt : j < xs.length
    · have hyl : ys.length = xs.length := by rw [HY.out]; exact take_drop_len (mkBS_len k xs) j
      have hjy : j < ys.length := by omega
      have hyj : ys[j] = xs[j] := by simp only [HY.out]; exact take_drop_at (mkBS_len k xs) hlt _
      obtain ⟨cs, f, hM, hfG, hcell, hst⟩ := HO.out.sub hjy
      obtain ⟨g, rfl, hgG, hgf, hc⟩ := hcell _ _ _ rfl
      obtain ⟨v, rfl, hv⟩ := hM
      obtain ⟨A1, c1, rfl, -, -⟩ := hv.form
      have hc0 := hc 0 (by decide)
      simp only [show tB.sz = 1 from rfl, Nat.mul_one, Nat.add_zero] at hc0
      have hx0 : wr.cell? ⟨g, j, none⟩ = some (.slice A1 ys[j].length c1) := hc0
      have HST := Sec.mk hst
      have HV := Sec.mk hv
      have hks := preS_succ List.length xs hlt
      have hkl := preS_le List.length xs (j + 1)
      have HZ := Sec.mk (mkBS_at k xs (i := j) (by rw [mkBS_len]; exact hlt))
      rw [hyj] at HST HV hx0
      have HYL := Sec.mk hyl
      have HFG := Sec.mk hfG
      clear hc hc0 hcell hst hv hgG hgf hyj hjy hyl hfG
      have HKS := Sec.mk hks
      have hkb : preS List.length xs j + xs[j].length ≤ preS List.length xs xs.length := by omega
      clear hks hkl
      generalize hp : preS List.length xs j = s at *
      generalize hxj : xs[j] = x at *
      go_wp2_with fail
      refine (markByteS_calls HV.out (k + s) (by omega)).mono ?_
      rintro e w2 ⟨rfl, F1, ho1, hf1, hm1⟩
      obtain ⟨G', hG', hGF⟩ := HST.out w2 (mkB (k + s) x.length) F1 hm1 ⟨_, rfl, by rw [mkB_len] at ho1; exact ho1⟩ (fun k hk => .inl (hf1 k hk))
      have HG' := Sec.mk hG'
      have HGF : Sec (∀ i, i ∈ G' → i ∈ F) := ⟨fun i hi => HF.out i ((hGF i hi).elim id fun h => HFG.out i (hf1 i h))⟩
      have HM' : Sec (Mod (· ∈ F) w w2) := ⟨HM.out.trans hm1 fun i hi _ => HF.out i (HFG.out i hi)⟩
      clear hG' hGF hm1 ho1 hf1
      go_wp2
      go_roundw
      case rel => exact ⟨j + 1, _, G', by omega, by go_num, by rw [HKS.out]; congr 1; omega, ⟨by rw [← HZ.out, HY.out]; exact take_drop_set (mkBS_len k xs) hlt⟩, HG', HGF, HM'⟩
      case measure => simp [intOf]; omega
    · obtain rfl : j = xs.length := by omega
      go_wp2
      go_ret
      have he : ys = mkBS k xs := by
        rw [HY.out, List.take_of_length_le (by rw [mkBS_len]; exact Nat.le_refl _)]; simp
      subst he
      refine ⟨by simp, G, ?_, HF.out, HM.out⟩
      rw [mkBS_len]
      exact HO.out
set_option maxHeartbeats 1000000 in
set_option maxRecDepth 100000 in
theorem heldByteSS_calls {A : Option Addr} {c : Nat} {xs : List Bytes} {B : Nat → Prop} {w : World} (h : Row tB w B A xs.length xs) (hB : ∀ k, B k → k < w.heap.size) (k : Nat) (hx : xs = mkBS k xs) (hk : k + preS List.length xs xs.length ≤ 1152921504606846976) :
    Calls Try.prog 57 #[.slice A xs.length c, .int .i64 k] w (Ret (.int .i64 ((k + preS List.length xs xs.length : Nat) : Int)) w) := by
  have hl := h.2.1
  have HR := Sec.mk h
  have HX := Sec.mk hx
  have HB := Sec.mk hB
  clear h hx hB
  go_enter Try.func57, Try.ntmps57
  go_wp2
  go_loopw [1, 5] (fun q i wr => ∃ (j : Nat), j ≤ xs.length ∧ i = .int .i64 j ∧ q = .int .i64 ((k + preS List.length xs j : Nat) : Int) ∧ Sec (New w wr)) (fun _ i _ => xs.length - (intOf i).toNat)
  case atStart => exact ⟨0, Nat.zero_le _, rfl, by rw [preS_zero]; rfl, ⟨Mod.refl _ _⟩⟩
  case round =>
    obtain ⟨j, hj, rfl, rfl, HM⟩ := hrel
    by_cases hlt : j < xs.length
    · obtain ⟨ad, A1, c1, rfl, hx0, hxc, hrow⟩ := bss_at HR.out (fun i hi => HM.out.block i (HB.out i hi) id) hlt
      have hks := preS_succ List.length xs hlt
      have hkl := preS_le List.length xs (j + 1)
      have hkb : preS List.length xs j + xs[j].length ≤ preS List.length xs xs.length := by omega
      have HKS := Sec.mk hks
      have hz : xs[j] = mkB (k + preS List.length xs j) xs[j].length := by
        have := mkBS_at k xs (i := j) (by rw [mkBS_len]; exact hlt)
        rw [← this]; congr 1; exact HX.out
      have HZ := Sec.mk hz
      have HROW := Sec.mk hrow
      clear hks hkl hz hrow hxc
      generalize hp : preS List.length xs j = s at *
      generalize hxj : xs[j] = x at *
      go_wp2_with fail
      refine (heldByteS_calls HROW.out (k + s) HZ.out (by omega)).mono ?_
      rintro e w2 ⟨rfl, hm1⟩
      have HM' := Sec.mk (HM.out.transN hm1)
      clear hm1
      go_wp2
      go_roundw
      case rel => exact ⟨j + 1, by omega, by go_num, by rw [HKS.out]; congr 1; omega, HM'⟩
      case measure => simp [intOf]; omega
    · obtain rfl : j = xs.length := by omega
      go_wp2
      go_ret
      exact ⟨by simp, HM.out⟩
end Go.Proofs.Ytciaoedjiggonaa
