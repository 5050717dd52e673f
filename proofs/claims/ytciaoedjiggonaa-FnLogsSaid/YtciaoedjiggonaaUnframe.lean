/- Both readings of a log. -/
import Derived.Test.YtciaoedjiggonaaPureLog
import Derived.Test.YtciaoedjiggonaaMem3
import Derived.Deep.RegionHeld3
namespace Go.Proofs.Ytciaoedjiggonaa
open Go.RowKit Mem
set_option linter.unusedVariables false

theorem Row.plainB {w : World} {B : Nat → Prop} {A : Option Addr} {n : Nat} {ys : Bytes} (h : Row Ty.byte w B A n ys) (h0 : 0 < n) :
    ∃ b off, A = some ⟨b, off, none⟩ ∧ B b ∧ ∀ i, (hi : i < ys.length) → w.cell? ⟨b, off + i, none⟩ = some (.int .u8 (ys[i].toNat : Int)) := by
  obtain ⟨b, off, rfl, hb, hc⟩ := h.plain h0
  refine ⟨b, off, rfl, hb, fun i hi => ?_⟩
  rw [hc i (by rw [← h.1]; exact hi)]
  simp [hi]

def FirstPost (w : World) (xs : Bytes) (e : Ending) (w' : World) : Prop :=
  New w w' ∧ ((¬ okFirst xs ∧ e = .returned (.tuple #[.slice none 0 0, .bool false])) ∨
    (okFirst xs ∧ ∃ A c, e = .returned (.tuple #[.slice A (recOf xs).length c, .bool true]) ∧ Mine Ty.byte 5 w w' (.slice A (recOf xs).length c) (recOf xs)))
set_option maxHeartbeats 1000000 in
set_option maxRecDepth 100000 in
theorem l2First_calls {A : Option Addr} {c : Nat} {xs : Bytes} {B : Nat → Prop} {w : World} (h : Row Ty.byte w B A xs.length xs) (hB : ∀ k, B k → k < w.heap.size) (hc : xs.length ≤ c) (hcc : c ≤ 9223372036854775807) :
    Calls Try.prog 54 #[.slice A xs.length c] w (FirstPost w xs) := by
  have HR := Sec.mk h
  have HB := Sec.mk hB
  have HD : Sec (okFirst xs ↔ 6 ≤ xs.length ∧ 1 ≤ firstN xs ∧ firstN xs ≤ 2000 ∧ 6 + firstN xs ≤ xs.length ∧ headL (recOf xs) = xs.take 6) := ⟨Iff.rfl⟩
  by_cases h6 : xs.length < 6
  · have HN : Sec (¬ okFirst xs) := ⟨fun h => by have := h.1; omega⟩
    clear h hB
    go_enter Try.func54, Try.ntmps54
    go_wp2
    go_ret2
    exact ⟨Mod.refl _ _, .inl ⟨HN.out, rfl⟩⟩
  obtain ⟨b, off, rfl, hb, hcell⟩ := Row.plainB h (by omega)
  have hx0 : w.cell? ⟨b, off, none⟩ = some (.int .u8 (xs[0].toNat : Int)) := hcell 0 (by omega)
  have hx1 := hcell 1 (by omega)
  have HFN : Sec (firstN xs = xs[0].toNat * 256 + xs[1].toNat) := ⟨by unfold firstN; rw [List.getD_eq_getElem?_getD, List.getD_eq_getElem?_getD, List.getElem?_eq_getElem (by omega), List.getElem?_eq_getElem (by omega)]; rfl⟩
  have hb0 := xs[0].toNat_lt
  have hb1 := xs[1].toNat_lt
  have HCL := Sec.mk hcell
  have hi0 : (0 : Int) < (xs.length : Int) := by omega
  have hn0 : 0 < xs.length := by omega
  have hne : xs ≠ [] := by intro e; subst e; simp at hn0
  have hi1 : (1 : Int) < (xs.length : Int) := by omega
  clear h hB hcell
  generalize xs[0].toNat = a0 at *
  generalize xs[1].toNat = a1 at *
  have HRL := Sec.mk (recOf_len (xs := xs))
  have HFO := Sec.mk (frame_of (xs := xs))
  have HHO := Sec.mk (head_of (xs := xs))
  rw [HFN.out] at HD HRL HFO HHO
  have HRC : Sec (recOf xs = (xs.take (6 + (a0 * 256 + a1))).drop 6) := ⟨by unfold recOf; rw [HFN.out]⟩
  clear HFN
  by_cases hn1 : a0 * 256 + a1 < 1
  · have HN : Sec (¬ okFirst xs) := ⟨fun h => by have := (HD.out.1 h).2.1; omega⟩
    go_enter Try.func54, Try.ntmps54
    go_wp2
    go_quiet (fail)
    go_wp2
    go_ret2
    exact ⟨(Mod.refl _ _).drewN _, .inl ⟨HN.out, rfl⟩⟩
  by_cases hn2 : 2000 < a0 * 256 + a1
  · have HN : Sec (¬ okFirst xs) := ⟨fun h => by have := (HD.out.1 h).2.2.1; omega⟩
    go_enter Try.func54, Try.ntmps54
    go_wp2
    go_quiet (fail)
    go_wp2
    go_ret2
    exact ⟨(Mod.refl _ _).drewN _, .inl ⟨HN.out, rfl⟩⟩
  by_cases hn3 : xs.length < 6 + (a0 * 256 + a1)
  · have HN : Sec (¬ okFirst xs) := ⟨fun h => by have := (HD.out.1 h).2.2.2.1; omega⟩
    go_enter Try.func54, Try.ntmps54
    go_wp2
    go_quiet (fail)
    go_wp2
    go_ret2
    exact ⟨(Mod.refl _ _).drewN _, .inl ⟨HN.out, rfl⟩⟩
  have HRR := Sec.mk (HR.out.cut1 (k := 6) (m := 6 + (a0 * 256 + a1)) (by omega) (by omega))
  rw [← HRC.out, show 6 + (a0 * 256 + a1) - 6 = (recOf xs).length by rw [HRL.out (by omega)]; omega] at HRR
  rw [show (⟨b, off, none⟩ : Addr).add 6 = ⟨b, off + 6, none⟩ from by simp [Addr.add]] at HRR
  have HRQ : Sec (∀ nq, Row Ty.byte (w.drewN nq) B (some ⟨b, off + 6, none⟩) (recOf xs).length (recOf xs)) := ⟨fun nq => HRR.out.mod (fun _ h => h) (fun _ _ => rfl)⟩
  clear HRR
  have HLN : Sec (a0 * 256 + a1 = (recOf xs).length) := ⟨(HRL.out (by omega)).symm⟩
  have HWL := Sec.mk (frameL_len (recOf xs))
  go_enter Try.func54, Try.ntmps54
  go_wp2
  go_quiet (fail)
  go_wp2_with fail
  rw [HLN.out]
  refine (l2Frame_calls (HRQ.out nq) (fun k hk => HB.out k hk) (by rw [← HLN.out]; omega) (by rw [← HLN.out]; omega)).mono ?_
  rintro e w1 h1
  obtain ⟨A1, c1, rfl, HO⟩ := h1.mine
  have HM1 := Sec.mk (((Mod.refl (fun _ => False) w).drewN nq).transN HO.new)
  clear h1
  have HO' := Sec.mk HO.row
  clear HO
  have HWM : Sec ((frameL (recOf xs)).length = 6 + (a0 * 256 + a1)) := ⟨HWL.out.trans (by rw [HLN.out])⟩
  have hwm : (frameL (recOf xs)).length ≤ xs.length := by rw [HWM.out]; omega
  have HLT1 : Sec (∀ k, w.heap.size ≤ k ∧ k < w1.heap.size → k < w1.heap.size) := ⟨fun k h => h.2⟩
  have HO2 : Sec (Row Ty.byte w1 (fun k => k < w1.heap.size) A1 (frameL (recOf xs)).length (frameL (recOf xs))) := ⟨HO'.out.mod (fun k hk => hk.2) (fun _ _ => rfl)⟩
  clear HO' HLT1
  generalize hW : frameL (recOf xs) = W at *
  have HW := Sec.mk hW
  clear hW
  go_wp2
  go_loopw [42] (fun i wr => ∃ k : Nat, k ≤ W.length ∧ i = .int .i64 k ∧ Sec (W.take k = xs.take k) ∧ Sec (New w1 wr)) (fun i _ => W.length - (intOf i).toNat)
  case atStart => exact ⟨0, Nat.zero_le _, rfl, ⟨by simp⟩, ⟨Mod.refl _ _⟩⟩
  case round =>
    obtain ⟨k, hk, rfl, HT, HM⟩ := hrel
    by_cases hlt : k < W.length
    · obtain ⟨adW, rfl, hxw⟩ := HO2.out.byte_at (fun i hi => HM.out.block i hi id) hlt
      have hxx : wr.cell? ⟨b, off + k, none⟩ = some (.int .u8 (xs[k].toNat : Int)) := (World.cell?_of_block ((HM.out.block b (Nat.lt_of_lt_of_le (HB.out b hb) HM1.out.size) id).trans (HM1.out.block b (HB.out b hb) id))).trans (HCL.out k (by omega))
      have hk1 : (k : Int) < (W.length : Int) := by omega
      have hk2 : (k : Int) < (xs.length : Int) := by omega
      by_cases he : W[k] = xs[k]
      · have hbb : ((W[k].toNat : Int) != (xs[k].toNat : Int)) = false := by rw [he]; simp
        have HE := Sec.mk he
        clear he
        go_wp2
        go_quiet (fail)
        go_wp2
        go_roundw
        case rel => exact ⟨k + 1, by omega, by go_num, ⟨by rw [List.take_succ_eq_append_getElem hlt, List.take_succ_eq_append_getElem (by omega), HT.out, HE.out]⟩, ⟨HM.out.drewN _⟩⟩
        case measure => simp [intOf]; omega
      · have hbb : ((W[k].toNat : Int) != (xs[k].toNat : Int)) = true := by
          simp only [bne_iff_ne, ne_eq]; intro h; exact he (UInt8.toNat_inj.1 (by omega))
        have HN : Sec (¬ okFirst xs) := ⟨fun h => he (by
          have h2 : W = xs.take (6 + (a0 * 256 + a1)) := HFO.out (by omega) (HD.out.1 h).2.2.2.2
          have h3 : k < (xs.take (6 + (a0 * 256 + a1))).length := by rw [← h2]; exact hlt
          have h4 : W[k]? = (xs.take (6 + (a0 * 256 + a1)))[k]? := by rw [← h2]
          rw [List.getElem?_eq_getElem hlt, List.getElem?_eq_getElem h3, List.getElem_take] at h4
          exact Option.some.inj h4)⟩
        clear he
        go_wp2
        go_quiet (fail)
        go_wp2
        go_ret2
        exact ⟨(HM1.out.transN HM.out).drewN _, .inl ⟨HN.out, rfl⟩⟩
    · obtain rfl : k = W.length := by omega
      have HOK : Sec (okFirst xs) := ⟨HD.out.2 ⟨by omega, by omega, by omega, by omega, HHO.out (by omega) (by
        have := HT.out
        rw [List.take_length, HWM.out] at this
        exact this)⟩⟩
      have HR3 : Sec (Row Ty.byte wr B (some ⟨b, off + 6, none⟩) (recOf xs).length (recOf xs)) := ⟨(HRQ.out 0).mod (fun _ h => h) (fun i hi => (HM.out.block i (Nat.lt_of_lt_of_le (HB.out i hi) HM1.out.size) id).trans (HM1.out.block i (HB.out i hi) id))⟩
      go_wp2_with fail
      refine (l1Bytes_calls HR3.out (fun k hk => Nat.lt_of_lt_of_le (HB.out k hk) (HM1.out.transN HM.out).size) (by rw [← HLN.out]; omega)).mono ?_
      rintro e w3 h3
      obtain ⟨A3, c3, rfl, HO3⟩ := h3.mine
      clear h3
      go_wp2
      go_ret2
      exact ⟨(HM1.out.transN HM.out).transN HO3.new, .inr ⟨HOK.out, A3, c3, rfl, HO3.base (HM1.out.transN HM.out)⟩⟩
end Go.Proofs.Ytciaoedjiggonaa
