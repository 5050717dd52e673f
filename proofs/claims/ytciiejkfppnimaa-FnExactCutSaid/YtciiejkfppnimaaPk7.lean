/- Marks over bytes, the number given as an integer. Small and capital letters. -/
import Derived.Test.YtciiejkfppnimaaPk6
import Derived.Test.YtciiejkfppnimaaPk1
import Derived.Test.YtciiejkfppnimaaPk2
import Derived.Lib.ConvBytes
namespace Go.Proofs.Ytciiejkfppnimaa
open Go.RowKit Mem
set_option linter.unusedVariables false

theorem markByteS_i {w : World} {F : List Nat} {v : Value} {x : Bytes} (h : OwF false dBS w F v x) (q : Int) (k : Nat) (hq : q = (k : Int)) (hk : k + cntBS x ≤ 1152921504606846976) :
    Calls Try.prog 17 #[v, .int .i64 q] w (Marks false dBS w F v (k + cntBS x) (mkBS1 k x)) := by subst hq; exact markByteS_f h k hk


theorem heldByteS_i {w : World} {v : Value} {x : Bytes} (h : RdV false dBS w v x) (q : Int) (k : Nat) (hq : q = (k : Int)) (hx : x = mkBS1 k x) (hk : k + cntBS x ≤ 1152921504606846976) :
    Calls Try.prog 38 #[v, .int .i64 q] w (Ret (.int .i64 ((k + cntBS x : Nat) : Int)) w) := by subst hq; exact heldByteS_v h k hx hk

end Go.Proofs.Ytciiejkfppnimaa

namespace Go.Proofs.Ytciiejkfppnimaa
open Go.RowKit Mem
set_option linter.unusedVariables false
/-- the row of a conversion from a string: its block bears a mark behind its last cell -/
structure BRow (w : World) (g : Nat) (xs : Bytes) : Prop where
  ex : ∃ (tl : List Value) (e : TypeId), w.heap[g]? = some (.cells ((xs.map fun b => Value.int .u8 (b.toNat : Int)) ++ tl).toArray e ((xs.map fun b => Value.int .u8 (b.toNat : Int)).length + tl.length, (xs.map fun b => Value.int .u8 (b.toNat : Int)).length + tl.length + 1))
theorem BRow.cell {w : World} {g : Nat} {xs : Bytes} (h : BRow w g xs) (k : Nat) (hk : k < xs.length) : w.cell? ⟨g, k, none⟩ = some (.int .u8 (xs[k].toNat : Int)) := by
  obtain ⟨tl, e, hh⟩ := h.ex
  have h1 : k < (xs.map fun b => Value.int .u8 (b.toNat : Int)).length := by simpa using hk
  simp [World.cell?, hh, List.getElem?_append_left h1, hk]
theorem BRow.frozen {w : World} {g : Nat} {xs : Bytes} (h : BRow w g xs) (k : Nat) (hk : k < xs.length) : w.frozen? ⟨g, k, none⟩ = false := by
  obtain ⟨tl, e, hh⟩ := h.ex
  simp [World.frozen?, hh]
  omega
theorem BRow.set {w : World} {g : Nat} {xs : Bytes} (h : BRow w g xs) (k : Nat) (hk : k < xs.length) (b : UInt8) : BRow (w.setCell ⟨g, k, none⟩ (.int .u8 (b.toNat : Int))) g (xs.set k b) := by
  obtain ⟨tl, e, hh⟩ := h.ex
  refine ⟨tl, e, ?_⟩
  have h1 : k < (xs.map fun b => Value.int .u8 (b.toNat : Int)).length := by simpa using hk
  have hm : (xs.set k b).map (fun b => Value.int .u8 (b.toNat : Int)) = (xs.map fun b => Value.int .u8 (b.toNat : Int)).set k (.int .u8 (b.toNat : Int)) := by rw [List.map_set]
  rw [hm, List.length_set, ← List.set_append_left _ _ h1]
  simp [World.setCell, Array.getElem?_modify, hh]
theorem BRow.row {w : World} {g : Nat} {xs : Bytes} (h : BRow w g xs) (hl : xs.length ≤ 9223372036854775807) : Row Ty.byte w (· = g) (some ⟨g, 0, none⟩) xs.length xs :=
  ⟨rfl, hl, fun _ => ⟨_, rfl, rfl, fun j x hj => ⟨[.int .u8 (x.toNat : Int)], rfl, fun i u hu => by
    have hj' := List.getElem?_eq_some_iff.1 hj
    have hi : i = 0 := by have := (List.getElem?_eq_some_iff.1 hu).1; simpa using this
    subst hi
    rw [show j * Ty.byte.sz + 0 = j from Nat.mul_one j, add_own, h.cell j hj'.1, hj'.2]
    simpa using hu⟩⟩⟩
theorem conv_row (xs : Bytes) (w : World) : ∃ (cp : Nat) (w1 : World), (convert 9 22 (.string ⟨xs.toArray⟩)).run Try.prog w = .ok (.slice (some ⟨w.heap.size, 0, none⟩) xs.length cp) w1 ∧ BRow w1 w.heap.size xs ∧ New w w1 := by
  have hsz : (⟨xs.toArray⟩ : ByteArray).size = xs.length := by simp [ByteArray.size]
  have h := Lib.run_convert_string_bytes (P := Try.prog) w 9 22 5 ⟨xs.toArray⟩ Try.underlying9 Try.underlying22 Try.underlying5
  rw [hsz] at h
  refine ⟨_, _, h, ⟨List.replicate (grownCap w xs.length 0 5 - xs.length) (.int .u8 0), 5, ?_⟩, ⟨rfl, rfl, rfl, by rw [Lib.bytesWorld_size]; omega, fun k hk _ => Lib.bytesWorld_at_old w _ _ k hk⟩⟩
  rw [Lib.bytesWorld_at_new]
  have hc : Lib.bytesCells w 5 ⟨xs.toArray⟩ = ((xs.map fun (b : UInt8) => Value.int .u8 (b.toNat : Int)) ++ List.replicate (grownCap w xs.length 0 5 - xs.length) (Value.int .u8 0)).toArray := by
    unfold Lib.bytesCells
    rw [hsz]
    simp
  rw [hc]
  simp
theorem conv_row2 (xs : Bytes) (hx : xs.length ≤ 1048576) (w : World) : ∃ (cp : Nat) (w1 : World), (convert 9 22 (.string ⟨xs.toArray⟩)).run Try.prog w = .ok (.slice (some ⟨w.heap.size, 0, none⟩) xs.length cp) w1 ∧ BRow w1 w.heap.size xs ∧ New w w1 ∧ xs.length ≤ cp ∧ cp ≤ 9223372036854775807 ∧ w.heap.size < w1.heap.size := by
  have hsz : (⟨xs.toArray⟩ : ByteArray).size = xs.length := by simp [ByteArray.size]
  have h := Lib.run_convert_string_bytes (P := Try.prog) w 9 22 5 ⟨xs.toArray⟩ Try.underlying9 Try.underlying22 Try.underlying5
  rw [hsz] at h
  have hge := grownCap_ge w xs.length 0 5
  have hcm : grownCap w xs.length 0 5 ≤ maxLen := grownCap_le_maxLen w xs.length 0 5 (by simp only [maxLen]; omega)
  refine ⟨_, _, h, ⟨List.replicate (grownCap w xs.length 0 5 - xs.length) (.int .u8 0), 5, ?_⟩, ⟨rfl, rfl, rfl, by rw [Lib.bytesWorld_size]; omega, fun k hk _ => Lib.bytesWorld_at_old w _ _ k hk⟩, hge, by simpa [maxLen] using hcm, by rw [Lib.bytesWorld_size]; omega⟩
  rw [Lib.bytesWorld_at_new]
  have hc : Lib.bytesCells w 5 ⟨xs.toArray⟩ = ((xs.map fun (b : UInt8) => Value.int .u8 (b.toNat : Int)) ++ List.replicate (grownCap w xs.length 0 5 - xs.length) (Value.int .u8 0)).toArray := by
    unfold Lib.bytesCells
    rw [hsz]
    simp
  rw [hc]
  simp
def upB (b : UInt8) : UInt8 := if 97 ≤ b.toNat ∧ b.toNat ≤ 122 then UInt8.ofNat (b.toNat - 32) else b
def loB (b : UInt8) : UInt8 := if 65 ≤ b.toNat ∧ b.toNat ≤ 90 then UInt8.ofNat (b.toNat + 32) else b
def upL (xs : Bytes) : Bytes := xs.map upB
def loL (xs : Bytes) : Bytes := xs.map loB
def upC (xs : Bytes) (k : Nat) : Bytes := (xs.take k).map upB ++ xs.drop k
def loC (xs : Bytes) (k : Nat) : Bytes := (xs.take k).map loB ++ xs.drop k
theorem upC_len (xs : Bytes) (k : Nat) : (upC xs k).length = xs.length := by unfold upC; rw [List.length_append, List.length_map, ← List.length_append, List.take_append_drop]
theorem loC_len (xs : Bytes) (k : Nat) : (loC xs k).length = xs.length := by unfold loC; rw [List.length_append, List.length_map, ← List.length_append, List.take_append_drop]
theorem up_lo : ∀ b : UInt8, upB (loB b) = upB b := by
  have : ∀ n : Fin 256, upB (loB (UInt8.ofNat n.val)) = upB (UInt8.ofNat n.val) := by decide +kernel
  intro b
  have h := this ⟨b.toNat, UInt8.toNat_lt b⟩
  simpa using h
theorem lo_up : ∀ b : UInt8, loB (upB b) = loB b := by
  have : ∀ n : Fin 256, loB (upB (UInt8.ofNat n.val)) = loB (UInt8.ofNat n.val) := by decide +kernel
  intro b
  have h := this ⟨b.toNat, UInt8.toNat_lt b⟩
  simpa using h
theorem upL_iff (xs ys : Bytes) : upL xs = upL ys ↔ loL xs = loL ys := by
  have h1 : ∀ xs, loL (upL xs) = loL xs := fun xs => by unfold loL upL; rw [List.map_map]; congr 1; funext b; exact lo_up b
  have h2 : ∀ xs, upL (loL xs) = upL xs := fun xs => by unfold loL upL; rw [List.map_map]; congr 1; funext b; exact up_lo b
  exact ⟨fun h => by rw [← h1 xs, h, h1], fun h => by rw [← h2 xs, h, h2]⟩

theorem upC_at (xs : Bytes) (k : Nat) (h : k < xs.length) : (upC xs k)[k]'(by rw [upC_len]; exact h) = xs[k] := by
  unfold upC
  rw [List.getElem_append_right (by simp; omega)]
  simp [List.length_take, Nat.min_eq_left (Nat.le_of_lt h)]
theorem upC_set (xs : Bytes) (k : Nat) (h : k < xs.length) : (upC xs k).set k (upB xs[k]) = upC xs (k + 1) := by
  unfold upC
  rw [List.take_succ_eq_append_getElem h, List.map_append]
  have hl : ((xs.take k).map upB).length = k := by simp; omega
  rw [List.set_append_right _ _ (by omega), hl, Nat.sub_self, List.drop_eq_getElem_cons h, List.set_cons_zero, List.append_assoc]
  rfl



























































theorem loC_at (xs : Bytes) (k : Nat) (h : k < xs.length) : (loC xs k)[k]'(by rw [loC_len]; exact h) = xs[k] := by
  unfold loC
  rw [List.getElem_append_right (by simp; omega)]
  simp [List.length_take, Nat.min_eq_left (Nat.le_of_lt h)]
theorem loC_set (xs : Bytes) (k : Nat) (h : k < xs.length) : (loC xs k).set k (loB xs[k]) = loC xs (k + 1) := by
  unfold loC
  rw [List.take_succ_eq_append_getElem h, List.map_append]
  have hl : ((xs.take k).map loB).length = k := by simp; omega
  rw [List.set_append_right _ _ (by omega), hl, Nat.sub_self, List.drop_eq_getElem_cons h, List.set_cons_zero, List.append_assoc]
  rfl

set_option maxHeartbeats 1000000 in
set_option maxRecDepth 100000 in
theorem lower_calls (xs : Bytes) (hx : xs.length ≤ 34359738368) (w : World) : Calls Try.prog 63 #[.string ⟨xs.toArray⟩] w (Ret (.string ⟨(loL xs).toArray⟩) w) := by
  obtain ⟨cp, w1, hconv, HB, HN⟩ := conv_row xs w
  have HBs := Sec.mk HB
  have HNs := Sec.mk HN
  clear HB HN
  go_enter Try.func63, Try.ntmps63
  go_wp2
  go_loopw [10] (fun i wr => ∃ k : Nat, k ≤ xs.length ∧ i = .int .i64 (k : Int) ∧ Sec (BRow wr w.heap.size (loC xs k)) ∧ Sec (New w wr)) (fun i _ => xs.length - (intOf i).toNat)
  case atStart => exact ⟨0, Nat.zero_le _, rfl, HBs, HNs⟩
  case round =>
    obtain ⟨k, hk, rfl, HR, HM⟩ := hrel
    clear HBs HNs
    by_cases hlt : k < xs.length
    · have hki : (k : Int) < (xs.length : Int) := by omega
      have hc := HR.out.cell k (by rw [loC_len]; exact hlt)
      rw [loC_at xs k hlt] at hc
      have hf := HR.out.frozen k (by rw [loC_len]; exact hlt)
      have HS := Sec.mk (loC_set xs k hlt)
      have HSAME : Sec (loB xs[k] = xs[k] → loC xs (k + 1) = loC xs k) := ⟨fun h => by rw [← loC_set xs k hlt, h, ← loC_at xs k hlt, List.set_getElem_self]⟩
      have HUP : Sec (loB xs[k] = if 65 ≤ xs[k].toNat ∧ xs[k].toNat ≤ 90 then UInt8.ofNat (xs[k].toNat + 32) else xs[k]) := ⟨rfl⟩
      have hb := UInt8.toNat_lt xs[k]
      generalize xs[k] = b at *
      by_cases h1 : 65 ≤ b.toNat
      · have h1i : (65 : Int) ≤ (b.toNat : Int) := by omega
        by_cases h2 : b.toNat ≤ 90
        · have h2i : (b.toNat : Int) ≤ 90 := by omega
          have HV : Sec (((loB b).toNat : Int) = (b.toNat : Int) + 32) := ⟨by rw [HUP.out, if_pos ⟨h1, h2⟩, UInt8.toNat_ofNat']; omega⟩
          have HR2 := Sec.mk (HR.out.set k (by rw [loC_len]; exact hlt) (loB b))
          rw [HV.out] at HR2
          have HM2 := Sec.mk (HM.out.setCell (p := ⟨w.heap.size, k, none⟩) (fun h => absurd h (by simp)) (.int .u8 ((b.toNat : Int) + 32)))
          go_wp2
          go_roundw
          case rel => exact ⟨k + 1, by omega, by go_num, ⟨by rw [← HS.out]; exact HR2.out⟩, HM2⟩
          case measure => simp [intOf]; omega
        · have h2i : ¬ (b.toNat : Int) ≤ 90 := by omega
          have HE := Sec.mk (HSAME.out (by rw [HUP.out, if_neg (fun h => h2 h.2)]))
          go_wp2
          go_roundw
          case rel => exact ⟨k + 1, by omega, by go_num, ⟨by rw [HE.out]; exact HR.out⟩, HM⟩
          case measure => simp [intOf]; omega
      · have h1i : ¬ (65 : Int) ≤ (b.toNat : Int) := by omega
        have HE := Sec.mk (HSAME.out (by rw [HUP.out, if_neg (fun h => h1 h.1)]))
        go_wp2
        go_roundw
        case rel => exact ⟨k + 1, by omega, by go_num, ⟨by rw [HE.out]; exact HR.out⟩, HM⟩
        case measure => simp [intOf]; omega
    · obtain rfl : k = xs.length := by omega
      have he : loC xs xs.length = loL xs := by unfold loC; simp [loL]
      have hrow := HR.out.row (by rw [loC_len]; omega)
      rw [loC_len, he] at hrow
      have hcv := hrow.conv (P := Try.prog) Try.underlying22 Try.underlying5 Try.underlying9 cp
      clear hrow
      go_wp2
      go_ret
      exact ⟨rfl, HM.out⟩

end Go.Proofs.Ytciiejkfppnimaa
