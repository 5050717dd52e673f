/- Both frames by value. Small and capital letters. What both ways to make a new mailbox share: a text's bytes, one record in a frame, rows that are written out. -/
import Derived.Test.YtiaknomadhgckaaDoorPk14
import Derived.Test.YtiaknomadhgckaaDoorPk3
import Derived.Test.YtiaknomadhgckaaDoorPk1
import Derived.Lib.ConvBytes
import Derived.Test.YtiaknomadhgckaaDoorPk13
namespace Go.Proofs.YtiaknomadhgckaaDoor
open Go.RowKit Mem
def FrameL (x : List Bytes) : Bytes := logL x
theorem Frame_cnt (x : List Bytes) (_h : szBSS x ≤ 1048576) : cntBS (FrameL x) ≤ 40000 := by
  unfold FrameL logL cntBS
  split
  · rename_i h; exact h.2
  · simp
theorem specFrame_v {w : World} {v : Value} {x : List Bytes} (h : RdV false dBSS w v x) (_ : szBSS x ≤ 1048576) : Calls Tryd.prog 52 #[v] w (RetV false dBS w (FrameL x)) := by
  obtain ⟨A, c, rfl, hc, hr⟩ := h.slice
  exact (frameSpec_calls hr (fun _ h => h)).mono fun _ _ h => h.toV
theorem implFrame_v {w : World} {v : Value} {x : List Bytes} (h : RdV false dBSS w v x) (_ : szBSS x ≤ 1048576) : Calls Tryd.prog 56 #[v] w (RetV false dBS w (FrameL x)) := by
  obtain ⟨A, c, rfl, hc, hr⟩ := h.slice
  exact (frameImpl_calls hr (fun _ h => h)).mono fun _ _ h => h.toV
end Go.Proofs.YtiaknomadhgckaaDoor

namespace Go.Proofs.YtiaknomadhgckaaDoor
open Go.RowKit Mem
set_option linter.unusedVariables false
/-- the row of a conversion from a string: its block bears a mark behind its last cell -/
structure BRow (w : World) (g : Nat) (xs : Bytes) : Prop where
  ex : ∃ (tl : List Value) (e : TypeId), w.heap[g]? = some (.cells ((xs.map fun b => Value.int .u8 (b.toNat : Int)) ++ tl).toArray e ((xs.map fun b => Value.int .u8 (b.toNat : Int)).length + tl.length, (xs.map fun b => Value.int .u8 (b.toNat : Int)).length + tl.length + 1))
theorem BRow.cell {w : World} {g : Nat} {xs : Bytes} (h : BRow w g xs) (k : Nat) (hk : k < xs.length) : w.cell? ⟨g, k, none⟩ = some (.int .u8 (xs[k].toNat : Int)) := by
  obtain ⟨tl, e, hh⟩ := h.ex
  have h1 : k < (xs.map fun b => Value.int .u8 (b.toNat : Int)).length := by simpa using hk
  simp [World.cell?, hh, List.getElem?_append_left h1, hk]
theorem BRow.frozen {w : World} {g : Nat} {xs : Bytes} (h : BRow w g xs) (k : Nat) (hk : k < xs.length) : w.frozen? ⟨g, k, none⟩ = false := by
  obtain ⟨tl, e, hh⟩ := h.ex
  simp [World.frozen?, hh]
  omega
theorem BRow.set {w : World} {g : Nat} {xs : Bytes} (h : BRow w g xs) (k : Nat) (hk : k < xs.length) (b : UInt8) : BRow (w.setCell ⟨g, k, none⟩ (.int .u8 (b.toNat : Int))) g (xs.set k b) := by
  obtain ⟨tl, e, hh⟩ := h.ex
  refine ⟨tl, e, ?_⟩
  have h1 : k < (xs.map fun b => Value.int .u8 (b.toNat : Int)).length := by simpa using hk
  have hm : (xs.set k b).map (fun b => Value.int .u8 (b.toNat : Int)) = (xs.map fun b => Value.int .u8 (b.toNat : Int)).set k (.int .u8 (b.toNat : Int)) := by rw [List.map_set]
  rw [hm, List.length_set, ← List.set_append_left _ _ h1]
  simp [World.setCell, Array.getElem?_modify, hh]
theorem BRow.row {w : World} {g : Nat} {xs : Bytes} (h : BRow w g xs) (hl : xs.length ≤ 9223372036854775807) : Row Ty.byte w (· = g) (some ⟨g, 0, none⟩) xs.length xs :=
  ⟨rfl, hl, fun _ => ⟨_, rfl, rfl, fun j x hj => ⟨[.int .u8 (x.toNat : Int)], rfl, fun i u hu => by
    have hj' := List.getElem?_eq_some_iff.1 hj
    have hi : i = 0 := by have := (List.getElem?_eq_some_iff.1 hu).1; simpa using this
    subst hi
    rw [show j * Ty.byte.sz + 0 = j from Nat.mul_one j, add_own, h.cell j hj'.1, hj'.2]
    simpa using hu⟩⟩⟩
theorem conv_row (xs : Bytes) (w : World) : ∃ (cp : Nat) (w1 : World), (convert 9 32 (.string ⟨xs.toArray⟩)).run Tryd.prog w = .ok (.slice (some ⟨w.heap.size, 0, none⟩) xs.length cp) w1 ∧ BRow w1 w.heap.size xs ∧ New w w1 := by
  have hsz : (⟨xs.toArray⟩ : ByteArray).size = xs.length := by simp [ByteArray.size]
  have h := Lib.run_convert_string_bytes (P := Tryd.prog) w 9 32 5 ⟨xs.toArray⟩ Tryd.underlying9 Tryd.underlying32 Tryd.underlying5
  rw [hsz] at h
  refine ⟨_, _, h, ⟨List.replicate (grownCap w xs.length 0 5 - xs.length) (.int .u8 0), 5, ?_⟩, ⟨rfl, rfl, rfl, by rw [Lib.bytesWorld_size]; omega, fun k hk _ => Lib.bytesWorld_at_old w _ _ k hk⟩⟩
  rw [Lib.bytesWorld_at_new]
  have hc : Lib.bytesCells w 5 ⟨xs.toArray⟩ = ((xs.map fun (b : UInt8) => Value.int .u8 (b.toNat : Int)) ++ List.replicate (grownCap w xs.length 0 5 - xs.length) (Value.int .u8 0)).toArray := by
    unfold Lib.bytesCells
    rw [hsz]
    simp
  rw [hc]
  simp
def upB (b : UInt8) : UInt8 := if 97 ≤ b.toNat ∧ b.toNat ≤ 122 then UInt8.ofNat (b.toNat - 32) else b
def loB (b : UInt8) : UInt8 := if 65 ≤ b.toNat ∧ b.toNat ≤ 90 then UInt8.ofNat (b.toNat + 32) else b
def upL (xs : Bytes) : Bytes := xs.map upB
def loL (xs : Bytes) : Bytes := xs.map loB
def upC (xs : Bytes) (k : Nat) : Bytes := (xs.take k).map upB ++ xs.drop k
def loC (xs : Bytes) (k : Nat) : Bytes := (xs.take k).map loB ++ xs.drop k
theorem upC_len (xs : Bytes) (k : Nat) : (upC xs k).length = xs.length := by unfold upC; rw [List.length_append, List.length_map, ← List.length_append, List.take_append_drop]
theorem loC_len (xs : Bytes) (k : Nat) : (loC xs k).length = xs.length := by unfold loC; rw [List.length_append, List.length_map, ← List.length_append, List.take_append_drop]
theorem up_lo : ∀ b : UInt8, upB (loB b) = upB b := by
  have : ∀ n : Fin 256, upB (loB (UInt8.ofNat n.val)) = upB (UInt8.ofNat n.val) := by decide +kernel
  intro b
  have h := this ⟨b.toNat, UInt8.toNat_lt b⟩
  simpa using h
theorem lo_up : ∀ b : UInt8, loB (upB b) = loB b := by
  have : ∀ n : Fin 256, loB (upB (UInt8.ofNat n.val)) = loB (UInt8.ofNat n.val) := by decide +kernel
  intro b
  have h := this ⟨b.toNat, UInt8.toNat_lt b⟩
  simpa using h
theorem upL_iff (xs ys : Bytes) : upL xs = upL ys ↔ loL xs = loL ys := by
  have h1 : ∀ xs, loL (upL xs) = loL xs := fun xs => by unfold loL upL; rw [List.map_map]; congr 1; funext b; exact lo_up b
  have h2 : ∀ xs, upL (loL xs) = upL xs := fun xs => by unfold loL upL; rw [List.map_map]; congr 1; funext b; exact up_lo b
  exact ⟨fun h => by rw [← h1 xs, h, h1], fun h => by rw [← h2 xs, h, h2]⟩

theorem upC_at (xs : Bytes) (k : Nat) (h : k < xs.length) : (upC xs k)[k]'(by rw [upC_len]; exact h) = xs[k] := by
  unfold upC
  rw [List.getElem_append_right (by simp; omega)]
  simp [List.length_take, Nat.min_eq_left (Nat.le_of_lt h)]
theorem upC_set (xs : Bytes) (k : Nat) (h : k < xs.length) : (upC xs k).set k (upB xs[k]) = upC xs (k + 1) := by
  unfold upC
  rw [List.take_succ_eq_append_getElem h, List.map_append]
  have hl : ((xs.take k).map upB).length = k := by simp; omega
  rw [List.set_append_right _ _ (by omega), hl, Nat.sub_self, List.drop_eq_getElem_cons h, List.set_cons_zero, List.append_assoc]
  rfl

set_option maxHeartbeats 1000000 in
set_option maxRecDepth 100000 in
theorem upper_calls (xs : Bytes) (hx : xs.length ≤ 34359738368) (w : World) : Calls Tryd.prog 68 #[.string ⟨xs.toArray⟩] w (Ret (.string ⟨(upL xs).toArray⟩) w) := by
  obtain ⟨cp, w1, hconv, HB, HN⟩ := conv_row xs w
  have HBs := Sec.mk HB
  have HNs := Sec.mk HN
  clear HB HN
  go_enter Tryd.func68, Tryd.ntmps68
  go_wp2
  go_loopw [10] (fun i wr => ∃ k : Nat, k ≤ xs.length ∧ i = .int .i64 (k : Int) ∧ Sec (BRow wr w.heap.size (upC xs k)) ∧ Sec (New w wr)) (fun i _ => xs.length - (intOf i).toNat)
  case atStart => exact ⟨0, Nat.zero_le _, rfl, HBs, HNs⟩
  case round =>
    obtain ⟨k, hk, rfl, HR, HM⟩ := hrel
    clear HBs HNs
    by_cases hlt : k < xs.length
    · have hki : (k : Int) < (xs.length : Int) := by omega
      have hc := HR.out.cell k (by rw [upC_len]; exact hlt)
      rw [upC_at xs k hlt] at hc
      have hf := HR.out.frozen k (by rw [upC_len]; exact hlt)
      have HS := Sec.mk (upC_set xs k hlt)
      have HSAME : Sec (upB xs[k] = xs[k] → upC xs (k + 1) = upC xs k) := ⟨fun h => by rw [← upC_set xs k hlt, h, ← upC_at xs k hlt, List.set_getElem_self]⟩
      have HUP : Sec (upB xs[k] = if 97 ≤ xs[k].toNat ∧ xs[k].toNat ≤ 122 then UInt8.ofNat (xs[k].toNat - 32) else xs[k]) := ⟨rfl⟩
      have hb := UInt8.toNat_lt xs[k]
      generalize xs[k] = b at *
      by_cases h1 : 97 ≤ b.toNat
      · have h1i : (97 : Int) ≤ (b.toNat : Int) := by omega
        by_cases h2 : b.toNat ≤ 122
        · have h2i : (b.toNat : Int) ≤ 122 := by omega
          have HV : Sec (((upB b).toNat : Int) = (b.toNat : Int) - 32) := ⟨by rw [HUP.out, if_pos ⟨h1, h2⟩, UInt8.toNat_ofNat']; omega⟩
          have HR2 := Sec.mk (HR.out.set k (by rw [upC_len]; exact hlt) (upB b))
          rw [HV.out] at HR2
          have HM2 := Sec.mk (HM.out.setCell (p := ⟨w.heap.size, k, none⟩) (fun h => absurd h (by simp)) (.int .u8 ((b.toNat : Int) - 32)))
          go_wp2
          go_roundw
          case rel => exact ⟨k + 1, by omega, by go_num, ⟨by rw [← HS.out]; exact HR2.out⟩, HM2⟩
          case measure => simp [intOf]; omega
        · have h2i : ¬ (b.toNat : Int) ≤ 122 := by omega
          have HE := Sec.mk (HSAME.out (by rw [HUP.out, if_neg (fun h => h2 h.2)]))
          go_wp2
          go_roundw
          case rel => exact ⟨k + 1, by omega, by go_num, ⟨by rw [HE.out]; exact HR.out⟩, HM⟩
          case measure => simp [intOf]; omega
      · have h1i : ¬ (97 : Int) ≤ (b.toNat : Int) := by omega
        have HE := Sec.mk (HSAME.out (by rw [HUP.out, if_neg (fun h => h1 h.1)]))
        go_wp2
        go_roundw
        case rel => exact ⟨k + 1, by omega, by go_num, ⟨by rw [HE.out]; exact HR.out⟩, HM⟩
        case measure => simp [intOf]; omega
    · obtain rfl : k = xs.length := by omega
      have he : upC xs xs.length = upL xs := by unfold upC; simp [upL]
      have hrow := HR.out.row (by rw [upC_len]; omega)
      rw [upC_len, he] at hrow
      have hcv := hrow.conv (P := Tryd.prog) Tryd.underlying32 Tryd.underlying5 Tryd.underlying9 cp
      clear hrow
      go_wp2
      go_ret
      exact ⟨rfl, HM.out⟩

theorem loC_at (xs : Bytes) (k : Nat) (h : k < xs.length) : (loC xs k)[k]'(by rw [loC_len]; exact h) = xs[k] := by
  unfold loC
  rw [List.getElem_append_right (by simp; omega)]
  simp [List.length_take, Nat.min_eq_left (Nat.le_of_lt h)]
theorem loC_set (xs : Bytes) (k : Nat) (h : k < xs.length) : (loC xs k).set k (loB xs[k]) = loC xs (k + 1) := by
  unfold loC
  rw [List.take_succ_eq_append_getElem h, List.map_append]
  have hl : ((xs.take k).map loB).length = k := by simp; omega
  rw [List.set_append_right _ _ (by omega), hl, Nat.sub_self, List.drop_eq_getElem_cons h, List.set_cons_zero, List.append_assoc]
  rfl

set_option maxHeartbeats 1000000 in
set_option maxRecDepth 100000 in
theorem lower_calls (xs : Bytes) (hx : xs.length ≤ 34359738368) (w : World) : Calls Tryd.prog 37 #[.string ⟨xs.toArray⟩] w (Ret (.string ⟨(loL xs).toArray⟩) w) := by
  obtain ⟨cp, w1, hconv, HB, HN⟩ := conv_row xs w
  have HBs := Sec.mk HB
  have HNs := Sec.mk HN
  clear HB HN
  go_enter Tryd.func37, Tryd.ntmps37
  go_wp2
  go_loopw [10] (fun i wr => ∃ k : Nat, k ≤ xs.length ∧ i = .int .i64 (k : Int) ∧ Sec (BRow wr w.heap.size (loC xs k)) ∧ Sec (New w wr)) (fun i _ => xs.length - (intOf i).toNat)
  case atStart => exact ⟨0, Nat.zero_le _, rfl, HBs, HNs⟩
  case round =>
    obtain ⟨k, hk, rfl, HR, HM⟩ := hrel
    clear HBs HNs
    by_cases hlt : k < xs.length
    · have hki : (k : Int) < (xs.length : Int) := by omega
      have hc := HR.out.cell k (by rw [loC_len]; exact hlt)
      rw [loC_at xs k hlt] at hc
      have hf := HR.out.frozen k (by rw [loC_len]; exact hlt)
      have HS := Sec.mk (loC_set xs k hlt)
      have HSAME : Sec (loB xs[k] = xs[k] → loC xs (k + 1) = loC xs k) := ⟨fun h => by rw [← loC_set xs k hlt, h, ← loC_at xs k hlt, List.set_getElem_self]⟩
      have HUP : Sec (loB xs[k] = if 65 ≤ xs[k].toNat ∧ xs[k].toNat ≤ 90 then UInt8.ofNat (xs[k].toNat + 32) else xs[k]) := ⟨rfl⟩
      have hb := UInt8.toNat_lt xs[k]
      generalize xs[k] = b at *
      by_cases h1 : 65 ≤ b.toNat
      · have h1i : (65 : Int) ≤ (b.toNat : Int) := by omega
        by_cases h2 : b.toNat ≤ 90
        · have h2i : (b.toNat : Int) ≤ 90 := by omega
          have HV : Sec (((loB b).toNat : Int) = (b.toNat : Int) + 32) := ⟨by rw [HUP.out, if_pos ⟨h1, h2⟩, UInt8.toNat_ofNat']; omega⟩
          have HR2 := Sec.mk (HR.out.set k (by rw [loC_len]; exact hlt) (loB b))
          rw [HV.out] at HR2
          have HM2 := Sec.mk (HM.out.setCell (p := ⟨w.heap.size, k, none⟩) (fun h => absurd h (by simp)) (.int .u8 ((b.toNat : Int) + 32)))
          go_wp2
          go_roundw
          case rel => exact ⟨k + 1, by omega, by go_num, ⟨by rw [← HS.out]; exact HR2.out⟩, HM2⟩
          case measure => simp [intOf]; omega
        · have h2i : ¬ (b.toNat : Int) ≤ 90 := by omega
          have HE := Sec.mk (HSAME.out (by rw [HUP.out, if_neg (fun h => h2 h.2)]))
          go_wp2
          go_roundw
          case rel => exact ⟨k + 1, by omega, by go_num, ⟨by rw [HE.out]; exact HR.out⟩, HM⟩
          case measure => simp [intOf]; omega
      · have h1i : ¬ (65 : Int) ≤ (b.toNat : Int) := by omega
        have HE := Sec.mk (HSAME.out (by rw [HUP.out, if_neg (fun h => h1 h.1)]))
        go_wp2
        go_roundw
        case rel => exact ⟨k + 1, by omega, by go_num, ⟨by rw [HE.out]; exact HR.out⟩, HM⟩
        case measure => simp [intOf]; omega
    · obtain rfl : k = xs.length := by omega
      have he : loC xs xs.length = loL xs := by unfold loC; simp [loL]
      have hrow := HR.out.row (by rw [loC_len]; omega)
      rw [loC_len, he] at hrow
      have hcv := hrow.conv (P := Tryd.prog) Tryd.underlying32 Tryd.underlying5 Tryd.underlying9 cp
      clear hrow
      go_wp2
      go_ret
      exact ⟨rfl, HM.out⟩

end Go.Proofs.YtiaknomadhgckaaDoor

namespace Go.Proofs.YtiaknomadhgckaaDoor
open Go.RowKit Mem
set_option linter.unusedVariables false
set_option linter.unusedSimpArgs false
theorem conv_row2 (xs : Bytes) (hx : xs.length ≤ 1048576) (w : World) : ∃ (cp : Nat) (w1 : World), (convert 9 32 (.string ⟨xs.toArray⟩)).run Tryd.prog w = .ok (.slice (some ⟨w.heap.size, 0, none⟩) xs.length cp) w1 ∧ BRow w1 w.heap.size xs ∧ New w w1 ∧ xs.length ≤ cp ∧ cp ≤ 9223372036854775807 ∧ w.heap.size < w1.heap.size := by
  have hsz : (⟨xs.toArray⟩ : ByteArray).size = xs.length := by simp [ByteArray.size]
  have h := Lib.run_convert_string_bytes (P := Tryd.prog) w 9 32 5 ⟨xs.toArray⟩ Tryd.underlying9 Tryd.underlying32 Tryd.underlying5
  rw [hsz] at h
  have hge := grownCap_ge w xs.length 0 5
  have hcm : grownCap w xs.length 0 5 ≤ maxLen := grownCap_le_maxLen w xs.length 0 5 (by simp only [maxLen]; omega)
  refine ⟨_, _, h, ⟨List.replicate (grownCap w xs.length 0 5 - xs.length) (.int .u8 0), 5, ?_⟩, ⟨rfl, rfl, rfl, by rw [Lib.bytesWorld_size]; omega, fun k hk _ => Lib.bytesWorld_at_old w _ _ k hk⟩, hge, by simpa [maxLen] using hcm, by rw [Lib.bytesWorld_size]; omega⟩
  rw [Lib.bytesWorld_at_new]
  have hc : Lib.bytesCells w 5 ⟨xs.toArray⟩ = ((xs.map fun (b : UInt8) => Value.int .u8 (b.toNat : Int)) ++ List.replicate (grownCap w xs.length 0 5 - xs.length) (Value.int .u8 0)).toArray := by
    unfold Lib.bytesCells
    rw [hsz]
    simp
  rw [hc]
  simp
/-- a slice of one row of bytes -/
theorem row_bs1 {w : World} {e : TypeId} {A : Option Addr} {c : Nat} {xs : Bytes} (h : Row Ty.byte w (· < w.heap.size) A xs.length xs) (h1 : xs.length ≤ c) (h2 : c ≤ 9223372036854775807) : RdV false dBSS (w.alloc (.cells #[.slice A xs.length c] e)) (.slice (some ⟨w.heap.size, 0, none⟩) 1 1) [xs] := by
  have hn : New w (w.alloc (.cells #[.slice A xs.length c] e)) := (Mod.refl _ _).alloc _
  refine RdV.of_row (xs := [xs]) ⟨rfl, by simp, fun _ => ⟨_, rfl, by simp, fun j x hj => ?_⟩⟩ (by simp) (by simp)
  cases j with
  | zero =>
    obtain rfl : xs = x := by simpa using hj
    refine ⟨[.slice A xs.length c], ⟨A, c, rfl, h1, h2, h.mod (fun k hk => Nat.lt_of_lt_of_le hk hn.size) (fun k hk => hn.block k hk id)⟩, fun i u hu => ?_⟩
    obtain ⟨ad, e1, e2⟩ := lit_cells w e [.slice A xs.length c] rfl
    cases e1
    rw [Nat.zero_mul, Nat.zero_add]
    exact e2 i u hu
  | succ j => simp at hj
/-- a row that is written out -/
theorem Own.build {α : Type} {d : Ty α} {e : TypeId} {w : World} {Fs : List (List Nat)} {xs : List α} {cs : List Value} (hE : Elems d w Fs xs cs) (hn : Fs.flatten.Nodup) (hlt : ∀ k, k ∈ Fs.flatten → k < w.heap.size) (hl : xs.length ≤ 34359738368) (hs : cs.length = xs.length * d.sz) : Own d e (w.alloc (.cells cs.toArray e)) ([w.heap.size] ++ Fs.flatten) (.slice (some ⟨w.heap.size, 0, none⟩) xs.length xs.length) xs := by
  have hm : New w (w.alloc (.cells cs.toArray e)) := (Mod.refl _ _).alloc _
  refine ⟨cs, Fs, ?_, hE.mod (fun k hk => hm.block k (hlt k hk) id), rfl, ?_⟩
  · have := World.ownsRow_lit (base := 0) (size := d.sz) (e := e) w cs.toArray xs.length (Nat.zero_le _) (by simp only [maxLen]; omega) (by simpa using hs)
    simpa using this
  · refine List.nodup_append.2 ⟨by simp, hn, fun a ha b hb e => ?_⟩
    have := hlt b hb
    simp at ha
    omega
/-- the elements of a row of the call's own -/
theorem Own.parts {α : Type} {d : Ty α} {e : TypeId} {w : World} {F : List Nat} {A : Option Addr} {n c : Nat} {xs : List α} (h : Own d e w F (.slice A n c) xs) : ∃ news Gs, Elems d w Gs xs news ∧ (0 < n → ∃ ad, A = some ad ∧ ∀ j u, news[j]? = some u → w.cell? (ad.add j) = some u) ∧ Gs.flatten.Nodup ∧ ∀ k, k ∈ Gs.flatten → k ∈ F := by
  obtain ⟨inner, Fs, ho, hE, rfl, hn⟩ := h
  refine ⟨inner, Fs, hE, fun h0 => ?_, (List.nodup_append.1 hn).2.1, fun k hk => List.mem_append_right _ hk⟩
  rcases ho.2 with ⟨h', hx⟩ | ⟨g, cap, cur, h', _⟩
  · cases h'; exact absurd h0 (by decide)
  · cases h'
    refine ⟨_, rfl, fun j u hj => ?_⟩
    have hjl := (List.getElem?_eq_some_iff.1 hj).1
    have := ho.cellAt j (by rw [← ho.1]; exact hjl)
    rw [add_own, this]; exact hj
theorem l5Rec_v (t : Bytes) (ht : t.length ≤ 1000) (w : World) : Calls Tryd.prog 20 #[.string ⟨t.toArray⟩] w (RetV false dBS w (FrameL [t])) := by
  obtain ⟨cp, w1, hconv, HB, HN, h1, h2, h3⟩ := conv_row2 t (by omega) w
  have HN1 := Sec.mk HN
  have HR := Sec.mk (row_bs1 (e := 32) ((HB.row (by omega)).mod (B' := (· < w1.heap.size)) (fun k hk => by subst hk; exact h3) (fun _ _ => rfl)) h1 h2)
  have hs1 := HN.size
  clear HB HN
  go_enter Tryd.func20, Tryd.ntmps20
  go_wp2_with fail
  refine (specFrame_v HR.out (by simp [szBSS, szB, preS]; omega)).mono ?_
  rintro e w2 ⟨v, rfl, ho, hm⟩
  obtain ⟨A, c, F, rfl, ho, hF⟩ := ho.slice
  have HO := Sec.mk ho
  have HF := Sec.mk hF
  have HM := Sec.mk ((HN1.out.alloc _).transN hm)
  clear ho hF hm
  go_wp2
  go_ret
  refine ⟨_, rfl, OwV.of_slice HO.out (fun k hk => ⟨?_, (HF.out k hk).2⟩), HM.out⟩
  have := (HF.out k hk).1
  simp at this
  omega
end Go.Proofs.YtiaknomadhgckaaDoor
