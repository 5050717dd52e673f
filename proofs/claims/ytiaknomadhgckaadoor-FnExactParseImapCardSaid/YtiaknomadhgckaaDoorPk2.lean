/- Small and capital letters. A POP line, as both read it. Sets read, in plain lists. The letters of flags, in plain lists. The list of flags' names, in plain lists. Names of flags read back, in plain lists. A line of an IMAP session, as both read it. Steps by hand through a region that draws its order. -/
import Derived.Test.YtiaknomadhgckaaDoorPk1
import Derived.Lib.ConvBytes
import Derived.Test.YtiaknomadhgckaaDoorPk0
import Derived.Lib.Join
import Derived.Deep.RegionHeld3
namespace Go.Proofs.YtiaknomadhgckaaDoor
open Go.RowKit Mem
set_option linter.unusedVariables false
structure BRow (w : World) (g : Nat) (xs : Bytes) : Prop where
  ex : ∃ (tl : List Value) (e : TypeId), w.heap[g]? = some (.cells ((xs.map fun b => Value.int .u8 (b.toNat : Int)) ++ tl).toArray e ((xs.map fun b => Value.int .u8 (b.toNat : Int)).length + tl.length, (xs.map fun b => Value.int .u8 (b.toNat : Int)).length + tl.length + 1))
theorem BRow.cell {w : World} {g : Nat} {xs : Bytes} (h : BRow w g xs) (k : Nat) (hk : k < xs.length) : w.cell? ⟨g, k, none⟩ = some (.int .u8 (xs[k].toNat : Int)) := by
  obtain ⟨tl, e, hh⟩ := h.ex
  have h1 : k < (xs.map fun b => Value.int .u8 (b.toNat : Int)).length := by simpa using hk
  simp [World.cell?, hh, List.getElem?_append_left h1, hk]
theorem BRow.frozen {w : World} {g : Nat} {xs : Bytes} (h : BRow w g xs) (k : Nat) (hk : k < xs.length) : w.frozen? ⟨g, k, none⟩ = false := by
  obtain ⟨tl, e, hh⟩ := h.ex
  simp [World.frozen?, hh]
  omega
theorem BRow.set {w : World} {g : Nat} {xs : Bytes} (h : BRow w g xs) (k : Nat) (hk : k < xs.length) (b : UInt8) : BRow (w.setCell ⟨g, k, none⟩ (.int .u8 (b.toNat : Int))) g (xs.set k b) := by
  obtain ⟨tl, e, hh⟩ := h.ex
  refine ⟨tl, e, ?_⟩
  have h1 : k < (xs.map fun b => Value.int .u8 (b.toNat : Int)).length := by simpa using hk
  have hm : (xs.set k b).map (fun b => Value.int .u8 (b.toNat : Int)) = (xs.map fun b => Value.int .u8 (b.toNat : Int)).set k (.int .u8 (b.toNat : Int)) := by rw [List.map_set]
  rw [hm, List.length_set, ← List.set_append_left _ _ h1]
  simp [World.setCell, Array.getElem?_modify, hh]
theorem BRow.row {w : World} {g : Nat} {xs : Bytes} (h : BRow w g xs) (hl : xs.length ≤ 9223372036854775807) : Row Ty.byte w (· = g) (some ⟨g, 0, none⟩) xs.length xs :=
  ⟨rfl, hl, fun _ => ⟨_, rfl, rfl, fun j x hj => ⟨[.int .u8 (x.toNat : Int)], rfl, fun i u hu => by
    have hj' := List.getElem?_eq_some_iff.1 hj
    have hi : i = 0 := by have := (List.getElem?_eq_some_iff.1 hu).1; simpa using this
    subst hi
    rw [show j * Ty.byte.sz + 0 = j from Nat.mul_one j, add_own, h.cell j hj'.1, hj'.2]
    simpa using hu⟩⟩⟩
theorem conv_row (xs : Bytes) (w : World) : ∃ (cp : Nat) (w1 : World), (convert 9 32 (.string ⟨xs.toArray⟩)).run Tryd.prog w = .ok (.slice (some ⟨w.heap.size, 0, none⟩) xs.length cp) w1 ∧ BRow w1 w.heap.size xs ∧ New w w1 := by
  have hsz : (⟨xs.toArray⟩ : ByteArray).size = xs.length := by simp [ByteArray.size]
  have h := Lib.run_convert_string_bytes (P := Tryd.prog) w 9 32 5 ⟨xs.toArray⟩ Tryd.underlying9 Tryd.underlying32 Tryd.underlying5
  rw [hsz] at h
  refine ⟨_, _, h, ⟨List.replicate (grownCap w xs.length 0 5 - xs.length) (.int .u8 0), 5, ?_⟩, ⟨rfl, rfl, rfl, by rw [Lib.bytesWorld_size]; omega, fun k hk _ => Lib.bytesWorld_at_old w _ _ k hk⟩⟩
  rw [Lib.bytesWorld_at_new]
  have hc : Lib.bytesCells w 5 ⟨xs.toArray⟩ = ((xs.map fun (b : UInt8) => Value.int .u8 (b.toNat : Int)) ++ List.replicate (grownCap w xs.length 0 5 - xs.length) (Value.int .u8 0)).toArray := by
    unfold Lib.bytesCells
    rw [hsz]
    simp
  rw [hc]
  simp
def upB (b : UInt8) : UInt8 := if 97 ≤ b.toNat ∧ b.toNat ≤ 122 then UInt8.ofNat (b.toNat - 32) else b
def loB (b : UInt8) : UInt8 := if 65 ≤ b.toNat ∧ b.toNat ≤ 90 then UInt8.ofNat (b.toNat + 32) else b
def upL (xs : Bytes) : Bytes := xs.map upB
def loL (xs : Bytes) : Bytes := xs.map loB
def upC (xs : Bytes) (k : Nat) : Bytes := (xs.take k).map upB ++ xs.drop k
def loC (xs : Bytes) (k : Nat) : Bytes := (xs.take k).map loB ++ xs.drop k
theorem upC_len (xs : Bytes) (k : Nat) : (upC xs k).length = xs.length := by unfold upC; rw [List.length_append, List.length_map, ← List.length_append, List.take_append_drop]
theorem loC_len (xs : Bytes) (k : Nat) : (loC xs k).length = xs.length := by unfold loC; rw [List.length_append, List.length_map, ← List.length_append, List.take_append_drop]
theorem up_lo : ∀ b : UInt8, upB (loB b) = upB b := by
  have : ∀ n : Fin 256, upB (loB (UInt8.ofNat n.val)) = upB (UInt8.ofNat n.val) := by decide +kernel
  intro b
  have h := this ⟨b.toNat, UInt8.toNat_lt b⟩
  simpa using h
theorem lo_up : ∀ b : UInt8, loB (upB b) = loB b := by
  have : ∀ n : Fin 256, loB (upB (UInt8.ofNat n.val)) = loB (UInt8.ofNat n.val) := by decide +kernel
  intro b
  have h := this ⟨b.toNat, UInt8.toNat_lt b⟩
  simpa using h
theorem upL_iff (xs ys : Bytes) : upL xs = upL ys ↔ loL xs = loL ys := by
  have h1 : ∀ xs, loL (upL xs) = loL xs := fun xs => by unfold loL upL; rw [List.map_map]; congr 1; funext b; exact lo_up b
  have h2 : ∀ xs, upL (loL xs) = upL xs := fun xs => by unfold loL upL; rw [List.map_map]; congr 1; funext b; exact up_lo b
  exact ⟨fun h => by rw [← h1 xs, h, h1], fun h => by rw [← h2 xs, h, h2]⟩
theorem upC_at (xs : Bytes) (k : Nat) (h : k < xs.length) : (upC xs k)[k]'(by rw [upC_len]; exact h) = xs[k] := by
  unfold upC
  rw [List.getElem_append_right (by simp; omega)]
  simp [List.length_take, Nat.min_eq_left (Nat.le_of_lt h)]
theorem upC_set (xs : Bytes) (k : Nat) (h : k < xs.length) : (upC xs k).set k (upB xs[k]) = upC xs (k + 1) := by
  unfold upC
  rw [List.take_succ_eq_append_getElem h, List.map_append]
  have hl : ((xs.take k).map upB).length = k := by simp; omega
  rw [List.set_append_right _ _ (by omega), hl, Nat.sub_self, List.drop_eq_getElem_cons h, List.set_cons_zero, List.append_assoc]
  rfl
set_option maxHeartbeats 1000000 in
set_option maxRecDepth 100000 in
theorem upper_calls (xs : Bytes) (hx : xs.length ≤ 34359738368) (w : World) : Calls Tryd.prog 68 #[.string ⟨xs.toArray⟩] w (Ret (.string ⟨(upL xs).toArray⟩) w) := by
  obtain ⟨cp, w1, hconv, HB, HN⟩ := conv_row xs w
  have HBs := Sec.mk HB
  have HNs := Sec.mk HN
  clear HB HN
  go_enter Tryd.func68, Tryd.ntmps68
  go_wp2
  go_loopw [10] (fun i wr => ∃ k : Nat, k ≤ xs.length ∧ i = .int .i64 (k : Int) ∧ Sec (BRow wr w.heap.size (upC xs k)) ∧ Sec (New w wr)) (fun i _ => xs.length - (intOf i).toNat)
  case atStart => exact ⟨0, Nat.zero_le _, rfl, HBs, HNs⟩
  case round =>
    obtain ⟨k, hk, rfl, HR, HM⟩ := hrel
    clear HBs HNs
    by_cases hlt : k < xs.length
    · have hki : (k : Int) < (xs.length : Int) := by omega
      have hc := HR.out.cell k (by rw [upC_len]; exact hlt)
      rw [upC_at xs k hlt] at hc
      have hf := HR.out.frozen k (by rw [upC_len]; exact hlt)
      have HS := Sec.mk (upC_set xs k hlt)
      have HSAME : Sec (upB xs[k] = xs[k] → upC xs (k + 1) = upC xs k) := ⟨fun h => by rw [← upC_set xs k hlt, h, ← upC_at xs k hlt, List.set_getElem_self]⟩
      have HUP : Sec (upB xs[k] = if 97 ≤ xs[k].toNat ∧ xs[k].toNat ≤ 122 then UInt8.ofNat (xs[k].toNat - 32) else xs[k]) := ⟨rfl⟩
      have hb := UInt8.toNat_lt xs[k]
      generalize xs[k] = b at *
      by_cases h1 : 97 ≤ b.toNat
      · have h1i : (97 : Int) ≤ (b.toNat : Int) := by omega
        by_cases h2 : b.toNat ≤ 122
        · have h2i : (b.toNat : Int) ≤ 122 := by omega
          have HV : Sec (((upB b).toNat : Int) = (b.toNat : Int) - 32) := ⟨by rw [HUP.out, if_pos ⟨h1, h2⟩, UInt8.toNat_ofNat']; omega⟩
          have HR2 := Sec.mk (HR.out.set k (by rw [upC_len]; exact hlt) (upB b))
          rw [HV.out] at HR2
          have HM2 := Sec.mk (HM.out.setCell (p := ⟨w.heap.size, k, none⟩) (fun h => absurd h (by simp)) (.int .u8 ((b.toNat : Int) - 32)))
          go_wp2
          go_roundw
          case rel => exact ⟨k + 1, by omega, by go_num, ⟨by rw [← HS.out]; exact HR2.out⟩, HM2⟩
          case measure => simp [intOf]; omega
        · have h2i : ¬ (b.toNat : Int) ≤ 122 := by omega
          have HE := Sec.mk (HSAME.out (by rw [HUP.out, if_neg (fun h => h2 h.2)]))
          go_wp2
          go_roundw
          case rel => exact ⟨k + 1, by omega, by go_num, ⟨by rw [HE.out]; exact HR.out⟩, HM⟩
          case measure => simp [intOf]; omega
      · have h1i : ¬ (97 : Int) ≤ (b.toNat : Int) := by omega
        have HE := Sec.mk (HSAME.out (by rw [HUP.out, if_neg (fun h => h1 h.1)]))
        go_wp2
        go_roundw
        case rel => exact ⟨k + 1, by omega, by go_num, ⟨by rw [HE.out]; exact HR.out⟩, HM⟩
        case measure => simp [intOf]; omega
    · obtain rfl : k = xs.length := by omega
      have he : upC xs xs.length = upL xs := by unfold upC; simp [upL]
      have hrow := HR.out.row (by rw [upC_len]; omega)
      rw [upC_len, he] at hrow
      have hcv := hrow.conv (P := Tryd.prog) Tryd.underlying32 Tryd.underlying5 Tryd.underlying9 cp
      clear hrow
      go_wp2
      go_ret
      exact ⟨rfl, HM.out⟩
theorem loC_at (xs : Bytes) (k : Nat) (h : k < xs.length) : (loC xs k)[k]'(by rw [loC_len]; exact h) = xs[k] := by
  unfold loC
  rw [List.getElem_append_right (by simp; omega)]
  simp [List.length_take, Nat.min_eq_left (Nat.le_of_lt h)]
theorem loC_set (xs : Bytes) (k : Nat) (h : k < xs.length) : (loC xs k).set k (loB xs[k]) = loC xs (k + 1) := by
  unfold loC
  rw [List.take_succ_eq_append_getElem h, List.map_append]
  have hl : ((xs.take k).map loB).length = k := by simp; omega
  rw [List.set_append_right _ _ (by omega), hl, Nat.sub_self, List.drop_eq_getElem_cons h, List.set_cons_zero, List.append_assoc]
  rfl
set_option maxHeartbeats 1000000 in
set_option maxRecDepth 100000 in
theorem lower_calls (xs : Bytes) (hx : xs.length ≤ 34359738368) (w : World) : Calls Tryd.prog 37 #[.string ⟨xs.toArray⟩] w (Ret (.string ⟨(loL xs).toArray⟩) w) := by
  obtain ⟨cp, w1, hconv, HB, HN⟩ := conv_row xs w
  have HBs := Sec.mk HB
  have HNs := Sec.mk HN
  clear HB HN
  go_enter Tryd.func37, Tryd.ntmps37
  go_wp2
  go_loopw [10] (fun i wr => ∃ k : Nat, k ≤ xs.length ∧ i = .int .i64 (k : Int) ∧ Sec (BRow wr w.heap.size (loC xs k)) ∧ Sec (New w wr)) (fun i _ => xs.length - (intOf i).toNat)
  case atStart => exact ⟨0, Nat.zero_le _, rfl, HBs, HNs⟩
  case round =>
    obtain ⟨k, hk, rfl, HR, HM⟩ := hrel
    clear HBs HNs
    by_cases hlt : k < xs.length
    · have hki : (k : Int) < (xs.length : Int) := by omega
      have hc := HR.out.cell k (by rw [loC_len]; exact hlt)
      rw [loC_at xs k hlt] at hc
      have hf := HR.out.frozen k (by rw [loC_len]; exact hlt)
      have HS := Sec.mk (loC_set xs k hlt)
      have HSAME : Sec (loB xs[k] = xs[k] → loC xs (k + 1) = loC xs k) := ⟨fun h => by rw [← loC_set xs k hlt, h, ← loC_at xs k hlt, List.set_getElem_self]⟩
      have HUP : Sec (loB xs[k] = if 65 ≤ xs[k].toNat ∧ xs[k].toNat ≤ 90 then UInt8.ofNat (xs[k].toNat + 32) else xs[k]) := ⟨rfl⟩
      have hb := UInt8.toNat_lt xs[k]
      generalize xs[k] = b at *
      by_cases h1 : 65 ≤ b.toNat
      · have h1i : (65 : Int) ≤ (b.toNat : Int) := by omega
        by_cases h2 : b.toNat ≤ 90
        · have h2i : (b.toNat : Int) ≤ 90 := by omega
          have HV : Sec (((loB b).toNat : Int) = (b.toNat : Int) + 32) := ⟨by rw [HUP.out, if_pos ⟨h1, h2⟩, UInt8.toNat_ofNat']; omega⟩
          have HR2 := Sec.mk (HR.out.set k (by rw [loC_len]; exact hlt) (loB b))
          rw [HV.out] at HR2
          have HM2 := Sec.mk (HM.out.setCell (p := ⟨w.heap.size, k, none⟩) (fun h => absurd h (by simp)) (.int .u8 ((b.toNat : Int) + 32)))
          go_wp2
          go_roundw
          case rel => exact ⟨k + 1, by omega, by go_num, ⟨by rw [← HS.out]; exact HR2.out⟩, HM2⟩
          case measure => simp [intOf]; omega
        · have h2i : ¬ (b.toNat : Int) ≤ 90 := by omega
          have HE := Sec.mk (HSAME.out (by rw [HUP.out, if_neg (fun h => h2 h.2)]))
          go_wp2
          go_roundw
          case rel => exact ⟨k + 1, by omega, by go_num, ⟨by rw [HE.out]; exact HR.out⟩, HM⟩
          case measure => simp [intOf]; omega
      · have h1i : ¬ (65 : Int) ≤ (b.toNat : Int) := by omega
        have HE := Sec.mk (HSAME.out (by rw [HUP.out, if_neg (fun h => h1 h.1)]))
        go_wp2
        go_roundw
        case rel => exact ⟨k + 1, by omega, by go_num, ⟨by rw [HE.out]; exact HR.out⟩, HM⟩
        case measure => simp [intOf]; omega
    · obtain rfl : k = xs.length := by omega
      have he : loC xs xs.length = loL xs := by unfold loC; simp [loL]
      have hrow := HR.out.row (by rw [loC_len]; omega)
      rw [loC_len, he] at hrow
      have hcv := hrow.conv (P := Tryd.prog) Tryd.underlying32 Tryd.underlying5 Tryd.underlying9 cp
      clear hrow
      go_wp2
      go_ret
      exact ⟨rfl, HM.out⟩
end Go.Proofs.YtiaknomadhgckaaDoor

namespace Go.Proofs.YtiaknomadhgckaaDoor
open Mem
set_option linter.unusedVariables false
abbrev PairL := Int × Int
abbrev CmdL := Int × (Bytes × (Int × (Bool × (List PairL × (Int × (Int × (Int × Bytes)))))))
theorem lo_is (w u l : Bytes) (h : upL u = u) (h2 : loL u = l) : loL w = l ↔ upL w = u := by
  rw [← h2, ← upL_iff, h]
theorem upL_len (w : Bytes) : (upL w).length = w.length := by unfold upL; rw [List.length_map]
end Go.Proofs.YtiaknomadhgckaaDoor

namespace Go.Proofs.YtiaknomadhgckaaDoor
set_option linter.unusedVariables false
open Mem
def setOne (p : Bytes) : Option (Int × Int) :=
  match plL (cutL 58 p).1, plL (if (cutL 58 p).2.2 = true then (cutL 58 p).2.1 else (cutL 58 p).1) with
  | some a, some b => some ((a : Int), (b : Int))
  | _, _ => none
def setFold : List (Int × Int) → List Bytes → Option (List (Int × Int))
  | acc, [] => some acc
  | acc, p :: ps => match setOne p with
    | none => none
    | some q => setFold (acc ++ [q]) ps
def SetB (xs : Bytes) : Bool × List (Int × Int) :=
  if 50 < (splitL 44 xs).length then (false, []) else match setFold [] (splitL 44 xs) with
  | none => (false, [])
  | some l => (true, l)
theorem plL_dig {xs : Bytes} (h : xs ≠ [42]) {n : Nat} (hp : plL xs = some n) : (∀ b, b ∈ xs → digB b) ∧ xs.length ≤ 10 := by
  unfold plL at hp
  rw [if_neg h] at hp
  split at hp
  · rename_i hc
    have := hc.1
    unfold decL at this
    split at this
    · rename_i hd; exact ⟨hd.2.2.2, hd.2.1⟩
    · cases this
  · cases hp
theorem plL_len {xs : Bytes} {n : Nat} (hp : plL xs = some n) : xs.length ≤ 10 := by
  by_cases h : xs = [42]
  · subst h; simp
  · exact (plL_dig h hp).2
theorem plL_colon {xs : Bytes} (h : (58 : UInt8) ∈ xs) : plL xs = none := by
  cases hq : plL xs with
  | none => rfl
  | some n =>
    have h42 : xs ≠ [42] := by intro e; subst e; simp at h
    have := (plL_dig h42 hq).1 58 h
    unfold digB at this
    exact absurd this.2 (by decide)
theorem plL_lt {xs : Bytes} {n : Nat} (hp : plL xs = some n) : n ≤ 4294967295 := by
  unfold plL at hp
  split at hp
  · have := Option.some.inj hp; omega
  · split at hp
    · rename_i hc; have := Option.some.inj hp; omega
    · cases hp
theorem cutL_mem (b : UInt8) : ∀ xs : Bytes, (cutL b xs).2.2 = true → b ∈ xs
  | [], h => by simp [cutL] at h
  | c :: r, h => by
    unfold cutL at h
    by_cases hc : c = b
    · simp [hc]
    · simp only [if_neg hc] at h
      exact List.mem_cons_of_mem _ (cutL_mem b r h)
theorem setOne_hit {p : Bytes} (h : (cutL 58 p).2.2 = true) : setOne p = match plL (cutL 58 p).1, plL (cutL 58 p).2.1 with | some a, some b => some ((a : Int), (b : Int)) | _, _ => none := by
  unfold setOne; rw [if_pos h]
theorem setOne_miss {p : Bytes} (h : (cutL 58 p).2.2 = false) : setOne p = match plL p with | some a => some ((a : Int), (a : Int)) | none => none := by
  unfold setOne
  rw [if_neg (by simp [h]), cutL_no 58 p h]
  cases plL p <;> rfl
theorem setOne_len {p : Bytes} {q : Int × Int} (h : setOne p = some q) : p.length ≤ 21 := by
  cases hc : (cutL 58 p).2.2
  · rw [setOne_miss hc] at h
    cases hp : plL p with
    | none => rw [hp] at h; cases h
    | some n => have := plL_len hp; omega
  · have hl := cutL_len 58 p hc
    rw [setOne_hit hc] at h
    cases h1 : plL (cutL 58 p).1 with
    | none => rw [h1] at h; cases h
    | some a =>
      cases h2 : plL (cutL 58 p).2.1 with
      | none => rw [h1, h2] at h; cases h
      | some b => have := plL_len h1; have := plL_len h2; omega
theorem splitL_sum (b : UInt8) : ∀ xs : Bytes, ((splitL b xs).map fun p => p.length + 1).sum = xs.length + 1
  | [] => by simp [splitL]
  | c :: r => by
    have ih := splitL_sum b r
    have hn := splitL_ne b r
    unfold splitL
    split
    · simp [ih]; omega
    · split
      · rename_i h0 t0 he
        rw [he] at ih
        simp at ih ⊢; omega
      · rename_i he; exact absurd he hn
theorem setFold_len : ∀ (ps : List Bytes) (acc l : List (Int × Int)), setFold acc ps = some l → ((ps.map fun p => p.length + 1).sum ≤ 22 * ps.length) ∧ l.length = acc.length + ps.length
  | [], acc, l, h => by
    have : acc = l := by simpa [setFold] using h
    subst this; simp
  | p :: ps, acc, l, h => by
    unfold setFold at h
    cases hs : setOne p with
    | none => rw [hs] at h; cases h
    | some q =>
      rw [hs] at h
      have ih := setFold_len ps (acc ++ [q]) l h
      have hp := setOne_len hs
      simp only [List.map_cons, List.sum_cons, List.length_cons, List.length_append, List.length_nil] at ih ⊢
      omega
theorem SetB_long {xs : Bytes} (h : 1100 < xs.length) : SetB xs = (false, []) := by
  unfold SetB
  split
  · rfl
  · rename_i hc
    cases hq : setFold [] (splitL 44 xs) with
    | none => rfl
    | some l =>
      have := (setFold_len _ _ _ hq).1
      rw [splitL_sum] at this
      omega
theorem SetB_none {xs : Bytes} (h : setFold [] (splitL 44 xs) = none) : SetB xs = (false, []) := by
  unfold SetB; split
  · rfl
  · rw [h]
theorem setFold_none {acc : List (Int × Int)} {p : Bytes} {ps : List Bytes} (h : setOne p = none) : setFold acc (p :: ps) = none := by unfold setFold; rw [h]
theorem setFold_some {acc : List (Int × Int)} {p : Bytes} {ps : List Bytes} {q : Int × Int} (h : setOne p = some q) : setFold acc (p :: ps) = setFold (acc ++ [q]) ps := by
  conv => lhs; unfold setFold
  rw [h]
theorem SetB_cnt (xs : Bytes) : (SetB xs).2.length ≤ 50 := by
  unfold SetB
  split
  · simp
  · rename_i hc
    cases hq : setFold [] (splitL 44 xs) with
    | none => simp
    | some l =>
      have := (setFold_len _ _ _ hq).2
      simp at this ⊢; omega
end Go.Proofs.YtiaknomadhgckaaDoor

namespace Go.Proofs.YtiaknomadhgckaaDoor
set_option linter.unusedVariables false
open Mem
end Go.Proofs.YtiaknomadhgckaaDoor

namespace Go.Proofs.YtiaknomadhgckaaDoor
set_option linter.unusedVariables false
open Mem
def nameL (k : Nat) : Bytes :=
  if k = 0 then [92, 65, 110, 115, 119, 101, 114, 101, 100] else if k = 1 then [92, 70, 108, 97, 103, 103, 101, 100] else if k = 2 then [92, 68, 101, 108, 101, 116, 101, 100]
  else if k = 3 then [92, 83, 101, 101, 110] else if k = 4 then [92, 68, 114, 97, 102, 116] else [UInt8.ofNat (97 + k - 5)]
theorem nameL_len (k : Nat) : (nameL k).length ≤ 9 := by unfold nameL; (repeat' split) <;> simp
end Go.Proofs.YtiaknomadhgckaaDoor

namespace Go.Proofs.YtiaknomadhgckaaDoor
set_option linter.unusedVariables false
open Mem
def brL (xs : Bytes) : Option Bytes := if 2 ≤ xs.length ∧ xs[0]? = some 40 ∧ xs[xs.length - 1]? = some 41 then some ((xs.take (xs.length - 1)).drop 1) else none
theorem brL_len {xs ys : Bytes} (h : brL xs = some ys) : ys.length ≤ xs.length := by
  unfold brL at h
  split at h
  · obtain rfl := Option.some.inj h
    simp; omega
  · cases h
def hit (w : Bytes) (k : Nat) : Prop := w = nameL k ∨ (k < 5 ∧ loL w = loL (nameL k))
instance (w : Bytes) (k : Nat) : Decidable (hit w k) := inferInstanceAs (Decidable (_ ∨ _))
theorem hit_small {w : Bytes} {k : Nat} (h : k < 5) : hit w k ↔ loL w = loL (nameL k) := ⟨fun hh => by rcases hh with rfl | ⟨_, h⟩; rfl; exact h, fun hh => .inr ⟨h, hh⟩⟩
theorem hit_big {w : Bytes} {k : Nat} (h : 5 ≤ k) : hit w k ↔ w = nameL k := ⟨fun hh => by rcases hh with h | ⟨h, _⟩; exact h; omega, .inl⟩
theorem lo_len (w : Bytes) : (loL w).length = w.length := by unfold loL; simp
theorem small_len : ∀ k, k < 5 → 5 ≤ (nameL k).length := by decide
theorem small_inj : ∀ j, j < 5 → ∀ k, k < 5 → loL (nameL j) = loL (nameL k) → j = k := by decide
theorem big_one (k : Nat) (h : 5 ≤ k) : nameL k = [UInt8.ofNat (97 + k - 5)] := by
  unfold nameL; rw [if_neg (by omega), if_neg (by omega), if_neg (by omega), if_neg (by omega), if_neg (by omega)]
theorem hit_uniq {w : Bytes} {j k : Nat} (hj : j < 31) (hk : k < 31) (h1 : hit w j) (h2 : hit w k) : j = k := by
  have hl : ∀ k, k < 5 → hit w k → 5 ≤ w.length := fun k hk h => by
    have := congrArg List.length ((hit_small hk).1 h)
    rw [lo_len, lo_len] at this
    have := small_len k hk; omega
  have hb : ∀ k, 5 ≤ k → hit w k → w.length = 1 := fun k hk h => by rw [(hit_big hk).1 h, big_one k hk]; rfl
  rcases Nat.lt_or_ge j 5 with a | a <;> rcases Nat.lt_or_ge k 5 with b | b
  · exact small_inj j a k b (((hit_small a).1 h1).symm.trans ((hit_small b).1 h2))
  · have := hl j a h1; have := hb k b h2; omega
  · have := hl k b h2; have := hb j a h1; omega
  · have := ((hit_big a).1 h1).symm.trans ((hit_big b).1 h2)
    rw [big_one j a, big_one k b] at this
    have := congrArg UInt8.toNat (List.cons.inj this).1
    rw [UInt8.toNat_ofNat', UInt8.toNat_ofNat'] at this
    omega
def bitL (w : Bytes) : Option Nat := (List.range 31).find? fun k => decide (hit w k)
theorem bitL_some {w : Bytes} {k : Nat} (hk : k < 31) (h : hit w k) : bitL w = some k := by
  unfold bitL
  cases hq : (List.range 31).find? fun k => decide (hit w k) with
  | none => exact absurd (List.find?_eq_none.1 hq k (by simpa using hk)) (by simpa using h)
  | some j =>
    have h1 := List.find?_some hq
    have h2 : j < 31 := by simpa using List.mem_of_find?_eq_some hq
    rw [hit_uniq h2 hk (by simpa using h1) h]
theorem bitL_none {w : Bytes} (h : ∀ k, k < 31 → ¬ hit w k) : bitL w = none := by
  unfold bitL
  rw [List.find?_eq_none]
  intro k hk
  simpa using h k (by simpa using hk)
theorem bitL_lt {w : Bytes} {k : Nat} (h : bitL w = some k) : k < 31 := by simpa using List.mem_of_find?_eq_some h
def lastHit (w : Bytes) : Nat → Int
  | 0 => -1
  | k + 1 => if hit w k then (k : Int) else lastHit w k
theorem lastHit_none {w : Bytes} : ∀ k, (∀ j, j < k → ¬ hit w j) → lastHit w k = -1
  | 0, _ => rfl
  | k + 1, h => by unfold lastHit; rw [if_neg (h k (by omega))]; exact lastHit_none k (fun j hj => h j (by omega))
theorem lastHit_some {w : Bytes} {j : Nat} (hh : hit w j) : ∀ k, k ≤ 31 → j < k → lastHit w k = j
  | 0, _, h => absurd h (Nat.not_lt_zero _)
  | k + 1, h31, hj => by
    unfold lastHit
    by_cases hk : hit w k
    · rw [if_pos hk, hit_uniq (by omega) (by omega) hk hh]
    · rw [if_neg hk]
      exact lastHit_some hh k (by omega) (by rcases Nat.lt_succ_iff_lt_or_eq.1 hj with h | rfl; exact h; exact absurd hh hk)
theorem lastHit_is (w : Bytes) : lastHit w 31 = match bitL w with | some k => (k : Int) | none => -1 := by
  cases hq : bitL w with
  | none =>
    refine lastHit_none 31 fun j hj hh => ?_
    rw [bitL_some hj hh] at hq; cases hq
  | some k =>
    have hk := bitL_lt hq
    unfold bitL at hq
    exact lastHit_some (by simpa using List.find?_some hq) 31 (by omega) hk
theorem bitL_letter (b : UInt8) (h1 : 97 ≤ b.toNat) (h2 : b.toNat ≤ 122) : bitL [b] = some (5 + b.toNat - 97) := by
  refine bitL_some (by omega) ((hit_big (by omega)).2 ?_)
  rw [big_one _ (by omega)]
  congr 1
  apply UInt8.toNat.inj
  rw [UInt8.toNat_ofNat']
  omega
theorem bitL_other {w : Bytes} (h5 : ∀ j, j < 5 → upL w ≠ upL (nameL j)) (hw : ∀ b, w = [b] → ¬ (97 ≤ b.toNat ∧ b.toNat ≤ 122)) : bitL w = none := by
  refine bitL_none fun k hk hh => ?_
  rcases Nat.lt_or_ge k 5 with a | a
  · exact h5 k a ((upL_iff _ _).2 ((hit_small a).1 hh))
  · have := (hit_big a).1 hh
    rw [big_one k a] at this
    refine hw _ this ?_
    rw [UInt8.toNat_ofNat']; omega
theorem bitL_small {w : Bytes} {j : Nat} (hj : j < 5) (h : upL w = upL (nameL j)) : bitL w = some j := bitL_some (by omega) ((hit_small hj).2 ((upL_iff _ _).1 h))
def foldL : Nat → List Bytes → Bool × Int
  | acc, [] => (true, (acc : Int))
  | acc, w :: ws => match bitL w with
    | none => (false, 0)
    | some k => foldL (acc ||| 2 ^ k) ws
def ReadListL (xs : Bytes) : Bool × Int := match brL xs with
  | none => (false, 0)
  | some [] => (true, 0)
  | some ys => foldL 0 (splitL 32 ys)
end Go.Proofs.YtiaknomadhgckaaDoor

namespace Go.Proofs.YtiaknomadhgckaaDoor
open Mem
set_option linter.unusedVariables false
def noC : CmdL := (0, [42], 0, false, [], 0, 0, 0, [])
def badC (t : Bytes) : CmdL := (0, t, 0, false, [], 0, 0, 0, [])
def itemN (u : Bytes) : Nat :=
  if u = [66, 79, 68, 89, 91, 93] then 8 else if u = [82, 70, 67, 56, 50, 50, 46, 83, 73, 90, 69] then 4 else if u = [70, 76, 65, 71, 83] then 2 else if u = [85, 73, 68] then 1 else 0
theorem itemN_lt (u : Bytes) : itemN u < 16 := by unfold itemN; repeat' split
                                                  all_goals decide
def itemsN : Nat → List Bytes → Nat
  | acc, [] => acc
  | acc, w :: r => if itemN (upL w) = 0 then 0 else itemsN (acc ||| itemN (upL w)) r
def itemsL (t : Bytes) : Nat := match brL t with | none => itemN (upL t) | some i => itemsN 0 (splitL 32 i)
def modeK (u : Bytes) : Int := if u = [45, 70, 76, 65, 71, 83] then 3 else if u = [43, 70, 76, 65, 71, 83] then 2 else if u = [70, 76, 65, 71, 83] then 1 else 0
def fetchC (t : Bytes) (uid : Bool) (rest : Bytes) : CmdL :=
  if (SetB (cutL 32 rest).1).1 = true ∧ itemsL (cutL 32 rest).2.1 ≠ 0 then (9, t, 0, uid, (SetB (cutL 32 rest).1).2, (itemsL (cutL 32 rest).2.1 : Int), 0, 0, []) else badC t
def storeC (t : Bytes) (uid : Bool) (rest : Bytes) : CmdL :=
  if (SetB (cutL 32 rest).1).1 = true ∧ modeK (upL (cutL 32 (cutL 32 rest).2.1).1) ≠ 0 ∧ (ReadListL (cutL 32 (cutL 32 rest).2.1).2.1).1 = true then
    (10, t, 0, uid, (SetB (cutL 32 rest).1).2, 0, modeK (upL (cutL 32 (cutL 32 rest).2.1).1), (ReadListL (cutL 32 (cutL 32 rest).2.1).2.1).2, []) else badC t
def plainK (u : Bytes) : Int := if u = [78, 79, 79, 80] then 1 else if u = [76, 79, 71, 79, 85, 84] then 2 else if u = [69, 88, 80, 85, 78, 71, 69] then 11 else 0
def kindC (t : Bytes) (k : Int) : CmdL := (k, t, 0, false, [], 0, 0, 0, [])
def verbC (t : Bytes) (uid : Bool) (u : Bytes) (blank : Bool) (rest : Bytes) : CmdL :=
  if u = [70, 69, 84, 67, 72] then (if blank = true then fetchC t uid rest else badC t)
  else if u = [83, 84, 79, 82, 69] then (if blank = true then storeC t uid rest else badC t)
  else if blank = false ∧ uid = false then kindC t (plainK u) else badC t
def uidU : Bytes := [85, 73, 68]
def restC (t rest : Bytes) : CmdL :=
  if upL (cutL 32 rest).1 = uidU ∧ (cutL 32 rest).2.2 = true then verbC t true (upL (cutL 32 (cutL 32 rest).2.1).1) (cutL 32 (cutL 32 rest).2.1).2.2 (cutL 32 (cutL 32 rest).2.1).2.1
  else verbC t false (upL (cutL 32 rest).1) (cutL 32 rest).2.2 (cutL 32 rest).2.1
def appU : Bytes := [65, 80, 80, 69, 78, 68]
def appT (t m body : Bytes) : CmdL :=
  if m = [] then (12, t, 0, false, [], 0, 0, 0, body)
  else if m[m.length - 1]? = some 32 ∧ (ReadListL (m.take (m.length - 1))).1 = true then (12, t, 0, false, [], 0, 0, (ReadListL (m.take (m.length - 1))).2, body) else badC t
def appC (t rest body : Bytes) : CmdL := if upL (cutL 32 rest).1 = appU ∧ (cutL 32 rest).2.2 = true then appT t (cutL 32 rest).2.1 body else badC t
def alnum (b : UInt8) : Bool := decide (48 ≤ b.toNat ∧ b.toNat ≤ 57) || decide (97 ≤ b.toNat ∧ b.toNat ≤ 122) || decide (65 ≤ b.toNat ∧ b.toNat ≤ 90)
def tagB (t : Bytes) : Bool := decide (1 ≤ t.length ∧ t.length ≤ 20) && t.all alnum
abbrev UniI := Bytes × (Bytes × (Bool × Bool))
def imapL (u : UniI) : CmdL :=
  if u.2.2.2 = true ∨ 300 < u.1.length ∨ (cutL 32 u.1).2.2 = false ∨ tagB (cutL 32 u.1).1 = false then noC
  else if u.2.2.1 = true then appC (cutL 32 u.1).1 (cutL 32 u.1).2.1 u.2.1 else restC (cutL 32 u.1).1 (cutL 32 u.1).2.1
theorem cutL_at (b : UInt8) : ∀ xs : Bytes, (cutL b xs).2.2 = true → xs[(cutL b xs).1.length]? = some b
  | [], h => by simp [cutL] at h
  | c :: r, h => by
    unfold cutL at h ⊢
    by_cases hc : c = b
    · rw [if_pos hc]; simp [hc]
    · rw [if_neg hc] at h ⊢
      have := cutL_at b r h
      simpa using this
theorem app_seven (rest : Bytes) : (upL (cutL 32 rest).1 = appU ∧ (cutL 32 rest).2.2 = true) ↔ (7 ≤ rest.length ∧ upL (rest.take 7) = appU ++ [32]) := by
  have hb : ∀ b : UInt8, upB b = 32 ↔ b = 32 := by
    intro b
    unfold upB
    constructor
    · intro h
      split at h
      · rename_i hh
        have := congrArg UInt8.toNat h
        rw [UInt8.toNat_ofNat'] at this
        have h3 : (32 : UInt8).toNat = 32 := rfl
        omega
      · exact h
    · rintro rfl; decide
  constructor
  · rintro ⟨h1, h2⟩
    have hl := cutL_len 32 rest h2
    have h6 : (cutL 32 rest).1.length = 6 := by have := congrArg List.length h1; rw [upL_len] at this; exact this
    obtain ⟨p1, p2⟩ := cutL_parts 32 rest h2
    refine ⟨by omega, ?_⟩
    have hx : rest[(cutL 32 rest).1.length]? = some 32 := cutL_at 32 rest h2
    rw [h6] at p1 hx
    have : rest.take 7 = rest.take 6 ++ [32] := by
      rw [show (7 : Nat) = 6 + 1 from rfl, List.take_add_one, hx]; rfl
    rw [this, p1]
    unfold upL at h1 ⊢
    rw [List.map_append, h1]
    rfl
  · rintro ⟨h1, h2⟩
    have e7 : rest.take 7 = rest.take 6 ++ [rest[6]'(by omega)] := by
      rw [show (7 : Nat) = 6 + 1 from rfl, List.take_succ_eq_append_getElem (by omega)]
    rw [e7] at h2
    unfold upL at h2
    rw [List.map_append] at h2
    have hi := List.append_inj h2 (by simp [appU]; omega)
    have h3 : upL (rest.take 6) = appU := hi.1
    have h4 : rest[6]'(by omega) = 32 := (hb _).1 (by have := hi.2; simpa using this)
    have hn : ∀ j, (hj : j < 6) → rest[j]'(by omega) ≠ 32 := fun j hj e => by
      have h5 : (upL (rest.take 6))[j]? = some 32 := by
        unfold upL
        rw [List.getElem?_map, List.getElem?_take, if_pos hj, List.getElem?_eq_getElem (by omega), e]
        rfl
      rw [h3] at h5
      have : ∀ j, j < 6 → appU[j]? ≠ some 32 := by decide
      exact this j hj h5
    rw [cutL_hit 32 rest 6 (by omega) hn h4]
    exact ⟨h3, rfl⟩
end Go.Proofs.YtiaknomadhgckaaDoor

namespace Go.Proofs.YtiaknomadhgckaaDoor.Mem
open Go.RowKit
set_option linter.unusedVariables false
section
variable {P : Program} {md : Region.Mode} {ops : Array Oper} {T : World → Prop} {L : List Nat} {Q : Exit → Act → World → Prop} {o : Oper} {a : Act} {w : World} {v : Value}
def RegR (P : Program) (md : Region.Mode) (ops : Array Oper) (Q : Exit → Act → World → Prop) (L : List Nat) (T : World → Prop) : Nat → Array Bool → Act → World → Prop
  | 0, ls, a, w => Region.ready md ops ls = [] ∧ Q .normal a w
  | n + 1, ls, a, w => (Region.ready md ops ls = [] → Q .normal a w) ∧ ∀ i ∈ Region.ready md ops ls, wpOp P ops Q i (fun a' w' => (i ∉ L → T w') ∧ RegR P md ops Q L T n (ls.setIfInBounds i true) a' w') a w
theorem RegR.any : ∀ (n : Nat) (ls : Array Bool) (a : Act) (w : World), RegR P md ops Q L T n ls a w → wpAny P md ops Q n ls a w
  | 0, _, _, _, h => h
  | n + 1, _, _, _, h => ⟨h.1, fun i hi => wpOp_mono (fun a' w' h' => RegR.any n _ a' w' h'.2) (h.2 i hi)⟩
def Waits (md : Region.Mode) (ops : Array Oper) (L : List Nat) (i : Nat) : Bool := L.all fun j => ((ops[j]?).map fun o => o.after.any fun e => Region.binds md e && e.on == i).getD false
theorem RegR.first {i : Nat} {oi : Oper} (hi : ops[i]? = some oi) (hsel : ∀ (j : Nat) (o : Oper) cs b, ops[j]? = some o → o.op ≠ .select cs b)
    (hQ : ∀ c a w, Q (.panic c) (a.put oi.dst v) w → Q (.panic c) a w) (hL : Waits md ops L i = true) (n : Nat) : ∀ (ls : Array Bool) (a : Act) (w : World),
      (∀ j oj, ops[j]? = some oj → j ≠ i → ls.getD j true = false → (∀ e ∈ oj.after, Region.binds md e = true → e.on ≠ i) → oi.apart ops oj = true) →
      i ∈ Region.ready md ops ls → YieldsIf P ops T oi v a → T w → RegR P md ops Q L T n (ls.setIfInBounds i true) (a.put oi.dst v) w → RegR P md ops Q L T (n + 1) ls a w := by
  -- who comes ahead of number i does not wait for it
  have hno : ∀ (ls : Array Bool) (j : Nat) (oj : Oper), ops[j]? = some oj → i ∈ Region.ready md ops ls → (∀ e ∈ oj.after, Region.binds md e = true → ls.getD e.on false = true) → ∀ e ∈ oj.after, Region.binds md e = true → e.on ≠ i := by
    intro ls j oj _ hir hall e he hb heq
    have hl := hall e he hb
    have h0 := (mem_ready.1 hir).1
    rw [heq] at hl
    by_cases hsz : i < ls.size
    · simp [hsz] at h0 hl; simp [h0] at hl
    · simp [Array.getElem?_eq_none (Nat.le_of_not_lt hsz)] at hl
  have hnL : ∀ j oj, ops[j]? = some oj → (∀ e ∈ oj.after, Region.binds md e = true → e.on ≠ i) → j ∉ L := by
    intro j oj hj hn hmem
    have h1 := List.all_eq_true.1 hL j hmem
    simp only [hj, Option.map_some, Option.getD_some] at h1
    obtain ⟨e, he, hb⟩ := Array.any_eq_true'.1 h1
    rw [Bool.and_eq_true, beq_iff_eq] at hb
    exact hn e he hb.1 hb.2
  induction n with
  | zero =>
    intro ls a w _ hr hy hT H
    refine ⟨fun h0 => absurd (h0 ▸ hr) List.not_mem_nil, fun j hj => ?_⟩
    rcases Decidable.em (j = i) with rfl | hne
    · exact hy.wpOp hi hT ⟨fun _ => hT, H⟩
    · exact absurd (H.1 ▸ ready_mono hj hne) List.not_mem_nil
  | succ n ih =>
    intro ls a w hfree hr hy hT H
    refine ⟨fun h0 => absurd (h0 ▸ hr) List.not_mem_nil, fun j hj => ?_⟩
    rcases Decidable.em (j = i) with rfl | hne
    · exact hy.wpOp hi hT ⟨fun _ => hT, H⟩
    obtain ⟨hun, oj, hoj, hall⟩ := mem_ready.1 hj
    have hn := hno ls j oj hoj hr hall
    refine wpOp_mono ?_ (wpOp_putIf hoj (hfree j oj hoj hne hun hn) (fun cs b => hsel i oi cs b hi) (fun cs b => hsel j oj cs b hoj) hQ hy (H.2 j (ready_mono hj hne)))
    intro a' w' h
    refine ⟨h.2.1, ih _ a' w' ?_ (ready_mono hr (Ne.symm hne)) h.1 (h.2.1 (hnL j oj hoj hn)) ?_⟩
    · intro k ok hk hki hku hkn
      refine hfree k ok hk hki ?_ hkn
      rcases Decidable.em (j = k) with rfl | hjk
      · exact hun
      · rw [getD_set_ne true hjk] at hku; exact hku
    · have h3 := h.2.2
      rwa [Array.setIfInBounds_comm _ _ (Ne.symm hne)] at h3
theorem reg_start (L : List Nat) (T : World → Prop) {id : Nat} (hm : P.follows .mixedOrders = true) (h : RegR P .any ops Q L T ops.size (Array.replicate ops.size false) a w.drew) : (Code.region id ops true).wp P Q a w :=
  wp_region_any hm (RegR.any _ _ _ _ h)
theorem reg_take {i n : Nat} {op : Op} {ty : TypeId} {pos : String} {af : Array Edge} {fuel : Nat} {ls : Array Bool} (v : Value) (hT : T w) (hi : ops[i]? = some ⟨some n, op, ty, pos, af, none⟩) (hs : Region.noSelect ops = true) (hL : Waits md ops L i = true) (hf : Region.free md ops ls i = true) (hr : (Region.ready md ops ls).contains i = true)
    (hQ : ∀ c a w, Q (.panic c) (a.put (some n) v) w → Q (.panic c) a w) (hy : ∀ w, T w → (execOp a.eval ⟨some n, op, ty, pos, af, none⟩).run P w = .ok (.value v) w)
    (h : RegR P md ops Q L T fuel (ls.setIfInBounds i true) (a.put (some n) v) w) : RegR P md ops Q L T (fuel + 1) ls a w :=
  RegR.first hi (Region.noSelect_spec hs) hQ hL fuel ls a w (Region.free_spec hi hf) (by simpa using hr) (.inl ⟨by simp [Region.wanted], hy⟩) hT h
theorem reg_step {i : Nat} {d : Option Nat} {op : Op} {ty : TypeId} {pos : String} {af : Array Edge} {fuel : Nat} {ls : Array Bool} (hi : ops[i]? = some ⟨d, op, ty, pos, af, none⟩) (hr : Region.ready md ops ls = [i])
    (h : ∀ K : Act → World → Prop, Shut (∀ a w, (i ∉ L → T w) → RegR P md ops Q L T fuel (ls.setIfInBounds i true) a w → K a w) → Oper.wp P ⟨d, op, ty, pos, af, none⟩ a w K Q) : RegR P md ops Q L T (fuel + 1) ls a w := by
  refine ⟨fun h0 => absurd (hr.symm.trans h0) (by simp), ?_⟩
  rw [hr]
  intro j hj
  obtain rfl := List.mem_singleton.1 hj
  refine wpOp_step hi fun K' hK => ?_
  rw [if_pos (by simp [Region.wanted])]
  exact h K' fun a w h1 h2 => hK a w ⟨h1, h2⟩
theorem reg_done {ls : Array Bool} (hr : Region.ready md ops ls = []) (h : Q .normal a w) : ∀ n, RegR P md ops Q L T n ls a w
  | 0 => ⟨hr, h⟩
  | _ + 1 => ⟨fun _ => h, by rw [hr]; simp⟩
theorem wp_val (hx : (execOp a.eval o).run P w = .ok (.value v) w) {n : Nat} (hd : o.dst = some n) {K : Act → World → Prop} (h : K (a.put (some n) v) w) : Oper.wp P o a w K Q := by
  unfold Oper.wp
  rw [hx, Oper.upon_value, hd]; exact h
theorem exec_move {x : Operand} (ho : o.op = .move x) (h : a.eval x = v) : (execOp a.eval o).run P w = .ok (.value v) w := by
  unfold execOp; simp only [ho, h, Sem.run_pure]
theorem exec_call {f : FuncId} {args : List Operand} {ts : Array TypeId} {vals : List Value} (ho : o.op = .call { callee := .value (.func f), args := args.toArray, argTypes := ts }) (hv : args.map a.eval = vals)
    (hf : ((P.funcs[f]?).map fun fn => fn.name == "runtime.NumGoroutine" || fn.body.isNone) = some false) : (execOp a.eval o).run P w = .ok (.enter f vals.toArray) w := by
  obtain ⟨fn, hfn, hb⟩ := Option.map_eq_some_iff.1 hf
  rw [Bool.or_eq_false_iff] at hb
  have h1 : fn.name ≠ "runtime.NumGoroutine" := fun h => by rw [h] at hb; simp at hb
  have h2 : fn.body ≠ none := fun h => by rw [h] at hb; simp at hb
  unfold execOp
  simp only [ho, resolve, List.map_toArray, hv, Act.eval, Deferred.ofValue]
  simp [Sem.run_bind, Result.andThen, invoke, callFunc, hfn, h1, h2]
theorem wp_call {f : FuncId} {args : List Operand} {ts : Array TypeId} {vals : List Value} {R : Ending → World → Prop} {n : Nat} (ho : o.op = .call { callee := .value (.func f), args := args.toArray, argTypes := ts }) (hd : o.dst = some n) (hv : args.map a.eval = vals)
    (hf : ((P.funcs[f]?).map fun fn => fn.name == "runtime.NumGoroutine" || fn.body.isNone) = some false) {K : Act → World → Prop} (hc : Calls P f vals.toArray w R) (hK : ∀ e w', R e w' → ∃ v, e = .returned v ∧ K (a.put (some n) v) w') : Oper.wp P o a w K Q := by
  unfold Oper.wp
  rw [exec_call ho hv hf, Oper.upon_enter]
  refine hc.mono ?_
  intro e w' hR
  obtain ⟨v, rfl, h⟩ := hK e w' hR
  rw [hd]; exact h
theorem exec_load {t : TypeId} {x : Operand} (ho : o.op = .load t x) {vx : Value} (hx : a.eval x = vx) (h : (Instr.loadAt t vx).run P w = .ok v w) : (execOp a.eval o).run P w = .ok (.value v) w := by
  unfold execOp; simp only [ho, hx, Sem.run_bind, h, Result.andThen_ok, Sem.run_pure]
theorem exec_field {t : TypeId} {x : Operand} {f : Nat} (ho : o.op = .fieldAddr t x f) {vx : Value} (hx : a.eval x = vx) (h : (Instr.fieldAt t vx f).run P w = .ok v w) : (execOp a.eval o).run P w = .ok (.value v) w := by
  unfold execOp; simp only [ho, hx, Sem.run_bind, h, Result.andThen_ok, Sem.run_pure]
theorem exec_indexAddr {t : TypeId} {x i : Operand} (ho : o.op = .indexAddr t x i) {vx vi : Value} (hx : a.eval x = vx) (hi : a.eval i = vi) (h : (Instr.indexAt t vx vi).run P w = .ok v w) : (execOp a.eval o).run P w = .ok (.value v) w := by
  unfold execOp; simp only [ho, hx, hi, Sem.run_bind, h, Result.andThen_ok, Sem.run_pure]
theorem exec_un {op : UnOp} {t : TypeId} {x : Operand} (ho : o.op = .unOp op t x) {vx : Value} (hx : a.eval x = vx) (h : (Op.unary op vx).run P w = .ok v w) : (execOp a.eval o).run P w = .ok (.value v) w := by
  unfold execOp; simp only [ho, hx, Sem.run_bind, h, Result.andThen_ok, Sem.run_pure]
theorem wp_valw {w' : World} (hx : (execOp a.eval o).run P w = .ok (.value v) w') {n : Nat} (hd : o.dst = some n) {K : Act → World → Prop} (h : K (a.put (some n) v) w') : Oper.wp P o a w K Q := by
  unfold Oper.wp
  rw [hx, Oper.upon_value, hd]; exact h
theorem wp_store {t : TypeId} {x y : Operand} {w' : World} (ho : o.op = .store t x y) (hd : o.dst = none) {vx vy : Value} (hx : a.eval x = vx) (hy : a.eval y = vy) (h : (Instr.storeAt t vx vy).run P w = .ok () w') {K : Act → World → Prop} (hK : K a w') : Oper.wp P o a w K Q := by
  unfold Oper.wp execOp; simp only [ho, hx, hy, Sem.run_bind, h, Result.andThen_ok, Sem.run_pure, Oper.upon_skip, hd]
  exact hK
end
end Go.Proofs.YtiaknomadhgckaaDoor.Mem
