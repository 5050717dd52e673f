/- Decimal numerals of the specification. The laws' marks of texts. The laws' helpers over Entry and over slices of it. -/
import Derived.Test.YtiaknomadhgckaaDoorPk1
import Derived.Test.YtiaknomadhgckaaDoorPk3
import Derived.Lib.ItoaNum
import Derived.Test.YtiaknomadhgckaaDoorPk2
import Derived.Test.YtiaknomadhgckaaDoorProg
import Derived.WalkKit
namespace Go.Proofs.YtiaknomadhgckaaDoor
open Go.RowKit Mem
set_option linter.unusedVariables false

theorem ba_app' (xs ys : Bytes) : (⟨xs.toArray⟩ : ByteArray) ++ ⟨ys.toArray⟩ = ⟨(xs ++ ys).toArray⟩ := ByteArray.ext (by rw [ByteArray.data_append]; simp)
theorem dec_big {u : Nat} (h : 10 ≤ u) : Lib.decDigits u = Lib.decDigits (u / 10) ++ [UInt8.ofNat (48 + u % 10)] := by rw [Lib.decDigits, dif_neg (by omega)]
theorem dec_small {u : Nat} (h : u < 10) : Lib.decDigits u = [UInt8.ofNat (48 + u)] := by rw [Lib.decDigits, dif_pos h]
theorem dec_len (u : Nat) (h : u ≤ 1000000000000) : (Lib.decDigits u).length ≤ 13 := by
  rw [Lib.decDigits_length]
  rcases Nat.lt_or_ge (Lib.nDigits u) 14 with h1 | h1
  · omega
  · exfalso
    have hlow : ∀ k u, k + 1 ≤ Lib.nDigits u → 10 ^ k ≤ u ∨ k = 0 := by
      intro k
      induction k with
      | zero => intro u _; exact .inr rfl
      | succ k ih =>
        intro u hk
        by_cases hu : u < 10
        · rw [Lib.nDigits_small hu] at hk; omega
        · rw [Lib.nDigits_big hu] at hk
          left
          rw [Nat.pow_succ]
          rcases ih (u / 10) (by omega) with h | h
          · have := Nat.mul_le_mul_right 10 h
            omega
          · subst h; simp; omega
    rcases hlow 13 u h1 with h2 | h2
    · have : (10 : Nat) ^ 13 = 10000000000000 := by decide
      omega
    · omega
/-- what is still to be put ahead -/
def DecSt (N m : Nat) (s : Bytes) : Prop := if m = 0 then s = Lib.decDigits N else Lib.decDigits m ++ s = Lib.decDigits N
theorem DecSt.step {N m : Nat} {s : Bytes} (h : DecSt N m s) (hm : m ≠ 0) : DecSt N (m / 10) ([UInt8.ofNat (48 + m % 10)] ++ s) := by
  unfold DecSt at h ⊢
  rw [if_neg hm] at h
  by_cases h10 : m < 10
  · rw [if_pos (by omega), ← h, dec_small h10, show m % 10 = m by omega]
  · rw [if_neg (by omega), ← h, dec_big (u := m) (by omega), List.append_assoc]

set_option maxHeartbeats 1000000 in
set_option maxRecDepth 100000 in
theorem l1Dec_calls (N : Nat) (hN : N ≤ 9999999999999) (w : World) : Calls Tryd.prog 21 #[.int .i64 (N : Int)] w (Ret (.string ⟨(Lib.decDigits N).toArray⟩) w) := by
  by_cases h0 : N = 0
  · subst h0
    go_enter Tryd.func21, Tryd.ntmps21
    go_wp2
    go_ret
    rw [dec_small (u := 0) (by omega)]
    exact ⟨rfl, Mod.refl _ _⟩
  · have hni : ¬ (N : Int) = 0 := by omega
    have hnb : ((N : Int) == 0) = false := by simp only [beq_eq_false_iff_ne, ne_eq]; exact hni
    have HS0 : Sec (DecSt N N []) := ⟨by unfold DecSt; rw [if_neg h0, List.append_nil]⟩
    clear h0
    go_enter Tryd.func21, Tryd.ntmps21
    go_wp2
    clear hni hnb
    go_loopw [0, 3] (fun q s wr => ∃ (m : Nat) (js : Bytes), m ≤ N ∧ q = .int .i64 (m : Int) ∧ s = .string ⟨js.toArray⟩ ∧ js.length ≤ 100000000000000 - m ∧ Sec (DecSt N m js) ∧ Sec (New w wr)) (fun q _ _ => (intOf q).toNat)
    case atStart => exact ⟨N, [], Nat.le_refl _, rfl, rfl, by simp, HS0, ⟨Mod.refl _ _⟩⟩
    case round =>
      obtain ⟨m, js, hm, rfl, rfl, hjl, HS, HM⟩ := hrel
      clear HS0
      by_cases hm0 : m = 0
      · subst hm0
        have hE : js = Lib.decDigits N := by have := HS.out; unfold DecSt at this; rwa [if_pos rfl] at this
        have HE := Sec.mk hE
        clear hE
        go_wp2
        go_ret
        rw [HE.out]
        exact ⟨rfl, HM.out⟩
      · have hmi : (0 : Int) < (m : Int) := by omega
        have HS' := Sec.mk (HS.out.step hm0)
        have HRO := Row.one wr 5 (UInt8.ofNat (48 + m % 10)) (48 + (m : Int) % 10) (by rw [UInt8.toNat_ofNat']; omega)
        have hcv := HRO.conv (P := Tryd.prog) Tryd.underlying32 Tryd.underlying5 Tryd.underlying9 1
        clear HRO
        go_wp2
        refine ⟨⟨m / 10, [UInt8.ofNat (48 + m % 10)] ++ js, by omega, ?_, ?_, ?_, HS', ⟨HM.out.alloc _⟩⟩, ?_⟩
        · go_num
        · rw [← ba_app']; simp
        · simp only [List.length_append, List.length_singleton]; omega
        · simp [intOf]; omega

end Go.Proofs.YtiaknomadhgckaaDoor

namespace Go.Proofs.YtiaknomadhgckaaDoor
open Go.RowKit Mem
set_option linter.unusedVariables false
/-- the text for a number -/
def markT (k : Nat) : Bytes := 109 :: Lib.decDigits k
theorem markT_len (k : Nat) (hk : k ≤ 2000000000000000000) : (markT k).length ≤ 9223372036854775807 := by
  have hlow : ∀ n, ∀ u, n + 1 ≤ Lib.nDigits u → 10 ^ n ≤ u ∨ n = 0 := by
    intro n
    induction n with
    | zero => intro u _; exact .inr rfl
    | succ n ih =>
      intro u hu
      by_cases h10 : u < 10
      · rw [Lib.nDigits_small h10] at hu; omega
      · rw [Lib.nDigits_big h10] at hu
        left
        rw [Nat.pow_succ]
        rcases ih (u / 10) (by omega) with h | h
        · have := Nat.mul_le_mul_right 10 h
          omega
        · subst h; simp; omega
  have h1 : (markT k).length = Lib.nDigits k + 1 := by unfold markT; rw [List.length_cons, Lib.decDigits_length]
  rw [h1]
  rcases Nat.lt_or_ge (Lib.nDigits k) 20 with h | h
  · omega
  · rcases hlow 19 k h with h2 | h2
    · have : (10 : Nat) ^ 19 = 10000000000000000000 := by decide
      omega
    · omega
theorem ldStr {w : World} {p : Addr} {v : Value} (h : w.cell? p = some v) : (Instr.loadAt 9 (.pointer (some p))).run Tryd.prog w = .ok v w := by go_simp
theorem strNe (s : ByteArray) (x y : Operand) (w : World) : (do eqGuard .neq 9 x y (.string s) (.string s); binOp .neq 9 (.string s) (.string s) : Sem Value).run Tryd.prog w = .ok (.bool false) w := by go_simp

theorem pow_small {n N : Nat} (h : 10 ^ n ≤ N) (hN : N ≤ 2000000000000000000) : n ≤ 18 := by
  rcases Nat.lt_or_ge n 19 with h1 | h1
  · omega
  · have := Nat.pow_le_pow_right (n := 10) (by decide) h1
    have e : (10 : Nat) ^ 19 = 10000000000000000000 := by decide
    omega
set_option maxHeartbeats 1000000 in
set_option maxRecDepth 100000 in
theorem markText_i (q : Int) (N : Nat) (hq : q = (N : Int)) (hN : N ≤ 2000000000000000000) (w : World) : Calls Tryd.prog 61 #[.int .i64 q] w (Ret (.string ⟨(markT N).toArray⟩) w) := by
  subst hq
  by_cases h0 : N = 0
  · subst h0
    have HE : Sec (markT 0 = [109, 48]) := ⟨by unfold markT; rw [dec_small (by omega)]; rfl⟩
    go_enter Tryd.func61, Tryd.ntmps61
    go_wp2
    go_ret
    rw [HE.out]
    exact ⟨rfl, Mod.refl _ _⟩
  · have hni : ¬ (N : Int) ≤ 0 := by omega
    have HS0 : Sec (DecSt N N []) := ⟨by unfold DecSt; rw [if_neg h0, List.append_nil]⟩
    have HMT : Sec (markT N = [109] ++ Lib.decDigits N) := ⟨rfl⟩
    clear h0
    go_enter Tryd.func61, Tryd.ntmps61
    go_wp2
    clear hni
    go_loopw [0, 3] (fun q s wr => ∃ (m : Nat) (js : Bytes), m ≤ N ∧ q = .int .i64 (m : Int) ∧ s = .string ⟨js.toArray⟩ ∧ js.length ≤ 30 ∧ Sec (m = 0 ∨ m * 10 ^ js.length ≤ N) ∧ Sec (DecSt N m js) ∧ Sec (New w wr)) (fun q _ _ => (intOf q).toNat)
    case atStart => exact ⟨N, [], Nat.le_refl _, rfl, rfl, by simp, ⟨.inr (by simp)⟩, HS0, ⟨Mod.refl _ _⟩⟩
    case round =>
      obtain ⟨m, js, hm, rfl, rfl, hjl, HP, HS, HM⟩ := hrel
      clear HS0
      by_cases hm0 : m = 0
      · subst hm0
        have hE : js = Lib.decDigits N := by have := HS.out; unfold DecSt at this; rwa [if_pos rfl] at this
        have HE := Sec.mk hE
        have hap := ba_app' [109] js
        clear hE
        go_wp2
        go_ret
        rw [HMT.out, ← HE.out]
        exact ⟨rfl, HM.out⟩
      · have hmi : (0 : Int) < (m : Int) := by omega
        have HS' := Sec.mk (HS.out.step hm0)
        have hp := HP.out.resolve_left hm0
        have hj18 : js.length ≤ 18 := pow_small (N := N) (Nat.le_trans (Nat.le_mul_of_pos_left _ (by omega)) hp) hN
        have HP' : Sec (m / 10 = 0 ∨ m / 10 * 10 ^ (js.length + 1) ≤ N) := ⟨.inr (by
          rw [Nat.pow_succ, ← Nat.mul_assoc, Nat.mul_right_comm]
          exact Nat.le_trans (Nat.mul_le_mul_right _ (Nat.div_mul_le_self m 10)) hp)⟩
        have HRO := Row.one wr 5 (UInt8.ofNat (48 + m % 10)) (48 + (m : Int) % 10) (by rw [UInt8.toNat_ofNat']; omega)
        have hcv := HRO.conv (P := Tryd.prog) Tryd.underlying32 Tryd.underlying5 Tryd.underlying9 1
        clear HRO hp HP
        go_wp2
        refine ⟨⟨m / 10, [UInt8.ofNat (48 + m % 10)] ++ js, by omega, ?_, ?_, ?_, ?_, HS', ⟨HM.out.alloc _⟩⟩, ?_⟩
        · go_num
        · rw [← ba_app']; simp
        · simp only [List.length_append, List.length_singleton]; omega
        · rw [List.length_append, List.length_singleton, Nat.add_comm]; exact HP'
        · simp [intOf]; omega

end Go.Proofs.YtiaknomadhgckaaDoor

namespace Go.Proofs.YtiaknomadhgckaaDoor
open Go.RowKit Mem
set_option linter.unusedVariables false
set_option linter.unusedSimpArgs false
abbrev EntryT := Bytes × Int
abbrev dEntry : Ty EntryT := Ty.pair Ty.str (Ty.int .i64)
set_option synthInstance.maxSize 2000
theorem rdEntry {w : World} {v : Value} {x : EntryT} (h : RdV true dEntry w v x) : v = .agg #[.string ⟨(x.1).toArray⟩, .int .i64 x.2] := by
  obtain ⟨cs, rfl, c0, c1, rfl, h0, h1⟩ := h
  obtain ⟨rfl, g0⟩ := h0
  obtain ⟨rfl, g1⟩ := h1
  rfl
theorem cellsEntry {w : World} {v : Value} {x : EntryT} (h : RdV true dEntry w v x) : v = .agg #[.string ⟨(x.1).toArray⟩, .int .i64 x.2] := by
  exact rdEntry h
theorem fldEntry0 : Fld dEntry 0 Ty.str (fun x => x.1) (fun x y => (y, x.2)) := (Fld.fst (Fld.one rfl))
theorem fldEntry1 : Fld dEntry 1 (Ty.int .i64) (fun x => x.2) (fun x y => (x.1, y)) := (Fld.snd (Fld.one rfl) rfl)
theorem eltEntry : Elt Tryd.prog 57 dEntry.sz (.agg #[.string ⟨#[]⟩, .int .i64 0]) := Elt.of (b := 24) (by kernel_rfl) rfl (by decide) (by decide)
theorem flatEntry : Flat dEntry := by
  rintro w B x cs ⟨c0, c1, rfl, h0, h1⟩
  exact ⟨_, _, [], [], rfl, rfl, List.nodup_nil, ⟨rfl, h0⟩, ⟨rfl, h1⟩⟩
theorem rowEntry (w : World) {x : EntryT} (g0 : x.1.length ≤ 9223372036854775807) (g1 : IntKind.i64.wrap x.2 = x.2) : Row dEntry (w.alloc (.cells #[.string ⟨(x.1).toArray⟩, .int .i64 x.2] 57)) (· = w.heap.size) (some ⟨w.heap.size, 0, none⟩) 1 [x] := by
  refine ⟨rfl, by omega, fun _ => ⟨_, rfl, rfl, fun j y hj => ?_⟩⟩
  have hj0 : j = 0 := by have := (List.getElem?_eq_some_iff.1 hj).1; simp at this; exact this
  subst hj0
  obtain rfl : y = x := by simpa using hj.symm
  refine ⟨[.string ⟨(y.1).toArray⟩, .int .i64 y.2], ⟨_, _, rfl, ⟨rfl, g0⟩, ⟨rfl, g1⟩⟩, fun i u hu => ?_⟩
  rw [Nat.zero_mul, Nat.zero_add, add_own, cell_of_row _ _ i _ _ (0, 0) (heap_alloc_new w _)]
  simpa using hu
theorem mEntry {w : World} {x : EntryT} (g0 : x.1.length ≤ 9223372036854775807) (g1 : IntKind.i64.wrap x.2 = x.2) : dEntry.M w ([]) x [.string ⟨(x.1).toArray⟩, .int .i64 x.2] :=
  ⟨_, _, [], _, rfl, rfl, (by simp), ⟨rfl, rfl, g0⟩, ⟨rfl, rfl, g1⟩⟩

set_option maxHeartbeats 1000000 in
set_option maxRecDepth 100000 in
theorem eqEntry_v {w : World} {v v' : Value} {x x' : EntryT} (h : RdV true dEntry w v x) (h' : RdV true dEntry w v' x') : Calls Tryd.prog 59 #[v, v'] w (Ret (.bool (decide (x = x'))) w) := by
  obtain rfl := rdEntry h
  obtain rfl := rdEntry h'
  obtain ⟨a0, a1⟩ := x
  obtain ⟨b0, b1⟩ := x'
  simp only at ⊢
  have HB0 := Sec.mk ((Blk.new w 57 [.string ⟨(a0).toArray⟩, .int .i64 a1]).alloc (.cells #[.string ⟨(b0).toArray⟩, .int .i64 b1] 57))
  have HB1 := Sec.mk (Blk.new (w.alloc (.cells #[.string ⟨(a0).toArray⟩, .int .i64 a1] 57)) 57 [.string ⟨(b0).toArray⟩, .int .i64 b1])
  rw [show (w.alloc (.cells #[.string ⟨(a0).toArray⟩, .int .i64 a1] 57)).heap.size = w.heap.size + 1 by simp] at HB1
  have HM0 := Sec.mk (((Mod.refl (fun _ => False) w).alloc (.cells #[.string ⟨(a0).toArray⟩, .int .i64 a1] 57)).alloc (.cells #[.string ⟨(b0).toArray⟩, .int .i64 b1] 57))
  clear h h' 
  by_cases e0 : a0 = b0
  rotate_left
  · have HE : Sec (decide ((a0, a1) = (b0, b1)) = false) := ⟨by simp [e0]⟩
    have hb0 : (a0 == b0) = false := by simpa using e0
    clear e0
    go_enter Tryd.func59, Tryd.ntmps59
    go_wp2
    go_ret
    exact ⟨by rw [HE.out]; rfl, HM0.out⟩
  have hb0 : (a0 == b0) = true := by simp [e0]
  have S0 := Sec.mk e0
  clear e0
  by_cases e1 : a1 = b1
  rotate_left
  · have HE : Sec (decide ((a0, a1) = (b0, b1)) = false) := ⟨by simp [e1]⟩
    have hb1 : (a1 != b1) = true := by simpa using e1
    clear e1
    go_enter Tryd.func59, Tryd.ntmps59
    go_wp2
    go_ret
    exact ⟨by rw [HE.out]; rfl, HM0.out⟩
  have hb1 : (a1 != b1) = false := by simp [e1]
  have S1 := Sec.mk e1
  clear e1
  have HE : Sec (decide ((a0, a1) = (b0, b1)) = true) := ⟨by simp [S0.out, S1.out]⟩
  go_enter Tryd.func59, Tryd.ntmps59
  go_wp2
  go_ret
  exact ⟨by rw [HE.out]; rfl, HM0.out⟩

def mkEntry1 (k : Nat) (x : EntryT) : EntryT := (markT (k), ((k : Nat) : Int) + 1)
def cntEntry (x : EntryT) : Nat := 1 + 1
theorem cntEntry_mk (k : Nat) (x : EntryT) : cntEntry (mkEntry1 k x) = cntEntry x := rfl
theorem mkEntry1_idem (k k' : Nat) (x : EntryT) : mkEntry1 k' (mkEntry1 k x) = mkEntry1 k' x := rfl
abbrev EntryST := List EntryT
abbrev dEntryS : Ty EntryST := Ty.slice 57 dEntry
def cntEntryS (xs : EntryST) : Nat := preS cntEntry xs xs.length
def mkEntryS1 (k : Nat) (xs : EntryST) : EntryST := markL mkEntry1 cntEntry k xs
theorem cntEntryS_mk (k : Nat) (xs : EntryST) : cntEntryS (mkEntryS1 k xs) = cntEntryS xs := by unfold cntEntryS mkEntryS1; rw [preS_mark _ _ cntEntry_mk, markL_len]
theorem mkEntryS1_idem (k k' : Nat) (xs : EntryST) : mkEntryS1 k' (mkEntryS1 k xs) = mkEntryS1 k' xs := markL_idem _ _ cntEntry_mk mkEntry1_idem k k' xs
theorem idxEntryS (ad : Addr) (m c k : Nat) (h : k < m) (w : World) : (Instr.indexAt 24 (.slice (some ad) m c) (.int .i64 (k : Int))).run Tryd.prog w = .ok (.pointer (some (ad.add (k * 2)))) w := by
  have h0 : (0 : Int) ≤ (k : Int) := by omega
  have h1 : (k : Int) < (m : Int) := by omega
  go_simp
theorem fptEntry0 (p : Addr) (w : World) : (Instr.fieldAt 57 (.pointer (some p)) 0).run Tryd.prog w = .ok (.pointer (some p)) w := by go_simp

set_option maxHeartbeats 1000000 in
set_option maxRecDepth 100000 in
theorem eqEntryS_v {w : World} {v v' : Value} {xs ys : EntryST} (h : RdV false dEntryS w v xs) (h' : RdV false dEntryS w v' ys) : Calls Tryd.prog 26 #[v, v'] w (Ret (.bool (decide (xs = ys))) w) := by
  obtain ⟨A, c, rfl, -, hr⟩ := h.slice
  obtain ⟨A', c', rfl, -, hr'⟩ := h'.slice
  have hl := hr.2.1
  have HR := Sec.mk hr
  have HR' := Sec.mk hr'
  clear h h' hr hr'
  by_cases hne : xs.length = ys.length
  rotate_left
  · have hnb : ((xs.length : Int) != (ys.length : Int)) = true := by simp; omega
    have HE : Sec (decide (xs = ys) = false) := ⟨by simp [show xs ≠ ys from fun e => hne (by rw [e])]⟩
    clear hne
    go_enter Tryd.func26, Tryd.ntmps26
    go_wp2
    go_ret
    exact ⟨by rw [HE.out]; rfl, Mod.refl _ _⟩
  have hnb : ((xs.length : Int) != (ys.length : Int)) = false := by simp [hne]
  have HNE := Sec.mk hne
  clear hne
  go_enter Tryd.func26, Tryd.ntmps26
  go_wp2
  go_loopw [5] (fun i wr => ∃ k : Nat, k ≤ xs.length ∧ i = .int .i64 k ∧ Sec (xs.take k = ys.take k) ∧ Sec (New w wr)) (fun i _ => xs.length - (intOf i).toNat)
  case atStart => exact ⟨0, Nat.zero_le _, rfl, Sec.mk (by simp), Sec.mk (Mod.refl _ _)⟩
  case round =>
    obtain ⟨k, hk, rfl, HT, HM⟩ := hrel
    by_cases hlt : k < xs.length
    · have hlt2 : k < ys.length := by rw [← HNE.out]; exact hlt
      obtain ⟨ad, vx, rfl, hx⟩ := HR.out.elem (P := Tryd.prog) hlt 57 Tryd.underlying57 rfl (by kernel_rfl)
      obtain ⟨ad', vy, rfl, hy⟩ := HR'.out.elem (P := Tryd.prog) hlt2 57 Tryd.underlying57 rfl (by kernel_rfl)
      have HX : Sec (∀ W, New wr W → (Instr.loadAt 57 (.pointer (some (ad.add (k * 2))))).run Tryd.prog W = .ok vx W ∧ RdV true dEntry W vx xs[k]) := ⟨fun W hW => hx W (fun i hi => (hW.block i (Nat.lt_of_lt_of_le hi HM.out.size) id).trans (HM.out.block i hi id)) (fun i hi => Nat.lt_of_lt_of_le hi (Nat.le_trans HM.out.size hW.size))⟩
      have HY : Sec (∀ W, New wr W → (Instr.loadAt 57 (.pointer (some (ad'.add (k * 2))))).run Tryd.prog W = .ok vy W ∧ RdV true dEntry W vy (ys[k]'hlt2)) := ⟨fun W hW => hy W (fun i hi => (hW.block i (Nat.lt_of_lt_of_le hi HM.out.size) id).trans (HM.out.block i hi id)) (fun i hi => Nat.lt_of_lt_of_le hi (Nat.le_trans HM.out.size hW.size))⟩
      have HXY : Sec (xs[k] = ys[k]'hlt2 → xs.take (k + 1) = ys.take (k + 1)) := ⟨fun h => by rw [List.take_succ_eq_append_getElem hlt, List.take_succ_eq_append_getElem hlt2, HT.out, h]⟩
      have HNQ : Sec (xs[k] ≠ ys[k]'hlt2 → decide (xs = ys) = false) := ⟨fun h => by simp only [decide_eq_false_iff_not]; intro e; exact h (by subst e; rfl)⟩
      clear hx hy HT
      generalize xs[k] = x at *
      generalize ys[k]'hlt2 = y at *
      have hki : (k : Int) < (xs.length : Int) := by omega
      have hkj : (k : Int) < (ys.length : Int) := by omega
      go_wp2
      refine reg_start [] (fun W => Sec (New wr W)) (by kernel_rfl) ?_
      have HSS : Sec (New wr wr.drew) := ⟨(Mod.refl _ _).drew⟩
      refine reg_take (.slice (some ad) xs.length c) (i := 0) (n := 17) HSS rfl (by kernel_rfl) (by kernel_rfl) (by kernel_rfl) (by kernel_rfl) (fun _ _ _ h => h) (fun W hW => exec_move rfl rfl) ?_
      simp only [Act.put, List.setIfInBounds_toArray, List.set_cons_zero, List.set_cons_succ]
      refine reg_take (.int .i64 (k : Int)) (i := 1) (n := 18) HSS rfl (by kernel_rfl) (by kernel_rfl) (by kernel_rfl) (by kernel_rfl) (fun _ _ _ h => h) (fun W hW => exec_move rfl rfl) ?_
      simp only [Act.put, List.setIfInBounds_toArray, List.set_cons_zero, List.set_cons_succ]
      refine reg_take (.pointer (some (ad.add (k * 2)))) (i := 2) (n := 19) HSS rfl (by kernel_rfl) (by kernel_rfl) (by kernel_rfl) (by kernel_rfl) (fun _ _ _ h => h) (fun W hW => exec_indexAddr rfl rfl rfl (idxEntryS _ _ _ _ hlt _)) ?_
      simp only [Act.put, List.setIfInBounds_toArray, List.set_cons_zero, List.set_cons_succ]
      refine reg_take (vx) (i := 3) (n := 20) HSS rfl (by kernel_rfl) (by kernel_rfl) (by kernel_rfl) (by kernel_rfl) (fun _ _ _ h => h) (fun W hW => exec_load rfl rfl (HX.out W hW.out).1) ?_
      simp only [Act.put, List.setIfInBounds_toArray, List.set_cons_zero, List.set_cons_succ]
      refine reg_take (.slice (some ad') ys.length c') (i := 4) (n := 21) HSS rfl (by kernel_rfl) (by kernel_rfl) (by kernel_rfl) (by kernel_rfl) (fun _ _ _ h => h) (fun W hW => exec_move rfl rfl) ?_
      simp only [Act.put, List.setIfInBounds_toArray, List.set_cons_zero, List.set_cons_succ]
      refine reg_take (.int .i64 (k : Int)) (i := 5) (n := 22) HSS rfl (by kernel_rfl) (by kernel_rfl) (by kernel_rfl) (by kernel_rfl) (fun _ _ _ h => h) (fun W hW => exec_move rfl rfl) ?_
      simp only [Act.put, List.setIfInBounds_toArray, List.set_cons_zero, List.set_cons_succ]
      refine reg_take (.pointer (some (ad'.add (k * 2)))) (i := 6) (n := 23) HSS rfl (by kernel_rfl) (by kernel_rfl) (by kernel_rfl) (by kernel_rfl) (fun _ _ _ h => h) (fun W hW => exec_indexAddr rfl rfl rfl (idxEntryS _ _ _ _ hlt2 _)) ?_
      simp only [Act.put, List.setIfInBounds_toArray, List.set_cons_zero, List.set_cons_succ]
      refine reg_take (vy) (i := 7) (n := 24) HSS rfl (by kernel_rfl) (by kernel_rfl) (by kernel_rfl) (by kernel_rfl) (fun _ _ _ h => h) (fun W hW => exec_load rfl rfl (HY.out W hW.out).1) ?_
      simp only [Act.put, List.setIfInBounds_toArray, List.set_cons_zero, List.set_cons_succ]
      refine reg_step (i := 8) rfl (by kernel_rfl) (fun K hK => ?_)
      refine wp_call (n := 25) (vals := [vx, vy]) rfl rfl rfl (by kernel_rfl) (eqEntry_v (HX.out _ HSS.out).2 (HY.out _ HSS.out).2) ?_
      rintro e w1 ⟨rfl, hm1⟩
      have HS1 : Sec (New wr w1) := ⟨HSS.out.transN hm1⟩
      refine ⟨_, rfl, hK.out _ _ (fun _ => HS1) ?_⟩
      clear hK K hm1
      simp only [Act.put, List.setIfInBounds_toArray, List.set_cons_zero, List.set_cons_succ]
      refine reg_step (i := 9) rfl (by kernel_rfl) (fun K hK => ?_)
      refine wp_val (n := 26) (v := .bool (!decide (x = y))) (exec_un rfl rfl (Mem.not_r _ _)) rfl (hK.out _ _ (fun _ => HS1) ?_)
      clear hK K
      simp only [Act.put, List.setIfInBounds_toArray, List.set_cons_zero, List.set_cons_succ]
      refine reg_done (by kernel_rfl) ?_ _
      have HM' := Sec.mk (HM.out.transN HS1.out)
      by_cases hxy : x = y
      · have HT' := Sec.mk (HXY.out hxy)
        have hd : decide (x = y) = true := by simp [hxy]
        clear hxy HXY HNQ HX HY
        rw [hd]
        go_wp2
        go_roundw
        case rel => exact ⟨k + 1, by omega, by go_num, HT', HM'⟩
        case measure => simp [intOf]; omega
      · have HE := Sec.mk (HNQ.out hxy)
        have hd : decide (x = y) = false := by simp [hxy]
        clear hxy HXY HNQ HX HY
        rw [hd]
        go_wp2
        go_ret
        exact ⟨by rw [HE.out]; rfl, HM'.out⟩
    · have HE : Sec (decide (xs = ys) = true) := ⟨by
        have h1 := HT.out
        rw [List.take_of_length_le (by omega), List.take_of_length_le (by rw [← HNE.out]; omega)] at h1
        simp [h1]⟩
      go_wp2
      go_ret
      exact ⟨by rw [HE.out]; rfl, HM.out⟩


set_option maxHeartbeats 1000000 in
set_option maxRecDepth 100000 in
theorem markEntryS_calls {A : Option Addr} {c : Nat} {xs : EntryST} {F : List Nat} {w : World} (h : Own dEntry 57 w F (.slice A xs.length c) xs) (k : Nat) (hk : k + cntEntryS xs ≤ 1152921504606846976) :
    Calls Tryd.prog 29 #[.slice A xs.length c, .int .i64 k] w fun e w' => e = .returned (.int .i64 ((k + cntEntryS xs : Nat) : Int)) ∧ ∃ F', Own dEntry 57 w' F' (.slice A xs.length c) (mkEntryS1 k xs) ∧ (∀ i, i ∈ F' → i ∈ F) ∧ Mod (· ∈ F) w w' := by
  have hlx := h.len_le
  have HO := Sec.mk h
  have HKK : Sec (cntEntryS xs = preS cntEntry xs xs.length) := ⟨rfl⟩
  rw [HKK.out] at hk ⊢
  clear h
  go_enter Tryd.func29, Tryd.ntmps29
  go_wp2
  go_loopw [1, 5] (fun q i wr => ∃ (j : Nat) (ys : EntryST) (G : List Nat), j ≤ xs.length ∧ i = .int .i64 j ∧ q = .int .i64 ((k + preS cntEntry xs j : Nat) : Int) ∧ Sec (ys = (mkEntryS1 k xs).take j ++ xs.drop j) ∧ Sec (Own dEntry 57 wr G (.slice A xs.length c) ys) ∧ Sec (∀ k, k ∈ G → k ∈ F) ∧ Sec (Mod (· ∈ F) w wr)) (fun _ i _ => xs.length - (intOf i).toNat)
  case atStart => exact ⟨0, xs, F, Nat.zero_le _, rfl, by rw [preS_zero]; rfl, ⟨by simp⟩, HO, ⟨fun _ h => h⟩, ⟨Mod.refl _ _⟩⟩
  case round =>
    obtain ⟨j, ys, G, hj, rfl, rfl, HY, HO, HF, HM⟩ := hrel
    by_cases hlt : j < xs.length
    · have hyl : ys.length = xs.length := by rw [HY.out]; exact take_drop_len (markL_len _ _ k xs) j
      have hjy : j < ys.length := by omega
      have hyj : ys[j] = xs[j] := by simp only [HY.out]; exact take_drop_at (markL_len _ _ k xs) hlt _
      have hks := preS_succ cntEntry xs hlt
      have hkl := preS_le cntEntry xs (j + 1)
      have HZ := Sec.mk (markL_at mkEntry1 cntEntry k xs (i := j) (by rw [markL_len]; exact hlt))
      have HTD : Sec (ys.set j (mkEntry1 (k + preS cntEntry xs j) xs[j]) = (mkEntryS1 k xs).take (j + 1) ++ xs.drop (j + 1)) := ⟨by rw [← HZ.out, HY.out]; exact take_drop_set (markL_len _ _ k xs) hlt⟩
      have HX : Sec (Own dEntry 57 wr G (.slice A xs.length c) (ys.set j xs[j])) := ⟨by rw [← hyj, List.set_getElem_self]; exact HO.out⟩
      obtain ⟨g, rfl, hgG, -, -⟩ := HO.out.cellsAt hjy
      have HgF := Sec.mk (HF.out g hgG)
      have HKS := Sec.mk hks
      have hkb : preS cntEntry xs j + cntEntry xs[j] ≤ preS cntEntry xs xs.length := by omega
      clear hks hkl hyj HZ HO hgG
      have HCN : Sec (cntEntry xs[j] = 1 + 1) := ⟨rfl⟩
      have hcn := HCN.out
      generalize hps : preS cntEntry xs j = s at *
      generalize hxj : xs[j] = x at *
      have HJ := Sec.mk hjy
      go_wp2_with fail
      refine Calls.mono (markText_i _ (k + s) ?_ ?_ _) ?_
      · first | rfl | omega
      · (try dsimp only at hcn ⊢); omega
      rintro e wt0 ⟨rfl, hmt0⟩
      have HXt0 := Sec.mk (HX.out.new hmt0)
      have HMt0 := Sec.mk (HM.out.transN hmt0)
      clear hmt0
      obtain ⟨_, hA0, -, hcell0, hfz0⟩ := HXt0.out.cellsAt (j := j) (by rw [List.length_set]; exact hjy)
      injection hA0 with hA0
      injection hA0 with hA0
      subst hA0
      simp only [show dEntry.sz = 2 from rfl] at hcell0
      obtain ⟨p0, hc0⟩ := hcell0 0 (by decide)
      have hf0 := hfz0 (j * 2 + 0)
      simp only [Nat.add_zero] at hc0 hf0
      obtain ⟨p1, hc1⟩ := hcell0 1 (by decide)
      have hf1 := hfz0 (j * 2 + 1)
      clear hcell0 hfz0
      obtain ⟨hgg, hst⟩ := Own.fstoreAt fldEntry0 (fun _ _ _ _ h => h.1) HJ.out HXt0.out
      obtain ⟨G0, ho, hG0⟩ := hst (.string ⟨((markT ((k + s)))).toArray⟩) (markT ((k + s))) (fun _ => ⟨rfl, rfl, markT_len _ (by (try dsimp only at hcn ⊢); omega)⟩)
      simp only [show dEntry.sz = 2 from rfl, Nat.add_zero] at ho
      have HX0 := Sec.mk ho
      have HF0 := Sec.mk (fun i hi => HF.out i (hG0 i hi))
      have HM0 := Sec.mk (HMt0.out.setCell (p := ⟨g, j * 2, none⟩) (fun _ => HgF.out) (.string ⟨((markT ((k + s)))).toArray⟩))
      clear hgg hst ho hG0
      obtain ⟨hgg, hst⟩ := Own.fstoreAt fldEntry1 (fun _ _ _ _ h => h.1) HJ.out HX0.out
      obtain ⟨G1, ho, hG1⟩ := hst (.int .i64 ((k : Int) + (s : Int) + 1)) ((k : Int) + (s : Int) + 1) (fun _ => ⟨rfl, rfl, by rw [IntKind.wrap_i64]; omega⟩)
      simp only [show dEntry.sz = 2 from rfl] at ho
      have HX1 := Sec.mk ho
      have HF1 := Sec.mk (fun i hi => HF0.out i (hG1 i hi))
      have HM1 := Sec.mk (HM0.out.setCell (p := ⟨g, j * 2 + 1, none⟩) (fun _ => HgF.out) (.int .i64 ((k : Int) + (s : Int) + 1)))
      clear hgg hst ho hG1
      have HEQ : Sec (mkEntry1 (k + s) x = ((markT ((k + s))), ((k : Int) + (s : Int) + 1))) := ⟨by skip; simp only [mkEntry1, Int.natCast_add]⟩
      rw [HEQ.out] at HTD
      go_wp2
      go_roundw
      case rel => exact ⟨j + 1, _, G1, by omega, by go_num, by rw [HKS.out, HCN.out]; congr 1; try (omega), HTD, HX1, HF1, HM1⟩
      case measure => simp [intOf]; omega
    · obtain rfl : j = xs.length := by omega
      go_wp2
      go_ret
      have he : ys = mkEntryS1 k xs := by
        rw [HY.out, List.take_of_length_le (by unfold mkEntryS1; rw [markL_len]; exact Nat.le_refl _)]; simp
      subst he
      exact ⟨by simp, G, HO.out, HF.out, HM.out⟩


theorem markEntryS_f {w : World} {F : List Nat} {v : Value} {x : EntryST} (h : OwF false dEntryS w F v x) (k : Nat) (hk : k + cntEntryS x ≤ 1152921504606846976) :
    Calls Tryd.prog 29 #[v, .int .i64 k] w (Marks false dEntryS w F v (k + cntEntryS x) (mkEntryS1 k x)) := by
  obtain ⟨A, c, rfl, ho⟩ := h.slice
  refine (markEntryS_calls ho k hk).mono ?_
  rintro e w' ⟨rfl, F', ho', hF', hm⟩
  refine ⟨rfl, ⟨F', ?_, hF'⟩, hm⟩
  have hl : (mkEntryS1 k x).length = x.length := markL_len _ _ k x
  rw [← hl] at ho'
  rw [← hl]
  exact OwF.of_slice ho'
theorem markEntryS_i {w : World} {F : List Nat} {v : Value} {x : EntryST} (h : OwF false dEntryS w F v x) (q : Int) (k : Nat) (hq : q = (k : Int)) (hk : k + cntEntryS x ≤ 1152921504606846976) :
    Calls Tryd.prog 29 #[v, .int .i64 q] w (Marks false dEntryS w F v (k + cntEntryS x) (mkEntryS1 k x)) := by subst hq; exact markEntryS_f h k hk
theorem markEntryS_v {w : World} {lo hi : Nat} {v : Value} {x : EntryST} (h : OwV false dEntryS w lo hi v x) (k : Nat) (hk : k + cntEntryS x ≤ 1152921504606846976) :
    Calls Tryd.prog 29 #[v, .int .i64 k] w fun e w' => e = .returned (.int .i64 ((k + cntEntryS x : Nat) : Int)) ∧ OwV false dEntryS w' lo hi v (mkEntryS1 k x) ∧ Mod (fun i => lo ≤ i ∧ i < hi) w w' :=
  h.mark fun F hF => markEntryS_f hF k hk


set_option maxHeartbeats 1000000 in
set_option maxRecDepth 100000 in
theorem heldEntryS_v {w : World} {v : Value} {xs : EntryST} (h : RdV false dEntryS w v xs) (k : Nat) (hx : xs = mkEntryS1 k xs) (hk : k + cntEntryS xs ≤ 1152921504606846976) :
    Calls Tryd.prog 32 #[v, .int .i64 k] w (Ret (.int .i64 ((k + cntEntryS xs : Nat) : Int)) w) := by
  obtain ⟨A, c, rfl, -, hr⟩ := h.slice
  have hl := hr.2.1
  have HR := Sec.mk hr
  have HX := Sec.mk hx
  have HKK : Sec (cntEntryS xs = preS cntEntry xs xs.length) := ⟨rfl⟩
  rw [HKK.out] at hk ⊢
  clear h hr hx
  go_enter Tryd.func32, Tryd.ntmps32
  go_wp2
  go_loopw [1, 5] (fun q i wr => ∃ (j : Nat), j ≤ xs.length ∧ i = .int .i64 j ∧ q = .int .i64 ((k + preS cntEntry xs j : Nat) : Int) ∧ Sec (New w wr)) (fun _ i _ => xs.length - (intOf i).toNat)
  case atStart => exact ⟨0, Nat.zero_le _, rfl, by rw [preS_zero]; rfl, ⟨Mod.refl _ _⟩⟩
  case round =>
    obtain ⟨j, hj, rfl, rfl, HM⟩ := hrel
    by_cases hlt : j < xs.length
    · have hks := preS_succ cntEntry xs hlt
      have hkl := preS_le cntEntry xs (j + 1)
      have hkb : preS cntEntry xs j + cntEntry xs[j] ≤ preS cntEntry xs xs.length := by omega
      have HKS := Sec.mk hks
      have hz : xs[j] = mkEntry1 (k + preS cntEntry xs j) xs[j] := by
        have := markL_at mkEntry1 cntEntry k xs (i := j) (by rw [markL_len]; exact hlt)
        rw [← this]; congr 1; exact HX.out
      have HZ := Sec.mk hz
      have HCN : Sec (cntEntry xs[j] = 1 + 1) := ⟨rfl⟩
      have hcn := HCN.out
      clear hks hkl hz
      have HFD : Sec (∀ W, New w W → ∃ ad , A = some ad ∧ W.cell? (ad.add (j * 2)) = some (.string ⟨((xs[j].1)).toArray⟩) ∧ W.cell? ⟨(ad.add (j * 2)).block, (ad.add (j * 2)).off + 1, none⟩ = some (.int .i64 (xs[j].2))) := ⟨fun W hW => by
        obtain ⟨ad, v0, hA0, hc0, hK0⟩ := HR.out.field fldEntry0 (fun q hq => hW.block q hq id) hlt
        obtain rfl : v0 = .string ⟨((xs[j].1)).toArray⟩ := by have := hK0.1; simpa using this
        obtain ⟨ad1, v1, hA1, hc1, hK1⟩ := HR.out.field fldEntry1 (fun q hq => hW.block q hq id) hlt
        obtain rfl : ad = ad1 := Option.some.inj (hA0.symm.trans hA1)
        obtain rfl : v1 = .int .i64 (xs[j].2) := by have := hK1.1; simpa using this
        exact ⟨ad, hA0, hc0, hc1⟩⟩
      generalize hps : preS cntEntry xs j = s at *
      generalize hxj : xs[j] = x at *
      obtain ⟨ad, rfl, hc0, -⟩ := HFD.out _ HM.out
      have z0 : x.1 = markT (k + s) := by have h := congrArg (fun x : EntryT => x.1) HZ.out; (try simp only [mkEntry1, Int.natCast_add] at h); exact h
      rw [z0] at hc0
      clear z0
      have HLD0 : Sec (∀ W', New wr W' → W'.cell? (ad.add (j * 2)) = some (.string ⟨(markT (k + s)).toArray⟩)) := ⟨fun W' h => h.cell_of hc0⟩
      clear hc0
      go_wp2
      refine reg_start [] (fun W' => Sec (New wr W')) (by kernel_rfl) ?_
      have HSS : Sec (New wr wr.drew) := ⟨(Mod.refl _ _).drew⟩
      refine reg_take (.slice (some ad) xs.length c) (i := 0) (n := 12) HSS rfl (by kernel_rfl) (by kernel_rfl) (by kernel_rfl) (by kernel_rfl) (fun _ _ _ h => h) (fun W hW => exec_move rfl rfl) ?_
      simp only [Act.put, List.setIfInBounds_toArray, List.set_cons_zero, List.set_cons_succ]
      refine reg_take (.int .i64 (j : Int)) (i := 1) (n := 13) HSS rfl (by kernel_rfl) (by kernel_rfl) (by kernel_rfl) (by kernel_rfl) (fun _ _ _ h => h) (fun W hW => exec_move rfl rfl) ?_
      simp only [Act.put, List.setIfInBounds_toArray, List.set_cons_zero, List.set_cons_succ]
      refine reg_take (.pointer (some (ad.add (j * 2)))) (i := 2) (n := 14) HSS rfl (by kernel_rfl) (by kernel_rfl) (by kernel_rfl) (by kernel_rfl) (fun _ _ _ h => h) (fun W hW => exec_indexAddr rfl rfl rfl (idxEntryS _ _ _ _ hlt _)) ?_
      simp only [Act.put, List.setIfInBounds_toArray, List.set_cons_zero, List.set_cons_succ]
      refine reg_take (.pointer (some (ad.add (j * 2)))) (i := 3) (n := 15) HSS rfl (by kernel_rfl) (by kernel_rfl) (by kernel_rfl) (by kernel_rfl) (fun _ _ _ h => h) (fun W hW => exec_field rfl rfl (fptEntry0 _ _)) ?_
      simp only [Act.put, List.setIfInBounds_toArray, List.set_cons_zero, List.set_cons_succ]
      refine reg_take (.string ⟨(markT (k + s)).toArray⟩) (i := 4) (n := 16) HSS rfl (by kernel_rfl) (by kernel_rfl) (by kernel_rfl) (by kernel_rfl) (fun _ _ _ h => h) (fun W hW => exec_load rfl rfl (ldStr (HLD0.out W hW.out))) ?_
      simp only [Act.put, List.setIfInBounds_toArray, List.set_cons_zero, List.set_cons_succ]
      refine reg_take (.int .i64 ((k : Int) + (s : Int))) (i := 5) (n := 17) HSS rfl (by kernel_rfl) (by kernel_rfl) (by kernel_rfl) (by kernel_rfl) (fun _ _ _ h => h) (fun W hW => exec_move rfl rfl) ?_
      simp only [Act.put, List.setIfInBounds_toArray, List.set_cons_zero, List.set_cons_succ]
      refine reg_step (i := 6) rfl (by kernel_rfl) (fun K hK => ?_)
      refine wp_call (n := 18) (vals := [.int .i64 ((k : Int) + (s : Int))]) rfl rfl rfl (by kernel_rfl) (markText_i ((k : Int) + (s : Int)) (k + s) (by first | rfl | omega) (by (try dsimp only at hcn ⊢); omega) _) ?_
      rintro e wt0 ⟨rfl, hmt0⟩
      have HSt0 : Sec (New wr wt0) := ⟨HSS.out.transN hmt0⟩
      refine ⟨_, rfl, hK.out _ _ (fun _ => HSt0) ?_⟩
      clear hmt0
      clear hK K
      simp only [Act.put, List.setIfInBounds_toArray, List.set_cons_zero, List.set_cons_succ]
      refine reg_step (i := 7) rfl (by kernel_rfl) (fun K hK => ?_)
      refine wp_val (n := 19) (v := .bool false) (exec_bin rfl rfl rfl (strNe _ _ _ _)) rfl (hK.out _ _ (fun _ => HSt0) ?_)
      clear hK K
      simp only [Act.put, List.setIfInBounds_toArray, List.set_cons_zero, List.set_cons_succ]
      refine reg_done (by kernel_rfl) ?_ _
      have HMt0 := Sec.mk (HM.out.transN HSt0.out)
      clear HSS HLD0
      obtain ⟨adq1, hAq1, -, hc1⟩ := HFD.out _ HMt0.out
      obtain rfl := Option.some.inj hAq1
      have z1 : x.2 = ((k : Int) + (s : Int) + 1) := by have h := congrArg (fun x : EntryT => x.2) HZ.out; (try simp only [mkEntry1, Int.natCast_add] at h); exact h
      rw [z1] at hc1
      clear z1
      go_wp2
      go_roundw
      case rel => exact ⟨j + 1, by omega, by go_num, by rw [HKS.out, HCN.out]; congr 1; try (omega), HMt0⟩
      case measure => simp [intOf]; omega
    · obtain rfl : j = xs.length := by omega
      go_wp2
      go_ret
      exact ⟨by simp, HM.out⟩
theorem heldEntryS_i {w : World} {v : Value} {x : EntryST} (h : RdV false dEntryS w v x) (q : Int) (k : Nat) (hq : q = (k : Int)) (hx : x = mkEntryS1 k x) (hk : k + cntEntryS x ≤ 1152921504606846976) :
    Calls Tryd.prog 32 #[v, .int .i64 q] w (Ret (.int .i64 ((k + cntEntryS x : Nat) : Int)) w) := by subst hq; exact heldEntryS_v h k hx hk

end Go.Proofs.YtiaknomadhgckaaDoor
