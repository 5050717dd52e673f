/- A reader's word; the program's reading of items. Numbers of both sides: digits read. Places of a set, both sides. Values of any type as the laws hold them: read, and owned in a range of blocks. -/
import Derived.Test.YtiaknomadhgckaaDoorPk3
import Derived.Carry
import Derived.Test.YtiaknomadhgckaaDoorPk1
import Derived.Test.YtiaknomadhgckaaDoorPk2
namespace Go.Proofs.YtiaknomadhgckaaDoor
open Go.RowKit Mem
set_option linter.unusedVariables false
set_option linter.unusedSimpArgs false
theorem zeroIntJ (w : World) : (zeroValue 3).run Tryd.prog w = .ok (.int .i64 0) w := by go_simp
theorem kStr : KeyE Tryd.prog 9 (fun x : List UInt8 => x.length ≤ 1048576) (fun x => .string ⟨x.toArray⟩) (fun x => .string x) := keyS Tryd.underlying9
theorem vInt : ValE Tryd.prog 3 (fun x : Int => (Lit.int .i64 x).wf = true) (fun x => .int .i64 x) (fun x => .int .i64 x) 0 := valI Tryd.underlying3 zeroIntJ
theorem mkMapSI (w : World) : (Instr.makeMap 134 none).run Tryd.prog w = .ok (.map (some w.heap.size)) (w.alloc (.map #[] 0)) := run_makeMap _ w
abbrev MapSI (w : World) (b n : Nat) (f : Bytes → Int) : Prop := MapOf Tryd.prog 9 3 (fun x : Bytes => .string x) (fun x : Int => .int .i64 x) 0 w b n f
def itemI (u : Bytes) : Int := if u = [66, 79, 68, 89, 91, 93] then 8 else if u = [82, 70, 67, 56, 50, 50, 46, 83, 73, 90, 69] then 4 else if u = [70, 76, 65, 71, 83] then 2 else if u = [85, 73, 68] then 1 else 0
theorem itemI_eq (u : Bytes) : itemI u = (itemN u : Int) := by
  unfold itemI itemN
  repeat' split
  all_goals rfl
set_option maxHeartbeats 1000000 in
set_option maxRecDepth 100000 in
theorem word_calls {w : World} {r : Nat} {rest : Bytes} {b : Bool} (h : Blk w r 115 [.string ⟨rest.toArray⟩, .bool b]) (hl : rest.length ≤ 34359738368) :
    Calls Tryd.prog 76 #[.pointer (some ⟨r, 0, none⟩)] w (fun e w' => e = .returned (.string ⟨(cutL 32 rest).1.toArray⟩) ∧ (∃ b', Blk w' r 115 [.string ⟨(cutL 32 rest).2.1.toArray⟩, .bool b']) ∧ Mod (· = r) w w') := by
  have HC := Sec.mk (fun w => cut1_calls rest hl 32 w)
  have HNO := Sec.mk (cutL_no 32 rest)
  have HB := Sec.mk h
  have c0 : w.cell? ⟨r, 0, none⟩ = some (.string ⟨rest.toArray⟩) := h.cell 0
  clear h
  have HC2 := HC
  generalize hcc : cutL 32 rest = cc at *
  obtain ⟨x, y, m⟩ := cc
  simp only at HC HNO ⊢
  go_enter Tryd.func76, Tryd.ntmps76
  go_wp2_with fail
  refine (HC.out _).mono ?_
  rintro e w2 ⟨rfl, hm2⟩
  have HB2 := Sec.mk (HB.out.mod hm2 id)
  have HM2 : Sec (Mod (fun k => k = r) w w2) := ⟨Mod.ofNew hm2⟩
  clear hm2 c0 HC HC2
  have c0 : w2.cell? ⟨r, 0, none⟩ = some (.string ⟨rest.toArray⟩) := HB2.out.cell 0
  have c1 : w2.cell? ⟨r, 1, none⟩ = some (.bool b) := HB2.out.cell 1
  have f0 : w2.frozen? ⟨r, 0, none⟩ = false := HB2.out.frozen 0
  have f1 : w2.frozen? ⟨r, 1, none⟩ = false := HB2.out.frozen 1
  cases m
  · by_cases h0 : rest = []
    · subst h0
      go_wp2
      go_ret
      exact ⟨rfl, ⟨true, by have := (HB2.out.set_ 1 (.bool true)).set_ 0 (.string ⟨y.toArray⟩); simpa using this⟩, (HM2.out.setCell (p := ⟨r, 1, none⟩) (fun _ => rfl) _).setCell (p := ⟨r, 0, none⟩) (fun _ => rfl) _⟩
    · have h0b : rest.isEmpty = false := by cases rest with
        | nil => exact absurd rfl h0
        | cons _ _ => rfl
      clear h0
      go_wp2
      go_ret
      exact ⟨rfl, ⟨b, by have := HB2.out.set_ 0 (.string ⟨y.toArray⟩); simpa using this⟩, HM2.out.setCell (p := ⟨r, 0, none⟩) (fun _ => rfl) _⟩
  · go_wp2
    go_ret
    exact ⟨rfl, ⟨b, by have := HB2.out.set_ 0 (.string ⟨y.toArray⟩); simpa using this⟩, HM2.out.setCell (p := ⟨r, 0, none⟩) (fun _ => rfl) _⟩
set_option maxHeartbeats 4000000 in
set_option maxRecDepth 100000 in
theorem readItems_calls (xs : Bytes) (hx : xs.length ≤ 1048576) {w : World} (hE : IntAt w) : Calls Tryd.prog 101 #[.string ⟨xs.toArray⟩] w (Ret (.tuple #[.int .i64 (itemsL xs : Int), .bool (decide (itemsL xs ≠ 0))]) w) := by
  have HEN := Sec.mk hE
  clear hE
  have HB := Sec.mk (bracketed_calls xs (by omega))
  have HD : Sec (itemsL xs = match brL xs with | none => itemN (upL xs) | some i => itemsN 0 (splitL 32 i)) := ⟨rfl⟩
  have hlen := fun ys => brL_len (xs := xs) (ys := ys)
  have P0 : Sec (MapSI (w.alloc (.map #[] 0)) w.heap.size 0 (fun _ => 0)) := ⟨MapOf.made _⟩
  have M0 : Sec (New w (w.alloc (.map #[] 0))) := ⟨(Mod.refl _ _).alloc _⟩
  have mk := mkMapSI
  go_enter Tryd.func101, Tryd.ntmps101
  go_wp2_with (first | (refine wpList_mapSet (w := _) kStr vInt rfl _ _ _ _ (.inr rfl) Tryd.underlying134 rfl P0.out (by decide) _ _ rfl rfl (by decide) (by decide) ?_; intro m1 hmap hmod; have P1 := Sec.mk hmap; have M1 := Sec.mk (M0.out.trans hmod (fun i hi hl => by omega)); clear hmap hmod) | (refine wpList_mapSet (w := _) kStr vInt rfl _ _ _ _ (.inr rfl) Tryd.underlying134 rfl P1.out (by decide) _ _ rfl rfl (by decide) (by decide) ?_; intro m2 hmap hmod; have P2 := Sec.mk hmap; have M2 := Sec.mk (M1.out.trans hmod (fun i hi hl => by omega)); clear hmap hmod) | (refine wpList_mapSet (w := _) kStr vInt rfl _ _ _ _ (.inr rfl) Tryd.underlying134 rfl P2.out (by decide) _ _ rfl rfl (by decide) (by decide) ?_; intro m3 hmap hmod; have P3 := Sec.mk hmap; have M3 := Sec.mk (M2.out.trans hmod (fun i hi hl => by omega)); clear hmap hmod) | (refine wpList_mapSet (w := _) kStr vInt rfl _ _ _ _ (.inr rfl) Tryd.underlying134 rfl P3.out (by decide) _ _ rfl rfl (by decide) (by decide) ?_; intro m4 hmap hmod; have P4 := Sec.mk hmap; have M4 := Sec.mk (M3.out.trans hmod (fun i hi hl => by omega)); clear hmap hmod) | fail)
  have hmb : w.heap.size < m4.heap.size := P4.out.lt
  have PM : Sec (MapSI m4 w.heap.size 4 itemI) := ⟨P4.out⟩
  clear P0 P1 P2 P3 P4 M0 M1 M2 M3 mk
  cases hq : brL xs with
  | none =>
    rw [hq] at HB HD
    simp only [BrV] at HB HD
    have HU := Sec.mk (upper_calls xs (by omega))
    have hul : (upL xs).length ≤ 1048576 := by rw [upL_len]; omega
    have HIE := Sec.mk (itemI_eq (upL xs))
    rw [← HD.out] at HIE
    have hin : itemsL xs < 16 := by rw [HD.out]; exact itemN_lt _
    generalize itemsL xs = n at *
    generalize upL xs = us at *
    clear hlen hq
    refine (HB.out _).mono ?_
    rintro e w1 ⟨rfl, hm1⟩
    have PM1 := Sec.mk (MapOf.mod (S := fun _ => False) PM.out hm1 id)
    have HM1 := Sec.mk (M4.out.transN hm1)
    clear hm1 PM M4
    go_wp2_with fail
    refine (HU.out _).mono ?_
    rintro e w2 ⟨rfl, hm2⟩
    have PM2 := Sec.mk (MapOf.mod (S := fun _ => False) PM1.out hm2 id)
    have HM2 := Sec.mk (HM1.out.transN hm2)
    clear hm2 PM1 HM1
    by_cases hz : n = 0
    · subst hz
      go_wp2_with (first | (refine wpList_mapGet (w := _) kStr vInt rfl _ _ _ rfl Tryd.underlying134 rfl PM2.out us rfl hul ?_; rw [HIE.out]) | fail)
      go_ret2
      exact ⟨rfl, HM2.out⟩
    · have hzb : ((n : Int) != 0) = true := by simpa using hz
      have HZ : Sec (decide (n ≠ 0) = true) := ⟨decide_eq_true hz⟩
      clear hz
      go_wp2_with (first | (refine wpList_mapGet (w := _) kStr vInt rfl _ _ _ rfl Tryd.underlying134 rfl PM2.out us rfl hul ?_; rw [HIE.out]) | fail)
      go_ret2
      rw [HZ.out]
      exact ⟨rfl, HM2.out⟩
  | some ys =>
    have hyl := hlen ys hq
    rw [hq] at HB HD
    simp only [BrV] at HB HD
    clear hlen hq
    have HSP := Sec.mk (fun w hI => split_calls ys (by omega) 32 (w := w) hI)
    have hwm := splitL_mem 32 ys
    have hwl := splitL_len 32 ys
    have HNE := Sec.mk (splitL_ne 32 ys)
    generalize splitL 32 ys = ws at *
    refine (HB.out _).mono ?_
    rintro e w1 ⟨rfl, hm1⟩
    have PM1 := Sec.mk (MapOf.mod (S := fun _ => False) PM.out hm1 id)
    have HM1 := Sec.mk (M4.out.transN hm1)
    have HEN1 := Sec.mk (HEN.out.new HM1.out)
    clear hm1 PM M4
    go_wp2_with fail
    refine (HSP.out _ HEN1.out).mono ?_
    rintro e w2 ⟨rfl, hm2, hs2, hrow⟩
    have PM2 := Sec.mk (MapOf.mod (S := fun _ => False) PM1.out hm2 id)
    have HM2 := Sec.mk (HM1.out.transN hm2)
    have HW := Sec.mk (hrow.mod (B' := fun k => k < w2.heap.size) (w' := w2) (fun k hk => by obtain rfl := hk; exact hs2) (fun _ _ => rfl))
    clear hm2 hrow hs2 PM1 HM1 HEN1 HSP HB HEN
    have hwl2 : ws.length ≤ 33554432 := by omega
    generalize (some ⟨w1.heap.size, 0, none⟩ : Option Addr) = A at *
    go_wp2
    go_loopw [31, 8] (fun i a wr => ∃ (k acc : Nat), k ≤ ws.length ∧ i = .int .i64 (k : Int) ∧ a = .int .i64 (acc : Int) ∧ acc < 16 ∧ Sec (0 < k → acc ≠ 0) ∧ Sec (itemsN 0 ws = itemsN acc (ws.drop k)) ∧ Sec (New w2 wr)) (fun i _ _ => ws.length - (intOf i).toNat)
    case atStart => exact ⟨0, 0, Nat.zero_le _, rfl, rfl, by omega, ⟨fun h => absurd h (Nat.lt_irrefl _)⟩, ⟨rfl⟩, ⟨Mod.refl _ _⟩⟩
    case round =>
      obtain ⟨k, acc, hk, rfl, rfl, hacc, HP, HF, HM⟩ := hrel
      by_cases hlt : k < ws.length
      · obtain ⟨ad', cs, hA, hK, hx0, _⟩ := HW.out.cells_at (w' := wr) (fun i hi => HM.out.block i hi id) (k := k) (by simpa using hlt)
        subst hA
        have hK' : cs = [.string (toS ws[k])] := by rw [hK]; simp
        subst hK'
        have h0 := hx0 _ rfl
        rw [show k * Ty.string.sz = k from Nat.mul_one k] at h0
        unfold toS at h0
        have hwk := hwm ws[k] (List.getElem_mem hlt)
        have HDR := Sec.mk (List.drop_eq_getElem_cons hlt)
        have hki : (k : Int) < (ws.length : Int) := by omega
        generalize ws[k] = wd at *
        clear hK hx0
        have HU := Sec.mk (upper_calls wd (by omega))
        have hul : (upL wd).length ≤ 1048576 := by rw [upL_len]; omega
        have HIE := Sec.mk (itemI_eq (upL wd))
        have HST : Sec (itemsN acc (wd :: ws.drop (k + 1)) = if itemN (upL wd) = 0 then 0 else itemsN (acc ||| itemN (upL wd)) (ws.drop (k + 1))) := ⟨rfl⟩
        have hin := itemN_lt (upL wd)
        generalize itemN (upL wd) = n at *
        generalize upL wd = us at *
        go_wp2_with fail
        refine (HU.out _).mono ?_
        rintro e w3 ⟨rfl, hm3⟩
        have HM3 := Sec.mk (HM.out.transN hm3)
        have PM3 := Sec.mk (MapOf.mod (S := fun _ => False) PM2.out HM3.out id)
        clear hm3 HM h0
        by_cases hz : n = 0
        · have HE : Sec (itemsN 0 ws = 0) := ⟨by rw [HF.out, HDR.out, HST.out, if_pos hz]⟩
          subst hz
          go_wp2_with (first | (refine wpList_mapGet (w := _) kStr vInt rfl _ _ _ rfl Tryd.underlying134 rfl PM3.out us rfl hul ?_; rw [HIE.out]) | fail)
          go_ret2
          rw [HD.out, HE.out]
          exact ⟨rfl, HM2.out.transN HM3.out⟩
        · have hzi : ¬ (n : Int) = 0 := by omega
          have HE : Sec (itemsN 0 ws = itemsN (acc ||| n) (ws.drop (k + 1))) := ⟨by rw [HF.out, HDR.out, HST.out, if_neg hz]⟩
          have hol : acc ||| n < 16 := Nat.or_lt_two_pow (n := 4) hacc hin
          have HP2 : Sec (0 < k + 1 → acc ||| n ≠ 0) := ⟨fun _ h => hz (Nat.or_eq_zero_iff.1 h).2⟩
          clear hz
          go_wp2_with (first | (refine wpList_mapGet (w := _) kStr vInt rfl _ _ _ rfl Tryd.underlying134 rfl PM3.out us rfl hul ?_; rw [HIE.out]) | fail)
          go_roundw
          case rel => exact ⟨k + 1, acc ||| n, by omega, by go_num, by rw [or16 acc hacc n hin], hol, HP2, HE, HM3⟩
          case measure => simp [intOf]; omega
      · obtain rfl : k = ws.length := by omega
        have HE : Sec (itemsN 0 ws = acc) := ⟨by rw [HF.out, List.drop_length]; rfl⟩
        have HZ : Sec (decide (acc ≠ 0) = true) := ⟨decide_eq_true (HP.out (List.length_pos_iff.2 HNE.out))⟩
        go_wp2
        go_ret2
        rw [HD.out, HE.out, HZ.out]
        exact ⟨rfl, HM2.out.transN HM.out⟩
end Go.Proofs.YtiaknomadhgckaaDoor

namespace Go.Proofs.YtiaknomadhgckaaDoor
open Go.RowKit Mem
set_option linter.unusedVariables false
set_option maxHeartbeats 1000000 in
set_option maxRecDepth 100000 in
theorem decimal_calls (m : Nat) (hm : m ≤ 18) (xs : Bytes) (hx : xs.length ≤ 34359738368) (w : World) : Calls Tryd.prog 124 #[.string ⟨xs.toArray⟩, .int .i64 (m : Int)] w (Ret (.tuple #[.int .i64 ((decL m xs).1 : Int), .bool (decL m xs).2]) w) := by
  have hsz : (⟨xs.toArray⟩ : ByteArray).size = xs.length := by simp [ByteArray.size]
  have HD : Sec (decL m xs = if 1 ≤ xs.length ∧ xs.length ≤ m ∧ ¬ (xs[0]? = some 48 ∧ 1 < xs.length) ∧ ∀ b, b ∈ xs → digB b then (valL xs, true) else (0, false)) := ⟨rfl⟩
  by_cases h1 : xs.length < 1
  · have h1i : (xs.length : Int) < 1 := by omega
    have HE : Sec (decL m xs = (0, false)) := ⟨by rw [HD.out, if_neg (by omega)]⟩
    go_enter Tryd.func124, Tryd.ntmps124
    go_wp2
    go_ret2
    rw [HE.out]
    exact ⟨rfl, Mod.refl _ _⟩
  have h1i : ¬ (xs.length : Int) < 1 := by omega
  by_cases h2 : m < xs.length
  · have h2i : (m : Int) < (xs.length : Int) := by omega
    have HE : Sec (decL m xs = (0, false)) := ⟨by rw [HD.out, if_neg (by omega)]⟩
    go_enter Tryd.func124, Tryd.ntmps124
    go_wp2
    go_ret2
    rw [HE.out]
    exact ⟨rfl, Mod.refl _ _⟩
  have h2i : ¬ (m : Int) < (xs.length : Int) := by omega
  have hg0 := strIdx_run xs 0 (by omega)
  simp only [Int.ofNat_zero] at hg0
  have E0 : Sec (xs[0]? = some xs[0]) := ⟨List.getElem?_eq_getElem _⟩
  generalize xs[0] = b0 at *
  by_cases hbad : b0 = 48 ∧ 1 < xs.length
  · obtain ⟨rfl, h3⟩ := hbad
    have h3i : (1 : Int) < (xs.length : Int) := by omega
    have HE : Sec (decL m xs = (0, false)) := ⟨by rw [HD.out, if_neg]; rintro ⟨_, _, h, _⟩; exact h ⟨E0.out, h3⟩⟩
    have hq0 : ((48 : UInt8).toNat : Int) = 48 := rfl
    rw [hq0] at hg0
    go_enter Tryd.func124, Tryd.ntmps124
    go_wp2
    go_ret2
    rw [HE.out]
    exact ⟨rfl, Mod.refl _ _⟩
  have HOK : Sec (¬ (xs[0]? = some 48 ∧ 1 < xs.length)) := ⟨fun h => hbad ⟨Option.some.inj (E0.out.symm.trans h.1), h.2⟩⟩
  have HNO : Sec (∀ j, (hj : j < xs.length) → ¬ digB xs[j] → decL m xs = (0, false)) := ⟨fun j hj h => by rw [HD.out, if_neg]; rintro ⟨_, _, _, hd⟩; exact h (hd _ (List.getElem_mem hj))⟩
  have HYES : Sec ((∀ j, (hj : j < xs.length) → j < xs.length → digB xs[j]) → decL m xs = (valL xs, true)) := ⟨fun h => by rw [HD.out, if_pos ⟨by omega, by omega, HOK.out, fun b hb => by obtain ⟨j, hj, rfl⟩ := List.getElem_of_mem hb; exact h j hj hj⟩]⟩
  have HLT := Sec.mk (valL_lt xs)
  clear E0 HD HOK
  rcases (show (b0 = 48 ∧ xs.length = 1) ∨ b0 ≠ 48 by by_cases h : b0 = 48; exact .inl ⟨h, by have : ¬ (1 < xs.length) := fun h' => hbad ⟨h, h'⟩; omega⟩; exact .inr h) with ⟨rfl, h3⟩ | h3
  · have h3i : ¬ (1 : Int) < (xs.length : Int) := by omega
    have hq0 : ((48 : UInt8).toNat : Int) = 48 := rfl
    rw [hq0] at hg0
    clear hbad
    go_enter Tryd.func124, Tryd.ntmps124
    go_wp2
    go_loopw [6, 29] (fun n i wr => ∃ k : Nat, k ≤ xs.length ∧ i = .int .i64 (k : Int) ∧ n = .int .i64 ((valL (xs.take k) : Nat) : Int) ∧ Sec (∀ j, (hj : j < xs.length) → j < k → digB xs[j]) ∧ Sec (New w wr)) (fun _ i _ => xs.length - (intOf i).toNat)
    case atStart => exact ⟨0, Nat.zero_le _, rfl, rfl, ⟨fun j _ h => absurd h (Nat.not_lt_zero _)⟩, ⟨Mod.refl _ _⟩⟩
    case round =>
      obtain ⟨k, hk, rfl, rfl, HA, HM⟩ := hrel
      clear hg0
      by_cases hlt : k < xs.length
      · have hki : (k : Int) < (xs.length : Int) := by omega
        have hgx := strIdx_run xs k hlt
        have hv := Nat.lt_of_lt_of_le (HLT.out k hk HA.out) (pow_le18 (k := k) (by omega))
        have HVT := Sec.mk (valL_take xs hlt)
        have HNK := Sec.mk (HNO.out k hlt)
        have HA2 : Sec (digB xs[k] → ∀ j, (hj : j < xs.length) → j < k + 1 → digB xs[j]) := ⟨fun h j hj hjk => by rcases Nat.lt_succ_iff_lt_or_eq.1 hjk with h' | rfl; exact HA.out j hj h'; exact h⟩
        have hb := UInt8.toNat_lt xs[k]
        generalize xs[k] = b at *
        generalize valL (xs.take k) = v at *
        by_cases ha : b.toNat < 48
        · have hai : (b.toNat : Int) < 48 := by omega
          have HE := Sec.mk (HNK.out (fun h => by have := h.1; omega))
          go_wp2
          go_ret2
          rw [HE.out]
          exact ⟨rfl, HM.out⟩
        have hai : ¬ (b.toNat : Int) < 48 := by omega
        by_cases hc : 57 < b.toNat
        · have hci : (57 : Int) < (b.toNat : Int) := by omega
          have HE := Sec.mk (HNK.out (fun h => by have := h.2; omega))
          go_wp2
          go_ret2
          rw [HE.out]
          exact ⟨rfl, HM.out⟩
        have hci : ¬ (57 : Int) < (b.toNat : Int) := by omega
        have HA3 := Sec.mk (HA2.out ⟨by omega, by omega⟩)
        go_wp2
        go_roundw
        case rel => exact ⟨k + 1, by omega, by go_num, by rw [HVT.out]; go_num, HA3, HM⟩
        case measure => simp [intOf]; omega
      · obtain rfl : k = xs.length := by omega
        have HE := Sec.mk (HYES.out HA.out)
        rw [List.take_length]
        go_wp2
        go_ret2
        rw [HE.out]
        exact ⟨rfl, HM.out⟩
  · have h3i : ¬ ((b0.toNat : Int) = 48) := fun h => h3 (UInt8.toNat.inj (by show b0.toNat = 48; omega))
    clear h3 hbad
    go_enter Tryd.func124, Tryd.ntmps124
    go_wp2
    go_loopw [6, 29] (fun n i wr => ∃ k : Nat, k ≤ xs.length ∧ i = .int .i64 (k : Int) ∧ n = .int .i64 ((valL (xs.take k) : Nat) : Int) ∧ Sec (∀ j, (hj : j < xs.length) → j < k → digB xs[j]) ∧ Sec (New w wr)) (fun _ i _ => xs.length - (intOf i).toNat)
    case atStart => exact ⟨0, Nat.zero_le _, rfl, rfl, ⟨fun j _ h => absurd h (Nat.not_lt_zero _)⟩, ⟨Mod.refl _ _⟩⟩
    case round =>
      obtain ⟨k, hk, rfl, rfl, HA, HM⟩ := hrel
      clear hg0
      by_cases hlt : k < xs.length
      · have hki : (k : Int) < (xs.length : Int) := by omega
        have hgx := strIdx_run xs k hlt
        have hv := Nat.lt_of_lt_of_le (HLT.out k hk HA.out) (pow_le18 (k := k) (by omega))
        have HVT := Sec.mk (valL_take xs hlt)
        have HNK := Sec.mk (HNO.out k hlt)
        have HA2 : Sec (digB xs[k] → ∀ j, (hj : j < xs.length) → j < k + 1 → digB xs[j]) := ⟨fun h j hj hjk => by rcases Nat.lt_succ_iff_lt_or_eq.1 hjk with h' | rfl; exact HA.out j hj h'; exact h⟩
        have hb := UInt8.toNat_lt xs[k]
        generalize xs[k] = b at *
        generalize valL (xs.take k) = v at *
        by_cases ha : b.toNat < 48
        · have hai : (b.toNat : Int) < 48 := by omega
          have HE := Sec.mk (HNK.out (fun h => by have := h.1; omega))
          go_wp2
          go_ret2
          rw [HE.out]
          exact ⟨rfl, HM.out⟩
        have hai : ¬ (b.toNat : Int) < 48 := by omega
        by_cases hc : 57 < b.toNat
        · have hci : (57 : Int) < (b.toNat : Int) := by omega
          have HE := Sec.mk (HNK.out (fun h => by have := h.2; omega))
          go_wp2
          go_ret2
          rw [HE.out]
          exact ⟨rfl, HM.out⟩
        have hci : ¬ (57 : Int) < (b.toNat : Int) := by omega
        have HA3 := Sec.mk (HA2.out ⟨by omega, by omega⟩)
        go_wp2
        go_roundw
        case rel => exact ⟨k + 1, by omega, by go_num, by rw [HVT.out]; go_num, HA3, HM⟩
        case measure => simp [intOf]; omega
      · obtain rfl : k = xs.length := by omega
        have HE := Sec.mk (HYES.out HA.out)
        rw [List.take_length]
        go_wp2
        go_ret2
        rw [HE.out]
        exact ⟨rfl, HM.out⟩
set_option maxHeartbeats 1000000 in
set_option maxRecDepth 100000 in
theorem l4Number_calls (xs : Bytes) (hx : xs.length ≤ 34359738368) (w : World) : Calls Tryd.prog 119 #[.string ⟨xs.toArray⟩] w (Ret (.tuple #[.int .i64 ((numL xs).1 : Int), .bool (numL xs).2]) w) := by
  have hsz : (⟨xs.toArray⟩ : ByteArray).size = xs.length := by simp [ByteArray.size]
  have HD : Sec (numL xs = if 1 ≤ xs.length ∧ xs.length ≤ 13 ∧ ∀ b, b ∈ xs → digB b then (valL xs, decide (Lib.decDigits (valL xs) = xs)) else (0, false)) := ⟨rfl⟩
  by_cases h1 : xs.length < 1
  · have h1i : (xs.length : Int) < 1 := by omega
    have HE : Sec (numL xs = (0, false)) := ⟨by rw [HD.out, if_neg (by omega)]⟩
    go_enter Tryd.func119, Tryd.ntmps119
    go_wp2
    go_ret2
    rw [HE.out]
    exact ⟨rfl, Mod.refl _ _⟩
  have h1i : ¬ (xs.length : Int) < 1 := by omega
  by_cases h2 : 13 < xs.length
  · have h2i : (13 : Int) < (xs.length : Int) := by omega
    have HE : Sec (numL xs = (0, false)) := ⟨by rw [HD.out, if_neg (by omega)]⟩
    go_enter Tryd.func119, Tryd.ntmps119
    go_wp2
    go_ret2
    rw [HE.out]
    exact ⟨rfl, Mod.refl _ _⟩
  have h2i : ¬ (13 : Int) < (xs.length : Int) := by omega
  have HNO : Sec (∀ j, (hj : j < xs.length) → ¬ digB xs[j] → numL xs = (0, false)) := ⟨fun j hj h => by rw [HD.out, if_neg]; rintro ⟨_, _, hd⟩; exact h (hd _ (List.getElem_mem hj))⟩
  have HYES : Sec ((∀ j, (hj : j < xs.length) → j < xs.length → digB xs[j]) → numL xs = (valL xs, decide (Lib.decDigits (valL xs) = xs))) := ⟨fun h => by rw [HD.out, if_pos ⟨by omega, by omega, fun b hb => by obtain ⟨j, hj, rfl⟩ := List.getElem_of_mem hb; exact h j hj hj⟩]⟩
  have HLT := Sec.mk (valL_lt xs)
  clear HD
  go_enter Tryd.func119, Tryd.ntmps119
  go_wp2
  go_loopw [4, 5] (fun n i wr => ∃ k : Nat, k ≤ xs.length ∧ i = .int .i64 (k : Int) ∧ n = .int .i64 ((valL (xs.take k) : Nat) : Int) ∧ Sec (∀ j, (hj : j < xs.length) → j < k → digB xs[j]) ∧ Sec (New w wr)) (fun _ i _ => xs.length - (intOf i).toNat)
  case atStart => exact ⟨0, Nat.zero_le _, rfl, rfl, ⟨fun j _ h => absurd h (Nat.not_lt_zero _)⟩, ⟨Mod.refl _ _⟩⟩
  case round =>
    obtain ⟨k, hk, rfl, rfl, HA, HM⟩ := hrel
    by_cases hlt : k < xs.length
    · have hki : (k : Int) < (xs.length : Int) := by omega
      have hgx := strIdx_run xs k hlt
      have hv := Nat.lt_of_lt_of_le (HLT.out k hk HA.out) (pow_le18 (k := k) (by omega))
      have HVT := Sec.mk (valL_take xs hlt)
      have HNK := Sec.mk (HNO.out k hlt)
      have HA2 : Sec (digB xs[k] → ∀ j, (hj : j < xs.length) → j < k + 1 → digB xs[j]) := ⟨fun h j hj hjk => by rcases Nat.lt_succ_iff_lt_or_eq.1 hjk with h' | rfl; exact HA.out j hj h'; exact h⟩
      have hb := UInt8.toNat_lt xs[k]
      generalize xs[k] = b at *
      generalize valL (xs.take k) = v at *
      by_cases ha : b.toNat < 48
      · have hai : (b.toNat : Int) < 48 := by omega
        have HE := Sec.mk (HNK.out (fun h => by have := h.1; omega))
        go_wp2
        go_ret2
        rw [HE.out]
        exact ⟨rfl, HM.out⟩
      have hai : ¬ (b.toNat : Int) < 48 := by omega
      by_cases hc : 57 < b.toNat
      · have hci : (57 : Int) < (b.toNat : Int) := by omega
        have HE := Sec.mk (HNK.out (fun h => by have := h.2; omega))
        go_wp2
        go_ret2
        rw [HE.out]
        exact ⟨rfl, HM.out⟩
      have hci : ¬ (57 : Int) < (b.toNat : Int) := by omega
      have HA3 := Sec.mk (HA2.out ⟨by omega, by omega⟩)
      go_wp2
      go_roundw
      case rel => exact ⟨k + 1, by omega, by go_num, by rw [HVT.out]; go_num, HA3, HM⟩
      case measure => simp [intOf]; omega
    · obtain rfl : k = xs.length := by omega
      have HE := Sec.mk (HYES.out HA.out)
      have hv := HLT.out xs.length (Nat.le_refl _) HA.out
      have hp : (10 : Nat) ^ xs.length ≤ 10000000000000 := Nat.le_trans (Nat.pow_le_pow_right (by decide) (show xs.length ≤ 13 by omega)) (by decide)
      rw [List.take_length] at hv ⊢
      have HL := Sec.mk (fun w => l1Dec_calls (valL xs) (by omega) w)
      generalize valL xs = v at *
      go_wp2_with fail
      refine (HL.out _).mono ?_
      rintro e w2 ⟨rfl, hm2⟩
      have HM2 := Sec.mk (HM.out.transN hm2)
      clear hm2 HL
      by_cases hd : Lib.decDigits v = xs
      · have HE2 : Sec (numL xs = (v, true)) := ⟨by rw [HE.out]; simp [hd]⟩
        have hz : (Lib.decDigits v == xs) = true := by simp [hd]
        clear hd
        go_wp2
        go_ret2
        rw [HE2.out]
        exact ⟨by simp, HM2.out⟩
      · have HE2 : Sec (numL xs = (v, false)) := ⟨by rw [HE.out]; simp [hd]⟩
        have hz : (Lib.decDigits v == xs) = false := by simpa using hd
        clear hd
        go_wp2
        go_ret2
        rw [HE2.out]
        exact ⟨by simp, HM2.out⟩
end Go.Proofs.YtiaknomadhgckaaDoor

namespace Go.Proofs.YtiaknomadhgckaaDoor
open Go.RowKit Mem
set_option linter.unusedVariables false
def PlaceR (o : Option Nat) (w : World) (e : Ending) (w' : World) : Prop := ∃ m : Int, e = .returned (.tuple #[.int .u32 m, .bool o.isSome]) ∧ (∀ q, o = some q → m = (q : Int)) ∧ New w w'
set_option maxRecDepth 100000 in
theorem uidOk_calls (n : Int) (r : Bool) (hr : decide (1 ≤ n ∧ n ≤ 4294967295) = r) (w : World) : Calls Tryd.prog 125 #[.int .i64 n] w (Ret (.bool r) w) := by
  by_cases h1 : 1 ≤ n
  · by_cases h2 : n ≤ 4294967295
    · have HE : Sec (r = true) := ⟨by rw [← hr]; simp [h1, h2]⟩
      clear hr
      go_enter Tryd.func125, Tryd.ntmps125
      go_wp2
      go_ret
      rw [HE.out]
      exact ⟨rfl, Mod.refl _ _⟩
    · have HE : Sec (r = false) := ⟨by rw [← hr]; simp [h2]⟩
      clear hr
      go_enter Tryd.func125, Tryd.ntmps125
      go_wp2
      go_ret
      rw [HE.out]
      exact ⟨rfl, Mod.refl _ _⟩
  · have HE : Sec (r = false) := ⟨by rw [← hr]; simp [h1]⟩
    clear hr
    go_enter Tryd.func125, Tryd.ntmps125
    go_wp2
    go_ret
    rw [HE.out]
    exact ⟨rfl, Mod.refl _ _⟩
set_option maxHeartbeats 1000000 in
set_option maxRecDepth 100000 in
theorem readPlace_calls (xs : Bytes) (hx : xs.length ≤ 34359738368) (w : World) : Calls Tryd.prog 114 #[.string ⟨xs.toArray⟩] w (PlaceR (plL xs) w) := by
  by_cases h42 : xs = [42]
  · subst h42
    have HE : Sec (plL [42] = some 0) := ⟨rfl⟩
    go_enter Tryd.func114, Tryd.ntmps114
    go_wp2
    go_ret2
    rw [HE.out]
    exact ⟨0, rfl, fun q hq => by obtain rfl := Option.some.inj hq; rfl, Mod.refl _ _⟩
  have hz : (xs == [42]) = false := by simpa using h42
  have HD : Sec (plL xs = if (decL 10 xs).2 = true ∧ 1 ≤ (decL 10 xs).1 ∧ (decL 10 xs).1 ≤ 4294967295 then some (decL 10 xs).1 else none) := ⟨by unfold plL; rw [if_neg h42]⟩
  have HC := Sec.mk (fun w => decimal_calls 10 (by decide) xs hx w)
  generalize decL 10 xs = d at *
  obtain ⟨n, ok⟩ := d
  clear h42
  simp only at HD HC
  cases ok
  · have HE : Sec (plL xs = none) := ⟨by rw [HD.out, if_neg (by simp)]⟩
    go_enter Tryd.func114, Tryd.ntmps114
    go_wp2_with fail
    refine (HC.out _).mono ?_
    rintro e w1 ⟨rfl, hm1⟩
    go_wp2
    go_ret2
    rw [HE.out]
    exact ⟨_, rfl, fun q hq => (by cases hq), hm1⟩
  · by_cases hr : 1 ≤ n ∧ n ≤ 4294967295
    · have HE : Sec (plL xs = some n) := ⟨by rw [HD.out, if_pos ⟨rfl, hr⟩]⟩
      have HU := Sec.mk (uidOk_calls (n : Int) true (decide_eq_true (by omega)))
      have hn := hr.2
      go_enter Tryd.func114, Tryd.ntmps114
      go_wp2_with fail
      refine (HC.out _).mono ?_
      rintro e w1 ⟨rfl, hm1⟩
      go_wp2_with fail
      refine (HU.out _).mono ?_
      rintro e w2 ⟨rfl, hm2⟩
      go_wp2
      go_ret2
      rw [HE.out]
      refine ⟨_, rfl, fun q hq => ?_, hm1.transN hm2⟩
      obtain rfl := Option.some.inj hq
      first | rfl | omega
    · have HE : Sec (plL xs = none) := ⟨by rw [HD.out, if_neg (fun h => hr h.2)]⟩
      have HU := Sec.mk (uidOk_calls (n : Int) false (decide_eq_false (by omega)))
      clear hr
      go_enter Tryd.func114, Tryd.ntmps114
      go_wp2_with fail
      refine (HC.out _).mono ?_
      rintro e w1 ⟨rfl, hm1⟩
      go_wp2_with fail
      refine (HU.out _).mono ?_
      rintro e w2 ⟨rfl, hm2⟩
      go_wp2
      go_ret2
      rw [HE.out]
      exact ⟨_, rfl, fun q hq => (by cases hq), hm1.transN hm2⟩
set_option maxHeartbeats 1000000 in
set_option maxRecDepth 100000 in
theorem l5Num_calls (xs : Bytes) (hx : xs.length ≤ 34359738368) (lo hi : Int) (w : World) : Calls Tryd.prog 108 #[.string ⟨xs.toArray⟩, .int .i64 lo, .int .i64 hi] w
    (Ret (.tuple #[.int .i64 ((numL xs).1 : Int), .bool ((numL xs).2 && (decide (lo ≤ ((numL xs).1 : Int)) && decide (((numL xs).1 : Int) ≤ hi)))]) w) := by
  have HC := Sec.mk (fun w => l4Number_calls xs hx w)
  generalize numL xs = d at *
  obtain ⟨n, ok⟩ := d
  simp only at HC ⊢
  cases ok
  · go_enter Tryd.func108, Tryd.ntmps108
    go_wp2_with fail
    refine (HC.out _).mono ?_
    rintro e w1 ⟨rfl, hm1⟩
    go_wp2
    go_ret2
    exact ⟨rfl, hm1⟩
  · by_cases h1 : lo ≤ (n : Int)
    · have hd1 : decide (lo ≤ (n : Int)) = true := by simp [h1]
      by_cases h2 : (n : Int) ≤ hi
      · have hd2 : decide ((n : Int) ≤ hi) = true := by simp [h2]
        rw [hd1, hd2]
        go_enter Tryd.func108, Tryd.ntmps108
        go_wp2_with fail
        refine (HC.out _).mono ?_
        rintro e w1 ⟨rfl, hm1⟩
        go_wp2
        go_ret2
        exact ⟨rfl, hm1⟩
      · have hd2 : decide ((n : Int) ≤ hi) = false := by simp [h2]
        rw [hd1, hd2]
        go_enter Tryd.func108, Tryd.ntmps108
        go_wp2_with fail
        refine (HC.out _).mono ?_
        rintro e w1 ⟨rfl, hm1⟩
        go_wp2
        go_ret2
        exact ⟨rfl, hm1⟩
    · have hd1 : decide (lo ≤ (n : Int)) = false := by simp [h1]
      rw [hd1]
      go_enter Tryd.func108, Tryd.ntmps108
      go_wp2_with fail
      refine (HC.out _).mono ?_
      rintro e w1 ⟨rfl, hm1⟩
      go_wp2
      go_ret2
      exact ⟨rfl, hm1⟩
set_option maxHeartbeats 1000000 in
set_option maxRecDepth 100000 in
theorem l6Place_calls (xs : Bytes) (hx : xs.length ≤ 34359738368) (w : World) : Calls Tryd.prog 91 #[.string ⟨xs.toArray⟩] w (PlaceR (plL xs) w) := by
  by_cases h42 : xs = [42]
  · subst h42
    have HE : Sec (plL [42] = some 0) := ⟨rfl⟩
    go_enter Tryd.func91, Tryd.ntmps91
    go_wp2
    go_ret2
    rw [HE.out]
    exact ⟨0, rfl, fun q hq => by obtain rfl := Option.some.inj hq; rfl, Mod.refl _ _⟩
  have hz : (xs == [42]) = false := by simpa using h42
  have HD := Sec.mk (plL_num h42)
  have HC := Sec.mk (fun w => l5Num_calls xs hx 1 4294967295 w)
  generalize numL xs = d at *
  obtain ⟨n, ok⟩ := d
  clear h42
  simp only at HD HC
  have HX : Sec ((plL xs).isSome = (ok && (decide (1 ≤ (n : Int)) && decide ((n : Int) ≤ 4294967295)))) := ⟨by
    rw [HD.out]
    by_cases hr : ok = true ∧ 1 ≤ n ∧ n ≤ 4294967295
    · rw [if_pos hr, hr.1]
      have h1 : (1 : Int) ≤ (n : Int) := by omega
      have h2 : (n : Int) ≤ 4294967295 := by omega
      simp [h1, h2]
    · rw [if_neg hr]
      cases ok
      · rfl
      · have : ¬ ((1 : Int) ≤ (n : Int) ∧ (n : Int) ≤ 4294967295) := fun h => hr ⟨rfl, by omega, by omega⟩
        symm
        simpa [Bool.and_eq_true] using this⟩
  have HQ : Sec (∀ q, plL xs = some q → q = n ∧ n ≤ 4294967295) := ⟨fun q hq => by
    rw [HD.out] at hq
    split at hq
    · rename_i hc; exact ⟨(Option.some.inj hq).symm, hc.2.2⟩
    · cases hq⟩
  rw [← HX.out] at HC
  go_enter Tryd.func91, Tryd.ntmps91
  go_wp2_with fail
  refine (HC.out _).mono ?_
  rintro e w1 ⟨rfl, hm1⟩
  go_wp2
  go_ret2
  refine ⟨_, rfl, fun q hq => ?_, hm1⟩
  obtain ⟨rfl, hn⟩ := HQ.out q hq
  try simp only [IntKind.wrap_u32]
  omega
end Go.Proofs.YtiaknomadhgckaaDoor

namespace Go.Proofs.YtiaknomadhgckaaDoor.Mem
open Go.RowKit
set_option linter.unusedVariables false
def enc (str : Bool) (cs : List Value) : Value := match str with
  | true => .agg cs.toArray
  | false => cs.headD default
def RdV {α : Type} (str : Bool) (d : Ty α) (w : World) (v : Value) (x : α) : Prop := ∃ cs, v = enc str cs ∧ d.K w (· < w.heap.size) x cs
def OwV {α : Type} (str : Bool) (d : Ty α) (w : World) (lo hi : Nat) (v : Value) (x : α) : Prop := ∃ cs F, v = enc str cs ∧ d.M w F x cs ∧ ∀ k, k ∈ F → lo ≤ k ∧ k < hi
def RetV {α : Type} (str : Bool) (d : Ty α) (w : World) (x : α) (e : Ending) (w' : World) : Prop := ∃ v, e = .returned v ∧ OwV str d w' w.heap.size w'.heap.size v x ∧ New w w'
section
variable {α : Type} {str : Bool} {d : Ty α} {w w' : World} {lo hi : Nat} {v : Value} {x : α}
theorem RdV.step (h : RdV str d w v x) (hm : New w w') : RdV str d w' v x := by
  obtain ⟨cs, rfl, hK⟩ := h
  exact ⟨cs, rfl, d.K_mod hK (fun k hk => Nat.lt_of_lt_of_le hk hm.size) (fun k hk => hm.block k hk id)⟩
theorem OwV.rd (h : OwV str d w lo hi v x) : RdV str d w v x := by
  obtain ⟨cs, F, rfl, hM, hF⟩ := h
  exact ⟨cs, rfl, d.K_mod (d.M_K hM) (fun k hk => d.M_lt hM k hk) (fun _ _ => rfl)⟩
theorem OwV.keep {S : Nat → Prop} (h : OwV str d w lo hi v x) (hm : Mod S w w') (hS : ∀ k, lo ≤ k → k < hi → ¬ S k) : OwV str d w' lo hi v x := by
  obtain ⟨cs, F, rfl, hM, hF⟩ := h
  exact ⟨cs, F, rfl, d.M_mod hM (fun k hk => hm.block k (d.M_lt hM k hk) (hS k (hF k hk).1 (hF k hk).2)), hF⟩
theorem OwV.step (h : OwV str d w lo hi v x) (hm : New w w') : OwV str d w' lo hi v x := h.keep hm fun _ _ _ h => h
end
/-! slices -/
theorem RdV.slice {α : Type} {d : Ty α} {e : TypeId} {w : World} {v : Value} {xs : List α} (h : RdV false (Ty.slice e d) w v xs) : ∃ A c, v = .slice A xs.length c ∧ xs.length ≤ c ∧ Row d w (· < w.heap.size) A xs.length xs := by
  obtain ⟨cs, rfl, A, c, rfl, h1, h2, h3⟩ := h
  exact ⟨A, c, rfl, h1, h3⟩
theorem OwV.slice {α : Type} {d : Ty α} {e : TypeId} {w : World} {lo hi : Nat} {v : Value} {xs : List α} (h : OwV false (Ty.slice e d) w lo hi v xs) : ∃ A c F, v = .slice A xs.length c ∧ Own d e w F v xs ∧ ∀ k, k ∈ F → lo ≤ k ∧ k < hi := by
  obtain ⟨cs, F, rfl, ⟨v', rfl, h⟩, hF⟩ := h
  obtain ⟨A, c, rfl, _⟩ := h.form
  exact ⟨A, c, F, rfl, h, hF⟩
theorem OwV.of_slice {α : Type} {d : Ty α} {e : TypeId} {w : World} {lo hi : Nat} {v : Value} {xs : List α} {F : List Nat} (h : Own d e w F v xs) (hF : ∀ k, k ∈ F → lo ≤ k ∧ k < hi) : OwV false (Ty.slice e d) w lo hi v xs := ⟨[v], F, rfl, ⟨v, rfl, h⟩, hF⟩
theorem RetOwn.toV {α : Type} {d : Ty α} {t : TypeId} {w w' : World} {xs : List α} {e : Ending} (h : RetOwn d t w xs e w') : RetV false (Ty.slice t d) w xs e w' := by
  obtain ⟨A, c, F, rfl, ho, hF, hm⟩ := h
  exact ⟨_, rfl, OwV.of_slice ho fun k hk => ⟨hF k hk, ho.lt k hk⟩, hm⟩
def OwF {α : Type} (str : Bool) (d : Ty α) (w : World) (F : List Nat) (v : Value) (x : α) : Prop := ∃ cs, v = enc str cs ∧ d.M w F x cs
def Marks {α : Type} (str : Bool) (d : Ty α) (w : World) (F : List Nat) (v : Value) (k : Nat) (y : α) (e : Ending) (w' : World) : Prop :=
  e = .returned (.int .i64 (k : Int)) ∧ (∃ F', OwF str d w' F' v y ∧ ∀ i, i ∈ F' → i ∈ F) ∧ Mod (· ∈ F) w w'
theorem OwV.mark {α : Type} {str : Bool} {d : Ty α} {w : World} {lo hi : Nat} {v : Value} {x y : α} {P : Program} {f : Nat} {args : Array Value} {k : Nat}
    (hc : ∀ F, OwF str d w F v x → Calls P f args w (Marks str d w F v k y)) (h : OwV str d w lo hi v x) :
    Calls P f args w fun e w' => e = .returned (.int .i64 (k : Int)) ∧ OwV str d w' lo hi v y ∧ Mod (fun i => lo ≤ i ∧ i < hi) w w' := by
  obtain ⟨cs, F, rfl, hM, hF⟩ := h
  refine (hc F ⟨cs, rfl, hM⟩).mono ?_
  rintro e w' ⟨rfl, ⟨F', ⟨cs', hv, hM'⟩, hF'⟩, hm⟩
  exact ⟨rfl, ⟨cs', F', hv, hM', fun i hi => hF i (hF' i hi)⟩, hm.mono fun i _ hi => hF i hi⟩
theorem OwF.slice {α : Type} {d : Ty α} {e : TypeId} {w : World} {F : List Nat} {v : Value} {xs : List α} (h : OwF false (Ty.slice e d) w F v xs) : ∃ A c, v = .slice A xs.length c ∧ Own d e w F v xs := by
  obtain ⟨cs, rfl, v', rfl, h⟩ := h
  obtain ⟨A, c, rfl, _⟩ := h.form
  exact ⟨A, c, rfl, h⟩
theorem OwF.of_slice {α : Type} {d : Ty α} {e : TypeId} {w : World} {F : List Nat} {v : Value} {xs : List α} (h : Own d e w F v xs) : OwF false (Ty.slice e d) w F v xs := ⟨[v], rfl, v, rfl, h⟩
end Go.Proofs.YtiaknomadhgckaaDoor.Mem
