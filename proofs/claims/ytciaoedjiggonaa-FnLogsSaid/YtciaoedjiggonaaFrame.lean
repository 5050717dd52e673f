/- Frames of a log: both ways to make them. -/
import Derived.Test.YtciaoedjiggonaaMem2
import Derived.Test.YtciaoedjiggonaaCrc
import Derived.Test.YtciaoedjiggonaaBss
namespace Go.Proofs.Ytciaoedjiggonaa
open Go.RowKit Mem
set_option linter.unusedVariables false

def be4 (c : Nat) : Bytes := [UInt8.ofNat (c / 16777216), UInt8.ofNat (c / 65536), UInt8.ofNat (c / 256), UInt8.ofNat c]
def len2 (n : Nat) : Bytes := [UInt8.ofNat (n / 256), UInt8.ofNat n]
def headL (xs : Bytes) : Bytes := len2 xs.length ++ be4 (crc (len2 xs.length ++ xs))
def frameL (xs : Bytes) : Bytes := headL xs ++ xs
theorem headL_len (xs : Bytes) : (headL xs).length = 6 := rfl
theorem frameL_len (xs : Bytes) : (frameL xs).length = 6 + xs.length := by simp [frameL, headL_len]

set_option maxHeartbeats 400000 in
set_option maxRecDepth 100000 in
theorem l1Bytes_calls {A : Option Addr} {c : Nat} {xs : Bytes} {B : Nat → Prop} {w : World} (h : Row Ty.byte w B A xs.length xs) (hB : ∀ k, B k → k < w.heap.size) (hl : xs.length ≤ 34359738368) :
    Calls Try.prog 76 #[.slice A xs.length c] w (RetOwn Ty.byte 5 w xs) := by
  have HR := Sec.mk h
  clear h
  go_enter Try.func76, Try.ntmps76
  go_wp2_with (first
    | (refine wpList_mk _ rfl (.tmp 5) _ rfl Ty.byte 5 Try.underlying22 elt_byte 0 (fun _ => ⟨rfl, rfl⟩) xs.length rfl hl ?_; intro w1 ho1)
    | (refine wpList_copyAll _ rfl (.tmp 7) (.tmp 8) _ _ rfl Try.underlying22 elt_byte rfl flat_byte rfl rfl ho1 (ho1.read HR.out hB) ?_; intro w2 ho2))
  go_ret
  exact ho2.ret

theorem u8_small (m : Nat) (h : m < 256) : ((UInt8.ofNat m).toNat : Int) = (m : Int) := by rw [UInt8.toNat_ofNat']; omega
theorem u8_div (n : Nat) (h : n ≤ 2000) : ((UInt8.ofNat (n / 256)).toNat : Int) = (n : Int) / 256 := by rw [UInt8.toNat_ofNat']; omega
theorem u8_mod (n : Nat) : ((UInt8.ofNat n).toNat : Int) = (n : Int) % 256 := by rw [UInt8.toNat_ofNat']; omega
theorem be4_0 (c : Nat) (h : c < 4294967296) : ((UInt8.ofNat (c / 16777216)).toNat : Int) = (c : Int) / 16777216 := by rw [UInt8.toNat_ofNat']; omega
set_option maxHeartbeats 1000000 in
set_option maxRecDepth 100000 in
theorem headOf_calls {A : Option Addr} {c : Nat} {xs : Bytes} {B : Nat → Prop} {w : World} (h : Row Ty.byte w B A xs.length xs) (hB : ∀ k, B k → k < w.heap.size) (h1 : 1 ≤ xs.length) (hl : xs.length ≤ 2000) :
    Calls Try.prog 52 #[.slice A xs.length c] w (RetOwn Ty.byte 5 w (headL xs)) := by
  have HR := Sec.mk h
  have HD : Sec (headL xs = len2 xs.length ++ be4 (crc ([] ++ len2 xs.length ++ xs))) := ⟨rfl⟩
  clear h
  have HO1 := Mine.lit2 (w0 := w) (w := w) 5 (u8_div xs.length hl) (u8_mod xs.length) rfl (Mod.refl _ _)
  have HO2 := Mine.lit0 (w := w.alloc (.cells #[.int .u8 ((xs.length : Int) / 256), .int .u8 ((xs.length : Int) % 256)] 5)) 5 (g := w.heap.size + 1) (by simp) (Mod.refl _ _)
  have HC := Sec.mk HO1
  clear HO1
  change Sec (Mine Ty.byte _ _ _ _ (len2 xs.length)) at HC
  go_enter Try.func52, Try.ntmps52
  go_wp2_with (first
    | (at_builtin; refine wpList_app _ rfl (.tmp 15) (.tmp 16) _ rfl Try.underlying22 elt_byte flat_byte rfl rfl HO2 ((HC.out.step HO2.new).row) (by simp [len2]) ?_; intro A3 n3 c3 w3 HO3)
    | (at_builtin; refine wpList_app _ rfl (.tmp 17) (.tmp 18) _ rfl Try.underlying22 elt_byte flat_byte rfl rfl HO3 ((HC.out.step HO3.new).read HR.out hB) (by simp [len2]; omega) ?_; intro A4 n4 c4 w4 HO4))
  obtain rfl := HO4.len.1
  refine (crcImpl_calls HO4.row).mono ?_
  rintro e w5 ⟨rfl, rfl⟩
  have hcl := crc_lt ([] ++ len2 xs.length ++ xs)
  have HH := HC.out.step HO4.new
  clear HO2 HO3
  generalize crc ([] ++ len2 xs.length ++ xs) = s at *
  have hq1 : ((UInt8.ofNat (s / 65536)).toNat : Int) = (s : Int) / 65536 % 256 := by rw [UInt8.toNat_ofNat']; omega
  have hq2 : ((UInt8.ofNat (s / 256)).toNat : Int) = (s : Int) / 256 % 256 := by rw [UInt8.toNat_ofNat']; omega
  have HF := Sec.mk (fun w => Row.four w 5 (be4_0 s hcl) hq1 hq2 (u8_mod s))
  clear hq1 hq2
  go_wp2_with (at_builtin; refine wpList_app _ rfl (.tmp 21) (.tmp 33) _ rfl Try.underlying22 elt_byte flat_byte rfl rfl (HH.alloc _) (HF.out _) (by simp [len2]) ?_; intro A6 n6 c6 w6 HO6)
  go_ret
  rw [HD.out]
  exact HO6.ret
set_option maxHeartbeats 1000000 in
set_option maxRecDepth 100000 in
theorem l2Frame_calls {A : Option Addr} {c : Nat} {xs : Bytes} {B : Nat → Prop} {w : World} (h : Row Ty.byte w B A xs.length xs) (hB : ∀ k, B k → k < w.heap.size) (h1 : 1 ≤ xs.length) (hl : xs.length ≤ 2000) :
    Calls Try.prog 53 #[.slice A xs.length c] w (RetOwn Ty.byte 5 w (frameL xs)) := by
  have HR := Sec.mk h
  have HD : Sec (frameL xs = len2 xs.length ++ be4 (crc (len2 xs.length ++ xs)) ++ xs) := ⟨rfl⟩
  clear h
  have HC := Sec.mk (Mine.lit2 (w0 := w) (w := w) 5 (u8_div xs.length hl) (u8_mod xs.length) rfl (Mod.refl _ _))
  change Sec (Mine Ty.byte _ _ _ _ (len2 xs.length)) at HC
  go_enter Try.func53, Try.ntmps53
  go_wp2_with fail
  refine (l1Bytes_calls (xs := len2 xs.length) HC.out.row (fun k hk => hk.2) (by simp [len2])).mono ?_
  rintro e w1 h1
  obtain ⟨A1, c1, rfl, HO1⟩ := h1.mine
  have HH := HC.out.step HO1.new
  go_wp2_with (at_builtin; refine wpList_app _ rfl (.tmp 16) (.tmp 17) _ rfl Try.underlying22 elt_byte flat_byte rfl rfl HO1 (HH.read HR.out hB) (by simp [len2]; omega) ?_; intro A2 n2 c2 w2 HO2)
  obtain rfl := HO2.len.1
  refine (crcSpec_calls HO2.row).mono ?_
  rintro e w3 ⟨rfl, rfl⟩
  have hcl := crc_lt (len2 xs.length ++ xs)
  have HK := HC.out.step HO2.new
  have HN := Sec.mk HK.new
  clear HC HH HO1 HO2 h1
  generalize crc (len2 xs.length ++ xs) = s at *
  have hq1 : ((UInt8.ofNat (s / 65536)).toNat : Int) = (s : Int) / 65536 % 256 := by rw [UInt8.toNat_ofNat']; omega
  have hq2 : ((UInt8.ofNat (s / 256)).toNat : Int) = (s : Int) / 256 % 256 := by rw [UInt8.toNat_ofNat']; omega
  have HF0 := Sec.mk (fun w => Row.one w 5 _ _ (be4_0 s hcl))
  have HF1 := Sec.mk (fun w => Row.one w 5 _ _ hq1)
  have HF2 := Sec.mk (fun w => Row.one w 5 _ _ hq2)
  have HF3 := Sec.mk (fun w => Row.one w 5 _ _ (u8_mod s))
  clear hq1 hq2
  go_wp2
  go_loopw [3, 5] (fun o i wr => ∃ (m : Nat) (A' : Option Addr) (n' c' : Nat), m ≤ 4 ∧ i = .int .i64 (3 - m) ∧ o = .slice A' n' c' ∧ Mine Ty.byte 5 w wr (.slice A' n' c') (len2 xs.length ++ (be4 s).take m)) (fun _ i _ => ((intOf i) + 1).toNat)
  case atStart => exact ⟨0, _, _, _, by omega, rfl, rfl, by simpa using HK⟩
  case round =>
    obtain ⟨m, A', n', c', hm, rfl, rfl, HO⟩ := hrel
    clear HK HN
    rcases (show m = 0 ∨ m = 1 ∨ m = 2 ∨ m = 3 ∨ m = 4 by omega) with rfl | rfl | rfl | rfl | rfl
    · go_wp2_with (at_builtin; refine wpList_app _ rfl (.tmp 24) (.tmp 31) _ rfl Try.underlying22 elt_byte flat_byte rfl rfl (HO.alloc _) (HF0.out _) (by simp [len2, be4]) ?_; intro A6 n6 c6 w6 HO6)
      go_roundw
      case rel => exact ⟨1, A6, n6, c6, by omega, by go_num, rfl, by simpa [be4] using HO6⟩
      case measure => simp [intOf]
    · go_wp2_with (at_builtin; refine wpList_app _ rfl (.tmp 24) (.tmp 31) _ rfl Try.underlying22 elt_byte flat_byte rfl rfl (HO.alloc _) (HF1.out _) (by simp [len2, be4]) ?_; intro A6 n6 c6 w6 HO6)
      go_roundw
      case rel => exact ⟨2, A6, n6, c6, by omega, by go_num, rfl, by simpa [be4] using HO6⟩
      case measure => simp [intOf]
    · go_wp2_with (at_builtin; refine wpList_app _ rfl (.tmp 24) (.tmp 31) _ rfl Try.underlying22 elt_byte flat_byte rfl rfl (HO.alloc _) (HF2.out _) (by simp [len2, be4]) ?_; intro A6 n6 c6 w6 HO6)
      go_roundw
      case rel => exact ⟨3, A6, n6, c6, by omega, by go_num, rfl, by simpa [be4] using HO6⟩
      case measure => simp [intOf]
    · go_wp2_with (at_builtin; refine wpList_app _ rfl (.tmp 24) (.tmp 31) _ rfl Try.underlying22 elt_byte flat_byte rfl rfl (HO.alloc _) (HF3.out _) (by simp [len2, be4]) ?_; intro A6 n6 c6 w6 HO6)
      go_roundw
      case rel => exact ⟨4, A6, n6, c6, by omega, by go_num, rfl, by simpa [be4] using HO6⟩
      case measure => simp [intOf]
    · go_wp2_with (at_builtin; refine wpList_app _ rfl (.tmp 33) (.tmp 34) _ rfl Try.underlying22 elt_byte flat_byte rfl rfl HO (HO.read HR.out hB) (by simp [len2, be4]; omega) ?_; intro A6 n6 c6 w6 HO6)
      go_ret
      rw [HD.out]
      exact HO6.ret
def okRec (x : Bytes) : Prop := 1 ≤ x.length ∧ x.length ≤ 2000
instance (x : Bytes) : Decidable (okRec x) := by unfold okRec; infer_instance
def okLog (xs : List Bytes) : Prop := (∀ x, x ∈ xs → okRec x) ∧ (xs.flatMap frameL).length ≤ 40000
instance (xs : List Bytes) : Decidable (okLog xs) := by unfold okLog; infer_instance
def logL (xs : List Bytes) : Bytes := if okLog xs then xs.flatMap frameL else []
theorem flatMap_step {f : Bytes → Bytes} {xs : List Bytes} {k : Nat} (h : k < xs.length) : (xs.take (k + 1)).flatMap f = (xs.take k).flatMap f ++ f xs[k] := by
  rw [List.take_succ_eq_append_getElem h, List.flatMap_append]; simp
theorem flatMap_len_le {f : Bytes → Bytes} (xs : List Bytes) (k : Nat) : ((xs.take k).flatMap f).length ≤ (xs.flatMap f).length := by
  have : xs.flatMap f = (xs.take k).flatMap f ++ (xs.drop k).flatMap f := by rw [← List.flatMap_append, List.take_append_drop]
  rw [this, List.length_append]; omega
theorem logL_bad {xs : List Bytes} {k : Nat} (h : k < xs.length) (hb : ¬ okRec xs[k]) : logL xs = [] := if_neg fun hg => hb (hg.1 _ (List.getElem_mem _))
theorem logL_big {xs : List Bytes} {k : Nat} (hb : 40000 < ((xs.take k).flatMap frameL).length) : logL xs = [] := if_neg fun hg => by have := flatMap_len_le (f := frameL) xs k; have := hg.2; omega
theorem logL_good {xs : List Bytes} (h : ∀ j, (hj : j < xs.length) → okRec xs[j]) (h2 : (xs.flatMap frameL).length ≤ 40000) : logL xs = xs.flatMap frameL := if_pos ⟨fun x hx => by obtain ⟨j, hj, rfl⟩ := List.getElem_of_mem hx; exact h j hj, h2⟩

set_option maxHeartbeats 1000000 in
set_option maxRecDepth 100000 in
theorem frameSpec_calls {A : Option Addr} {c : Nat} {xs : List Bytes} {B : Nat → Prop} {w : World} (h : Row tB w B A xs.length xs) (hB : ∀ k, B k → k < w.heap.size) :
    Calls Try.prog 17 #[.slice A xs.length c] w (RetOwn Ty.byte 5 w (logL xs)) := by
  have HR := Sec.mk h
  have hl := h.2.1
  clear h
  go_enter Try.func17, Try.ntmps17
  go_wp2
  go_loopw [3, 8] (fun o i wr => ∃ (k : Nat) (A' : Option Addr) (n' c' : Nat), k ≤ xs.length ∧ i = .int .i64 k ∧ o = .slice A' n' c' ∧ Mine Ty.byte 5 w wr (.slice A' n' c') ((xs.take k).flatMap frameL) ∧ Sec (∀ j, j < k → (hj : j < xs.length) → okRec xs[j]) ∧ n' ≤ 40000) (fun _ i _ => xs.length - (intOf i).toNat)
  case atStart => exact ⟨0, none, 0, 0, Nat.zero_le _, rfl, rfl, Mine.nil _ _ (Mod.refl _ _), ⟨fun j hj => absurd hj (Nat.not_lt_zero _)⟩, by omega⟩
  case round =>
    obtain ⟨k, A', n', c', hk, rfl, rfl, HO, HG, hn⟩ := hrel
    by_cases hlt : k < xs.length
    · obtain ⟨ad, A1, c1, rfl, hx0, hxc, hrow⟩ := bss_at HR.out (fun i hi => HO.new.block i (hB i hi) id) hlt
      have hxl := hrow.2.1
      have hnl := HO.len
      have HX := Sec.mk hrow
      have HS := Sec.mk (flatMap_step (f := frameL) hlt)
      have HBD := Sec.mk (logL_bad hlt)
      have HBG := Sec.mk (logL_big (xs := xs) (k := k + 1))
      have HK : Sec (okRec xs[k] ↔ 1 ≤ xs[k].length ∧ xs[k].length ≤ 2000) := ⟨Iff.rfl⟩
      have HFL := Sec.mk (frameL_len xs[k])
      have HG' : Sec (okRec xs[k] → ∀ j, j < k + 1 → (hj : j < xs.length) → okRec xs[j]) := ⟨fun h j hj hjx => by
        rcases Nat.lt_or_ge j k with h1 | h1
        · exact HG.out j h1 hjx
        · obtain rfl : j = k := by omega
          exact h⟩
      clear hrow hxc
      generalize xs[k] = x at *
      generalize (xs.take k).flatMap frameL = zs at *
      obtain ⟨rfl, hnc, hcc⟩ := hnl
      by_cases hg : 1 ≤ x.length ∧ x.length ≤ 2000
      · by_cases hbig : zs.length + 6 + x.length ≤ 40000
        · go_wp2_with fail
          refine (l2Frame_calls (HX.out) (fun k hk => Nat.lt_of_lt_of_le (hB k hk) HO.new.size) hg.1 hg.2).mono ?_
          rintro e w2 h2
          obtain ⟨A2, c2, rfl, HF⟩ := h2.mine
          clear h2
          go_wp2_with (at_builtin; refine wpList_app _ rfl (.tmp 29) (.tmp 31) _ rfl Try.underlying22 elt_byte flat_byte rfl rfl (HO.step HF.new) HF.row (show zs.length + (frameL x).length ≤ 34359738368 by have := HFL.out; omega) ?_; intro A3 n3 c3 w3 HO3)
          have hn3 := HO3.len.1
          rw [List.length_append, HFL.out] at hn3
          go_roundw
          case rel => exact ⟨k + 1, A3, n3, c3, by omega, by go_num, rfl, by rw [HS.out]; exact HO3, ⟨HG'.out (HK.out.2 hg)⟩, by omega⟩
          case measure => simp [intOf]; omega
        · go_wp2
          go_ret
          rw [HBG.out (by rw [HS.out, List.length_append, HFL.out]; omega)]
          exact (Mine.nil _ _ HO.new).ret
      · have hgd : x.length < 1 ∨ 2000 < x.length := by omega
        rcases hgd with hgd | hgd
        · go_wp2
          go_ret
          rw [HBD.out (fun h => hg (HK.out.1 h))]
          exact (Mine.nil _ _ HO.new).ret
        · go_wp2
          go_ret
          rw [HBD.out (fun h => hg (HK.out.1 h))]
          exact (Mine.nil _ _ HO.new).ret
    · obtain rfl : k = xs.length := by omega
      have hnl := HO.len.1
      go_wp2
      go_ret
      rw [List.take_length] at HO hnl
      rw [logL_good (fun j hj => HG.out j hj hj) (by omega)]
      exact HO.ret
set_option maxHeartbeats 1000000 in
set_option maxRecDepth 100000 in
theorem frameImpl_calls {A : Option Addr} {c : Nat} {xs : List Bytes} {B : Nat → Prop} {w : World} (h : Row tB w B A xs.length xs) (hB : ∀ k, B k → k < w.heap.size) :
    Calls Try.prog 16 #[.slice A xs.length c] w (RetOwn Ty.byte 5 w (logL xs)) := by
  have HR := Sec.mk h
  have hl := h.2.1
  clear h
  go_enter Try.func16, Try.ntmps16
  go_wp2
  go_loopw [3, 9] (fun o i wr => ∃ (k : Nat) (A' : Option Addr) (n' c' : Nat), k ≤ xs.length ∧ i = .int .i64 k ∧ o = .slice A' n' c' ∧ Mine Ty.byte 5 w wr (.slice A' n' c') ((xs.take k).flatMap frameL) ∧ Sec (∀ j, j < k → (hj : j < xs.length) → okRec xs[j]) ∧ n' ≤ 40000) (fun _ i _ => xs.length - (intOf i).toNat)
  case atStart => exact ⟨0, _, 0, 0, Nat.zero_le _, rfl, rfl, Mine.lit0 _ rfl (Mod.refl _ _), ⟨fun j hj => absurd hj (Nat.not_lt_zero _)⟩, by omega⟩
  case round =>
    obtain ⟨k, A', n', c', hk, rfl, rfl, HO, HG, hn⟩ := hrel
    by_cases hlt : k < xs.length
    · obtain ⟨ad, A1, c1, rfl, hx0, hxc, hrow⟩ := bss_at HR.out (fun i hi => HO.new.block i (hB i hi) id) hlt
      have hxl := hrow.2.1
      have hnl := HO.len
      have HX := Sec.mk hrow
      have HXW := Sec.mk (hrow.mod (fun _ h => h) (fun k hk => (HO.new.block k (hB k hk) id).symm))
      have HS := Sec.mk (flatMap_step (f := frameL) hlt)
      have HBD := Sec.mk (logL_bad hlt)
      have HBG := Sec.mk (logL_big (xs := xs) (k := k + 1))
      have HK : Sec (okRec xs[k] ↔ 1 ≤ xs[k].length ∧ xs[k].length ≤ 2000) := ⟨Iff.rfl⟩
      have HFL := Sec.mk (frameL_len xs[k])
      have HG' : Sec (okRec xs[k] → ∀ j, j < k + 1 → (hj : j < xs.length) → okRec xs[j]) := ⟨fun h j hj hjx => by
        rcases Nat.lt_or_ge j k with h1 | h1
        · exact HG.out j h1 hjx
        · obtain rfl : j = k := by omega
          exact h⟩
      clear hrow hxc
      generalize xs[k] = x at *
      generalize (xs.take k).flatMap frameL = zs at *
      obtain ⟨rfl, hnc, hcc⟩ := hnl
      by_cases hg : 1 ≤ x.length ∧ x.length ≤ 2000
      · go_wp2_with fail
        refine (headOf_calls (HX.out) (fun k hk => Nat.lt_of_lt_of_le (hB k hk) HO.new.size) hg.1 hg.2).mono ?_
        rintro e w2 h2
        obtain ⟨A2, c2, rfl, HF⟩ := h2.mine
        clear h2
        have HX2 := Sec.mk (HF.read HX.out (fun k hk => Nat.lt_of_lt_of_le (hB k hk) HO.new.size))
        have HFD : Sec (frameL x = headL x ++ x) := ⟨rfl⟩
        have HHL := Sec.mk (headL_len x)
        by_cases hbig : zs.length + 6 + x.length ≤ 40000
        · go_wp2_with (first
            | (at_builtin; refine wpList_app _ rfl (.tmp 21) (.tmp 23) _ rfl Try.underlying22 elt_byte flat_byte rfl rfl (HO.step HF.new) HF.row (show zs.length + (headL x).length ≤ 34359738368 by have := HHL.out; omega) ?_; intro A3 n3 c3 w3 HO3)
            | (at_builtin; refine wpList_app _ rfl (.tmp 24) (.tmp 25) _ rfl Try.underlying22 elt_byte flat_byte rfl rfl HO3 (HO3.read HXW.out hB) (show (zs ++ headL x).length + x.length ≤ 34359738368 by have := HHL.out; rw [List.length_append]; omega) ?_; intro A4 n4 c4 w4 HO4; have hn4 : n4 ≤ 40000 := by have := HO4.len.1; rw [List.length_append, List.length_append, HHL.out] at this; omega))
          go_roundw
          case rel => exact ⟨k + 1, A4, n4, c4, by omega, by go_num, rfl, by rw [HS.out, HFD.out, ← List.append_assoc]; exact HO4, ⟨HG'.out (HK.out.2 hg)⟩, by omega⟩
          case measure => simp [intOf]; omega
        · go_wp2_with (first
            | (at_builtin; refine wpList_app _ rfl (.tmp 21) (.tmp 23) _ rfl Try.underlying22 elt_byte flat_byte rfl rfl (HO.step HF.new) HF.row (show zs.length + (headL x).length ≤ 34359738368 by have := HHL.out; omega) ?_; intro A3 n3 c3 w3 HO3)
            | (at_builtin; refine wpList_app _ rfl (.tmp 24) (.tmp 25) _ rfl Try.underlying22 elt_byte flat_byte rfl rfl HO3 (HO3.read HXW.out hB) (show (zs ++ headL x).length + x.length ≤ 34359738368 by have := HHL.out; rw [List.length_append]; omega) ?_; intro A4 n4 c4 w4 HO4; have hn4 : 40000 < n4 := by have := HO4.len.1; rw [List.length_append, List.length_append, HHL.out] at this; omega))
          go_ret
          rw [HBG.out (by rw [HS.out, List.length_append, HFL.out]; omega)]
          exact (Mine.nil _ _ HO4.new).ret
      · have hgd : x.length < 1 ∨ 2000 < x.length := by omega
        rcases hgd with hgd | hgd
        · go_wp2
          go_ret
          rw [HBD.out (fun h => hg (HK.out.1 h))]
          exact (Mine.nil _ _ HO.new).ret
        · go_wp2
          go_ret
          rw [HBD.out (fun h => hg (HK.out.1 h))]
          exact (Mine.nil _ _ HO.new).ret
    · obtain rfl : k = xs.length := by omega
      have hnl := HO.len.1
      go_wp2
      go_ret
      rw [List.take_length] at HO hnl
      rw [logL_good (fun j hj => HG.out j hj hj) (by omega)]
      exact HO.ret
end Go.Proofs.Ytciaoedjiggonaa
