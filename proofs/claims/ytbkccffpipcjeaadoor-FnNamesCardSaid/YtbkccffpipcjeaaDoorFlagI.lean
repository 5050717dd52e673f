/- The program's letters of flags. -/
import Derived.Test.YtbkccffpipcjeaaDoorFlagS
namespace Go.Proofs.YtbkccffpipcjeaaDoor
open Go.RowKit Mem
set_option linter.unusedVariables false

abbrev dLet : Ty (Int × Int) := Ty.pair (Ty.int .u8) (Ty.int .u32)
theorem flat_let : Flat dLet := fun w B x cs h => by
  obtain ⟨c0, c1, rfl, h0, h1⟩ := h
  exact ⟨c0, c1, [], [], rfl, rfl, by simp, h0 |> fun h => ⟨rfl, h⟩, ⟨rfl, h1⟩⟩
theorem elt_let : Elt Tryd.prog 77 2 (.agg #[.int .u8 0, .int .u32 0]) := Elt.of (b := 8) (by kernel_rfl) rfl (by decide) (by decide)
def tabL : List (Int × Int) := lets.map fun p => ((p.1 : Int), ((2 ^ p.2 : Nat) : Int))
theorem tabL_len : tabL.length = 31 := by decide
def LettersAt (w : World) : Prop := Row dLet w (· = 1) (some ⟨1, 0, none⟩) 5 (tabL.take 5)
theorem LettersAt.new {w w' : World} (h : LettersAt w) (hl : 1 < w.heap.size) (hm : New w w') : LettersAt w' := h.mod (fun _ h => h) fun k hk => hm.block k (by subst hk; exact hl) id
theorem row_let (w : World) (e : TypeId) (a b : Int) (ha : IntKind.u8.wrap a = a) (hb : IntKind.u32.wrap b = b) : Row dLet (w.alloc (.cells #[.int .u8 a, .int .u32 b] e)) (· = w.heap.size) (some ⟨w.heap.size, 0, none⟩) 1 [(a, b)] := by
  refine ⟨rfl, by omega, fun _ => ⟨_, rfl, rfl, fun j x hj => ?_⟩⟩
  have hj0 : j = 0 := by have := (List.getElem?_eq_some_iff.1 hj).1; simp at this; exact this
  subst hj0
  have hx : x = (a, b) := by simpa using hj.symm
  subst hx
  refine ⟨[.int .u8 a, .int .u32 b], ⟨[_], [_], rfl, ⟨rfl, ha⟩, ⟨rfl, hb⟩⟩, fun i u hu => ?_⟩
  rw [show 0 * dLet.sz + i = i by omega, add_own, cell_of_row _ _ i _ e (0, 0) (heap_alloc_new w _)]
  simpa using hu
theorem tabL_take (k : Nat) (hk : k < 26) : tabL.take (5 + (k + 1)) = tabL.take (5 + k) ++ [(97 + (k : Int), (2 : Int) ^ (5 + k) % 4294967296)] := by
  have hl : 5 + k < tabL.length := by rw [tabL_len]; omega
  rw [show 5 + (k + 1) = (5 + k) + 1 by omega, List.take_succ_eq_append_getElem hl]
  congr 2
  have hh : ∀ k : Nat, k < 26 → tabL[5 + k]? = some (97 + (k : Int), (2 : Int) ^ (5 + k) % 4294967296) := by decide
  have := hh k hk
  rw [List.getElem?_eq_getElem hl] at this
  exact Option.some.inj this
set_option maxHeartbeats 1000000 in
set_option maxRecDepth 100000 in
theorem letterTable_calls {w : World} (h : LettersAt w) (hg : 1 < w.heap.size) : Calls Tryd.prog 45 #[] w (RetOwn dLet 77 w tabL) := by
  have HR := Sec.mk h
  have HG := Sec.mk hg
  clear h hg
  have HN := Sec.mk ((Mod.refl (fun _ => False) w).alloc (.cells #[] 77))
  have HE : Sec (Mine dLet 77 w (w.alloc (.cells #[] 77)) (.slice (some ⟨w.heap.size, 0, none⟩) 0 0) []) := ⟨Mine.empty _ _ rfl (Mod.refl _ _)⟩
  go_enter Tryd.func45, Tryd.ntmps45
  go_wp2_with (at_builtin; refine wpList_app _ rfl (.tmp 3) (.tmp 4) _ rfl Tryd.underlying74 elt_let flat_let rfl rfl HE.out (HR.out.new HG.out HN.out) (by have := tabL_len; simp; omega) ?_; intro A6 n6 c6 w6 HO6)
  go_loopw [1, 6] (fun o i wr => ∃ (k : Nat) (A : Option Addr) (n c : Nat), k ≤ 26 ∧ i = .int .i64 (k : Int) ∧ o = .slice A n c ∧ Sec (Mine dLet 77 w wr (.slice A n c) (tabL.take (5 + k)))) (fun _ i _ => 26 - (intOf i).toNat)
  case atStart => exact ⟨0, A6, n6, c6, by omega, rfl, rfl, ⟨HO6⟩⟩
  case round =>
    obtain ⟨k, A, n, c, hk, rfl, rfl, HO⟩ := hrel
    clear HO6 HE
    by_cases hlt : k < 26
    · have HT := Sec.mk (tabL_take k hlt)
      have HW1 : Sec (IntKind.u8.wrap (97 + (k : Int)) = 97 + (k : Int)) := ⟨by rw [IntKind.wrap_u8]; omega⟩
      have HW2 : Sec (IntKind.u32.wrap ((2 : Int) ^ (5 + k) % 4294967296) = (2 : Int) ^ (5 + k) % 4294967296) := ⟨by rw [IntKind.wrap_u32]; omega⟩
      have hlen := HO.out.len
      have htl : (tabL.take (5 + k)).length ≤ 31 := by rw [List.length_take, tabL_len]; omega
      go_wp2_with (at_builtin; refine wpList_app _ rfl (.tmp 9) (.tmp 17) _ rfl Tryd.underlying74 elt_let flat_let rfl rfl (HO.out.alloc _) (row_let _ _ _ _ HW1.out HW2.out) (by simp only [List.length_singleton]; omega) ?_; intro A6 n6 c6 w6 HO6)
      go_roundw
      case rel => exact ⟨k + 1, A6, n6, c6, by omega, by go_num, rfl, ⟨by rw [HT.out]; exact HO6⟩⟩
      case measure => simp [intOf]; omega
    · obtain rfl : k = 26 := by omega
      go_wp2
      go_ret
      exact HO.out.ret
theorem bit_and (f b : Nat) (hf : f < 4294967296) (hb : b < 32) : (bits .and .u32 (f : Int) ((2 ^ b : Nat) : Int) != 0) = f.testBit b := by
  have h2 : 2 ^ b < 4294967296 := Nat.pow_lt_pow_right (by decide) hb
  have ft : ∀ p : Nat, p < 4294967296 → (BitVec.ofInt 32 (p : Int)).toNat = p := fun p hp => by rw [BitVec.toNat_ofInt]; omega
  have f0 := ft f hf
  have f1 := ft (2 ^ b) h2
  have e : bits .and .u32 (f : Int) ((2 ^ b : Nat) : Int) = ((f &&& 2 ^ b : Nat) : Int) := by
    show IntKind.u32.wrap ((BitVec.ofInt 32 (f : Int) &&& BitVec.ofInt 32 ((2 ^ b : Nat) : Int)).toNat : Int) = _
    rw [BitVec.toNat_and, f0, f1, IntKind.wrap_u32]
    have : f &&& 2 ^ b ≤ f := Nat.and_le_left
    omega
  rw [e]
  cases ht : f.testBit b
  · have hz : f &&& 2 ^ b = 0 := Nat.eq_of_testBit_eq fun i => by
      rw [Nat.testBit_and, Nat.testBit_two_pow, Nat.zero_testBit]
      by_cases hi : b = i
      · subst hi; simp [ht]
      · simp [hi]
    rw [hz]; rfl
  · have hz : f &&& 2 ^ b ≠ 0 := fun h0 => by
      have := congrArg (·.testBit b) h0
      simp [Nat.testBit_and, ht] at this
    simp only [bne_iff_ne, ne_eq]; omega
theorem lets_small (k : Nat) (hk : k < 31) : ∃ p, lets[k]? = some p ∧ p.1 < 128 ∧ p.2 < 31 := by
  have : ∀ k, k < 31 → ∃ p, lets[k]? = some p ∧ p.1 < 128 ∧ p.2 < 31 := by decide
  exact this k hk
set_option maxHeartbeats 1000000 in
set_option maxRecDepth 100000 in
theorem flagLettersImpl_calls (f : Nat) (hf : f < 4294967296) {w : World} (h : LettersAt w) (hg : 1 < w.heap.size) : Calls Tryd.prog 20 #[.int .u32 (f : Int)] w (Ret (.string ⟨(flagsL f).toArray⟩) w) := by
  have HR := Sec.mk h
  have HG := Sec.mk hg
  clear h hg
  have HN := Sec.mk ((Mod.refl (fun _ => False) w).alloc (.cells #[] 5))
  have HE : Sec (Mine Ty.byte 5 w (w.alloc (.cells #[] 5)) (.slice (some ⟨w.heap.size, 0, none⟩) 0 0) []) := ⟨Mine.empty _ _ rfl (Mod.refl _ _)⟩
  go_enter Tryd.func20, Tryd.ntmps20
  go_wp2_with fail
  refine (letterTable_calls (HR.out.new HG.out HN.out) (Nat.lt_of_lt_of_le HG.out HN.out.size)).mono ?_
  rintro e w2 h2
  obtain ⟨A2, c2, rfl, HT⟩ := h2.mine
  have hn2 := HT.new.size
  rw [tabL_len] at HT ⊢
  have HTs := Sec.mk HT
  have HE2 : Sec (OwP Ty.byte 5 w2 (fun k => k = w.heap.size ∨ w2.heap.size ≤ k) (.slice (some ⟨w.heap.size, 0, none⟩) 0 0) []) := ⟨((HE.out.owp (X := fun k => k = w.heap.size ∨ w2.heap.size ≤ k) (fun k h1 h2 => by simp at h2; omega)).new HT.new)⟩
  have HN2 := Sec.mk (HN.out.transN HT.new)
  clear HT h2
  go_wp2
  go_loopw [3, 9] (fun o i wr => ∃ (k : Nat) (A : Option Addr) (n c : Nat), k ≤ 31 ∧ i = .int .i64 (k : Int) ∧ o = .slice A n c ∧ Sec (OwP Ty.byte 5 wr (fun k => k = w.heap.size ∨ w2.heap.size ≤ k) (.slice A n c) (flagsTo f k)) ∧ Sec (Mod (fun k => k = w.heap.size ∨ w2.heap.size ≤ k) w2 wr)) (fun _ i _ => 31 - (intOf i).toNat)
  case atStart => exact ⟨0, _, _, _, by omega, rfl, rfl, HE2, ⟨Mod.refl _ _⟩⟩
  case round =>
    obtain ⟨k, A, n, c, hk, rfl, rfl, HO, HM⟩ := hrel
    clear HE2 HE
    by_cases hlt : k < 31
    · have hlt' : k < tabL.length := by rw [tabL_len]; exact hlt
      obtain ⟨ad, cs, rfl, hK, hx0, hx1⟩ := HTs.out.row.cells_at (w' := wr) (fun i hi => HM.out.block i hi.2 (fun h => by have := hi.1; simp at this; omega)) hlt'
      obtain ⟨p, hp, hp1, hp2⟩ := lets_small k hlt
      have hlk : lets[k]'(by rw [lets_len]; exact hlt) = p := by have := List.getElem?_eq_getElem (l := lets) (i := k) (by rw [lets_len]; exact hlt); rw [hp] at this; exact (Option.some.inj this).symm
      have HF := flagsTo_succ f (k := k) (by rw [lets_len]; exact hlt)
      rw [hlk] at HF
      have HFs := Sec.mk HF
      have htk : tabL[k] = ((p.1 : Int), ((2 ^ p.2 : Nat) : Int)) := by
        have : tabL[k]? = some ((p.1 : Int), ((2 ^ p.2 : Nat) : Int)) := by unfold tabL; rw [List.getElem?_map, hp]; rfl
        rw [List.getElem?_eq_getElem hlt'] at this
        exact Option.some.inj this
      rw [htk] at hK
      obtain ⟨c0, c1, rfl, ⟨rfl, _⟩, ⟨rfl, _⟩⟩ := hK
      have h0 := hx0 _ rfl
      have h1 := hx1 0 _ rfl
      have hba := bit_and f p.2 hf (by omega)
      obtain ⟨p1, p2⟩ := p
      simp only at hp1 hp2 hba h0 h1
      rw [show k * dLet.sz = k * 2 from rfl] at h0 h1
      have hflen : (flagsTo f k).length ≤ 31 := by unfold flagsTo; rw [List.length_map]; exact Nat.le_trans (List.length_filter_le _ _) (by rw [List.length_take, lets_len]; omega)
      clear hx0 hx1 hlk HF htk hp
      generalize ht : f.testBit p2 = t at *
      generalize ((2 ^ p2 : Nat) : Int) = q at *
      clear ht
      cases t
      · go_wp2
        go_roundw
        case rel => exact ⟨k + 1, A, n, c, by omega, by go_num, rfl, ⟨by rw [HFs.out]; simpa using HO.out.new ((Mod.refl _ _).alloc _)⟩, ⟨HM.out.alloc _⟩⟩
        case measure => simp [intOf]; omega
      · have HX : Sec (∀ W, New wr W → ∀ k, W.heap.size ≤ k → (k = w.heap.size ∨ w2.heap.size ≤ k)) := ⟨fun W hW k hk => .inr (by have := hW.size; have := HM.out.size; omega)⟩
        have HRO : Sec (Row Ty.byte ((wr.alloc (.cells #[.int .u8 (p1 : Int), .int .u32 q] 77)).alloc (.cells #[.int .u8 (p1 : Int)] 5)) (· = wr.heap.size + 1) (some ⟨wr.heap.size + 1, 0, none⟩) 1 [UInt8.ofNat p1]) := ⟨by have := Row.one (wr.alloc (.cells #[.int .u8 (p1 : Int), .int .u32 q] 77)) 5 (UInt8.ofNat p1) p1 (by rw [UInt8.toNat_ofNat']; omega); rwa [show (wr.alloc (.cells #[.int .u8 (p1 : Int), .int .u32 q] 77)).heap.size = wr.heap.size + 1 by simp] at this⟩
        go_wp2_with (at_builtin; go_loud (refine wpList_appP _ rfl (.tmp 18) (.tmp 21) _ rfl Tryd.underlying36 elt_byte flat_byte rfl rfl ((HO.out.new ((Mod.refl _ _).alloc _)).new ((Mod.refl _ _).alloc _)) HRO.out (HX.out _ (((Mod.refl _ _).alloc _).alloc _)) (show (flagsTo f k).length + [UInt8.ofNat p1].length ≤ 34359738368 by simp only [List.length_singleton]; omega) ?_; intro A6 n6 c6 w6 HO6 hm6))
        go_roundw
        case rel => exact ⟨k + 1, A6, n6, c6, by omega, by go_num, rfl, ⟨by rw [HFs.out]; simpa using HO6⟩, ⟨((HM.out.alloc _).alloc _).trans hm6 (fun i hi _ => hi)⟩⟩
        case measure => simp [intOf]; omega
    · obtain rfl : k = 31 := by omega
      have hcv := HO.out.row.conv (P := Tryd.prog) Tryd.underlying36 Tryd.underlying5 Tryd.underlying9 c
      have HNN := Sec.mk (HN2.out.trans HM.out (fun i hi hlt => by have := HN2.out.size; omega))
      rw [flagsTo_all] at hcv
      go_wp2
      go_ret
      exact ⟨rfl, HNN.out⟩
end Go.Proofs.YtbkccffpipcjeaaDoor
