/- The program's list of flags. -/
import Derived.Test.YtbkccffpipcjeaaDoorListS
import Derived.Test.YtbkccffpipcjeaaDoorShelf
namespace Go.Proofs.YtbkccffpipcjeaaDoor
open Go.RowKit Mem
set_option linter.unusedVariables false

def namesS (f k : Nat) : List ByteArray := (namesTo f k).map toS
theorem namesS_succ (f k : Nat) : namesS f (k + 1) = namesS f k ++ (if f.testBit k then [toS (nameL k)] else []) := by
  unfold namesS; rw [namesTo_succ, List.map_append]; cases f.testBit k <;> rfl
theorem namesS_len (f k : Nat) : (namesS f k).length ≤ k := by unfold namesS; rw [List.length_map]; exact namesTo_len f k
theorem has_bit (f : Nat) (hf : f < 4294967296) (k : Nat) : (bits .and .u32 ((f : Int) / 2 ^ k) 1 == 1) = f.testBit k := by
  rw [Nat.testBit_eq_decide_div_mod_eq]
  have e : ((f : Int) / 2 ^ k) = ((f / 2 ^ k : Nat) : Int) := by simp
  have hlt : f / 2 ^ k < 4294967296 := Nat.lt_of_le_of_lt (Nat.div_le_self _ _) hf
  rw [e, flag_and hlt]
  generalize f / 2 ^ k = g
  rcases (show g % 2 = 0 ∨ g % 2 = 1 by omega) with h | h <;> rw [h] <;> rfl
theorem enc_name : ∀ k : Nat, k < 26 → Utf8.encode (97 + (k : Int)) = toS (nameL (5 + k)) := by decide +kernel
theorem joinSS (xs : List Bytes) : Lib.join ((xs.map toS).map (·.data.toList)) [32] = joinSp xs := by
  unfold joinSp
  congr 1
  rw [List.map_map]
  conv => rhs; rw [← List.map_id xs]
  congr 1
/-- the five names, in the variable -/
def NamesAt (w : World) : Prop := ∃ ad c, w.cell? ⟨0, 0, none⟩ = some (.slice (some ad) 5 c) ∧ Row Ty.string w (· < w.heap.size) (some ad) 5 ((List.range 5).map fun k => toS (nameL k))
theorem NamesAt.new {w w' : World} (h : NamesAt w) (hm : New w w') : NamesAt w' := by
  obtain ⟨ad, c, h1, h2⟩ := h
  refine ⟨ad, c, ?_, h2.mod (fun k hk => Nat.lt_of_lt_of_le hk hm.size) (fun k hk => hm.block k hk id)⟩
  rw [← h1]
  exact World.cell?_of_block (hm.block _ (World.block_lt_of_cell? w _ h1) id)
set_option maxHeartbeats 1000000 in
set_option maxRecDepth 100000 in
theorem flagListImpl_calls (f : Nat) (hf : f < 4294967296) {w : World} (h : NamesAt w) : Calls Tryd.prog 9 #[.int .u32 (f : Int)] w (Ret (.string ⟨(FlagListL f).toArray⟩) w) := by
  obtain ⟨ad, cc, hcell, hrow⟩ := h
  have HR := Sec.mk hrow
  have HD : Sec (FlagListL f = [40] ++ joinSp (namesTo f 31) ++ [41]) := ⟨rfl⟩
  have HE := Sec.mk (Mine.empty (w0 := w) (w := w) Ty.string 9 rfl (Mod.refl _ _))
  clear hrow
  have hcell' : (w.alloc (.cells #[] 9)).cell? ⟨0, 0, none⟩ = some (.slice (some ad) 5 cc) := (World.cell?_of_block (((Mod.refl (fun _ => False) w).alloc _).block _ (World.block_lt_of_cell? w _ hcell) id)).trans hcell
  go_enter Tryd.func9, Tryd.ntmps9
  go_wp2
  go_loopw [3, 10] (fun o i wr => ∃ (k : Nat) (A : Option Addr) (n c : Nat), k ≤ 5 ∧ i = .int .i64 (k : Int) ∧ o = .slice A n c ∧ Sec (Mine Ty.string 9 w wr (.slice A n c) (namesS f k))) (fun _ i _ => 5 - (intOf i).toNat)
  case atStart => exact ⟨0, _, _, _, by omega, rfl, rfl, HE⟩
  case round =>
    obtain ⟨k, A, n, c, hk, rfl, rfl, HO⟩ := hrel
    clear HE hcell hcell'
    by_cases hlt : k < 5
    · obtain ⟨ad', cs, hA, hK, hx0, _⟩ := HR.out.cells_at (w' := wr) (fun i hi => HO.out.new.block i hi id) (k := k) (by simpa using hlt)
      injection hA with hA
      subst hA
      have hK' : cs = [.string (toS (nameL k))] := by rw [hK]; simp
      subst hK'
      have h0 := hx0 _ rfl
      rw [show k * Ty.string.sz = k from Nat.mul_one k] at h0
      have HS := Sec.mk (namesS_succ f k)
      have hnl := namesS_len f k
      have hb := has_bit f hf k
      have hki : (k : Int) < 5 := by omega
      generalize toS (nameL k) = s at *
      generalize ht : f.testBit k = t at *
      clear ht hx0 hK
      cases t
      · go_wp2
        go_roundw
        case rel => exact ⟨k + 1, A, n, c, by omega, by go_num, rfl, ⟨by rw [HS.out]; simpa using HO.out⟩⟩
        case measure => simp [intOf]; omega
      · go_wp2_with (at_builtin; go_loud (refine wpList_app _ rfl (.tmp 20) (.tmp 22) _ rfl Tryd.underlying42 elt_str flat_string rfl rfl (HO.out.alloc _) (row_str _ _ _) (show (namesS f k).length + [s].length ≤ 34359738368 by simp only [List.length_singleton]; omega) ?_; intro A6 n6 c6 w6 HO6))
        go_roundw
        case rel => exact ⟨k + 1, A6, n6, c6, by omega, by go_num, rfl, ⟨by rw [HS.out]; simpa using HO6⟩⟩
        case measure => simp [intOf]; omega
    · obtain rfl : k = 5 := by omega
      go_wp2
      go_loopw [3, 25] (fun o i wr => ∃ (k : Nat) (A : Option Addr) (n c : Nat), k ≤ 26 ∧ i = .int .i64 (k : Int) ∧ o = .slice A n c ∧ Sec (Mine Ty.string 9 w wr (.slice A n c) (namesS f (5 + k)))) (fun _ i _ => 26 - (intOf i).toNat)
      case atStart => exact ⟨0, A, n, c, by omega, rfl, rfl, HO⟩
      case round =>
        obtain ⟨k, A, n, c, hk, rfl, rfl, HO⟩ := hrel
        by_cases hlt : k < 26
        · have HS := Sec.mk (namesS_succ f (5 + k))
          have hnl := namesS_len f (5 + k)
          have hb := has_bit f hf (5 + k)
          have hki : (k : Int) < 26 := by omega
          generalize ht : f.testBit (5 + k) = t at *
          clear ht
          have hen := enc_name k hlt
          generalize toS (nameL (5 + k)) = s at *
          cases t
          · go_wp2
            go_roundw
            case rel => exact ⟨k + 1, A, n, c, by omega, by go_num, rfl, ⟨by rw [show 5 + (k + 1) = 5 + k + 1 from rfl, HS.out]; simpa using HO.out⟩⟩
            case measure => simp [intOf]; omega
          · go_wp2_with (at_builtin; go_loud (refine wpList_app _ rfl (.tmp 34) (.tmp 39) _ rfl Tryd.underlying42 elt_str flat_string rfl rfl (HO.out.alloc _) (row_str _ _ _) (show (namesS f (5 + k)).length + [s].length ≤ 34359738368 by simp only [List.length_singleton]; omega) ?_; intro A6 n6 c6 w6 HO6))
            refine ⟨⟨_, _, _, ⟨k + 1, by omega, ?_, A6, n6, c6, rfl, ⟨?_⟩⟩, rfl, rfl, rfl⟩, ?_⟩
            · go_num
            · rw [show 5 + (k + 1) = 5 + k + 1 from rfl, HS.out]; simpa using HO6
            · simp [intOf]; omega
        · obtain rfl : k = 26 := by omega
          have hjl := joinSp_len f 31
          have hnl : (namesS f (5 + 26)).length ≤ 31 := namesS_len f 31
          obtain ⟨rfl, hnc, hcm⟩ := HO.out.len
          have HN := Sec.mk HO.out.new
          have HRW := Sec.mk HO.out.row
          have HJ := joinSS (namesTo f 31)
          have HCALL : Sec (Calls Tryd.prog 23 #[.slice A (namesS f (5 + 26)).length c, .string ⟨#[32]⟩] wr (Ret (.string ⟨(joinSp (namesTo f 31)).toArray⟩) wr)) := ⟨by
            rcases Nat.eq_zero_or_pos (namesS f (5 + 26)).length with h0 | h0
            · rw [h0]
              have hz : namesTo f 31 = [] := by
                have : (namesTo f 31).length = 0 := by have h1 : (namesS f (5 + 26)).length = (namesTo f 31).length := List.length_map ..; omega
                exact List.eq_nil_of_length_eq_zero this
              refine (Tryd.strings_Join_none A c ⟨#[32]⟩ wr).mono ?_
              rintro e w1 ⟨rfl, rfl⟩
              rw [hz]
              exact ⟨rfl, Mod.refl _ _⟩
            · obtain ⟨F, ⟨inner, Fs, ⟨_, ho2⟩, _⟩, _⟩ := HO.out.ex
              rcases ho2 with ⟨hv, hz⟩ | ⟨g, cap, cur, hv, _⟩
              · omega
              injection hv with hv1 hv2 hv3
              subst hv1
              obtain ⟨bd, hbd, hbl, hcells⟩ := HRW.out.2.2 h0
              injection hbd with hbd
              subst hbd
              have hcl : ∀ (j : Nat) x, (namesS f (5 + 26))[j]? = some x → wr.cell? ⟨g, 0 + j, none⟩ = some (.string x) := fun j x hj => by
                obtain ⟨cs, hK, hu⟩ := hcells j x hj
                have hK' : cs = [.string x] := hK
                subst hK'
                have := hu 0 _ rfl
                rw [show j * Ty.string.sz + 0 = j from Nat.mul_one j, add_own] at this
                rw [Nat.zero_add]; exact this
              have hj2 : Lib.join ((namesS f (5 + 26)).map (·.data.toList)) (⟨#[32]⟩ : ByteArray).data.toList = joinSp (namesTo f 31) := HJ
              refine (Tryd.strings_Join g 0 c (namesS f (5 + 26)) ⟨#[32]⟩ wr hcl hbl.2 (by omega) hnc (by rw [hj2]; omega)).mono ?_
              rintro e w1 ⟨rfl, hb1⟩
              rw [hj2]
              exact ⟨rfl, ⟨hb1.os, hb1.tape, hb1.output, hb1.size, fun k hk _ => hb1.block k hk⟩⟩⟩
          generalize joinSp (namesTo f 31) = js at *
          go_wp2_with fail
          refine HCALL.out.mono ?_
          rintro e w1 ⟨rfl, hm1⟩
          have HN1 := Sec.mk (HN.out.transN hm1)
          clear hm1
          go_wp2
          go_ret
          refine ⟨?_, HN1.out⟩
          rw [HD.out, ← ba_app, ← ba_app]
          rfl
end Go.Proofs.YtbkccffpipcjeaaDoor
