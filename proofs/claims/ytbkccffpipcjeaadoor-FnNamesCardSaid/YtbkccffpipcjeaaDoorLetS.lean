/- The specification's reading of letters. -/
import Derived.Test.YtbkccffpipcjeaaDoorFlagS
import Derived.Test.YtbkccffpipcjeaaDoorPureLet
import Derived.Test.YtbkccffpipcjeaaDoorReg
import Derived.Test.YtbkccffpipcjeaaDoorStr
namespace Go.Proofs.YtbkccffpipcjeaaDoor
open Go.RowKit Mem
set_option linter.unusedVariables false

theorem u8Eq_run (a b : Int) (w : World) : (do eqGuard .eql 5 (.tmp 21) (.tmp 24) (.int .u8 a) (.int .u8 b); binOp .eql 5 (.int .u8 a) (.int .u8 b) : Sem Value).run Tryd.prog w = .ok (.bool (a == b)) w := by
  go_simp
theorem or_pow (g j : Nat) (hg : g < 2147483648) (hj : j < 31) : bits .or .u32 (g : Int) ((2 : Int) ^ j % 4294967296) = ((g ||| 2 ^ j : Nat) : Int) := by
  have h2 : 2 ^ j < 2 ^ 31 := Nat.pow_lt_pow_right (by decide) hj
  have ft : ∀ p : Nat, p < 4294967296 → (BitVec.ofInt 32 (p : Int)).toNat = p := fun p hp => by rw [BitVec.toNat_ofInt]; omega
  have ht : ∀ p : Nat, p < 2147483648 → ((p : Int) % 4294967296) = (p : Int) := fun p hp => by omega
  have e : ((2 : Int) ^ j % 4294967296) = ((2 ^ j : Nat) : Int) := by
    rw [show (2 : Int) ^ j = ((2 ^ j : Nat) : Int) by simp]; exact ht _ h2
  rw [e]
  have hlt : g ||| 2 ^ j < 2147483648 := Nat.or_lt_two_pow (n := 31) hg h2
  show IntKind.u32.wrap ((BitVec.ofInt 32 (g : Int) ||| BitVec.ofInt 32 ((2 ^ j : Nat) : Int)).toNat : Int) = _
  rw [BitVec.toNat_or, ft g (by omega), ft _ (Nat.lt_trans h2 (by decide)), IntKind.wrap_u32]
  exact ht _ hlt
def FlagsV (x : Bool × Int) : Value := .agg #[.bool x.1, .int .u32 x.2]
set_option maxHeartbeats 1000000 in
set_option maxRecDepth 100000 in
theorem letterFlagsSpec_calls (xs : Bytes) (hx : xs.length ≤ 140737488351232) (w : World) : Calls Tryd.prog 37 #[.string ⟨xs.toArray⟩] w (Ret (FlagsV (LetL xs)) w) := by
  have HB2 := Sec.mk (Blk.new w 28 [.bool false, .int .u32 0])
  have hsz : (⟨xs.toArray⟩ : ByteArray).size = xs.length := by simp [ByteArray.size]
  by_cases hlong : 31 < xs.length
  · have HE := Sec.mk (LetL_long hlong)
    go_enter Tryd.func37, Tryd.ntmps37
    go_wp2
    refine bodyPost_ret (results_blk rfl rfl HB2.out Tryd.underlying28 (by kernel_rfl)) rfl ?_
    rw [HE.out]
    exact ⟨rfl, (Mod.refl _ _).alloc _⟩
  · go_enter Tryd.func37, Tryd.ntmps37
    go_wp2
    go_loopw [3, 4] (fun q i wr => ∃ (k : Nat), k ≤ xs.length ∧ i = .int .i64 (k : Int) ∧ q = .int .u32 (bitsOf (xs.take k) : Int) ∧ Sec (Blk wr w.heap.size 28 [.bool false, .int .u32 0]) ∧ Sec (New w wr)) (fun _ i _ => xs.length - (intOf i).toNat)
    case atStart => exact ⟨0, by omega, rfl, rfl, HB2, ⟨(Mod.refl _ _).alloc _⟩⟩
    case round =>
      obtain ⟨k, hk, rfl, rfl, HB, HM⟩ := hrel
      clear HB2
      by_cases hlt : k < xs.length
      · have hki : (k : Int) < (xs.length : Int) := by omega
        have HS := Sec.mk (bitsOf_snoc xs hlt)
        have hbl := bitsOf_lt (xs.take k)
        have hb := UInt8.toNat_lt xs[k]
        generalize bitsOf (xs.take k) = f at *
        go_wp2
        go_loopw [3, 5] (fun q i wr => ∃ (j : Nat), j ≤ 31 ∧ i = .int .i64 (j : Int) ∧ q = .int .u32 (orL (specL.take j) xs[k].toNat f : Int) ∧ Sec (Blk wr w.heap.size 28 [.bool false, .int .u32 0]) ∧ Sec (New w wr)) (fun _ i _ => 31 - (intOf i).toNat)
        case atStart => exact ⟨0, by omega, rfl, rfl, HB, HM⟩
        case round =>
          obtain ⟨j, hj, rfl, rfl, HB, HM⟩ := hrel
          by_cases hj31 : j < 31
          · have HT := Sec.mk (orL_take specL xs[k].toNat f (k := j) (by rw [specL_len]; exact hj31))
            rw [specL_at j (by rw [specL_len]; exact hj31)] at HT
            have hL := Sec.mk (fun w => l4Letter_calls j hj31 w)
            have hll := letOf_lt j hj31
            generalize letOf j = l at *
            go_wp2
            refine reg_start [] (fun _ => True) (by kernel_rfl) ?_
            refine reg_take (.int .i64 (j : Int)) (i := 0) (n := 20) trivial rfl (by kernel_rfl) (by kernel_rfl) (by kernel_rfl) (by kernel_rfl) (fun _ _ _ h => h) (fun W _ => exec_move rfl rfl) ?_
            refine reg_take (.string ⟨xs.toArray⟩) (i := 2) (n := 22) trivial rfl (by kernel_rfl) (by kernel_rfl) (by kernel_rfl) (by kernel_rfl) (fun _ _ _ h => h) (fun W _ => exec_move rfl rfl) ?_
            refine reg_take (.int .i64 (k : Int)) (i := 3) (n := 23) trivial rfl (by kernel_rfl) (by kernel_rfl) (by kernel_rfl) (by kernel_rfl) (fun _ _ _ h => h) (fun W _ => exec_move rfl rfl) ?_
            refine reg_take (.int .u8 (xs[k].toNat : Int)) (i := 4) (n := 24) trivial rfl (by kernel_rfl) (by kernel_rfl) (by kernel_rfl) (by kernel_rfl) (fun _ _ _ h => h) (fun W _ => exec_index rfl rfl rfl (strIdx_run xs k hlt W)) ?_
            simp only [Act.put, List.setIfInBounds_toArray, List.set_cons_zero, List.set_cons_succ]
            refine reg_step (i := 1) rfl (by kernel_rfl) (fun K hK => ?_)
            refine wp_call (n := 21) (vals := [.int .i64 (j : Int)]) rfl rfl rfl (by kernel_rfl) (hL.out _) ?_
            rintro e w1 ⟨rfl, rfl⟩
            refine ⟨_, rfl, hK.out _ _ (fun _ => trivial) ?_⟩
            clear hK K
            simp only [Act.put, List.setIfInBounds_toArray, List.set_cons_zero, List.set_cons_succ]
            refine reg_step (i := 5) rfl (by kernel_rfl) (fun K hK => ?_)
            refine wp_val (n := 25) (v := .bool ((l : Int) == (xs[k].toNat : Int))) (exec_bin rfl rfl rfl (u8Eq_run _ _ _)) rfl (hK.out _ _ (fun _ => trivial) ?_)
            clear hK K
            simp only [Act.put, List.setIfInBounds_toArray, List.set_cons_zero, List.set_cons_succ]
            refine reg_done (by kernel_rfl) ?_ _
            have hol := orL_lt (specL.take j) (fun p hp => specL_bits p (List.mem_of_mem_take hp)) xs[k].toNat f hbl
            generalize hbx : xs[k].toNat = b at *
            have HX := Sec.mk hbx
            clear hbx
            generalize orL (specL.take j) b f = g at *
            have HM' := Sec.mk HM.out.drew
            have HB' := Sec.mk (HB.out.drewN 1)
            clear hL
            by_cases hlb : l = b
            · have hq : ((l : Int) == (b : Int)) = true := by simp [hlb]
              rw [if_pos hlb] at HT
              have HO := Sec.mk (or_pow g j (by omega) hj31)
              clear hlb
              go_wp2
              refine ⟨⟨j + 1, by omega, by go_num, by rw [HX.out, HT.out, HO.out], HB', HM'⟩, ?_⟩
              simp [intOf]; omega
            · have hq : ((l : Int) == (b : Int)) = false := by simp only [beq_eq_false_iff_ne, ne_eq]; omega
              rw [if_neg hlb] at HT
              clear hlb
              go_wp2
              go_roundw
              case rel => exact ⟨j + 1, by omega, by go_num, by rw [HX.out, HT.out], HB', HM'⟩
              case measure => simp [intOf]; omega
          · obtain rfl : j = 31 := by omega
            have HE : Sec (orL (specL.take 31) xs[k].toNat f = bitsOf (xs.take (k + 1))) := ⟨by rw [HS.out, ← orL_same _ _ (by omega)]; rfl⟩
            go_wp2
            go_roundw
            case rel => exact ⟨k + 1, by omega, by go_num, by rw [HE.out], HB, HM⟩
            case measure => simp [intOf]; omega
      · obtain rfl : k = xs.length := by omega
        rw [List.take_length]
        have hbl := bitsOf_lt xs
        have HD : Sec (LetL xs = if flagsL (bitsOf xs) = xs then (true, (bitsOf xs : Int)) else (false, 0)) := ⟨rfl⟩
        have HF := Sec.mk (fun w => flagLettersSpec_calls (bitsOf xs) (by omega) w)
        generalize bitsOf xs = f at *
        go_wp2_with fail
        refine (HF.out _).mono ?_
        rintro e w2 ⟨rfl, hm2⟩
        have HN2 := Sec.mk (HM.out.transN hm2)
        have HB2 := Sec.mk (HB.out.mod hm2 id)
        have hc0 : w2.cell? ⟨w.heap.size, 0, none⟩ = some (.bool false) := HB2.out.cell 0
        have hc1 : w2.cell? ⟨w.heap.size, 1, none⟩ = some (.int .u32 0) := HB2.out.cell 1
        have hf0 : w2.frozen? ⟨w.heap.size, 0, none⟩ = false := HB2.out.frozen 0
        have hf1 : w2.frozen? ⟨w.heap.size, 1, none⟩ = false := HB2.out.frozen 1
        clear hm2 HF
        by_cases he : flagsL f = xs
        · have HE : Sec (LetL xs = (true, (f : Int))) := ⟨by rw [HD.out, if_pos he]⟩
          have hz : (flagsL f == xs) = true := by simp [he]
          clear he HD
          go_wp2
          refine bodyPost_ret (results_blk rfl rfl ((HB2.out.set_ 0 (.bool true)).set_ 1 (.int .u32 f)) Tryd.underlying28 (by kernel_rfl)) rfl ?_
          rw [HE.out]
          exact ⟨rfl, (HN2.out.setCell (fun h => absurd h (by simp)) _).setCell (fun h => absurd h (by simp)) _⟩
        · have HE : Sec (LetL xs = (false, 0)) := ⟨by rw [HD.out, if_neg he]⟩
          have hz : (flagsL f == xs) = false := by simpa using he
          clear he HD
          go_wp2
          refine bodyPost_ret (results_blk rfl rfl ((HB2.out.set_ 0 (.bool false)).set_ 1 (.int .u32 0)) Tryd.underlying28 (by kernel_rfl)) rfl ?_
          rw [HE.out]
          exact ⟨rfl, (HN2.out.setCell (fun h => absurd h (by simp)) _).setCell (fun h => absurd h (by simp)) _⟩
end Go.Proofs.YtbkccffpipcjeaaDoor
