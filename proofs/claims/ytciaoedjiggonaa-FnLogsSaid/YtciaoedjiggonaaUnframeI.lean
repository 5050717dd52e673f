/- The program's reading of a log. -/
import Derived.Test.YtciaoedjiggonaaUnframeS
import Derived.Test.YtciaoedjiggonaaMbox
import Derived.WalkMore
import Derived.Test.YtciaoedjiggonaaReg
namespace Go.Proofs.Ytciaoedjiggonaa
open Go.RowKit Mem
set_option linter.unusedVariables false

theorem or_bytes (a0 a1 : Nat) (h0 : a0 < 256) (h1 : a1 < 256) : bits .or .i64 ((a0 : Int) * 256) (a1 : Int) = ((a0 * 256 + a1 : Nat) : Int) := by
  have e : a0 * 256 + a1 = a0 * 256 ||| a1 := by
    have := Nat.shiftLeft_add_eq_or_of_lt (b := a1) (i := 8) (by omega) a0
    rw [Nat.shiftLeft_eq] at this
    exact this
  have hx : (a0 * 256 ||| a1) < 65536 := by omega
  have f0 : (BitVec.ofInt 64 ((a0 : Int) * 256)).toNat = a0 * 256 := by rw [BitVec.toNat_ofInt]; omega
  have f1 : (BitVec.ofInt 64 (a1 : Int)).toNat = a1 := by rw [BitVec.toNat_ofInt]; omega
  show IntKind.i64.wrap ((BitVec.ofInt 64 ((a0 : Int) * 256) ||| BitVec.ofInt 64 (a1 : Int)).toNat : Int) = _
  rw [BitVec.toNat_or, f0, f1, e, IntKind.wrap_i64]
  omega
theorem strNe_run (xs ys : Bytes) (w : World) {b : Bool} (h : (xs == ys) = !b) : (do eqGuard .neq 9 (.tmp 51) (.tmp 54) (.string ⟨xs.toArray⟩) (.string ⟨ys.toArray⟩); binOp .neq 9 (.string ⟨xs.toArray⟩) (.string ⟨ys.toArray⟩) : Sem Value).run Try.prog w = .ok (.bool b) w := by
  have hb : b = !(xs == ys) := by rw [h]; simp
  subst hb
  clear h
  go_simp
theorem logField0 (g : Nat) (w : World) : (Instr.fieldAt 36 (.pointer (some ⟨g, 0, none⟩)) 0).run Try.prog w = .ok (.pointer (some ⟨g, 0, none⟩)) w := by
  go_simp
theorem loadBss {w : World} {p : Addr} {v : Value} (h : w.cell? p = some v) : (Instr.loadAt 23 (.pointer (some p))).run Try.prog w = .ok v w := by
  go_simp
theorem build0 (w : World) : (Instr.buildSlice 22 0 #[]).run Try.prog w = .ok (.slice (some ⟨w.heap.size, 0, none⟩) 0 0) (w.alloc (.cells #[] 5)) := by
  go_simp
theorem build1 (A : Option Addr) (n c : Nat) (w : World) : (Instr.buildSlice 23 1 #[(0, .slice A n c)]).run Try.prog w = .ok (.slice (some ⟨w.heap.size, 0, none⟩) 1 1) (w.alloc (.cells #[.slice A n c] 22)) := by
  go_simp
theorem storeBss {w : World} {p : Addr} {old : Value} {b : Option Addr} {n c : Nat} (hc : w.cell? p = some old) (hf : w.frozen? p = false) : (Instr.storeAt 23 (.pointer (some p)) (.slice b n c)).run Try.prog w = .ok () (w.setCell p (.slice b n c)) := by
  go_simp
theorem headOf_as {A : Option Addr} {n c : Nat} {xs : Bytes} {B : Nat → Prop} {w : World} (h : Row Ty.byte w B A n xs) (hB : ∀ k, B k → k < w.heap.size) (h1 : 1 ≤ n) (hl : n ≤ 2000) :
    Calls Try.prog 52 #[.slice A n c] w (RetOwn Ty.byte 5 w (headL xs)) := by
  obtain rfl := h.1
  exact headOf_calls h hB h1 hl
set_option maxHeartbeats 1000000 in
set_option maxRecDepth 100000 in
theorem unframeImpl_calls {A : Option Addr} {c : Nat} {xs : Bytes} {B : Nat → Prop} {w : World} (h : Row Ty.byte w B A xs.length xs) (hB : ∀ k, B k → k < w.heap.size) (hc : xs.length ≤ c) (hcc : c ≤ 9223372036854775807) :
    Calls Try.prog 18 #[.slice A xs.length c] w (RetV true dLog w (UnframeL xs)) := by
  have HR := Sec.mk h
  have HB := Sec.mk hB
  have HB2 := Sec.mk ((Blk.new w 36 [.slice none 0 0, .int .i64 0]).alloc (.cells #[.slice none 0 0, .int .i64 0] 36))
  have HB3 := Sec.mk (Blk.new (w.alloc (.cells #[.slice none 0 0, .int .i64 0] 36)) 36 [.slice none 0 0, .int .i64 0])
  rw [show (w.alloc (.cells #[.slice none 0 0, .int .i64 0] 36)).heap.size = w.heap.size + 1 by simp] at HB3
  clear h hB
  by_cases hbig : 40000 < xs.length
  · have HE : Sec (UnframeL xs = ([], 0)) := ⟨if_pos hbig⟩
    go_enter Try.func18, Try.ntmps18
    go_wp2
    go_step3
    go_wp2
    skip
    (try simp only [Exit.inBlock, Exit.then])
    try rw [Exit.noGoto_ret]
    refine bodyPost_ret (results_blk rfl rfl HB2.out Try.underlying36 (by kernel_rfl)) rfl ?_
    rw [HE.out]
    exact ⟨_, rfl, (owLog_of (OwI.nil _ _ _ w.heap.size _) (wrap_small (by decide) (by decide))), ((Mod.refl _ _).alloc _).alloc _⟩
  go_enter Try.func18, Try.ntmps18
  go_wp2
  go_step3
  go_wp2
  go_step3
  go_wp2
  go_loopw [4] (fun v wr => ∃ (rs : List Bytes) (g : Nat) (A' : Option Addr) (n' c' : Nat),
      Sec (Blk wr (w.heap.size + 1) 36 [.slice A' n' c', .int .i64 g]) ∧ wr.cell? ⟨w.heap.size + 1, 0, none⟩ = some (.slice A' n' c') ∧ wr.cell? ⟨w.heap.size + 1, 1, none⟩ = some (.int .i64 g) ∧
      Sec (Blk wr w.heap.size 36 [.slice none 0 0, .int .i64 0]) ∧ Sec (OwI tB 22 wr (w.heap.size + 2) wr.heap.size (.slice A' n' c') rs) ∧ Sec (New w wr) ∧ Sec (UnSt xs rs g) ∧ g ≤ xs.length) (fun _ wr => xs.length - (intOf ((wr.cell? ⟨w.heap.size + 1, 1, none⟩).getD undef)).toNat)
  case atStart => exact ⟨[], 0, none, 0, 0, HB3, HB3.out.cell 0, HB3.out.cell 1, HB2, ⟨OwI.nil _ _ _ _ _⟩, ⟨((Mod.refl _ _).alloc _).alloc _⟩, ⟨UnSt.start (by omega)⟩, by omega⟩
  case round =>
    obtain ⟨rs, g, A', n', c', HBo, hc0, hc1, HBr, HO, HM, HU, hg⟩ := hrel
    clear HB2 HB3
    have hf0 : wr.frozen? ⟨w.heap.size + 1, 0, none⟩ = false := HBo.out.frozen 0
    have hf1 : wr.frozen? ⟨w.heap.size + 1, 1, none⟩ = false := HBo.out.frozen 1
    have hr0 : wr.cell? ⟨w.heap.size, 0, none⟩ = some (.slice none 0 0) := HBr.out.cell 0
    have hr1 : wr.cell? ⟨w.heap.size, 1, none⟩ = some (.int .i64 0) := HBr.out.cell 1
    have hrf0 : wr.frozen? ⟨w.heap.size, 0, none⟩ = false := HBr.out.frozen 0
    have hrf1 : wr.frozen? ⟨w.heap.size, 1, none⟩ = false := HBr.out.frozen 1
    have HD : Sec (okFirst (xs.drop g) ↔ 6 ≤ (xs.drop g).length ∧ 1 ≤ firstN (xs.drop g) ∧ firstN (xs.drop g) ≤ 2000 ∧ 6 + firstN (xs.drop g) ≤ (xs.drop g).length ∧ headL (recOf (xs.drop g)) = (xs.drop g).take 6) := ⟨Iff.rfl⟩
    have HSTOP : Sec (¬ okFirst (xs.drop g) → ∀ W, New wr W → RetV true dLog w (UnframeL xs) (.returned (.agg #[.slice A' n' c', .int .i64 g])) ((W.setCell ⟨w.heap.size, 0, none⟩ (.slice A' n' c')).setCell ⟨w.heap.size, 1, none⟩ (.int .i64 g))) := ⟨fun hno W hW => by
      rw [HU.out.stop hno]
      have hlo := HBo.out.lt
      have hs := hW.size
      exact ⟨_, rfl, owLog_of ((((HO.out.new hW).keep (S := fun k => k < w.heap.size + 2) (Mod.setCell (Mod.setCell (Mod.refl _ _) (fun _ => by simp) _) (fun _ => by simp) _) (fun k h1 h2 h3 => by omega))).wide (by omega) (by simp [World.setCell]; omega)) (wrap_small (by omega) (by omega)), ((HM.out.transN hW).setCell (fun h => absurd h (by simp)) _).setCell (fun h => absurd h (by simp)) _⟩⟩
    by_cases h6 : xs.length - g < 6
    · have HN : Sec (¬ okFirst (xs.drop g)) := ⟨fun h => by have := h.1; rw [List.length_drop] at this; omega⟩
      go_wp2
      (try simp only [Exit.inBlock, Exit.then])
      try rw [Exit.noGoto_ret]
      refine bodyPost_ret (results_blk rfl rfl ((HBr.out.set_ 0 (.slice A' n' c')).set_ 1 (.int .i64 g)) Try.underlying36 (by kernel_rfl)) rfl ?_
      exact HSTOP.out HN.out _ (Mod.refl _ _)
    have hrow := HR.out.cut hg (Nat.le_refl _) hc
    rw [List.take_length, show g * Ty.byte.sz = g from Nat.mul_one g, if_neg (by omega)] at hrow
    have HRW := Sec.mk hrow
    obtain ⟨b, off, hA, hb, hcell⟩ := Row.plainB hrow (by omega)
    rw [hA] at HRW
    have hlen : (xs.drop g).length = xs.length - g := List.length_drop
    have HLEN := Sec.mk hlen
    clear hrow
    obtain ⟨a0, a1, hx0, hx1, hfn, hb0, hb1⟩ : ∃ a0 a1 : Nat, wr.cell? ⟨b, off, none⟩ = some (.int .u8 (a0 : Int)) ∧ wr.cell? ⟨b, off + 1, none⟩ = some (.int .u8 (a1 : Int)) ∧ firstN (xs.drop g) = a0 * 256 + a1 ∧ a0 < 256 ∧ a1 < 256 :=
      ⟨((xs.drop g)[0]'(by omega)).toNat, ((xs.drop g)[1]'(by omega)).toNat, (World.cell?_of_block (HM.out.block b (HB.out b hb) id)).trans (hcell 0 (by omega)), (World.cell?_of_block (HM.out.block b (HB.out b hb) id)).trans (hcell 1 (by omega)),
        by unfold firstN; rw [List.getD_eq_getElem?_getD, List.getD_eq_getElem?_getD, List.getElem?_eq_getElem (by omega), List.getElem?_eq_getElem (by omega)]; rfl, UInt8.toNat_lt _, UInt8.toNat_lt _⟩
    have hi0 : (0 : Int) < ((xs.length - g : Nat) : Int) := by omega
    have hi1 : (1 : Int) < ((xs.length - g : Nat) : Int) := by omega
    have hi2 : 0 < xs.length - g := by omega
    have hi3 : 1 < xs.length - g := by omega
    have hg6 : ¬ c = g := by omega
    have HRL := Sec.mk (recOf_len (xs := xs.drop g))
    have HRC : Sec (recOf (xs.drop g) = ((xs.drop g).take (6 + (a0 * 256 + a1))).drop 6) := ⟨by unfold recOf; rw [hfn]⟩
    rw [hfn] at HD HRL
    have HFN := Sec.mk hfn
    have hor := or_bytes a0 a1 hb0 hb1
    rw [Int.natCast_add, Int.natCast_mul] at hor
    clear hcell hlen hfn
    by_cases hn1 : a0 * 256 + a1 < 1
    · have HN : Sec (¬ okFirst (xs.drop g)) := ⟨fun h => by have := (HD.out.1 h).2.1; omega⟩
      go_wp2
      go_quiet (fail)
      go_wp2
      (try simp only [Exit.inBlock, Exit.then])
      try rw [Exit.noGoto_ret]
      refine bodyPost_ret (results_blk rfl rfl (((HBr.out.drewN _).set_ 0 (.slice A' n' c')).set_ 1 (.int .i64 g)) Try.underlying36 (by kernel_rfl)) rfl ?_
      exact HSTOP.out HN.out _ ((Mod.refl _ _).drewN _)
    by_cases hn2 : 2000 < a0 * 256 + a1
    · have HN : Sec (¬ okFirst (xs.drop g)) := ⟨fun h => by have := (HD.out.1 h).2.2.1; omega⟩
      go_wp2
      go_quiet (fail)
      go_wp2
      (try simp only [Exit.inBlock, Exit.then])
      try rw [Exit.noGoto_ret]
      refine bodyPost_ret (results_blk rfl rfl (((HBr.out.drewN _).set_ 0 (.slice A' n' c')).set_ 1 (.int .i64 g)) Try.underlying36 (by kernel_rfl)) rfl ?_
      exact HSTOP.out HN.out _ ((Mod.refl _ _).drewN _)
    by_cases hn3 : xs.length - g < 6 + (a0 * 256 + a1)
    · have HN : Sec (¬ okFirst (xs.drop g)) := ⟨fun h => by have := (HD.out.1 h).2.2.2.1; rw [HLEN.out] at this; omega⟩
      go_wp2
      go_quiet (fail)
      go_wp2
      (try simp only [Exit.inBlock, Exit.then])
      try rw [Exit.noGoto_ret]
      refine bodyPost_ret (results_blk rfl rfl (((HBr.out.drewN _).set_ 0 (.slice A' n' c')).set_ 1 (.int .i64 g)) Try.underlying36 (by kernel_rfl)) rfl ?_
      exact HSTOP.out HN.out _ ((Mod.refl _ _).drewN _)
    have hlr := HRL.out (by rw [HLEN.out]; omega)
    have HRQ : Sec (∀ (W : World) (n : Nat), n = a0 * 256 + a1 → (∀ k, B k → W.heap[k]? = wr.heap[k]?) → Row Ty.byte W B (some ⟨b, off + 6, none⟩) n (recOf (xs.drop g))) := ⟨fun W n hn hW => by
      have h1 := HRW.out.cut1 (k := 6) (m := 6 + (a0 * 256 + a1)) (by omega) (by omega)
      rw [← HRC.out, show (⟨b, off, none⟩ : Addr).add 6 = ⟨b, off + 6, none⟩ from by simp [Addr.add], Nat.add_sub_cancel_left] at h1
      subst hn
      exact h1.mod (fun _ h => h) (fun k hk => (hW k hk).trans (HM.out.block k (HB.out k hk) id))⟩
    have HCV : Sec (∀ W : World, (∀ k, B k → W.heap[k]? = wr.heap[k]?) → (convert 22 9 (.slice (some ⟨b, off, none⟩) 6 (c - g))).run Try.prog W = .ok (.string ⟨((xs.drop g).take 6).toArray⟩) W) := ⟨fun W hW => by
      have h1 := (HRW.out.take (m := 6) (by omega)).mod (B' := B) (fun _ h => h) (fun k hk => (hW k hk).trans (HM.out.block k (HB.out k hk) id))
      exact h1.conv (P := Try.prog) Try.underlying22 Try.underlying5 Try.underlying9 (c - g)⟩
    have HBL : Sec (∀ k, B k → k < wr.heap.size) := ⟨fun k hk => Nat.lt_of_lt_of_le (HB.out k hk) HM.out.size⟩
    have HLR := Sec.mk hlr
    clear hlr
    have hs6 : (6 : Int) ≤ ((c - g : Nat) : Int) := by omega
    have hs7 : 6 ≤ c - g := by omega
    have hs8 : (6 : Int) ≤ ((xs.length - g : Nat) : Int) := by omega
    obtain ⟨bv, hne, HF, HT⟩ : ∃ bv, (headL (recOf (xs.drop g)) == (xs.drop g).take 6) = !bv ∧ Sec (bv = false → okFirst (xs.drop g)) ∧ Sec (bv = true → ¬ okFirst (xs.drop g)) :=
      ⟨!(headL (recOf (xs.drop g)) == (xs.drop g).take 6), by simp, ⟨fun h => HD.out.2 ⟨by rw [HLEN.out]; omega, by omega, by omega, by rw [HLEN.out]; omega, by simpa using h⟩⟩, ⟨fun h hk => by have := (HD.out.1 hk).2.2.2.2; simp [this] at h⟩⟩
    have HU1 : Sec (okFirst (xs.drop g) → UnSt xs (rs ++ [recOf (xs.drop g)]) (g + (6 + (a0 * 256 + a1)))) := ⟨fun h => by have := HU.out.next h; rw [HFN.out] at this; exact this⟩
    generalize recOf (xs.drop g) = r at *
    generalize (xs.drop g).take 6 = hd at *
    generalize hH : headL r = hl at *
    have HH := Sec.mk hH
    clear hH
    go_wp2
    go_quiet (fail)
    go_wp2_with fail
    have HSS : Sec (∀ k, B k → (wr.drewN nq).drew.heap[k]? = wr.heap[k]?) := ⟨fun _ _ => rfl⟩
    refine reg_start [] (fun W => Sec (∀ k, B k → W.heap[k]? = wr.heap[k]?)) (by kernel_rfl) ?_
    refine reg_take (.slice (some ⟨b, off + 6, none⟩) (6 + (a0 * 256 + a1) - 6) (c - g - 6)) (i := 0) (n := 49) HSS rfl (by kernel_rfl) (by kernel_rfl) (by kernel_rfl) (by kernel_rfl) (fun _ _ _ h => h) (fun W hW => exec_move rfl rfl) ?_
    refine reg_take (.slice (some ⟨b, off, none⟩) (List.length xs - g) (c - g)) (i := 3) (n := 52) HSS rfl (by kernel_rfl) (by kernel_rfl) (by kernel_rfl) (by kernel_rfl) (fun _ _ _ h => h) (fun W hW => exec_move rfl rfl) ?_
    refine reg_take (.slice (some ⟨b, off, none⟩) 6 (c - g)) (i := 4) (n := 53) HSS rfl (by kernel_rfl) (by kernel_rfl) (by kernel_rfl) (by kernel_rfl) (fun _ _ _ h => h) (fun W hW => exec_slice rfl rfl rfl rfl rfl (slice_to Try.underlying22 hs7 (by kernel_rfl))) ?_
    refine reg_take (.string ⟨hd.toArray⟩) (i := 5) (n := 54) HSS rfl (by kernel_rfl) (by kernel_rfl) (by kernel_rfl) (by kernel_rfl) (fun _ _ _ h => h) (fun W hW => exec_convert rfl (HCV.out W hW.out)) ?_
    simp only [Act.put, List.setIfInBounds_toArray, List.set_cons_zero, List.set_cons_succ]
    refine reg_step (i := 1) rfl (by kernel_rfl) (fun K hK => ?_)
    refine wp_call (n := 50) (vals := [.slice (some ⟨b, off + 6, none⟩) (6 + (a0 * 256 + a1) - 6) (c - g - 6)]) rfl rfl rfl (by kernel_rfl) (headOf_as (HRQ.out (wr.drewN nq).drew _ (Nat.add_sub_cancel_left _ _) (fun _ _ => rfl)) (fun k hk => HBL.out k hk) (by omega) (by omega)) ?_
    rw [HH.out]; rintro e w2 h2; obtain ⟨A2, c2, rfl, HO2⟩ := h2.mine; have hm2 := HO2.new; have hcv2 := HO2.row.conv (P := Try.prog) Try.underlying22 Try.underlying5 Try.underlying9 c2; clear h2
    have HS2 : Sec (∀ k, B k → w2.heap[k]? = wr.heap[k]?) := ⟨fun k hk => hm2.block k (HBL.out k hk) id⟩
    refine ⟨_, rfl, hK.out _ _ (fun _ => HS2) ?_⟩
    clear hK K
    simp only [Act.put, List.setIfInBounds_toArray, List.set_cons_zero, List.set_cons_succ]
    refine reg_step (i := 2) rfl (by kernel_rfl) (fun K hK => ?_)
    refine wp_val (n := 51) (v := .string ⟨hl.toArray⟩) (exec_convert (src := 22) (dst := 9) (x := .tmp 50) rfl hcv2) rfl (hK.out _ _ (fun _ => HS2) ?_)
    clear hK K
    simp only [Act.put, List.setIfInBounds_toArray, List.set_cons_zero, List.set_cons_succ]
    refine reg_step (i := 6) rfl (by kernel_rfl) (fun K hK => ?_)
    refine wp_val (n := 55) (v := .bool bv) (exec_bin rfl rfl rfl ?_) rfl (hK.out _ _ (fun _ => HS2) ?_)
    · exact strNe_run hl hd w2 hne
    clear hK K
    simp only [Act.put, List.setIfInBounds_toArray, List.set_cons_zero, List.set_cons_succ]
    refine reg_done (by kernel_rfl) ?_ _
    have hnw : New wr w2 := ((Mod.refl _ _).drewN nq).drew.transN hm2
    have hlo : w.heap.size + 1 < wr.heap.size := HBo.out.lt
    have hsz := hnw.size
    have HB3 := Sec.mk (HBo.out.mod hnw id)
    have HB4 := Sec.mk (HBr.out.mod hnw id)
    cases bv
    rotate_left
    · have hc0' : w2.cell? ⟨w.heap.size + 1, 0, none⟩ = some (.slice A' n' c') := HB3.out.cell 0
      have hc1' : w2.cell? ⟨w.heap.size + 1, 1, none⟩ = some (.int .i64 g) := HB3.out.cell 1
      have hr0' : w2.cell? ⟨w.heap.size, 0, none⟩ = some (.slice none 0 0) := HB4.out.cell 0
      have hr1' : w2.cell? ⟨w.heap.size, 1, none⟩ = some (.int .i64 0) := HB4.out.cell 1
      have hrf0' : w2.frozen? ⟨w.heap.size, 0, none⟩ = false := HB4.out.frozen 0
      have hrf1' : w2.frozen? ⟨w.heap.size, 1, none⟩ = false := HB4.out.frozen 1
      have HN := Sec.mk (HT.out rfl)
      have HNW := Sec.mk hnw
      clear hne hm2 hcv2 HO2 hnw
      go_wp2
      (try simp only [Exit.inBlock, Exit.then])
      try rw [Exit.noGoto_ret]
      refine bodyPost_ret (results_blk rfl rfl ((HB4.out.set_ 0 (.slice A' n' c')).set_ 1 (.int .i64 g)) Try.underlying36 (by kernel_rfl)) rfl ?_
      exact HSTOP.out HN.out _ HNW.out
    have HUN := Sec.mk (HU1.out (HF.out rfl))
    go_wp2
    have HM2 := Sec.mk (HM.out.transN hnw)
    have HO3 := Sec.mk (HO.out.new hnw)
    have hs2 := HM2.out.size
    have hBc : Sec (∀ W, New w2 W → W.cell? ⟨w.heap.size + 1, 0, none⟩ = some (.slice A' n' c')) := ⟨fun W hm => (HB3.out.mod hm id).cell 0⟩
    have hc0' : w2.drew.cell? ⟨w.heap.size + 1, 0, none⟩ = some (.slice A' n' c') := HB3.out.cell 0
    refine reg_start [8] (fun W => Sec (W.cell? ⟨w.heap.size + 1, 0, none⟩ = some (.slice A' n' c'))) (by kernel_rfl) ?_
    have HSS := Sec.mk hc0'
    refine reg_take (.pointer (some ⟨w.heap.size + 1, 0, none⟩)) (i := 0) (n := 56) HSS rfl (by kernel_rfl) (by kernel_rfl) (by kernel_rfl) (by kernel_rfl) (fun _ _ _ h => h) (fun W hW => exec_field rfl rfl (logField0 _ _)) ?_
    refine reg_take (.slice A' n' c') (i := 1) (n := 57) HSS rfl (by kernel_rfl) (by kernel_rfl) (by kernel_rfl) (by kernel_rfl) (fun _ _ _ h => h) (fun W hW => exec_load rfl rfl (loadBss hW.out)) ?_
    refine reg_take (.slice (some ⟨b, off + 6, none⟩) (a0 * 256 + a1) (c - g - 6)) (i := 3) (n := 59) HSS rfl (by kernel_rfl) (by kernel_rfl) (by kernel_rfl) (by kernel_rfl) (fun _ _ _ h => h) (fun W hW => exec_move rfl rfl) ?_
    simp only [Act.put, List.setIfInBounds_toArray, List.set_cons_zero, List.set_cons_succ]
    refine reg_step (i := 2) rfl (by kernel_rfl) (fun K hK => ?_)
    have HE3 := Mine.lit0 (w0 := w2.drew) (w := w2.drew) 5 rfl (Mod.refl _ _)
    refine wp_valw (n := 58) (v := .slice (some ⟨w2.heap.size, 0, none⟩) 0 0) (w' := w2.drew.alloc (.cells #[] 5)) (exec_buildSlice (parts := []) (vs := []) rfl rfl (build0 _)) rfl (hK.out _ _ (fun _ => ⟨hBc.out _ ((Mod.refl _ _).drew.alloc _)⟩) ?_)
    clear hK K
    simp only [Act.put, List.setIfInBounds_toArray, List.set_cons_zero, List.set_cons_succ]
    refine reg_step (i := 4) rfl (by kernel_rfl) (fun K hK => ?_)
    refine wp_appI _ (.tmp 58) (.tmp 59) _ rfl Try.underlying22 elt_byte flat_byte rfl rfl HE3.owi (HRQ.out (w2.drew.alloc (.cells #[] 5)) _ rfl (fun k hk => ((((Mod.refl (fun _ => False) w2).drew.alloc _).block k (by have := HBL.out k hk; omega) id).trans (HS2.out k hk)))) (by simp) (by have := HLR.out; simp; omega) ?_
    intro A3 n3 c3 w4 HO4 hm4
    have hm4' : New w2 w4 := ((Mod.refl _ _).drew.alloc _).trans hm4 (fun i hi hlt => by simp at hi; omega)
    have hs4 := hm4'.size
    refine hK.out _ _ (fun _ => ⟨hBc.out _ hm4'⟩) ?_
    clear hK K
    obtain ⟨F4, ho4, hF4⟩ := HO4
    simp only [Act.put, List.setIfInBounds_toArray, List.set_cons_zero, List.set_cons_succ]
    refine reg_step (i := 5) rfl (by kernel_rfl) (fun K hK => ?_)
    refine wp_valw (n := 61) (v := .slice (some ⟨w4.heap.size, 0, none⟩) 1 1) (w' := w4.alloc (.cells #[.slice A3 n3 c3] 22)) (exec_buildSlice (parts := [(0, .tmp 60)]) (vs := [(0, .slice A3 n3 c3)]) rfl rfl (build1 _ _ _ _)) rfl (hK.out _ _ (fun _ => ⟨hBc.out _ (hm4'.alloc _)⟩) ?_)
    clear hK K
    simp only [Act.put, List.setIfInBounds_toArray, List.set_cons_zero, List.set_cons_succ]
    refine reg_step (i := 6) rfl (by kernel_rfl) (fun K hK => ?_)
    have hn5 : New wr (w4.alloc (.cells #[.slice A3 n3 c3] 22)) := (hnw.transN hm4').alloc _
    have hrl := HLR.out
    have hfew := HU.out.few
    refine wp_appO _ (.tmp 57) (.tmp 61) _ rfl Try.underlying23 elt_b rfl rfl (HO.out.new hn5) (y := r) (G := F4) ⟨_, rfl, ho4.new ((Mod.refl _ _).alloc _)⟩ (fun k hk => by have := (hF4 k hk).1; simp at this; omega) (lit_cells _ _ _ rfl) (show w.heap.size + 2 ≤ wr.heap.size by omega) (show wr.heap.size ≤ _ by simp; omega) (by omega) ?_
    intro A6 n6 c6 w6 HO6 hm6
    have HB6 := (HBo.out.mod hn5 id).mod hm6 (by omega)
    have HR6 := (HBr.out.mod hn5 id).mod hm6 (by omega)
    have HN6 := (HM.out.transN hn5).trans hm6 (fun i hi hlt => by omega)
    have hs6 := hm6.size
    refine hK.out _ _ (fun _ => ⟨HB6.cell 0⟩) ?_
    clear hK K
    simp only [Act.put, List.setIfInBounds_toArray, List.set_cons_zero, List.set_cons_succ]
    refine reg_take (.pointer (some ⟨w.heap.size + 1, 0, none⟩)) (i := 7) (n := 63) (Sec.mk (HB6.cell 0)) rfl (by kernel_rfl) (by kernel_rfl) (by kernel_rfl) (by kernel_rfl) (fun _ _ _ h => h) (fun W hW => exec_field rfl rfl (logField0 _ _)) ?_
    simp only [Act.put, List.setIfInBounds_toArray, List.set_cons_zero, List.set_cons_succ]
    refine reg_step (i := 8) rfl (by kernel_rfl) (fun K hK => ?_)
    refine wp_store rfl rfl rfl rfl (storeBss (HB6.cell 0) (HB6.frozen 0)) (hK.out _ _ (fun h => absurd (List.mem_singleton.2 rfl) h) ?_)
    clear hK K
    refine reg_done (by kernel_rfl) ?_ _
    have HB7 := HB6.set_ 0 (.slice A6 n6 c6)
    have HR7 := HR6.far (p := ⟨w.heap.size + 1, 0, none⟩) (by simp) (.slice A6 n6 c6)
    have hk0 := HB7.cell 0
    have hk1 := HB7.cell 1
    have hf70 := HB7.frozen 0
    have hf71 := HB7.frozen 1
    simp only [List.set_cons_zero, List.set_cons_succ, List.getElem?_cons_zero, List.getElem?_cons_succ] at hk0 hk1 HB7
    have HO7 := HO6.keep (S := fun k => k < w.heap.size + 2) (Mod.setCell (Mod.refl _ w6) (p := ⟨w.heap.size + 1, 0, none⟩) (fun _ => by simp) (.slice A6 n6 c6)) (fun k h1 h2 h3 => by omega)
    have HN7 := HN6.setCell (p := ⟨w.heap.size + 1, 0, none⟩) (fun h => absurd h (by simp)) (.slice A6 n6 c6)
    have hs7 : (w6.setCell ⟨w.heap.size + 1, 0, none⟩ (.slice A6 n6 c6)).heap.size = w6.heap.size := by simp [World.setCell]
    have hgl := HUN.out.le
    generalize w6.setCell ⟨w.heap.size + 1, 0, none⟩ (.slice A6 n6 c6) = w7 at *
    have HB7s := Sec.mk HB7
    have HR7s := Sec.mk HR7
    have HO7s := Sec.mk HO7
    have HN7s := Sec.mk HN7
    clear HB7 HR7 HO7 HN7 HB6 HR6 HN6 HO6 hn5 hm6 hm4' hm4 hm2 hcv2 HO2 hne hnw ho4
    go_wp2
    have e1 : ((g : Int) + (6 + ((a0 : Int) * 256 + (a1 : Int)))) = ((g + (6 + (a0 * 256 + a1)) : Nat) : Int) := by omega
    have hbf := HB7s.out.set_ 1 (.int .i64 ((g : Int) + (6 + ((a0 : Int) * 256 + (a1 : Int)))))
    simp only [List.set_cons_zero, List.set_cons_succ] at hbf
    refine ⟨?rel, ?measure⟩
    case rel =>
      rw [e1] at hbf ⊢
      refine ⟨rs ++ [r], g + (6 + (a0 * 256 + a1)), A6, n6, c6, ⟨hbf⟩, hbf.cell 0, hbf.cell 1, ⟨HR7s.out.far (by simp) _⟩, ⟨?_⟩, ⟨HN7s.out.setCell (fun h => absurd h (by simp)) _⟩, HUN, hgl⟩
      exact (HO7s.out.keep (S := fun k => k < w.heap.size + 2) (Mod.setCell (Mod.refl _ _) (fun _ => by simp) _) (fun k h1 h2 h3 => by omega)).wide (Nat.le_refl _) (by simp [World.setCell]; omega)
    case measure =>
      have h5 := hbf.cell 1
      simp only [List.getElem?_cons_succ, List.getElem?_cons_zero] at h5
      rw [h5, hc1]
      simp [intOf]; omega
end Go.Proofs.Ytciaoedjiggonaa
