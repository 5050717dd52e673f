/- The program's reading of a mail's name. -/
import Derived.Test.YtbkccffpipcjeaaDoorMailS
import Derived.Test.YtbkccffpipcjeaaDoorErrs
import Derived.Test.YtbkccffpipcjeaaDoorLetI
import Derived.Test.YtbkccffpipcjeaaDoorSplitI
namespace Go.Proofs.YtbkccffpipcjeaaDoor
open Go.RowKit Mem
set_option linter.unusedVariables false
def MailMem (w : World) : Prop := NameMem w ∧ IntAt w ∧ ErrAt 4 w ∧ ErrAt 5 w
theorem MailMem.new {w w' : World} (h : MailMem w) (hm : New w w') : MailMem w' := ⟨h.1.new hm, h.2.1.new hm, h.2.2.1.new hm, h.2.2.2.new hm⟩
theorem cut3_calls (ys : Bytes) (hy : ys.length ≤ 16777216) {w : World} (hI : IntAt w) : Calls Tryd.prog 39 #[.string ⟨ys.toArray⟩, .string ⟨#[58, 50, 44]⟩] w (Ret (.tuple #[.string ⟨(Lib.cut ys [58, 50, 44]).1.toArray⟩, .string ⟨(Lib.cut ys [58, 50, 44]).2.1.toArray⟩, .bool (Lib.cut ys [58, 50, 44]).2.2]) w) := by
  obtain ⟨m, hm⟩ := hI
  have hsz : (⟨ys.toArray⟩ : ByteArray).size = ys.length := by simp [ByteArray.size]
  refine (Tryd.strings_Cut ⟨ys.toArray⟩ ⟨#[58, 50, 44]⟩ m w (by omega) hm).mono ?_
  rintro e w' ⟨rfl, n, rfl⟩
  exact ⟨rfl, (Mod.refl _ _).drewN _⟩
theorem cut3_len (ys : Bytes) : (Lib.cut ys [58, 50, 44]).1.length ≤ ys.length ∧ (Lib.cut ys [58, 50, 44]).2.1.length ≤ ys.length := by
  unfold Lib.cut
  split
  · simp; omega
  · simp
set_option maxHeartbeats 4000000 in
set_option maxRecDepth 100000 in
theorem readMailImpl_calls (xs : Bytes) (hx : xs.length ≤ 1048576) {w : World} (hE : MailMem w) : Calls Tryd.prog 16 #[.string ⟨xs.toArray⟩] w (Ret (MailedV (RMN xs)) w) := by
  have hsz : (⟨xs.toArray⟩ : ByteArray).size = xs.length := by simp [ByteArray.size]
  have HR1 := Sec.mk (Blk.new w 33 [.bool false, .int .u32 0, .int .i64 0, .int .u32 0])
  have HM1 := Sec.mk ((Mod.refl (fun _ => False) w).alloc (.cells #[.bool false, .int .u32 0, .int .i64 0, .int .u32 0] 33))
  have HE1 := Sec.mk (hE.new HM1.out)
  have HPX : Sec (∀ w, Calls Tryd.prog 38 #[.string ⟨xs.toArray⟩, .string ⟨#[99, 117, 114, 47]⟩] w fun e w' => e = .returned (.tuple #[.string ⟨(Lib.trimPrefix xs [99, 117, 114, 47]).toArray⟩, .bool (Lib.hasPrefix xs [99, 117, 114, 47])]) ∧ w' = w) := ⟨fun w => Tryd.strings_CutPrefix ⟨xs.toArray⟩ ⟨#[99, 117, 114, 47]⟩ w⟩
  have HKP : Sec (∀ u s f, Valid u s f → MailNameL u (s : Int) f = xs → Lib.hasPrefix xs [99, 117, 114, 47] = true ∧ Lib.trimPrefix xs [99, 117, 114, 47] = Lib.decDigits u ++ 46 :: (Lib.decDigits s ++ 58 :: (50 :: 44 :: flagsL f))) := ⟨fun u s f hv e => by rw [← e]; exact name_prefix hv⟩
  have hrl : (Lib.trimPrefix xs [99, 117, 114, 47]).length ≤ 1048576 := by
    unfold Lib.trimPrefix
    split
    · rw [List.length_drop]; omega
    · exact hx
  generalize Lib.trimPrefix xs [99, 117, 114, 47] = r at *
  generalize Lib.hasPrefix xs [99, 117, 114, 47] = ok at *
  have HC1 := Sec.mk (fun w hI => cut_calls r (by omega) 46 (w := w) hI)
  have HK1 : Sec (∀ u s f, Valid u s f → MailNameL u (s : Int) f = xs → cutL 46 r = (Lib.decDigits u, Lib.decDigits s ++ 58 :: (50 :: 44 :: flagsL f), true)) := ⟨fun u s f hv e => by rw [(HKP.out u s f hv e).2]; exact cut46 u _⟩
  have hdl : (cutL 46 r).1.length ≤ 1048576 ∧ (cutL 46 r).2.1.length ≤ 1048576 := by
    cases hq : (cutL 46 r).2.2
    · rw [cutL_no 46 _ hq]; simp; omega
    · have := cutL_len 46 _ hq; omega
  generalize cutL 46 r = d at *
  obtain ⟨d1, r2, ok2⟩ := d
  simp only at HC1 hdl
  have HC2 := Sec.mk (fun w hI => cut3_calls r2 (by omega) (w := w) hI)
  have HK2 : Sec (∀ u s f, Valid u s f → MailNameL u (s : Int) f = xs → Lib.cut r2 [58, 50, 44] = (Lib.decDigits s, flagsL f, true)) := ⟨fun u s f hv e => by
    have h := HK1.out u s f hv e
    injection h with _ h
    injection h with h _
    rw [h]; exact cut3_app _ _ (dec_no58 s)⟩
  have hcl := cut3_len r2
  generalize Lib.cut r2 [58, 50, 44] = c at *
  obtain ⟨d2, zs, ok3⟩ := c
  simp only at HC2 hcl
  have hl1 : (⟨d1.toArray⟩ : ByteArray).size = d1.length := by simp [ByteArray.size]
  have hl2 : (⟨d2.toArray⟩ : ByteArray).size = d2.length := by simp [ByteArray.size]
  have HU := Sec.mk (fun w (h : MailMem w) => parseUint_calls ⟨d1.toArray⟩ (by omega) (w := w) h.2.2.1 h.2.2.2)
  have HS := Sec.mk (fun w (h : MailMem w) => parseInt_calls ⟨d2.toArray⟩ (by omega) (w := w) h.2.2.1 h.2.2.2)
  have HL := Sec.mk (fun w (h : MailMem w) => letterFlagsImpl_calls zs (by omega) (w := w) h.1.2.1 h.1.2.2)
  have HKL : Sec (∀ u s f, Valid u s f → MailNameL u (s : Int) f = xs → ok = true ∧ ok2 = true ∧ ok3 = true ∧ Lib.parseUintB 32 d1 = .ok u ∧ Lib.parseIntB 64 d2 = .ok (s : Int) ∧ LetL zs = (true, (f : Int))) := ⟨fun u s f hv e => by
    have h1 := HK1.out u s f hv e
    have h2 := HK2.out u s f hv e
    injection h1 with h11 h12
    injection h12 with _ h13
    injection h2 with h21 h22
    injection h22 with h22 h23
    rw [h11, h21, h22]
    exact ⟨(HKP.out u s f hv e).1, h13, h23, parseU_dec hv.2.1, parseI_dec hv.2.2.1, LetL_flags f hv.2.2.2⟩⟩
  obtain ⟨g, hg, hgl, -⟩ := LetL_form zs
  generalize LetL zs = l at *
  obtain ⟨lok, lf⟩ := l
  obtain rfl : lf = (g : Int) := by injection hgl
  simp only [FlagsV] at HL
  clear hgl HKP HK1 HK2 hE
  go_enter Tryd.func16, Tryd.ntmps16
  go_wp2_with fail
  refine (HPX.out _).mono ?_
  rintro e w1 ⟨rfl, rfl⟩
  go_wp2_with fail
  refine (HC1.out _ HE1.out.2.1).mono ?_
  rintro e w2 ⟨rfl, hm2⟩
  have HM2 := Sec.mk hm2
  have HE2 := Sec.mk (HE1.out.new HM2.out)
  clear hm2
  go_wp2_with fail
  refine (HC2.out _ HE2.out.2.1).mono ?_
  rintro e w3 ⟨rfl, hm3⟩
  have HM3 := Sec.mk (HM2.out.transN hm3)
  have HE3 := Sec.mk (HE1.out.new HM3.out)
  clear hm3
  go_wp2_with fail
  refine (HU.out _ HE3.out).mono ?_
  rintro e w4 ⟨u, er1, q1, rfl, he1, hu1, hu2, hm4⟩
  have HM4 := Sec.mk (HM3.out.transN hm4)
  have HE4 := Sec.mk (HE1.out.new HM4.out)
  have HV1 := Sec.mk he1
  have HU1 := Sec.mk hu1
  have HU2 := Sec.mk hu2
  clear hm4 he1 hu1 hu2
  go_wp2_with fail
  refine (HS.out _ HE4.out).mono ?_
  rintro e w5 ⟨v, er2, q2, rfl, he2, hvw, hv1, hv2, hm5⟩
  have HM5 := Sec.mk (HM4.out.transN hm5)
  have HE5 := Sec.mk (HE1.out.new HM5.out)
  have HV2 := Sec.mk he2
  have HW2 := Sec.mk hvw
  have HS1 := Sec.mk hv1
  have HS2 := Sec.mk hv2
  clear hm5 he2 hvw hv1 hv2
  go_wp2_with fail
  refine (HL.out _ HE5.out).mono ?_
  rintro e w6 ⟨rfl, hm6⟩
  have HR7 := Sec.mk (HR1.out.mod (HM5.out.transN hm6) id)
  have HW7 := Sec.mk (HM1.out.transN (HM5.out.transN hm6))
  have HE6 := Sec.mk (HE1.out.new (HM5.out.transN hm6))
  have hs7 : w.heap.size < w6.heap.size := HR7.out.lt
  have HKA : Sec (∀ u' s f, Valid u' s f → MailNameL u' (s : Int) f = xs → ok = true ∧ ok2 = true ∧ ok3 = true ∧ q1 = true ∧ u = u' ∧ q2 = true ∧ v = (s : Int) ∧ lok = true ∧ g = f) := ⟨fun u' s f hv e => by
    obtain ⟨k1, k2, k3, k4, k5, k6⟩ := HKL.out u' s f hv e
    injection k6 with k6 k7
    have hq1 := HU2.out u' k4
    have hq2 := HS2.out _ k5
    have a1 := (HU1.out hq1).2
    have a2 := HS1.out hq2
    have a1' : Lib.parseUintB 32 d1 = .ok u := a1
    have a2' : Lib.parseIntB 64 d2 = .ok v := a2
    rw [k4] at a1'
    rw [k5] at a2'
    injection a1' with a1'
    injection a2' with a2'
    exact ⟨k1, k2, k3, hq1, a1'.symm, hq2, a2'.symm, k6, by omega⟩⟩
  clear hm6 HPX HC1 HC2 HU HS HL HKL HM2 HM3 HM4 HM5 HE2 HE3 HE4 HE5 HU2 HS2
  cases ok
  · have HE : Sec (RMN xs = (false, 0, 0, 0)) := ⟨RMN_none (fun u' s f hv e => by obtain ⟨k1, k2, k3, k4, k5, k6, k7, k8, k9⟩ := HKA.out u' s f hv e; cases k1)⟩
    have r0 : w6.cell? ⟨w.heap.size, 0, none⟩ = some (.bool false) := HR7.out.cell 0
    have f0 : w6.frozen? ⟨w.heap.size, 0, none⟩ = false := HR7.out.frozen 0
    have r1 : w6.cell? ⟨w.heap.size, 1, none⟩ = some (.int .u32 0) := HR7.out.cell 1
    have f1 : w6.frozen? ⟨w.heap.size, 1, none⟩ = false := HR7.out.frozen 1
    have r2 : w6.cell? ⟨w.heap.size, 2, none⟩ = some (.int .i64 0) := HR7.out.cell 2
    have f2 : w6.frozen? ⟨w.heap.size, 2, none⟩ = false := HR7.out.frozen 2
    have r3 : w6.cell? ⟨w.heap.size, 3, none⟩ = some (.int .u32 0) := HR7.out.cell 3
    have f3 : w6.frozen? ⟨w.heap.size, 3, none⟩ = false := HR7.out.frozen 3
    go_wp2
    refine bodyPost_ret (results_blk rfl rfl ((((((HR7.out.set_ 0 (.bool false)).set_ 1 (.int .u32 0)).set_ 2 (.int .i64 0)).set_ 3 (.int .u32 0)).alloc _).alloc _) Tryd.underlying33 (by kernel_rfl)) rfl ?_
    rw [HE.out]
    exact ⟨rfl, (((((HW7.out.setCell (fun h => absurd h (by simp)) _).setCell (fun h => absurd h (by simp)) _).setCell (fun h => absurd h (by simp)) _).setCell (fun h => absurd h (by simp)) _).alloc _).alloc _⟩
  cases ok2
  · have HE : Sec (RMN xs = (false, 0, 0, 0)) := ⟨RMN_none (fun u' s f hv e => by obtain ⟨k1, k2, k3, k4, k5, k6, k7, k8, k9⟩ := HKA.out u' s f hv e; cases k2)⟩
    have r0 : w6.cell? ⟨w.heap.size, 0, none⟩ = some (.bool false) := HR7.out.cell 0
    have f0 : w6.frozen? ⟨w.heap.size, 0, none⟩ = false := HR7.out.frozen 0
    have r1 : w6.cell? ⟨w.heap.size, 1, none⟩ = some (.int .u32 0) := HR7.out.cell 1
    have f1 : w6.frozen? ⟨w.heap.size, 1, none⟩ = false := HR7.out.frozen 1
    have r2 : w6.cell? ⟨w.heap.size, 2, none⟩ = some (.int .i64 0) := HR7.out.cell 2
    have f2 : w6.frozen? ⟨w.heap.size, 2, none⟩ = false := HR7.out.frozen 2
    have r3 : w6.cell? ⟨w.heap.size, 3, none⟩ = some (.int .u32 0) := HR7.out.cell 3
    have f3 : w6.frozen? ⟨w.heap.size, 3, none⟩ = false := HR7.out.frozen 3
    go_wp2
    refine bodyPost_ret (results_blk rfl rfl ((((((HR7.out.set_ 0 (.bool false)).set_ 1 (.int .u32 0)).set_ 2 (.int .i64 0)).set_ 3 (.int .u32 0)).alloc _).alloc _) Tryd.underlying33 (by kernel_rfl)) rfl ?_
    rw [HE.out]
    exact ⟨rfl, (((((HW7.out.setCell (fun h => absurd h (by simp)) _).setCell (fun h => absurd h (by simp)) _).setCell (fun h => absurd h (by simp)) _).setCell (fun h => absurd h (by simp)) _).alloc _).alloc _⟩
  cases ok3
  · have HE : Sec (RMN xs = (false, 0, 0, 0)) := ⟨RMN_none (fun u' s f hv e => by obtain ⟨k1, k2, k3, k4, k5, k6, k7, k8, k9⟩ := HKA.out u' s f hv e; cases k3)⟩
    have r0 : w6.cell? ⟨w.heap.size, 0, none⟩ = some (.bool false) := HR7.out.cell 0
    have f0 : w6.frozen? ⟨w.heap.size, 0, none⟩ = false := HR7.out.frozen 0
    have r1 : w6.cell? ⟨w.heap.size, 1, none⟩ = some (.int .u32 0) := HR7.out.cell 1
    have f1 : w6.frozen? ⟨w.heap.size, 1, none⟩ = false := HR7.out.frozen 1
    have r2 : w6.cell? ⟨w.heap.size, 2, none⟩ = some (.int .i64 0) := HR7.out.cell 2
    have f2 : w6.frozen? ⟨w.heap.size, 2, none⟩ = false := HR7.out.frozen 2
    have r3 : w6.cell? ⟨w.heap.size, 3, none⟩ = some (.int .u32 0) := HR7.out.cell 3
    have f3 : w6.frozen? ⟨w.heap.size, 3, none⟩ = false := HR7.out.frozen 3
    go_wp2
    refine bodyPost_ret (results_blk rfl rfl ((((((HR7.out.set_ 0 (.bool false)).set_ 1 (.int .u32 0)).set_ 2 (.int .i64 0)).set_ 3 (.int .u32 0)).alloc _).alloc _) Tryd.underlying33 (by kernel_rfl)) rfl ?_
    rw [HE.out]
    exact ⟨rfl, (((((HW7.out.setCell (fun h => absurd h (by simp)) _).setCell (fun h => absurd h (by simp)) _).setCell (fun h => absurd h (by simp)) _).setCell (fun h => absurd h (by simp)) _).alloc _).alloc _⟩
  rcases HV1.out with ⟨rfl, rfl⟩ | ⟨⟨t1, a1, rfl⟩, rfl⟩
  rotate_left
  · have HE : Sec (RMN xs = (false, 0, 0, 0)) := ⟨RMN_none (fun u' s f hv e => by obtain ⟨k1, k2, k3, k4, k5, k6, k7, k8, k9⟩ := HKA.out u' s f hv e; cases k4)⟩
    have r0 : w6.cell? ⟨w.heap.size, 0, none⟩ = some (.bool false) := HR7.out.cell 0
    have f0 : w6.frozen? ⟨w.heap.size, 0, none⟩ = false := HR7.out.frozen 0
    have r1 : w6.cell? ⟨w.heap.size, 1, none⟩ = some (.int .u32 0) := HR7.out.cell 1
    have f1 : w6.frozen? ⟨w.heap.size, 1, none⟩ = false := HR7.out.frozen 1
    have r2 : w6.cell? ⟨w.heap.size, 2, none⟩ = some (.int .i64 0) := HR7.out.cell 2
    have f2 : w6.frozen? ⟨w.heap.size, 2, none⟩ = false := HR7.out.frozen 2
    have r3 : w6.cell? ⟨w.heap.size, 3, none⟩ = some (.int .u32 0) := HR7.out.cell 3
    have f3 : w6.frozen? ⟨w.heap.size, 3, none⟩ = false := HR7.out.frozen 3
    go_wp2
    refine bodyPost_ret (results_blk rfl rfl ((((((HR7.out.set_ 0 (.bool false)).set_ 1 (.int .u32 0)).set_ 2 (.int .i64 0)).set_ 3 (.int .u32 0)).alloc _).alloc _) Tryd.underlying33 (by kernel_rfl)) rfl ?_
    rw [HE.out]
    exact ⟨rfl, (((((HW7.out.setCell (fun h => absurd h (by simp)) _).setCell (fun h => absurd h (by simp)) _).setCell (fun h => absurd h (by simp)) _).setCell (fun h => absurd h (by simp)) _).alloc _).alloc _⟩
  rcases HV2.out with ⟨rfl, rfl⟩ | ⟨⟨t2, a2, rfl⟩, rfl⟩
  rotate_left
  · have HE : Sec (RMN xs = (false, 0, 0, 0)) := ⟨RMN_none (fun u' s f hv e => by obtain ⟨k1, k2, k3, k4, k5, k6, k7, k8, k9⟩ := HKA.out u' s f hv e; cases k6)⟩
    have r0 : w6.cell? ⟨w.heap.size, 0, none⟩ = some (.bool false) := HR7.out.cell 0
    have f0 : w6.frozen? ⟨w.heap.size, 0, none⟩ = false := HR7.out.frozen 0
    have r1 : w6.cell? ⟨w.heap.size, 1, none⟩ = some (.int .u32 0) := HR7.out.cell 1
    have f1 : w6.frozen? ⟨w.heap.size, 1, none⟩ = false := HR7.out.frozen 1
    have r2 : w6.cell? ⟨w.heap.size, 2, none⟩ = some (.int .i64 0) := HR7.out.cell 2
    have f2 : w6.frozen? ⟨w.heap.size, 2, none⟩ = false := HR7.out.frozen 2
    have r3 : w6.cell? ⟨w.heap.size, 3, none⟩ = some (.int .u32 0) := HR7.out.cell 3
    have f3 : w6.frozen? ⟨w.heap.size, 3, none⟩ = false := HR7.out.frozen 3
    go_wp2
    refine bodyPost_ret (results_blk rfl rfl ((((((HR7.out.set_ 0 (.bool false)).set_ 1 (.int .u32 0)).set_ 2 (.int .i64 0)).set_ 3 (.int .u32 0)).alloc _).alloc _) Tryd.underlying33 (by kernel_rfl)) rfl ?_
    rw [HE.out]
    exact ⟨rfl, (((((HW7.out.setCell (fun h => absurd h (by simp)) _).setCell (fun h => absurd h (by simp)) _).setCell (fun h => absurd h (by simp)) _).setCell (fun h => absurd h (by simp)) _).alloc _).alloc _⟩
  cases lok
  · have HE : Sec (RMN xs = (false, 0, 0, 0)) := ⟨RMN_none (fun u' s f hv e => by obtain ⟨k1, k2, k3, k4, k5, k6, k7, k8, k9⟩ := HKA.out u' s f hv e; cases k8)⟩
    have r0 : w6.cell? ⟨w.heap.size, 0, none⟩ = some (.bool false) := HR7.out.cell 0
    have f0 : w6.frozen? ⟨w.heap.size, 0, none⟩ = false := HR7.out.frozen 0
    have r1 : w6.cell? ⟨w.heap.size, 1, none⟩ = some (.int .u32 0) := HR7.out.cell 1
    have f1 : w6.frozen? ⟨w.heap.size, 1, none⟩ = false := HR7.out.frozen 1
    have r2 : w6.cell? ⟨w.heap.size, 2, none⟩ = some (.int .i64 0) := HR7.out.cell 2
    have f2 : w6.frozen? ⟨w.heap.size, 2, none⟩ = false := HR7.out.frozen 2
    have r3 : w6.cell? ⟨w.heap.size, 3, none⟩ = some (.int .u32 0) := HR7.out.cell 3
    have f3 : w6.frozen? ⟨w.heap.size, 3, none⟩ = false := HR7.out.frozen 3
    go_wp2
    refine bodyPost_ret (results_blk rfl rfl ((((((HR7.out.set_ 0 (.bool false)).set_ 1 (.int .u32 0)).set_ 2 (.int .i64 0)).set_ 3 (.int .u32 0)).alloc _).alloc _) Tryd.underlying33 (by kernel_rfl)) rfl ?_
    rw [HE.out]
    exact ⟨rfl, (((((HW7.out.setCell (fun h => absurd h (by simp)) _).setCell (fun h => absurd h (by simp)) _).setCell (fun h => absurd h (by simp)) _).setCell (fun h => absurd h (by simp)) _).alloc _).alloc _⟩
  have hu32 := (HU1.out rfl).1
  have hwr : (u : Int) % 4294967296 = (u : Int) := by omega
  by_cases hx0 : xs = []
  · have hz : xs.isEmpty = true := by simp [hx0]
    have HX0 := Sec.mk hx0
    clear hx0
    have HE : Sec (RMN xs = (false, 0, 0, 0)) := ⟨RMN_none (fun u' s f hv e => by have h4 := (name_len hv).1; rw [e, HX0.out] at h4; simp at h4)⟩
    have r0 : w6.cell? ⟨w.heap.size, 0, none⟩ = some (.bool false) := HR7.out.cell 0
    have f0 : w6.frozen? ⟨w.heap.size, 0, none⟩ = false := HR7.out.frozen 0
    have r1 : w6.cell? ⟨w.heap.size, 1, none⟩ = some (.int .u32 0) := HR7.out.cell 1
    have f1 : w6.frozen? ⟨w.heap.size, 1, none⟩ = false := HR7.out.frozen 1
    have r2 : w6.cell? ⟨w.heap.size, 2, none⟩ = some (.int .i64 0) := HR7.out.cell 2
    have f2 : w6.frozen? ⟨w.heap.size, 2, none⟩ = false := HR7.out.frozen 2
    have r3 : w6.cell? ⟨w.heap.size, 3, none⟩ = some (.int .u32 0) := HR7.out.cell 3
    have f3 : w6.frozen? ⟨w.heap.size, 3, none⟩ = false := HR7.out.frozen 3
    go_wp2
    refine bodyPost_ret (results_blk rfl rfl ((((((HR7.out.set_ 0 (.bool false)).set_ 1 (.int .u32 0)).set_ 2 (.int .i64 0)).set_ 3 (.int .u32 0)).alloc _).alloc _) Tryd.underlying33 (by kernel_rfl)) rfl ?_
    rw [HE.out]
    exact ⟨rfl, (((((HW7.out.setCell (fun h => absurd h (by simp)) _).setCell (fun h => absurd h (by simp)) _).setCell (fun h => absurd h (by simp)) _).setCell (fun h => absurd h (by simp)) _).alloc _).alloc _⟩
  have hz : xs.isEmpty = false := by simpa using hx0
  have HX0 := Sec.mk hx0
  clear hx0
  have HMN := Sec.mk (fun w (h : MailMem w) => mailNameImpl_calls u g (by omega) (by omega) v HW2.out (w := w) h.1)
  have HYES : Sec (MailNameL u v g = xs → RMN xs = (true, (u : Int), v, (g : Int))) := ⟨fun e => by
    have hu0 : u ≠ 0 := fun h => HX0.out (by rw [← e, MailNameL_no (.inl h)])
    have hv0 : ¬ v < 0 := fun h => HX0.out (by rw [← e, MailNameL_no (.inr (.inl h))])
    have hv1 : ¬ 1000000000000 < v := fun h => HX0.out (by rw [← e, MailNameL_no (.inr (.inr h))])
    obtain ⟨sn, rfl⟩ : ∃ n : Nat, v = n := ⟨v.toNat, by omega⟩
    exact RMN_some ⟨by omega, hu32, by omega, hg⟩ e⟩
  have HNO : Sec (MailNameL u v g ≠ xs → RMN xs = (false, 0, 0, 0)) := ⟨fun hne => RMN_none (fun u' s f hv e => by
    obtain ⟨k1, k2, k3, k4, k5, k6, k7, k8, k9⟩ := HKA.out u' s f hv e
    refine hne ?_
    rw [k5, k7, k9]; exact e)⟩
  generalize MailNameL u v g = mn at *
  have HOB := Sec.mk (Blk.new (w6.alloc (.cells #[.bool true, .int .u32 (g : Int)] 28)) 33 [.bool true, .int .u32 (u : Int), .int .i64 v, .int .u32 (g : Int)])
  rw [show (w6.alloc (.cells #[.bool true, .int .u32 (g : Int)] 28)).heap.size = w6.heap.size + 1 by simp] at HOB
  have HNN : Sec (New w6 ((w6.alloc (.cells #[.bool true, .int .u32 (g : Int)] 28)).alloc (.cells #[.bool true, .int .u32 (u : Int), .int .i64 v, .int .u32 (g : Int)] 33))) := ⟨((Mod.refl _ _).alloc _).alloc _⟩
  have HE7 := Sec.mk (HE6.out.new HNN.out)
  clear HKA HU1 HS1
  go_wp2_with fail
  refine (HMN.out _ HE7.out).mono ?_
  rintro e w7 ⟨rfl, hm7⟩
  have HR8 := Sec.mk (HR7.out.mod (HNN.out.transN hm7) id)
  have HO8 := Sec.mk (HOB.out.mod hm7 id)
  have HW8 := Sec.mk (HW7.out.transN (HNN.out.transN hm7))
  clear hm7 HOB HNN
  have r0 : w7.cell? ⟨w.heap.size, 0, none⟩ = some (.bool false) := HR8.out.cell 0
  have o0 : w7.cell? ⟨w6.heap.size + 1, 0, none⟩ = some (.bool true) := HO8.out.cell 0
  have f0 : w7.frozen? ⟨w.heap.size, 0, none⟩ = false := HR8.out.frozen 0
  have r1 : w7.cell? ⟨w.heap.size, 1, none⟩ = some (.int .u32 0) := HR8.out.cell 1
  have o1 : w7.cell? ⟨w6.heap.size + 1, 1, none⟩ = some (.int .u32 (u : Int)) := HO8.out.cell 1
  have f1 : w7.frozen? ⟨w.heap.size, 1, none⟩ = false := HR8.out.frozen 1
  have r2 : w7.cell? ⟨w.heap.size, 2, none⟩ = some (.int .i64 0) := HR8.out.cell 2
  have o2 : w7.cell? ⟨w6.heap.size + 1, 2, none⟩ = some (.int .i64 v) := HO8.out.cell 2
  have f2 : w7.frozen? ⟨w.heap.size, 2, none⟩ = false := HR8.out.frozen 2
  have r3 : w7.cell? ⟨w.heap.size, 3, none⟩ = some (.int .u32 0) := HR8.out.cell 3
  have o3 : w7.cell? ⟨w6.heap.size + 1, 3, none⟩ = some (.int .u32 (g : Int)) := HO8.out.cell 3
  have f3 : w7.frozen? ⟨w.heap.size, 3, none⟩ = false := HR8.out.frozen 3
  by_cases he : mn = xs
  · have HE := Sec.mk (HYES.out he)
    have hzz : (mn == xs) = true := by simp [he]
    clear he HYES HNO
    go_wp2
    refine bodyPost_ret (results_blk rfl rfl ((((HR8.out.set_ 0 (.bool true)).set_ 1 (.int .u32 (u : Int))).set_ 2 (.int .i64 v)).set_ 3 (.int .u32 (g : Int))) Tryd.underlying33 (by kernel_rfl)) rfl ?_
    rw [HE.out]
    exact ⟨rfl, (((HW8.out.setCell (fun h => absurd h (by simp)) _).setCell (fun h => absurd h (by simp)) _).setCell (fun h => absurd h (by simp)) _).setCell (fun h => absurd h (by simp)) _⟩
  · have HE := Sec.mk (HNO.out he)
    have hzz : (mn == xs) = false := by simpa using he
    clear he HYES HNO
    go_wp2
    refine bodyPost_ret (results_blk rfl rfl ((((HR8.out.set_ 0 (.bool false)).set_ 1 (.int .u32 0)).set_ 2 (.int .i64 0)).set_ 3 (.int .u32 0)) Tryd.underlying33 (by kernel_rfl)) rfl ?_
    rw [HE.out]
    exact ⟨rfl, (((HW8.out.setCell (fun h => absurd h (by simp)) _).setCell (fun h => absurd h (by simp)) _).setCell (fun h => absurd h (by simp)) _).setCell (fun h => absurd h (by simp)) _⟩
end Go.Proofs.YtbkccffpipcjeaaDoor
