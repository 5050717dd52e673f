/- The specification's reading of a mail's name. -/
import Derived.Test.YtbkccffpipcjeaaDoorPureMail
import Derived.Test.YtbkccffpipcjeaaDoorNum
import Derived.Test.YtbkccffpipcjeaaDoorSplitS
import Derived.Test.YtbkccffpipcjeaaDoorLetS
import Derived.Test.YtbkccffpipcjeaaDoorName
namespace Go.Proofs.YtbkccffpipcjeaaDoor
open Go.RowKit Mem
set_option linter.unusedVariables false
def MailedV (x : MailedT) : Value := .agg #[.bool x.1, .int .u32 x.2.1, .int .i64 x.2.2.1, .int .u32 x.2.2.2]
theorem LetL_form (zs : Bytes) : ∃ g : Nat, g < 2147483648 ∧ LetL zs = ((LetL zs).1, (g : Int)) ∧ ((LetL zs).1 = true → g = bitsOf zs) := by
  unfold LetL
  split
  · exact ⟨bitsOf zs, bitsOf_lt zs, rfl, fun _ => rfl⟩
  · exact ⟨0, by decide, rfl, fun h => by cases h⟩
theorem numL_lt (xs : Bytes) : (numL xs).1 < 10000000000000 := by
  unfold numL
  split
  · rename_i h
    have h1 := valL_lt xs xs.length (Nat.le_refl _) (fun j hj _ => h.2.2 _ (List.getElem_mem hj))
    rw [List.take_length] at h1
    exact Nat.lt_of_lt_of_le h1 (Nat.le_trans (Nat.pow_le_pow_right (by decide) h.2.1) (by decide))
  · decide
set_option maxHeartbeats 4000000 in
set_option maxRecDepth 100000 in
theorem readMailSpec_calls (xs : Bytes) (hx : xs.length ≤ 34359738368) (w : World) : Calls Tryd.prog 15 #[.string ⟨xs.toArray⟩] w (Ret (MailedV (RMN xs)) w) := by
  have hsz : (⟨xs.toArray⟩ : ByteArray).size = xs.length := by simp [ByteArray.size]
  have HR1 := Sec.mk ((Blk.new w 33 [.bool false, .int .u32 0, .int .i64 0, .int .u32 0]).alloc (.cells #[.bool false, .int .u32 0, .int .i64 0, .int .u32 0] 33))
  have hN := Blk.new (w.alloc (.cells #[.bool false, .int .u32 0, .int .i64 0, .int .u32 0] 33)) 33 [.bool false, .int .u32 0, .int .i64 0, .int .u32 0]
  rw [show (w.alloc (.cells #[.bool false, .int .u32 0, .int .i64 0, .int .u32 0] 33)).heap.size = w.heap.size + 1 by simp] at hN
  have HN1 := Sec.mk hN
  have HM1 := Sec.mk (((Mod.refl (fun _ => False) w).alloc (.cells #[.bool false, .int .u32 0, .int .i64 0, .int .u32 0] 33)).alloc (.cells #[.bool false, .int .u32 0, .int .i64 0, .int .u32 0] 33))
  clear hN
  by_cases h100 : 100 < xs.length
  · have hi : (100 : Int) < (xs.length : Int) := by omega
    have HE : Sec (RMN xs = (false, 0, 0, 0)) := ⟨RMN_none (fun u s f hv e => by have := (name_len hv).2; rw [e] at this; omega)⟩
    go_enter Tryd.func15, Tryd.ntmps15
    go_wp2
    refine bodyPost_ret (results_blk rfl rfl HR1.out Tryd.underlying33 (by kernel_rfl)) rfl ?_
    rw [HE.out]
    exact ⟨rfl, HM1.out⟩
  have h100i : ¬ (100 : Int) < (xs.length : Int) := by omega
  by_cases h4 : xs.length < 4
  · have hi : (xs.length : Int) < 4 := by omega
    have HE : Sec (RMN xs = (false, 0, 0, 0)) := ⟨RMN_none (fun u s f hv e => by have := (name_len hv).1; rw [e] at this; omega)⟩
    go_enter Tryd.func15, Tryd.ntmps15
    go_wp2
    refine bodyPost_ret (results_blk rfl rfl HR1.out Tryd.underlying33 (by kernel_rfl)) rfl ?_
    rw [HE.out]
    exact ⟨rfl, HM1.out⟩
  have h4i : ¬ (xs.length : Int) < 4 := by omega
  have h4j : (4 : Int) ≤ (xs.length : Int) := by omega
  have e04 := ba_ext xs 0 4
  have e4n := ba_ext xs 4 xs.length
  rw [List.drop_zero] at e04
  rw [List.take_length] at e4n
  by_cases hcur : xs.take 4 = [99, 117, 114, 47]
  rotate_left
  · have hz : (xs.take 4 == [99, 117, 114, 47]) = false := by simpa using hcur
    have HE : Sec (RMN xs = (false, 0, 0, 0)) := ⟨RMN_none (fun u s f hv e => by have h := congrArg (List.take 4) (name_is hv); rw [e] at h; exact hcur (by rw [h]; rfl))⟩
    clear hcur
    generalize xs.take 4 = x4 at *
    go_enter Tryd.func15, Tryd.ntmps15
    go_wp2
    refine bodyPost_ret (results_blk rfl rfl HR1.out Tryd.underlying33 (by kernel_rfl)) rfl ?_
    rw [HE.out]
    exact ⟨rfl, HM1.out⟩
  have hz : (xs.take 4 == [99, 117, 114, 47]) = true := by simp [hcur]
  clear hcur
  have HC := Sec.mk (l4Cut_calls (xs.drop 4) (by rw [List.length_drop]; omega) 58)
  have HK : Sec (∀ u s f, Valid u s f → MailNameL u (s : Int) f = xs → cutL 58 (xs.drop 4) = (Lib.decDigits u ++ 46 :: Lib.decDigits s, 50 :: 44 :: flagsL f, true)) := ⟨fun u s f hv e => by rw [← e]; exact name_cut58 hv⟩
  have hcl : (cutL 58 (xs.drop 4)).1.length ≤ 34359738368 ∧ (cutL 58 (xs.drop 4)).2.1.length ≤ 34359738368 := by
    have hd : (xs.drop 4).length ≤ xs.length := by rw [List.length_drop]; omega
    cases hq : (cutL 58 (xs.drop 4)).2.2
    · rw [cutL_no 58 _ hq]; simp; omega
    · have := cutL_len 58 _ hq; omega
  generalize cutL 58 (xs.drop 4) = c at *
  obtain ⟨c1, c2, ok⟩ := c
  simp only [Cut3] at HC hcl
  generalize xs.take 4 = x4 at *
  generalize hx4 : xs.drop 4 = xd at *
  clear hx4
  go_enter Tryd.func15, Tryd.ntmps15
  go_wp2_with fail
  refine (HC.out _).mono ?_
  rintro e w2 ⟨rfl, hm2⟩
  have HR2 := Sec.mk (HR1.out.mod hm2 id)
  have HN2 := Sec.mk (HN1.out.mod hm2 id)
  have HM2 := Sec.mk (HM1.out.transN hm2)
  clear hm2 HR1 HN1 HM1
  cases ok
  · have HE : Sec (RMN xs = (false, 0, 0, 0)) := ⟨RMN_none (fun u s f hv e => by have := HK.out u s f hv e; simp at this)⟩
    have r0 : w2.cell? ⟨w.heap.size, 0, none⟩ = some (.bool false) := HR2.out.cell 0
    have n0 : w2.cell? ⟨w.heap.size + 1, 0, none⟩ = some (.bool false) := HN2.out.cell 0
    have f0 : w2.frozen? ⟨w.heap.size, 0, none⟩ = false := HR2.out.frozen 0
    have r1 : w2.cell? ⟨w.heap.size, 1, none⟩ = some (.int .u32 0) := HR2.out.cell 1
    have n1 : w2.cell? ⟨w.heap.size + 1, 1, none⟩ = some (.int .u32 0) := HN2.out.cell 1
    have f1 : w2.frozen? ⟨w.heap.size, 1, none⟩ = false := HR2.out.frozen 1
    have r2 : w2.cell? ⟨w.heap.size, 2, none⟩ = some (.int .i64 0) := HR2.out.cell 2
    have n2 : w2.cell? ⟨w.heap.size + 1, 2, none⟩ = some (.int .i64 0) := HN2.out.cell 2
    have f2 : w2.frozen? ⟨w.heap.size, 2, none⟩ = false := HR2.out.frozen 2
    have r3 : w2.cell? ⟨w.heap.size, 3, none⟩ = some (.int .u32 0) := HR2.out.cell 3
    have n3 : w2.cell? ⟨w.heap.size + 1, 3, none⟩ = some (.int .u32 0) := HN2.out.cell 3
    have f3 : w2.frozen? ⟨w.heap.size, 3, none⟩ = false := HR2.out.frozen 3
    go_wp2
    refine bodyPost_ret (results_blk rfl rfl ((((HR2.out.set_ 0 (.bool false)).set_ 1 (.int .u32 0)).set_ 2 (.int .i64 0)).set_ 3 (.int .u32 0)) Tryd.underlying33 (by kernel_rfl)) rfl ?_
    rw [HE.out]
    exact ⟨rfl, (((HM2.out.setCell (fun h => absurd h (by simp)) _).setCell (fun h => absurd h (by simp)) _).setCell (fun h => absurd h (by simp)) _).setCell (fun h => absurd h (by simp)) _⟩
  by_cases hc2 : c2.length < 2
  · have hi : (c2.length : Int) < 2 := by omega
    have HE : Sec (RMN xs = (false, 0, 0, 0)) := ⟨RMN_none (fun u s f hv e => by have := HK.out u s f hv e; injection this with _ h2; injection h2 with h2 _; rw [h2] at hc2; simp only [List.length_cons] at hc2; omega)⟩
    have r0 : w2.cell? ⟨w.heap.size, 0, none⟩ = some (.bool false) := HR2.out.cell 0
    have n0 : w2.cell? ⟨w.heap.size + 1, 0, none⟩ = some (.bool false) := HN2.out.cell 0
    have f0 : w2.frozen? ⟨w.heap.size, 0, none⟩ = false := HR2.out.frozen 0
    have r1 : w2.cell? ⟨w.heap.size, 1, none⟩ = some (.int .u32 0) := HR2.out.cell 1
    have n1 : w2.cell? ⟨w.heap.size + 1, 1, none⟩ = some (.int .u32 0) := HN2.out.cell 1
    have f1 : w2.frozen? ⟨w.heap.size, 1, none⟩ = false := HR2.out.frozen 1
    have r2 : w2.cell? ⟨w.heap.size, 2, none⟩ = some (.int .i64 0) := HR2.out.cell 2
    have n2 : w2.cell? ⟨w.heap.size + 1, 2, none⟩ = some (.int .i64 0) := HN2.out.cell 2
    have f2 : w2.frozen? ⟨w.heap.size, 2, none⟩ = false := HR2.out.frozen 2
    have r3 : w2.cell? ⟨w.heap.size, 3, none⟩ = some (.int .u32 0) := HR2.out.cell 3
    have n3 : w2.cell? ⟨w.heap.size + 1, 3, none⟩ = some (.int .u32 0) := HN2.out.cell 3
    have f3 : w2.frozen? ⟨w.heap.size, 3, none⟩ = false := HR2.out.frozen 3
    go_wp2
    refine bodyPost_ret (results_blk rfl rfl ((((HR2.out.set_ 0 (.bool false)).set_ 1 (.int .u32 0)).set_ 2 (.int .i64 0)).set_ 3 (.int .u32 0)) Tryd.underlying33 (by kernel_rfl)) rfl ?_
    rw [HE.out]
    exact ⟨rfl, (((HM2.out.setCell (fun h => absurd h (by simp)) _).setCell (fun h => absurd h (by simp)) _).setCell (fun h => absurd h (by simp)) _).setCell (fun h => absurd h (by simp)) _⟩
  have hc2i : ¬ (c2.length : Int) < 2 := by omega
  have hc2j : (2 : Int) ≤ (c2.length : Int) := by omega
  have hsz2 : (⟨c2.toArray⟩ : ByteArray).size = c2.length := by simp [ByteArray.size]
  have e02 := ba_ext c2 0 2
  have e2n := ba_ext c2 2 c2.length
  rw [List.drop_zero] at e02
  rw [List.take_length] at e2n
  by_cases h2 : c2.take 2 = [50, 44]
  rotate_left
  · have hz2 : (c2.take 2 == [50, 44]) = false := by simpa using h2
    have H2 := Sec.mk h2
    have HT2 : Sec (∃ y, y = c2.take 2) := ⟨_, rfl⟩
    clear h2
    have HKK : Sec (∀ u s f, Valid u s f → MailNameL u (s : Int) f = xs → False) := ⟨fun u s f hv e => by have := HK.out u s f hv e; injection this with _ h; injection h with h _; rw [h] at H2; exact H2.out rfl⟩
    generalize c2.take 2 = x2 at *
    have HE : Sec (RMN xs = (false, 0, 0, 0)) := ⟨RMN_none (fun u s f hv e => by exact HKK.out u s f hv e)⟩
    have r0 : w2.cell? ⟨w.heap.size, 0, none⟩ = some (.bool false) := HR2.out.cell 0
    have n0 : w2.cell? ⟨w.heap.size + 1, 0, none⟩ = some (.bool false) := HN2.out.cell 0
    have f0 : w2.frozen? ⟨w.heap.size, 0, none⟩ = false := HR2.out.frozen 0
    have r1 : w2.cell? ⟨w.heap.size, 1, none⟩ = some (.int .u32 0) := HR2.out.cell 1
    have n1 : w2.cell? ⟨w.heap.size + 1, 1, none⟩ = some (.int .u32 0) := HN2.out.cell 1
    have f1 : w2.frozen? ⟨w.heap.size, 1, none⟩ = false := HR2.out.frozen 1
    have r2 : w2.cell? ⟨w.heap.size, 2, none⟩ = some (.int .i64 0) := HR2.out.cell 2
    have n2 : w2.cell? ⟨w.heap.size + 1, 2, none⟩ = some (.int .i64 0) := HN2.out.cell 2
    have f2 : w2.frozen? ⟨w.heap.size, 2, none⟩ = false := HR2.out.frozen 2
    have r3 : w2.cell? ⟨w.heap.size, 3, none⟩ = some (.int .u32 0) := HR2.out.cell 3
    have n3 : w2.cell? ⟨w.heap.size + 1, 3, none⟩ = some (.int .u32 0) := HN2.out.cell 3
    have f3 : w2.frozen? ⟨w.heap.size, 3, none⟩ = false := HR2.out.frozen 3
    go_wp2
    refine bodyPost_ret (results_blk rfl rfl ((((HR2.out.set_ 0 (.bool false)).set_ 1 (.int .u32 0)).set_ 2 (.int .i64 0)).set_ 3 (.int .u32 0)) Tryd.underlying33 (by kernel_rfl)) rfl ?_
    rw [HE.out]
    exact ⟨rfl, (((HM2.out.setCell (fun h => absurd h (by simp)) _).setCell (fun h => absurd h (by simp)) _).setCell (fun h => absurd h (by simp)) _).setCell (fun h => absurd h (by simp)) _⟩
  have hz2 : (c2.take 2 == [50, 44]) = true := by simp [h2]
  clear h2
  have HC1 := Sec.mk (l4Cut_calls c1 hcl.1 46)
  have HK1 : Sec (∀ u s f, Valid u s f → MailNameL u (s : Int) f = xs → cutL 46 c1 = (Lib.decDigits u, Lib.decDigits s, true) ∧ c2.drop 2 = flagsL f) := ⟨fun u s f hv e => by
    have := HK.out u s f hv e
    injection this with h1 h2
    injection h2 with h2 _
    rw [h1, h2]
    exact ⟨cut46 u _, rfl⟩⟩
  have hdl : (cutL 46 c1).1.length ≤ 34359738368 ∧ (cutL 46 c1).2.1.length ≤ 34359738368 := by
    cases hq : (cutL 46 c1).2.2
    · rw [cutL_no 46 _ hq]; simp; omega
    · have := cutL_len 46 _ hq; omega
  generalize cutL 46 c1 = d at *
  obtain ⟨d1, d2, ok2⟩ := d
  simp only [Cut3] at HC1 hdl
  have HL := Sec.mk (fun w => letterFlagsSpec_calls (c2.drop 2) (by rw [List.length_drop]; omega) w)
  generalize c2.take 2 = x2 at *
  generalize c2.drop 2 = zs at *
  have HU := Sec.mk (fun w => l4Number_calls d1 hdl.1 w)
  have HS := Sec.mk (fun w => l4Number_calls d2 hdl.2 w)
  have hu13 := numL_lt d1
  have hs13 := numL_lt d2
  have HK2 : Sec (∀ u s f, Valid u s f → MailNameL u (s : Int) f = xs → ok2 = true ∧ numL d1 = (u, true) ∧ numL d2 = (s, true) ∧ LetL zs = (true, (f : Int))) := ⟨fun u s f hv e => by
    obtain ⟨h1, h2⟩ := HK1.out u s f hv e
    injection h1 with h1 h3
    injection h3 with h3 h4
    rw [h1, h3, h2]
    exact ⟨h4, numL_dec u (by have := hv.2.1; omega), numL_dec s (by have := hv.2.2.1; omega), LetL_flags f hv.2.2.2⟩⟩
  obtain ⟨g, hg, hgl, -⟩ := LetL_form zs
  generalize LetL zs = l at *
  obtain ⟨lok, lf⟩ := l
  obtain rfl : lf = (g : Int) := by injection hgl
  generalize numL d1 = nu at *
  generalize numL d2 = ns at *
  obtain ⟨n1, b1⟩ := nu
  obtain ⟨n2, b2⟩ := ns
  simp only [FlagsV] at HU HS hu13 hs13 HL
  clear hgl HK HK1
  go_wp2_with fail
  refine (HC1.out _).mono ?_
  rintro e w3 ⟨rfl, hm3⟩
  have HM3 := Sec.mk hm3
  clear hm3
  go_wp2_with fail
  refine (HU.out _).mono ?_
  rintro e w4 ⟨rfl, hm4⟩
  have HM4 := Sec.mk (HM3.out.transN hm4)
  clear hm4
  go_wp2_with fail
  refine (HS.out _).mono ?_
  rintro e w5 ⟨rfl, hm5⟩
  have HM5 := Sec.mk (HM4.out.transN hm5)
  clear hm5
  go_wp2_with fail
  refine (HL.out _).mono ?_
  rintro e w6 ⟨rfl, hm6⟩
  have HR7 := Sec.mk (HR2.out.mod (HM5.out.transN hm6) id)
  have HN7 := Sec.mk (HN2.out.mod (HM5.out.transN hm6) id)
  have hs6 : w.heap.size + 1 < w6.heap.size := HN7.out.lt
  have hs7 : w.heap.size < w6.heap.size := HR7.out.lt
  have HW7 := Sec.mk (HM2.out.transN (HM5.out.transN hm6))
  have HM6 := Sec.mk ((HM5.out.transN hm6).alloc (.cells #[.bool lok, .int .u32 (g : Int)] 28))
  have HR6 := Sec.mk (HR2.out.mod HM6.out id)
  have HN6 := Sec.mk (HN2.out.mod HM6.out id)
  have HW6 := Sec.mk (HM2.out.transN HM6.out)
  have HB6 := Sec.mk (Blk.new w6 28 [.bool lok, .int .u32 (g : Int)])
  clear hm6 HM3 HM4 HM5 HC1 HU HS HL HC
  cases ok2
  · have HE : Sec (RMN xs = (false, 0, 0, 0)) := ⟨RMN_none (fun u s f hv e => by obtain ⟨k1, k2, k3, k4⟩ := HK2.out u s f hv e; cases k1)⟩
    have r0 : w6.cell? ⟨w.heap.size, 0, none⟩ = some (.bool false) := HR7.out.cell 0
    have n0 : w6.cell? ⟨w.heap.size + 1, 0, none⟩ = some (.bool false) := HN7.out.cell 0
    have f0 : w6.frozen? ⟨w.heap.size, 0, none⟩ = false := HR7.out.frozen 0
    have r1 : w6.cell? ⟨w.heap.size, 1, none⟩ = some (.int .u32 0) := HR7.out.cell 1
    have n1 : w6.cell? ⟨w.heap.size + 1, 1, none⟩ = some (.int .u32 0) := HN7.out.cell 1
    have f1 : w6.frozen? ⟨w.heap.size, 1, none⟩ = false := HR7.out.frozen 1
    have r2 : w6.cell? ⟨w.heap.size, 2, none⟩ = some (.int .i64 0) := HR7.out.cell 2
    have n2 : w6.cell? ⟨w.heap.size + 1, 2, none⟩ = some (.int .i64 0) := HN7.out.cell 2
    have f2 : w6.frozen? ⟨w.heap.size, 2, none⟩ = false := HR7.out.frozen 2
    have r3 : w6.cell? ⟨w.heap.size, 3, none⟩ = some (.int .u32 0) := HR7.out.cell 3
    have n3 : w6.cell? ⟨w.heap.size + 1, 3, none⟩ = some (.int .u32 0) := HN7.out.cell 3
    have f3 : w6.frozen? ⟨w.heap.size, 3, none⟩ = false := HR7.out.frozen 3
    go_wp2
    refine bodyPost_ret (results_blk rfl rfl (((((HR7.out.set_ 0 (.bool false)).set_ 1 (.int .u32 0)).set_ 2 (.int .i64 0)).set_ 3 (.int .u32 0)).alloc _) Tryd.underlying33 (by kernel_rfl)) rfl ?_
    rw [HE.out]
    exact ⟨rfl, ((((HW7.out.setCell (fun h => absurd h (by simp)) _).setCell (fun h => absurd h (by simp)) _).setCell (fun h => absurd h (by simp)) _).setCell (fun h => absurd h (by simp)) _).alloc _⟩
  cases b1
  · have HE : Sec (RMN xs = (false, 0, 0, 0)) := ⟨RMN_none (fun u s f hv e => by obtain ⟨k1, k2, k3, k4⟩ := HK2.out u s f hv e; injection k2 with _ h; cases h)⟩
    have r0 : w6.cell? ⟨w.heap.size, 0, none⟩ = some (.bool false) := HR7.out.cell 0
    have n0 : w6.cell? ⟨w.heap.size + 1, 0, none⟩ = some (.bool false) := HN7.out.cell 0
    have f0 : w6.frozen? ⟨w.heap.size, 0, none⟩ = false := HR7.out.frozen 0
    have r1 : w6.cell? ⟨w.heap.size, 1, none⟩ = some (.int .u32 0) := HR7.out.cell 1
    have n1 : w6.cell? ⟨w.heap.size + 1, 1, none⟩ = some (.int .u32 0) := HN7.out.cell 1
    have f1 : w6.frozen? ⟨w.heap.size, 1, none⟩ = false := HR7.out.frozen 1
    have r2 : w6.cell? ⟨w.heap.size, 2, none⟩ = some (.int .i64 0) := HR7.out.cell 2
    have n2 : w6.cell? ⟨w.heap.size + 1, 2, none⟩ = some (.int .i64 0) := HN7.out.cell 2
    have f2 : w6.frozen? ⟨w.heap.size, 2, none⟩ = false := HR7.out.frozen 2
    have r3 : w6.cell? ⟨w.heap.size, 3, none⟩ = some (.int .u32 0) := HR7.out.cell 3
    have n3 : w6.cell? ⟨w.heap.size + 1, 3, none⟩ = some (.int .u32 0) := HN7.out.cell 3
    have f3 : w6.frozen? ⟨w.heap.size, 3, none⟩ = false := HR7.out.frozen 3
    go_wp2
    refine bodyPost_ret (results_blk rfl rfl (((((HR7.out.set_ 0 (.bool false)).set_ 1 (.int .u32 0)).set_ 2 (.int .i64 0)).set_ 3 (.int .u32 0)).alloc _) Tryd.underlying33 (by kernel_rfl)) rfl ?_
    rw [HE.out]
    exact ⟨rfl, ((((HW7.out.setCell (fun h => absurd h (by simp)) _).setCell (fun h => absurd h (by simp)) _).setCell (fun h => absurd h (by simp)) _).setCell (fun h => absurd h (by simp)) _).alloc _⟩
  cases b2
  · have HE : Sec (RMN xs = (false, 0, 0, 0)) := ⟨RMN_none (fun u s f hv e => by obtain ⟨k1, k2, k3, k4⟩ := HK2.out u s f hv e; injection k3 with _ h; cases h)⟩
    have r0 : w6.cell? ⟨w.heap.size, 0, none⟩ = some (.bool false) := HR7.out.cell 0
    have n0 : w6.cell? ⟨w.heap.size + 1, 0, none⟩ = some (.bool false) := HN7.out.cell 0
    have f0 : w6.frozen? ⟨w.heap.size, 0, none⟩ = false := HR7.out.frozen 0
    have r1 : w6.cell? ⟨w.heap.size, 1, none⟩ = some (.int .u32 0) := HR7.out.cell 1
    have n1 : w6.cell? ⟨w.heap.size + 1, 1, none⟩ = some (.int .u32 0) := HN7.out.cell 1
    have f1 : w6.frozen? ⟨w.heap.size, 1, none⟩ = false := HR7.out.frozen 1
    have r2 : w6.cell? ⟨w.heap.size, 2, none⟩ = some (.int .i64 0) := HR7.out.cell 2
    have n2 : w6.cell? ⟨w.heap.size + 1, 2, none⟩ = some (.int .i64 0) := HN7.out.cell 2
    have f2 : w6.frozen? ⟨w.heap.size, 2, none⟩ = false := HR7.out.frozen 2
    have r3 : w6.cell? ⟨w.heap.size, 3, none⟩ = some (.int .u32 0) := HR7.out.cell 3
    have n3 : w6.cell? ⟨w.heap.size + 1, 3, none⟩ = some (.int .u32 0) := HN7.out.cell 3
    have f3 : w6.frozen? ⟨w.heap.size, 3, none⟩ = false := HR7.out.frozen 3
    go_wp2
    refine bodyPost_ret (results_blk rfl rfl (((((HR7.out.set_ 0 (.bool false)).set_ 1 (.int .u32 0)).set_ 2 (.int .i64 0)).set_ 3 (.int .u32 0)).alloc _) Tryd.underlying33 (by kernel_rfl)) rfl ?_
    rw [HE.out]
    exact ⟨rfl, ((((HW7.out.setCell (fun h => absurd h (by simp)) _).setCell (fun h => absurd h (by simp)) _).setCell (fun h => absurd h (by simp)) _).setCell (fun h => absurd h (by simp)) _).alloc _⟩
  cases lok
  · have HE : Sec (RMN xs = (false, 0, 0, 0)) := ⟨RMN_none (fun u s f hv e => by obtain ⟨k1, k2, k3, k4⟩ := HK2.out u s f hv e; injection k4 with h _; cases h)⟩
    have r0 : w6.cell? ⟨w.heap.size, 0, none⟩ = some (.bool false) := HR7.out.cell 0
    have n0 : w6.cell? ⟨w.heap.size + 1, 0, none⟩ = some (.bool false) := HN7.out.cell 0
    have f0 : w6.frozen? ⟨w.heap.size, 0, none⟩ = false := HR7.out.frozen 0
    have r1 : w6.cell? ⟨w.heap.size, 1, none⟩ = some (.int .u32 0) := HR7.out.cell 1
    have n1 : w6.cell? ⟨w.heap.size + 1, 1, none⟩ = some (.int .u32 0) := HN7.out.cell 1
    have f1 : w6.frozen? ⟨w.heap.size, 1, none⟩ = false := HR7.out.frozen 1
    have r2 : w6.cell? ⟨w.heap.size, 2, none⟩ = some (.int .i64 0) := HR7.out.cell 2
    have n2 : w6.cell? ⟨w.heap.size + 1, 2, none⟩ = some (.int .i64 0) := HN7.out.cell 2
    have f2 : w6.frozen? ⟨w.heap.size, 2, none⟩ = false := HR7.out.frozen 2
    have r3 : w6.cell? ⟨w.heap.size, 3, none⟩ = some (.int .u32 0) := HR7.out.cell 3
    have n3 : w6.cell? ⟨w.heap.size + 1, 3, none⟩ = some (.int .u32 0) := HN7.out.cell 3
    have f3 : w6.frozen? ⟨w.heap.size, 3, none⟩ = false := HR7.out.frozen 3
    go_wp2
    refine bodyPost_ret (results_blk rfl rfl (((((HR7.out.set_ 0 (.bool false)).set_ 1 (.int .u32 0)).set_ 2 (.int .i64 0)).set_ 3 (.int .u32 0)).alloc _) Tryd.underlying33 (by kernel_rfl)) rfl ?_
    rw [HE.out]
    exact ⟨rfl, ((((HW7.out.setCell (fun h => absurd h (by simp)) _).setCell (fun h => absurd h (by simp)) _).setCell (fun h => absurd h (by simp)) _).setCell (fun h => absurd h (by simp)) _).alloc _⟩
  by_cases hn1 : n1 < 1
  · have hi : (n1 : Int) < 1 := by omega
    have HE : Sec (RMN xs = (false, 0, 0, 0)) := ⟨RMN_none (fun u s f hv e => by obtain ⟨k1, k2, k3, k4⟩ := HK2.out u s f hv e; injection k2 with h _; have := hv.1; omega)⟩
    have r0 : w6.cell? ⟨w.heap.size, 0, none⟩ = some (.bool false) := HR7.out.cell 0
    have n0 : w6.cell? ⟨w.heap.size + 1, 0, none⟩ = some (.bool false) := HN7.out.cell 0
    have f0 : w6.frozen? ⟨w.heap.size, 0, none⟩ = false := HR7.out.frozen 0
    have r1 : w6.cell? ⟨w.heap.size, 1, none⟩ = some (.int .u32 0) := HR7.out.cell 1
    have n1 : w6.cell? ⟨w.heap.size + 1, 1, none⟩ = some (.int .u32 0) := HN7.out.cell 1
    have f1 : w6.frozen? ⟨w.heap.size, 1, none⟩ = false := HR7.out.frozen 1
    have r2 : w6.cell? ⟨w.heap.size, 2, none⟩ = some (.int .i64 0) := HR7.out.cell 2
    have n2 : w6.cell? ⟨w.heap.size + 1, 2, none⟩ = some (.int .i64 0) := HN7.out.cell 2
    have f2 : w6.frozen? ⟨w.heap.size, 2, none⟩ = false := HR7.out.frozen 2
    have r3 : w6.cell? ⟨w.heap.size, 3, none⟩ = some (.int .u32 0) := HR7.out.cell 3
    have n3 : w6.cell? ⟨w.heap.size + 1, 3, none⟩ = some (.int .u32 0) := HN7.out.cell 3
    have f3 : w6.frozen? ⟨w.heap.size, 3, none⟩ = false := HR7.out.frozen 3
    go_wp2
    refine bodyPost_ret (results_blk rfl rfl (((((HR7.out.set_ 0 (.bool false)).set_ 1 (.int .u32 0)).set_ 2 (.int .i64 0)).set_ 3 (.int .u32 0)).alloc _) Tryd.underlying33 (by kernel_rfl)) rfl ?_
    rw [HE.out]
    exact ⟨rfl, ((((HW7.out.setCell (fun h => absurd h (by simp)) _).setCell (fun h => absurd h (by simp)) _).setCell (fun h => absurd h (by simp)) _).setCell (fun h => absurd h (by simp)) _).alloc _⟩
  have hn1i : ¬ (n1 : Int) < 1 := by omega
  by_cases hn2 : 4294967295 < n1
  · have hi : (4294967295 : Int) < (n1 : Int) := by omega
    have HE : Sec (RMN xs = (false, 0, 0, 0)) := ⟨RMN_none (fun u s f hv e => by obtain ⟨k1, k2, k3, k4⟩ := HK2.out u s f hv e; injection k2 with h _; have := hv.2.1; omega)⟩
    have r0 : w6.cell? ⟨w.heap.size, 0, none⟩ = some (.bool false) := HR7.out.cell 0
    have n0 : w6.cell? ⟨w.heap.size + 1, 0, none⟩ = some (.bool false) := HN7.out.cell 0
    have f0 : w6.frozen? ⟨w.heap.size, 0, none⟩ = false := HR7.out.frozen 0
    have r1 : w6.cell? ⟨w.heap.size, 1, none⟩ = some (.int .u32 0) := HR7.out.cell 1
    have n1 : w6.cell? ⟨w.heap.size + 1, 1, none⟩ = some (.int .u32 0) := HN7.out.cell 1
    have f1 : w6.frozen? ⟨w.heap.size, 1, none⟩ = false := HR7.out.frozen 1
    have r2 : w6.cell? ⟨w.heap.size, 2, none⟩ = some (.int .i64 0) := HR7.out.cell 2
    have n2 : w6.cell? ⟨w.heap.size + 1, 2, none⟩ = some (.int .i64 0) := HN7.out.cell 2
    have f2 : w6.frozen? ⟨w.heap.size, 2, none⟩ = false := HR7.out.frozen 2
    have r3 : w6.cell? ⟨w.heap.size, 3, none⟩ = some (.int .u32 0) := HR7.out.cell 3
    have n3 : w6.cell? ⟨w.heap.size + 1, 3, none⟩ = some (.int .u32 0) := HN7.out.cell 3
    have f3 : w6.frozen? ⟨w.heap.size, 3, none⟩ = false := HR7.out.frozen 3
    go_wp2
    refine bodyPost_ret (results_blk rfl rfl (((((HR7.out.set_ 0 (.bool false)).set_ 1 (.int .u32 0)).set_ 2 (.int .i64 0)).set_ 3 (.int .u32 0)).alloc _) Tryd.underlying33 (by kernel_rfl)) rfl ?_
    rw [HE.out]
    exact ⟨rfl, ((((HW7.out.setCell (fun h => absurd h (by simp)) _).setCell (fun h => absurd h (by simp)) _).setCell (fun h => absurd h (by simp)) _).setCell (fun h => absurd h (by simp)) _).alloc _⟩
  have hn2i : ¬ (4294967295 : Int) < (n1 : Int) := by omega
  have HMN := Sec.mk (fun w => mailNameSpec_calls n1 g (by omega) (by omega) (n2 : Int) w)
  have hwr : (n1 : Int) % 4294967296 = (n1 : Int) := by omega
  have HYES : Sec (MailNameL n1 (n2 : Int) g = xs → RMN xs = (true, (n1 : Int), (n2 : Int), (g : Int))) := ⟨fun e => by
    have hs2 : n2 ≤ 1000000000000 := by
      rcases Nat.lt_or_ge 1000000000000 n2 with h | h
      · rw [MailNameL_no (.inr (.inr (by omega)))] at e
        rw [← e] at h4; exact absurd (by simp) h4
      · exact h
    exact RMN_some ⟨by omega, by omega, hs2, hg⟩ e⟩
  have HNO : Sec (MailNameL n1 (n2 : Int) g ≠ xs → RMN xs = (false, 0, 0, 0)) := ⟨fun hne => RMN_none (fun u s f hv e => by
    obtain ⟨k1, k2, k3, k4⟩ := HK2.out u s f hv e
    injection k2 with k2 _
    injection k3 with k3 _
    injection k4 with _ k4
    refine hne ?_
    rw [k2, k3, show g = f by omega]; exact e)⟩
  generalize MailNameL n1 (n2 : Int) g = mn at *
  have HOB := Sec.mk (Blk.new (w6.alloc (.cells #[.bool true, .int .u32 (g : Int)] 28)) 33 [.bool true, .int .u32 (n1 : Int), .int .i64 (n2 : Int), .int .u32 (g : Int)])
  rw [show (w6.alloc (.cells #[.bool true, .int .u32 (g : Int)] 28)).heap.size = w6.heap.size + 1 by simp] at HOB
  have HNN : Sec (New w6 ((w6.alloc (.cells #[.bool true, .int .u32 (g : Int)] 28)).alloc (.cells #[.bool true, .int .u32 (n1 : Int), .int .i64 (n2 : Int), .int .u32 (g : Int)] 33))) := ⟨((Mod.refl _ _).alloc _).alloc _⟩
  go_wp2_with fail
  refine (HMN.out _).mono ?_
  rintro e w7 ⟨rfl, hm7⟩
  have HR8 := Sec.mk (HR7.out.mod (HNN.out.transN hm7) id)
  have HN8 := Sec.mk (HN7.out.mod (HNN.out.transN hm7) id)
  have HO8 := Sec.mk (HOB.out.mod hm7 id)
  have HW8 := Sec.mk (HW7.out.transN (HNN.out.transN hm7))
  clear hm7 HOB HNN
  have r0 : w7.cell? ⟨w.heap.size, 0, none⟩ = some (.bool false) := HR8.out.cell 0
  have n0' : w7.cell? ⟨w.heap.size + 1, 0, none⟩ = some (.bool false) := HN8.out.cell 0
  have o0 : w7.cell? ⟨w6.heap.size + 1, 0, none⟩ = some (.bool true) := HO8.out.cell 0
  have f0 : w7.frozen? ⟨w.heap.size, 0, none⟩ = false := HR8.out.frozen 0
  have r1 : w7.cell? ⟨w.heap.size, 1, none⟩ = some (.int .u32 0) := HR8.out.cell 1
  have n1' : w7.cell? ⟨w.heap.size + 1, 1, none⟩ = some (.int .u32 0) := HN8.out.cell 1
  have o1 : w7.cell? ⟨w6.heap.size + 1, 1, none⟩ = some (.int .u32 (n1 : Int)) := HO8.out.cell 1
  have f1 : w7.frozen? ⟨w.heap.size, 1, none⟩ = false := HR8.out.frozen 1
  have r2 : w7.cell? ⟨w.heap.size, 2, none⟩ = some (.int .i64 0) := HR8.out.cell 2
  have n2' : w7.cell? ⟨w.heap.size + 1, 2, none⟩ = some (.int .i64 0) := HN8.out.cell 2
  have o2 : w7.cell? ⟨w6.heap.size + 1, 2, none⟩ = some (.int .i64 (n2 : Int)) := HO8.out.cell 2
  have f2 : w7.frozen? ⟨w.heap.size, 2, none⟩ = false := HR8.out.frozen 2
  have r3 : w7.cell? ⟨w.heap.size, 3, none⟩ = some (.int .u32 0) := HR8.out.cell 3
  have n3' : w7.cell? ⟨w.heap.size + 1, 3, none⟩ = some (.int .u32 0) := HN8.out.cell 3
  have o3 : w7.cell? ⟨w6.heap.size + 1, 3, none⟩ = some (.int .u32 (g : Int)) := HO8.out.cell 3
  have f3 : w7.frozen? ⟨w.heap.size, 3, none⟩ = false := HR8.out.frozen 3
  by_cases he : mn = xs
  · have HE := Sec.mk (HYES.out he)
    have hzz : (mn == xs) = true := by simp [he]
    clear he HYES HNO
    go_wp2
    refine bodyPost_ret (results_blk rfl rfl ((((HR8.out.set_ 0 (.bool true)).set_ 1 (.int .u32 (n1 : Int))).set_ 2 (.int .i64 (n2 : Int))).set_ 3 (.int .u32 (g : Int))) Tryd.underlying33 (by kernel_rfl)) rfl ?_
    rw [HE.out]
    exact ⟨rfl, (((HW8.out.setCell (fun h => absurd h (by simp)) _).setCell (fun h => absurd h (by simp)) _).setCell (fun h => absurd h (by simp)) _).setCell (fun h => absurd h (by simp)) _⟩
  · have HE := Sec.mk (HNO.out he)
    have hzz : (mn == xs) = false := by simpa using he
    clear he HYES HNO
    go_wp2
    refine bodyPost_ret (results_blk rfl rfl ((((HR8.out.set_ 0 (.bool false)).set_ 1 (.int .u32 0)).set_ 2 (.int .i64 0)).set_ 3 (.int .u32 0)) Tryd.underlying33 (by kernel_rfl)) rfl ?_
    rw [HE.out]
    exact ⟨rfl, (((HW8.out.setCell (fun h => absurd h (by simp)) _).setCell (fun h => absurd h (by simp)) _).setCell (fun h => absurd h (by simp)) _).setCell (fun h => absurd h (by simp)) _⟩
end Go.Proofs.YtbkccffpipcjeaaDoor
