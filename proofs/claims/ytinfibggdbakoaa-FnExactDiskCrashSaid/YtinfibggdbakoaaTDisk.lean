/- The laws' copies and sizes of Disk. -/
import Derived.Test.YtinfibggdbakoaaSDisk
import Derived.Test.YtinfibggdbakoaaTNode
import Derived.Test.YtinfibggdbakoaaTEntry
import Derived.Test.YtinfibggdbakoaaTEntry
import Derived.Test.YtinfibggdbakoaaTDirOp
import Derived.Test.YtinfibggdbakoaaSzLib
namespace Go.Proofs.Ytinfibggdbakoaa
open Go.RowKit Mem
set_option linter.unusedVariables false
set_option linter.unusedSimpArgs false
theorem okDisk {w : World} {v : Value} {x : DiskT} (h : RdV true dDisk w v x) : IntKind.i64.wrap x.2.2.2.2 = x.2.2.2.2 := by
  obtain ⟨cs, rfl, c0, r0, rfl, h0, c1, r1, rfl, h1, c2, r2, rfl, h2, c3, c4, rfl, h3, h4⟩ := h
  exact h4.2
def szDisk (x : DiskT) : Nat := (szNodeS x.1) + (szEntryS x.2.1) + (szEntryS x.2.2.1) + (szDirOpS x.2.2.2.1)
set_option maxHeartbeats 1000000 in
set_option maxRecDepth 100000 in
theorem szDisk_v {w : World} {v : Value} {x : DiskT} (h : RdV true dDisk w v x) (left : Int) (h0 : 0 ≤ left) (h1 : left ≤ 1048576) : Calls Try.prog 6 #[v, .int .i64 left] w (SzR w left (szDisk x)) := by
  obtain ⟨v0, v1, v2, v3, rfl, k0, k1, k2, k3⟩ := rdDisk h
  have HB0 := Sec.mk (Blk.new w 26 [v0, v1, v2, v3, .int .i64 x.2.2.2.2])
  have HM0 := Sec.mk ((Mod.refl (fun _ => False) w).alloc (.cells #[v0, v1, v2, v3, .int .i64 x.2.2.2.2] 26))
  have H0 := Sec.mk k0
  have H1 := Sec.mk k1
  have H2 := Sec.mk k2
  have H3 := Sec.mk k3
  have HS : Sec (szDisk x = (szNodeS x.1) + (szEntryS x.2.1) + (szEntryS x.2.2.1) + (szDirOpS x.2.2.2.1)) := ⟨rfl⟩
  clear h k0 k1 k2 k3
  generalize hs : szDisk x = s at *
  clear hs
  obtain ⟨c0, hc0⟩ : ∃ c, c = szNodeS x.1 := ⟨_, rfl⟩
  obtain ⟨c1, hc1⟩ : ∃ c, c = szEntryS x.2.1 := ⟨_, rfl⟩
  obtain ⟨c2, hc2⟩ : ∃ c, c = szEntryS x.2.2.1 := ⟨_, rfl⟩
  obtain ⟨c3, hc3⟩ : ∃ c, c = szDirOpS x.2.2.2.1 := ⟨_, rfl⟩
  rw [← hc0, ← hc1, ← hc2, ← hc3] at HS
  have HC0 := Sec.mk hc0
  have HC1 := Sec.mk hc1
  have HC2 := Sec.mk hc2
  have HC3 := Sec.mk hc3
  clear hc0 hc1 hc2 hc3
  by_cases g0 : left < (c0 : Int)
  · have hn0 : left - (c0 : Int) < 0 := by omega
    go_enter Try.func6, Try.ntmps6
    go_wp2_with fail
    refine (szNodeS_s (H0.out.step HM0.out) (left) (by omega) (by omega)).mono ?_
    rintro e w0 ⟨rfl, hm0⟩
    rw [← HC0.out, if_pos (by omega)]
    have HM0 := Sec.mk (HM0.out.transN hm0)
    have HB1 := Sec.mk (HB0.out.mod hm0 id)
    clear hm0
    go_wp2
    go_ret
    exact ⟨by rw [if_pos (by have := HS.out; omega)]; rfl, HM0.out⟩
  by_cases g1 : left < (c0 : Int) + (c1 : Int)
  · have hn1 : left - (c0 : Int) - (c1 : Int) < 0 := by omega
    go_enter Try.func6, Try.ntmps6
    go_wp2_with fail
    refine (szNodeS_s (H0.out.step HM0.out) (left) (by omega) (by omega)).mono ?_
    rintro e w0 ⟨rfl, hm0⟩
    rw [← HC0.out, if_neg (by omega)]
    have HM0 := Sec.mk (HM0.out.transN hm0)
    have HB1 := Sec.mk (HB0.out.mod hm0 id)
    have p0_1 : w0.cell? ⟨w.heap.size, 1, none⟩ = some (v1) := HB1.out.cell 1
    clear hm0
    have l0 : ¬ left - (c0 : Int) < 0 := by omega
    go_wp2_with fail
    refine (szEntryS_s (H1.out.step HM0.out) (left - (c0 : Int)) (by omega) (by omega)).mono ?_
    rintro e w1 ⟨rfl, hm1⟩
    rw [← HC1.out, if_pos (by omega)]
    have HM1 := Sec.mk (HM0.out.transN hm1)
    have HB2 := Sec.mk (HB1.out.mod hm1 id)
    clear hm1
    go_wp2
    go_ret
    exact ⟨by rw [if_pos (by have := HS.out; omega)]; rfl, HM1.out⟩
  by_cases g2 : left < (c0 : Int) + (c1 : Int) + (c2 : Int)
  · have hn2 : left - (c0 : Int) - (c1 : Int) - (c2 : Int) < 0 := by omega
    go_enter Try.func6, Try.ntmps6
    go_wp2_with fail
    refine (szNodeS_s (H0.out.step HM0.out) (left) (by omega) (by omega)).mono ?_
    rintro e w0 ⟨rfl, hm0⟩
    rw [← HC0.out, if_neg (by omega)]
    have HM0 := Sec.mk (HM0.out.transN hm0)
    have HB1 := Sec.mk (HB0.out.mod hm0 id)
    have p0_1 : w0.cell? ⟨w.heap.size, 1, none⟩ = some (v1) := HB1.out.cell 1
    have p0_2 : w0.cell? ⟨w.heap.size, 2, none⟩ = some (v2) := HB1.out.cell 2
    clear hm0
    have l0 : ¬ left - (c0 : Int) < 0 := by omega
    go_wp2_with fail
    refine (szEntryS_s (H1.out.step HM0.out) (left - (c0 : Int)) (by omega) (by omega)).mono ?_
    rintro e w1 ⟨rfl, hm1⟩
    rw [← HC1.out, if_neg (by omega)]
    have HM1 := Sec.mk (HM0.out.transN hm1)
    have HB2 := Sec.mk (HB1.out.mod hm1 id)
    have p1_2 : w1.cell? ⟨w.heap.size, 2, none⟩ = some (v2) := HB2.out.cell 2
    clear hm1
    have l1 : ¬ left - (c0 : Int) - (c1 : Int) < 0 := by omega
    go_wp2_with fail
    refine (szEntryS_s (H2.out.step HM1.out) (left - (c0 : Int) - (c1 : Int)) (by omega) (by omega)).mono ?_
    rintro e w2 ⟨rfl, hm2⟩
    rw [← HC2.out, if_pos (by omega)]
    have HM2 := Sec.mk (HM1.out.transN hm2)
    have HB3 := Sec.mk (HB2.out.mod hm2 id)
    clear hm2
    go_wp2
    go_ret
    exact ⟨by rw [if_pos (by have := HS.out; omega)]; rfl, HM2.out⟩
  by_cases g3 : left < (c0 : Int) + (c1 : Int) + (c2 : Int) + (c3 : Int)
  · have hn3 : left - (c0 : Int) - (c1 : Int) - (c2 : Int) - (c3 : Int) < 0 := by omega
    go_enter Try.func6, Try.ntmps6
    go_wp2_with fail
    refine (szNodeS_s (H0.out.step HM0.out) (left) (by omega) (by omega)).mono ?_
    rintro e w0 ⟨rfl, hm0⟩
    rw [← HC0.out, if_neg (by omega)]
    have HM0 := Sec.mk (HM0.out.transN hm0)
    have HB1 := Sec.mk (HB0.out.mod hm0 id)
    have p0_1 : w0.cell? ⟨w.heap.size, 1, none⟩ = some (v1) := HB1.out.cell 1
    have p0_2 : w0.cell? ⟨w.heap.size, 2, none⟩ = some (v2) := HB1.out.cell 2
    have p0_3 : w0.cell? ⟨w.heap.size, 3, none⟩ = some (v3) := HB1.out.cell 3
    clear hm0
    have l0 : ¬ left - (c0 : Int) < 0 := by omega
    go_wp2_with fail
    refine (szEntryS_s (H1.out.step HM0.out) (left - (c0 : Int)) (by omega) (by omega)).mono ?_
    rintro e w1 ⟨rfl, hm1⟩
    rw [← HC1.out, if_neg (by omega)]
    have HM1 := Sec.mk (HM0.out.transN hm1)
    have HB2 := Sec.mk (HB1.out.mod hm1 id)
    have p1_2 : w1.cell? ⟨w.heap.size, 2, none⟩ = some (v2) := HB2.out.cell 2
    have p1_3 : w1.cell? ⟨w.heap.size, 3, none⟩ = some (v3) := HB2.out.cell 3
    clear hm1
    have l1 : ¬ left - (c0 : Int) - (c1 : Int) < 0 := by omega
    go_wp2_with fail
    refine (szEntryS_s (H2.out.step HM1.out) (left - (c0 : Int) - (c1 : Int)) (by omega) (by omega)).mono ?_
    rintro e w2 ⟨rfl, hm2⟩
    rw [← HC2.out, if_neg (by omega)]
    have HM2 := Sec.mk (HM1.out.transN hm2)
    have HB3 := Sec.mk (HB2.out.mod hm2 id)
    have p2_3 : w2.cell? ⟨w.heap.size, 3, none⟩ = some (v3) := HB3.out.cell 3
    clear hm2
    have l2 : ¬ left - (c0 : Int) - (c1 : Int) - (c2 : Int) < 0 := by omega
    go_wp2_with fail
    refine (szDirOpS_s (H3.out.step HM2.out) (left - (c0 : Int) - (c1 : Int) - (c2 : Int)) (by omega) (by omega)).mono ?_
    rintro e w3 ⟨rfl, hm3⟩
    rw [← HC3.out, if_pos (by omega)]
    have HM3 := Sec.mk (HM2.out.transN hm3)
    have HB4 := Sec.mk (HB3.out.mod hm3 id)
    clear hm3
    go_wp2
    go_ret
    exact ⟨by rw [if_pos (by have := HS.out; omega)]; rfl, HM3.out⟩
  go_enter Try.func6, Try.ntmps6
  go_wp2_with fail
  refine (szNodeS_s (H0.out.step HM0.out) (left) (by omega) (by omega)).mono ?_
  rintro e w0 ⟨rfl, hm0⟩
  rw [← HC0.out, if_neg (by omega)]
  have HM0 := Sec.mk (HM0.out.transN hm0)
  have HB1 := Sec.mk (HB0.out.mod hm0 id)
  have p0_1 : w0.cell? ⟨w.heap.size, 1, none⟩ = some (v1) := HB1.out.cell 1
  have p0_2 : w0.cell? ⟨w.heap.size, 2, none⟩ = some (v2) := HB1.out.cell 2
  have p0_3 : w0.cell? ⟨w.heap.size, 3, none⟩ = some (v3) := HB1.out.cell 3
  clear hm0
  have l0 : ¬ left - (c0 : Int) < 0 := by omega
  go_wp2_with fail
  refine (szEntryS_s (H1.out.step HM0.out) (left - (c0 : Int)) (by omega) (by omega)).mono ?_
  rintro e w1 ⟨rfl, hm1⟩
  rw [← HC1.out, if_neg (by omega)]
  have HM1 := Sec.mk (HM0.out.transN hm1)
  have HB2 := Sec.mk (HB1.out.mod hm1 id)
  have p1_2 : w1.cell? ⟨w.heap.size, 2, none⟩ = some (v2) := HB2.out.cell 2
  have p1_3 : w1.cell? ⟨w.heap.size, 3, none⟩ = some (v3) := HB2.out.cell 3
  clear hm1
  have l1 : ¬ left - (c0 : Int) - (c1 : Int) < 0 := by omega
  go_wp2_with fail
  refine (szEntryS_s (H2.out.step HM1.out) (left - (c0 : Int) - (c1 : Int)) (by omega) (by omega)).mono ?_
  rintro e w2 ⟨rfl, hm2⟩
  rw [← HC2.out, if_neg (by omega)]
  have HM2 := Sec.mk (HM1.out.transN hm2)
  have HB3 := Sec.mk (HB2.out.mod hm2 id)
  have p2_3 : w2.cell? ⟨w.heap.size, 3, none⟩ = some (v3) := HB3.out.cell 3
  clear hm2
  have l2 : ¬ left - (c0 : Int) - (c1 : Int) - (c2 : Int) < 0 := by omega
  go_wp2_with fail
  refine (szDirOpS_s (H3.out.step HM2.out) (left - (c0 : Int) - (c1 : Int) - (c2 : Int)) (by omega) (by omega)).mono ?_
  rintro e w3 ⟨rfl, hm3⟩
  rw [← HC3.out, if_neg (by omega)]
  have HM3 := Sec.mk (HM2.out.transN hm3)
  have HB4 := Sec.mk (HB3.out.mod hm3 id)
  clear hm3
  have l3 : ¬ left - (c0 : Int) - (c1 : Int) - (c2 : Int) - (c3 : Int) < 0 := by omega
  go_wp2
  go_ret
  exact ⟨by rw [if_neg (by have := HS.out; omega)]; have := HS.out; simp; omega, HM3.out⟩
set_option maxHeartbeats 1000000 in
set_option maxRecDepth 100000 in
theorem toDisk_v {w : World} {v : Value} {x : DiskT} (h : RdV true dDisk w v x) (hs : szDisk x ≤ 1048576) : Calls Try.prog 8 #[v] w (RetV true dDisk w x) := by
  obtain ⟨v0, v1, v2, v3, rfl, k0, k1, k2, k3⟩ := rdDisk h
  have HG := Sec.mk (okDisk h)
  have hsz : (szNodeS x.1) + (szEntryS x.2.1) + (szEntryS x.2.2.1) + (szDirOpS x.2.2.2.1) ≤ 1048576 := hs
  have HX := Sec.mk (((Blk.new w 26 [v0, v1, v2, v3, .int .i64 x.2.2.2.2]).alloc (.cells #[.slice none 0 0, .slice none 0 0, .slice none 0 0, .slice none 0 0, .int .i64 0] 33)).alloc (.cells #[.slice none 0 0, .slice none 0 0, .slice none 0 0, .slice none 0 0, .int .i64 0] 33))
  have HR := Sec.mk ((Blk.new (w.alloc (.cells #[v0, v1, v2, v3, .int .i64 x.2.2.2.2] 26)) 33 [.slice none 0 0, .slice none 0 0, .slice none 0 0, .slice none 0 0, .int .i64 0]).alloc (.cells #[.slice none 0 0, .slice none 0 0, .slice none 0 0, .slice none 0 0, .int .i64 0] 33))
  have HO := Sec.mk (Blk.new ((w.alloc (.cells #[v0, v1, v2, v3, .int .i64 x.2.2.2.2] 26)).alloc (.cells #[.slice none 0 0, .slice none 0 0, .slice none 0 0, .slice none 0 0, .int .i64 0] 33)) 33 [.slice none 0 0, .slice none 0 0, .slice none 0 0, .slice none 0 0, .int .i64 0])
  rw [show (w.alloc (.cells #[v0, v1, v2, v3, .int .i64 x.2.2.2.2] 26)).heap.size = w.heap.size + 1 by simp] at HR
  rw [show ((w.alloc (.cells #[v0, v1, v2, v3, .int .i64 x.2.2.2.2] 26)).alloc (.cells #[.slice none 0 0, .slice none 0 0, .slice none 0 0, .slice none 0 0, .int .i64 0] 33)).heap.size = w.heap.size + 2 by simp] at HO
  have HM := Sec.mk ((((Mod.refl (fun _ => False) w).alloc (.cells #[v0, v1, v2, v3, .int .i64 x.2.2.2.2] 26)).alloc (.cells #[.slice none 0 0, .slice none 0 0, .slice none 0 0, .slice none 0 0, .int .i64 0] 33)).alloc (.cells #[.slice none 0 0, .slice none 0 0, .slice none 0 0, .slice none 0 0, .int .i64 0] 33))
  have H0 := Sec.mk k0
  have H1 := Sec.mk k1
  have H2 := Sec.mk k2
  have H3 := Sec.mk k3
  clear h k0 k1 k2 k3
  go_enter Try.func8, Try.ntmps8
  go_wp2_with fail
  refine (toNodeS_v (H0.out.step HM.out) (by omega)).mono ?_
  rintro e w0 ⟨y0, rfl, ho0, hm0⟩
  have HM0 := Sec.mk (HM.out.transN hm0)
  have hs0 := hm0.size
  simp [World.setCell] at hs0
  have HX0 := Sec.mk (HX.out.mod hm0 id)
  have HR0 := Sec.mk (HR.out.mod hm0 id)
  have HO0' := Sec.mk (HO.out.mod hm0 id)
  have hO0 : w0.cell? ⟨w.heap.size + 2, 0, none⟩ = some (.slice none 0 0) := HO0'.out.cell 0
  have hF0 : w0.frozen? ⟨w.heap.size + 2, 0, none⟩ = false := HO0'.out.frozen 0
  have pX0_1 : w0.cell? ⟨w.heap.size, 1, none⟩ = some (v1) := HX0.out.cell 1
  obtain ⟨aY0, qY0, rfl⟩ := owSl_form ho0
  have HO0 := Sec.mk (HO0'.out.set_ 0 (.slice aY0 x.1.length qY0))
  simp only [List.set_cons_zero, List.set_cons_succ] at HO0
  have HX0' := Sec.mk (HX0.out.far (p := ⟨w.heap.size + 2, 0, none⟩) (by simp; try omega) (.slice aY0 x.1.length qY0))
  have HR0' := Sec.mk (HR0.out.far (p := ⟨w.heap.size + 2, 0, none⟩) (by simp; try omega) (.slice aY0 x.1.length qY0))
  have HM0' := Sec.mk (HM0.out.setCell (p := ⟨w.heap.size + 2, 0, none⟩) (fun h => absurd h (by simp; try omega)) (.slice aY0 x.1.length qY0))
  have hMo0 := ((Mod.refl (fun k => k = w.heap.size + 2) w0).setCell (p := ⟨w.heap.size + 2, 0, none⟩) (fun _ => rfl) (.slice aY0 x.1.length qY0))
  have HW0_0 := Sec.mk (ho0.keep hMo0 (fun k h1 h2 h3 => by simp at h1; omega))
  clear ho0 hm0 hMo0
  go_wp2_with fail
  refine (toEntryS_v (H1.out.step HM0'.out) (by omega)).mono ?_
  rintro e w1 ⟨y1, rfl, ho1, hm1⟩
  have HM1 := Sec.mk (HM0'.out.transN hm1)
  have hs1 := hm1.size
  simp [World.setCell] at hs1
  have HX1 := Sec.mk (HX0'.out.mod hm1 id)
  have HR1 := Sec.mk (HR0'.out.mod hm1 id)
  have HO1' := Sec.mk (HO0.out.mod hm1 id)
  have HW0_1 := Sec.mk (HW0_0.out.step hm1)
  have hO1 : w1.cell? ⟨w.heap.size + 2, 1, none⟩ = some (.slice none 0 0) := HO1'.out.cell 1
  have hF1 : w1.frozen? ⟨w.heap.size + 2, 1, none⟩ = false := HO1'.out.frozen 1
  have pX1_2 : w1.cell? ⟨w.heap.size, 2, none⟩ = some (v2) := HX1.out.cell 2
  obtain ⟨aY1, qY1, rfl⟩ := owSl_form ho1
  have HO1 := Sec.mk (HO1'.out.set_ 1 (.slice aY1 x.2.1.length qY1))
  simp only [List.set_cons_zero, List.set_cons_succ] at HO1
  have HX1' := Sec.mk (HX1.out.far (p := ⟨w.heap.size + 2, 1, none⟩) (by simp; try omega) (.slice aY1 x.2.1.length qY1))
  have HR1' := Sec.mk (HR1.out.far (p := ⟨w.heap.size + 2, 1, none⟩) (by simp; try omega) (.slice aY1 x.2.1.length qY1))
  have HM1' := Sec.mk (HM1.out.setCell (p := ⟨w.heap.size + 2, 1, none⟩) (fun h => absurd h (by simp; try omega)) (.slice aY1 x.2.1.length qY1))
  have hMo1 := ((Mod.refl (fun k => k = w.heap.size + 2) w1).setCell (p := ⟨w.heap.size + 2, 1, none⟩) (fun _ => rfl) (.slice aY1 x.2.1.length qY1))
  have HW1_1 := Sec.mk (ho1.keep hMo1 (fun k h1 h2 h3 => by simp at h1; omega))
  have HW0_1 := Sec.mk (HW0_1.out.keep hMo1 (fun k h1 h2 h3 => by simp at h1; omega))
  clear ho1 hm1 hMo1
  go_wp2_with fail
  refine (toEntryS_v (H2.out.step HM1'.out) (by omega)).mono ?_
  rintro e w2 ⟨y2, rfl, ho2, hm2⟩
  have HM2 := Sec.mk (HM1'.out.transN hm2)
  have hs2 := hm2.size
  simp [World.setCell] at hs2
  have HX2 := Sec.mk (HX1'.out.mod hm2 id)
  have HR2 := Sec.mk (HR1'.out.mod hm2 id)
  have HO2' := Sec.mk (HO1.out.mod hm2 id)
  have HW0_2 := Sec.mk (HW0_1.out.step hm2)
  have HW1_2 := Sec.mk (HW1_1.out.step hm2)
  have hO2 : w2.cell? ⟨w.heap.size + 2, 2, none⟩ = some (.slice none 0 0) := HO2'.out.cell 2
  have hF2 : w2.frozen? ⟨w.heap.size + 2, 2, none⟩ = false := HO2'.out.frozen 2
  have pX2_3 : w2.cell? ⟨w.heap.size, 3, none⟩ = some (v3) := HX2.out.cell 3
  obtain ⟨aY2, qY2, rfl⟩ := owSl_form ho2
  have HO2 := Sec.mk (HO2'.out.set_ 2 (.slice aY2 x.2.2.1.length qY2))
  simp only [List.set_cons_zero, List.set_cons_succ] at HO2
  have HX2' := Sec.mk (HX2.out.far (p := ⟨w.heap.size + 2, 2, none⟩) (by simp; try omega) (.slice aY2 x.2.2.1.length qY2))
  have HR2' := Sec.mk (HR2.out.far (p := ⟨w.heap.size + 2, 2, none⟩) (by simp; try omega) (.slice aY2 x.2.2.1.length qY2))
  have HM2' := Sec.mk (HM2.out.setCell (p := ⟨w.heap.size + 2, 2, none⟩) (fun h => absurd h (by simp; try omega)) (.slice aY2 x.2.2.1.length qY2))
  have hMo2 := ((Mod.refl (fun k => k = w.heap.size + 2) w2).setCell (p := ⟨w.heap.size + 2, 2, none⟩) (fun _ => rfl) (.slice aY2 x.2.2.1.length qY2))
  have HW2_2 := Sec.mk (ho2.keep hMo2 (fun k h1 h2 h3 => by simp at h1; omega))
  have HW0_2 := Sec.mk (HW0_2.out.keep hMo2 (fun k h1 h2 h3 => by simp at h1; omega))
  have HW1_2 := Sec.mk (HW1_2.out.keep hMo2 (fun k h1 h2 h3 => by simp at h1; omega))
  clear ho2 hm2 hMo2
  go_wp2_with fail
  refine (toDirOpS_v (H3.out.step HM2'.out) (by omega)).mono ?_
  rintro e w3 ⟨y3, rfl, ho3, hm3⟩
  have HM3 := Sec.mk (HM2'.out.transN hm3)
  have hs3 := hm3.size
  simp [World.setCell] at hs3
  have HX3 := Sec.mk (HX2'.out.mod hm3 id)
  have HR3 := Sec.mk (HR2'.out.mod hm3 id)
  have HO3' := Sec.mk (HO2.out.mod hm3 id)
  have HW0_3 := Sec.mk (HW0_2.out.step hm3)
  have HW1_3 := Sec.mk (HW1_2.out.step hm3)
  have HW2_3 := Sec.mk (HW2_2.out.step hm3)
  have hO3 : w3.cell? ⟨w.heap.size + 2, 3, none⟩ = some (.slice none 0 0) := HO3'.out.cell 3
  have hF3 : w3.frozen? ⟨w.heap.size + 2, 3, none⟩ = false := HO3'.out.frozen 3
  have pX3_4 : w3.cell? ⟨w.heap.size, 4, none⟩ = some (.int .i64 x.2.2.2.2) := HX3.out.cell 4
  have hO4 : w3.cell? ⟨w.heap.size + 2, 4, none⟩ = some (.int .i64 0) := HO3'.out.cell 4
  have hF4 : w3.frozen? ⟨w.heap.size + 2, 4, none⟩ = false := HO3'.out.frozen 4
  obtain ⟨aY3, qY3, rfl⟩ := owSl_form ho3
  have HO3 := Sec.mk ((HO3'.out.set_ 3 (.slice aY3 x.2.2.2.1.length qY3)).set_ 4 (.int .i64 x.2.2.2.2))
  simp only [List.set_cons_zero, List.set_cons_succ] at HO3
  have HX3' := Sec.mk ((HX3.out.far (p := ⟨w.heap.size + 2, 3, none⟩) (by simp; try omega) (.slice aY3 x.2.2.2.1.length qY3)).far (p := ⟨w.heap.size + 2, 4, none⟩) (by simp; try omega) (.int .i64 x.2.2.2.2))
  have HR3' := Sec.mk ((HR3.out.far (p := ⟨w.heap.size + 2, 3, none⟩) (by simp; try omega) (.slice aY3 x.2.2.2.1.length qY3)).far (p := ⟨w.heap.size + 2, 4, none⟩) (by simp; try omega) (.int .i64 x.2.2.2.2))
  have HM3' := Sec.mk ((HM3.out.setCell (p := ⟨w.heap.size + 2, 3, none⟩) (fun h => absurd h (by simp; try omega)) (.slice aY3 x.2.2.2.1.length qY3)).setCell (p := ⟨w.heap.size + 2, 4, none⟩) (fun h => absurd h (by simp; try omega)) (.int .i64 x.2.2.2.2))
  have hMo3 := (((Mod.refl (fun k => k = w.heap.size + 2) w3).setCell (p := ⟨w.heap.size + 2, 3, none⟩) (fun _ => rfl) (.slice aY3 x.2.2.2.1.length qY3)).setCell (p := ⟨w.heap.size + 2, 4, none⟩) (fun _ => rfl) (.int .i64 x.2.2.2.2))
  have HW3_3 := Sec.mk (ho3.keep hMo3 (fun k h1 h2 h3 => by simp at h1; omega))
  have HW0_3 := Sec.mk (HW0_3.out.keep hMo3 (fun k h1 h2 h3 => by simp at h1; omega))
  have HW1_3 := Sec.mk (HW1_3.out.keep hMo3 (fun k h1 h2 h3 => by simp at h1; omega))
  have HW2_3 := Sec.mk (HW2_3.out.keep hMo3 (fun k h1 h2 h3 => by simp at h1; omega))
  clear ho3 hm3 hMo3
  have tO0 := HO3.out.cell 0
  have tR0 := HR3'.out.cell 0
  have tF0 := HR3'.out.frozen 0
  have tO1 := HO3.out.cell 1
  have tR1 := HR3'.out.cell 1
  have tF1 := HR3'.out.frozen 1
  have tO2 := HO3.out.cell 2
  have tR2 := HR3'.out.cell 2
  have tF2 := HR3'.out.frozen 2
  have tO3 := HO3.out.cell 3
  have tR3 := HR3'.out.cell 3
  have tF3 := HR3'.out.frozen 3
  have tO4 := HO3.out.cell 4
  have tR4 := HR3'.out.cell 4
  have tF4 := HR3'.out.frozen 4
  simp only [List.getElem?_cons_zero, List.getElem?_cons_succ] at tO0 tR0 tO1 tR1 tO2 tR2 tO3 tR3 tO4 tR4
  skip
  go_wp2
  refine bodyPost_ret (results_blk rfl rfl (((((HR3'.out.set_ 0 (.slice aY0 x.1.length qY0)).set_ 1 (.slice aY1 x.2.1.length qY1)).set_ 2 (.slice aY2 x.2.2.1.length qY2)).set_ 3 (.slice aY3 x.2.2.2.1.length qY3)).set_ 4 (.int .i64 x.2.2.2.2)) Try.underlying33 (by kernel_rfl)) rfl ?_
  have hMr := ((((((Mod.refl (fun k => k = w.heap.size + 1) ((w3.setCell ⟨w.heap.size + 2, 3, none⟩ (.slice aY3 x.2.2.2.1.length qY3)).setCell ⟨w.heap.size + 2, 4, none⟩ (.int .i64 x.2.2.2.2))).setCell (p := ⟨w.heap.size + 1, 0, none⟩) (fun _ => rfl) (.slice aY0 x.1.length qY0)).setCell (p := ⟨w.heap.size + 1, 1, none⟩) (fun _ => rfl) (.slice aY1 x.2.1.length qY1)).setCell (p := ⟨w.heap.size + 1, 2, none⟩) (fun _ => rfl) (.slice aY2 x.2.2.1.length qY2)).setCell (p := ⟨w.heap.size + 1, 3, none⟩) (fun _ => rfl) (.slice aY3 x.2.2.2.1.length qY3)).setCell (p := ⟨w.heap.size + 1, 4, none⟩) (fun _ => rfl) (.int .i64 x.2.2.2.2))
  have z0 := HW0_3.out.keep hMr (fun k h1 h2 h3 => by simp at h1; omega)
  have z1 := HW1_3.out.keep hMr (fun k h1 h2 h3 => by simp at h1; omega)
  have z2 := HW2_3.out.keep hMr (fun k h1 h2 h3 => by simp at h1; omega)
  have z3 := HW3_3.out.keep hMr (fun k h1 h2 h3 => by simp at h1; omega)
  obtain ⟨_, _, F0, _, f0, r0⟩ := OwV.slice z0
  obtain ⟨_, _, F1, _, f1, r1⟩ := OwV.slice z1
  obtain ⟨_, _, F2, _, f2, r2⟩ := OwV.slice z2
  obtain ⟨_, _, F3, _, f3, r3⟩ := OwV.slice z3
  refine ⟨_, rfl, ⟨_, _, rfl, mDisk (HG.out) f0 f1 f2 f3 ?_, ?_⟩, (((((HM3'.out.setCell (fun h => absurd h (by simp; try omega)) _).setCell (fun h => absurd h (by simp; try omega)) _).setCell (fun h => absurd h (by simp; try omega)) _).setCell (fun h => absurd h (by simp; try omega)) _).setCell (fun h => absurd h (by simp; try omega)) _)⟩
  · exact nd4 f0.nd r0 f1.nd r1 f2.nd r2 f3.nd r3 (by (try simp only [sz_set]); omega) (by (try simp only [sz_set]); omega) (by (try simp only [sz_set]); omega) (by (try simp only [sz_set]); omega) (by (try simp only [sz_set]); omega)
  · intro k hk; simp only [List.mem_append, List.mem_nil_iff, or_false, false_or] at hk; rcases hk with hk | hk | hk | hk; all_goals (first | (have := r0 k hk; simp at this ⊢; try omega) | (have := r1 k hk; simp at this ⊢; try omega) | (have := r2 k hk; simp at this ⊢; try omega) | (have := r3 k hk; simp at this ⊢; try omega))
end Go.Proofs.Ytinfibggdbakoaa
