/- The program's ParsePop. -/
import Derived.Test.YtciaoedjiggonaaPop
import Derived.Carry
namespace Go.Proofs.Ytciaoedjiggonaa
open Go.RowKit Mem
set_option linter.unusedVariables false
set_option linter.unusedSimpArgs false
theorem zeroInt (w : World) : (zeroValue 3).run Try.prog w = .ok (.int .i64 0) w := by go_simp
theorem kStr : KeyE Try.prog 9 (fun x : List UInt8 => x.length ≤ 1048576) (fun x => .string ⟨x.toArray⟩) (fun x => .string x) := keyS Try.underlying9
theorem vInt : ValE Try.prog 3 (fun x : Int => (Lit.int .i64 x).wf = true) (fun x => .int .i64 x) (fun x => .int .i64 x) 0 := valI Try.underlying3 zeroInt
theorem mkMapSI (w : World) : (Instr.makeMap 86 none).run Try.prog w = .ok (.map (some w.heap.size)) (w.alloc (.map #[] 0)) := run_makeMap _ w
theorem aloneK_wrap (u : Bytes) : IntKind.i64.wrap (aloneK u) = aloneK u := by
  unfold aloneK
  repeat' (split; · decide)
  decide
theorem withK_wrap (u : Bytes) : IntKind.i64.wrap (withK u) = withK u := by
  unfold withK
  repeat' (split; · decide)
  decide
abbrev MapSI (w : World) (b n : Nat) (f : Bytes → Int) : Prop := MapOf Try.prog 9 3 (fun x : Bytes => .string x) (fun x : Int => .int .i64 x) 0 w b n f
set_option maxHeartbeats 4000000 in
set_option maxRecDepth 100000 in
theorem popImpl_calls {A : Option Addr} {c : Nat} {xs : Bytes} {B : Nat → Prop} {w : World} (h : Row Ty.byte w B A xs.length xs) (hB : ∀ k, B k → k < w.heap.size) (hxs : xs.length ≤ 1048576) : Calls Try.prog 32 #[.slice A xs.length c] w (RetV true dCmd w (PopL xs)) := by
  have HM0 := Sec.mk ((Mod.refl (fun _ => False) w).alloc (.cells #[.int .i64 0, .string ⟨#[]⟩, .int .u32 0, .bool false, .slice none 0 0, .int .i64 0, .int .i64 0, .int .u32 0, .slice none 0 0] 48))
  have hcv := (h.mod (w' := w.alloc (.cells #[.int .i64 0, .string ⟨#[]⟩, .int .u32 0, .bool false, .slice none 0 0, .int .i64 0, .int .i64 0, .int .u32 0, .slice none 0 0] 48)) (fun _ h => h) (fun k hk => HM0.out.block k (hB k hk) id)).conv (P := Try.prog) Try.underlying22 Try.underlying5 Try.underlying9 c
  have HR0 := Sec.mk (Blk.new w 48 [.int .i64 0, .string ⟨#[]⟩, .int .u32 0, .bool false, .slice none 0 0, .int .i64 0, .int .i64 0, .int .u32 0, .slice none 0 0])
  clear h hB
  have HC := Sec.mk (fun w => cut1_calls xs (by omega) 32 w)
  have HPL : Sec (PopL xs = if (cutL 32 xs).2.2 then (if goodN (cutL 32 xs).2.1 then (if withK (upL (cutL 32 xs).1) = 0 then popC 0 0 else popC (withK (upL (cutL 32 xs).1)) (decL 10 (cutL 32 xs).2.1).1) else popC 0 0) else popC (aloneK (upL (cutL 32 xs).1)) 0) := ⟨rfl⟩
  have hl1 : (cutL 32 xs).1.length ≤ xs.length ∧ (cutL 32 xs).2.1.length ≤ xs.length := by
    cases hq : (cutL 32 xs).2.2
    · rw [cutL_no 32 xs hq]; simp
    · have := cutL_len 32 xs hq; omega
  generalize (cutL 32 xs).1 = a at *
  generalize (cutL 32 xs).2.1 = num at *
  have HD := Sec.mk (fun w => decimal_calls 10 (by decide) num (by omega) w)
  have HU := Sec.mk (fun w => upper_calls a (by omega) w)
  have hul : (upL a).length ≤ 1048576 := by rw [upL_len]; omega
  have HGN : Sec (goodN num = ((decL 10 num).2 && decide (1 ≤ ((decL 10 num).1 : Int) ∧ ((decL 10 num).1 : Int) ≤ 4294967295))) := ⟨rfl⟩
  have HAK := Sec.mk (IntKind.wrap_i64 (aloneK (upL a)))
  generalize hdd : decL 10 num = dd at *
  obtain ⟨n, ok⟩ := dd
  generalize upL a = u at *
  clear hdd
  simp only at HD HPL HGN
  cases hq : (cutL 32 xs).2.2
  · rw [hq] at HC HPL
    have HE : Sec (PopL xs = popC (aloneK u) 0) := ⟨by rw [HPL.out, if_neg (by simp)]⟩
    clear HPL hq
    go_enter Try.func32, Try.ntmps32
    go_wp2_with fail
    refine (HC.out _).mono ?_
    rintro e w1 ⟨rfl, hm1⟩
    go_wp2_with fail
    refine (HD.out _).mono ?_
    rintro e w2 ⟨rfl, hm2⟩
    go_wp2_with fail
    refine (HU.out _).mono ?_
    rintro e w3 ⟨rfl, hm3⟩
    have HR3 := Sec.mk (((HR0.out.mod hm1 id).mod hm2 id).mod hm3 id)
    have HM3 := Sec.mk (((HM0.out.transN hm1).transN hm2).transN hm3)
    clear hm1 hm2 hm3 HR0 HM0 hcv
    have P0 : Sec (MapSI (w3.alloc (.map #[] 0)) w3.heap.size 0 (fun _ => 0)) := ⟨MapOf.made _⟩
    have R0 := Sec.mk (HR3.out.alloc (.map #[] 0))
    have M0 := Sec.mk (HM3.out.alloc (.map #[] 0))
    have mk := mkMapSI
    have hlt0 : w.heap.size < w3.heap.size := by have := HR3.out.lt; omega
    go_wp2_with (first | (refine wpList_mapSet (w := _) kStr vInt rfl _ _ _ _ (.inr rfl) Try.underlying86 rfl P0.out (by decide) _ _ rfl rfl (by decide) (by decide) ?_; intro m1 hmap hmod; have P1 := Sec.mk hmap; have R1 := Sec.mk (R0.out.mod hmod (by omega)); have M1 := Sec.mk (M0.out.trans hmod (fun i hi hl => by omega)); clear hmap hmod) | (refine wpList_mapSet (w := _) kStr vInt rfl _ _ _ _ (.inr rfl) Try.underlying86 rfl P1.out (by decide) _ _ rfl rfl (by decide) (by decide) ?_; intro m2 hmap hmod; have P2 := Sec.mk hmap; have R2 := Sec.mk (R1.out.mod hmod (by omega)); have M2 := Sec.mk (M1.out.trans hmod (fun i hi hl => by omega)); clear hmap hmod) | (refine wpList_mapSet (w := _) kStr vInt rfl _ _ _ _ (.inr rfl) Try.underlying86 rfl P2.out (by decide) _ _ rfl rfl (by decide) (by decide) ?_; intro m3 hmap hmod; have P3 := Sec.mk hmap; have R3 := Sec.mk (R2.out.mod hmod (by omega)); have M3 := Sec.mk (M2.out.trans hmod (fun i hi hl => by omega)); clear hmap hmod) | (refine wpList_mapSet (w := _) kStr vInt rfl _ _ _ _ (.inr rfl) Try.underlying86 rfl P3.out (by decide) _ _ rfl rfl (by decide) (by decide) ?_; intro m4 hmap hmod; have P4 := Sec.mk hmap; have R4 := Sec.mk (R3.out.mod hmod (by omega)); have M4 := Sec.mk (M3.out.trans hmod (fun i hi hl => by omega)); clear hmap hmod) | (refine wpList_mapSet (w := _) kStr vInt rfl _ _ _ _ (.inr rfl) Try.underlying86 rfl P4.out (by decide) _ _ rfl rfl (by decide) (by decide) ?_; intro m5 hmap hmod; have P5 := Sec.mk hmap; have R5 := Sec.mk (R4.out.mod hmod (by omega)); have M5 := Sec.mk (M4.out.trans hmod (fun i hi hl => by omega)); clear hmap hmod) | (refine wpList_mapSet (w := _) kStr vInt rfl _ _ _ _ (.inr rfl) Try.underlying86 rfl P5.out (by decide) _ _ rfl rfl (by decide) (by decide) ?_; intro m6 hmap hmod; have P6 := Sec.mk hmap; have R6 := Sec.mk (R5.out.mod hmod (by omega)); have M6 := Sec.mk (M5.out.trans hmod (fun i hi hl => by omega)); have Q0 : Sec (MapSI (m6.alloc (.map #[] 0)) m6.heap.size 0 (fun _ => 0)) := ⟨MapOf.made _⟩; have A0 : Sec (MapSI (m6.alloc (.map #[] 0)) w3.heap.size 6 aloneK) := ⟨MapOf.mod (S := fun _ => False) P6.out ((Mod.refl _ _).alloc _) id⟩; have S0 := Sec.mk (R6.out.alloc (.map #[] 0)); have N0 := Sec.mk (M6.out.alloc (.map #[] 0)); have hlt6 : w3.heap.size < m6.heap.size := P6.out.lt; clear hmap hmod) | (refine wpList_mapSet kStr vInt rfl _ _ _ _ (.inr rfl) Try.underlying86 rfl Q0.out (by decide) _ _ rfl rfl (by decide) (by decide) ?_; intro q1 hmap hmod; have Q1 := Sec.mk hmap; have A1 := Sec.mk (A0.out.mod hmod (by omega)); have S1 := Sec.mk (S0.out.mod hmod (by omega)); have N1 := Sec.mk (N0.out.trans hmod (fun i hi hl => by omega)); clear hmap hmod) | (refine wpList_mapSet kStr vInt rfl _ _ _ _ (.inr rfl) Try.underlying86 rfl Q1.out (by decide) _ _ rfl rfl (by decide) (by decide) ?_; intro q2 hmap hmod; have Q2 := Sec.mk hmap; have A2 := Sec.mk (A1.out.mod hmod (by omega)); have S2 := Sec.mk (S1.out.mod hmod (by omega)); have N2 := Sec.mk (N1.out.trans hmod (fun i hi hl => by omega)); clear hmap hmod) | (refine wpList_mapSet kStr vInt rfl _ _ _ _ (.inr rfl) Try.underlying86 rfl Q2.out (by decide) _ _ rfl rfl (by decide) (by decide) ?_; intro q3 hmap hmod; have Q3 := Sec.mk hmap; have A3 := Sec.mk (A2.out.mod hmod (by omega)); have S3 := Sec.mk (S2.out.mod hmod (by omega)); have N3 := Sec.mk (N2.out.trans hmod (fun i hi hl => by omega)); clear hmap hmod) | (refine wpList_mapSet kStr vInt rfl _ _ _ _ (.inr rfl) Try.underlying86 rfl Q3.out (by decide) _ _ rfl rfl (by decide) (by decide) ?_; intro q4 hmap hmod; have Q4 := Sec.mk hmap; have A4 := Sec.mk (A3.out.mod hmod (by omega)); have S4 := Sec.mk (S3.out.mod hmod (by omega)); have N4 := Sec.mk (N3.out.trans hmod (fun i hi hl => by omega)); have W4 : Sec (MapSI q4 m6.heap.size 4 withK) := ⟨Q4.out⟩; have hc0 : q4.cell? ⟨w.heap.size, 0, none⟩ = some (.int .i64 0) := S4.out.cell 0; have hf0 : q4.frozen? ⟨w.heap.size, 0, none⟩ = false := S4.out.frozen 0; have hc1 : q4.cell? ⟨w.heap.size, 1, none⟩ = some (.string ⟨#[]⟩) := S4.out.cell 1; have hf1 : q4.frozen? ⟨w.heap.size, 1, none⟩ = false := S4.out.frozen 1; have hc2 : q4.cell? ⟨w.heap.size, 2, none⟩ = some (.int .u32 0) := S4.out.cell 2; have hf2 : q4.frozen? ⟨w.heap.size, 2, none⟩ = false := S4.out.frozen 2; have hc3 : q4.cell? ⟨w.heap.size, 3, none⟩ = some (.bool false) := S4.out.cell 3; have hf3 : q4.frozen? ⟨w.heap.size, 3, none⟩ = false := S4.out.frozen 3; have hc4 : q4.cell? ⟨w.heap.size, 4, none⟩ = some (.slice none 0 0) := S4.out.cell 4; have hf4 : q4.frozen? ⟨w.heap.size, 4, none⟩ = false := S4.out.frozen 4; have hc5 : q4.cell? ⟨w.heap.size, 5, none⟩ = some (.int .i64 0) := S4.out.cell 5; have hf5 : q4.frozen? ⟨w.heap.size, 5, none⟩ = false := S4.out.frozen 5; have hc6 : q4.cell? ⟨w.heap.size, 6, none⟩ = some (.int .i64 0) := S4.out.cell 6; have hf6 : q4.frozen? ⟨w.heap.size, 6, none⟩ = false := S4.out.frozen 6; have hc7 : q4.cell? ⟨w.heap.size, 7, none⟩ = some (.int .u32 0) := S4.out.cell 7; have hf7 : q4.frozen? ⟨w.heap.size, 7, none⟩ = false := S4.out.frozen 7; have hc8 : q4.cell? ⟨w.heap.size, 8, none⟩ = some (.slice none 0 0) := S4.out.cell 8; have hf8 : q4.frozen? ⟨w.heap.size, 8, none⟩ = false := S4.out.frozen 8; clear hmap hmod) | (refine wpList_mapGet kStr vInt rfl _ _ _ rfl Try.underlying86 rfl A4.out u rfl hul ?_))
    have hwk := aloneK_wrap u
    refine bodyPost_ret (results_blk rfl rfl (((((((((S4.out.set_ 0 _).set_ 1 _).set_ 2 _).set_ 3 _).set_ 4 _).set_ 5 _).set_ 6 _).set_ 7 _).set_ 8 _) Try.underlying48 (by kernel_rfl)) rfl ?_
    rw [HE.out]
    exact retPop (k := aloneK u) (n := 0) (by first | decide | assumption) (by first | decide | assumption) (((((((((N4.out.setCell (fun h => absurd h (by simp)) _).setCell (fun h => absurd h (by simp)) _).setCell (fun h => absurd h (by simp)) _).setCell (fun h => absurd h (by simp)) _).setCell (fun h => absurd h (by simp)) _).setCell (fun h => absurd h (by simp)) _).setCell (fun h => absurd h (by simp)) _).setCell (fun h => absurd h (by simp)) _).setCell (fun h => absurd h (by simp)) _)
  · rw [hq] at HC HPL
    have HPL2 : Sec (PopL xs = if goodN num then (if withK u = 0 then popC 0 0 else popC (withK u) (n : Int)) else popC 0 0) := ⟨by rw [HPL.out, if_pos rfl]⟩
    clear HPL hq HAK
    cases ok
    · have HE : Sec (PopL xs = popC 0 0) := ⟨by rw [HPL2.out, HGN.out, if_neg (by simp)]⟩
      clear HPL2 HGN
      go_enter Try.func32, Try.ntmps32
      go_wp2_with fail
      refine (HC.out _).mono ?_
      rintro e w1 ⟨rfl, hm1⟩
      go_wp2_with fail
      refine (HD.out _).mono ?_
      rintro e w2 ⟨rfl, hm2⟩
      have HR3 := Sec.mk ((HR0.out.mod hm1 id).mod hm2 id)
      have HM3 := Sec.mk ((HM0.out.transN hm1).transN hm2)
      clear hm1 hm2 HR0 HM0 hcv
      have hc0 : w2.cell? ⟨w.heap.size, 0, none⟩ = some (.int .i64 0) := HR3.out.cell 0
      have hf0 : w2.frozen? ⟨w.heap.size, 0, none⟩ = false := HR3.out.frozen 0
      have hc1 : w2.cell? ⟨w.heap.size, 1, none⟩ = some (.string ⟨#[]⟩) := HR3.out.cell 1
      have hf1 : w2.frozen? ⟨w.heap.size, 1, none⟩ = false := HR3.out.frozen 1
      have hc2 : w2.cell? ⟨w.heap.size, 2, none⟩ = some (.int .u32 0) := HR3.out.cell 2
      have hf2 : w2.frozen? ⟨w.heap.size, 2, none⟩ = false := HR3.out.frozen 2
      have hc3 : w2.cell? ⟨w.heap.size, 3, none⟩ = some (.bool false) := HR3.out.cell 3
      have hf3 : w2.frozen? ⟨w.heap.size, 3, none⟩ = false := HR3.out.frozen 3
      have hc4 : w2.cell? ⟨w.heap.size, 4, none⟩ = some (.slice none 0 0) := HR3.out.cell 4
      have hf4 : w2.frozen? ⟨w.heap.size, 4, none⟩ = false := HR3.out.frozen 4
      have hc5 : w2.cell? ⟨w.heap.size, 5, none⟩ = some (.int .i64 0) := HR3.out.cell 5
      have hf5 : w2.frozen? ⟨w.heap.size, 5, none⟩ = false := HR3.out.frozen 5
      have hc6 : w2.cell? ⟨w.heap.size, 6, none⟩ = some (.int .i64 0) := HR3.out.cell 6
      have hf6 : w2.frozen? ⟨w.heap.size, 6, none⟩ = false := HR3.out.frozen 6
      have hc7 : w2.cell? ⟨w.heap.size, 7, none⟩ = some (.int .u32 0) := HR3.out.cell 7
      have hf7 : w2.frozen? ⟨w.heap.size, 7, none⟩ = false := HR3.out.frozen 7
      have hc8 : w2.cell? ⟨w.heap.size, 8, none⟩ = some (.slice none 0 0) := HR3.out.cell 8
      have hf8 : w2.frozen? ⟨w.heap.size, 8, none⟩ = false := HR3.out.frozen 8
      go_wp2
      refine bodyPost_ret (results_blk rfl rfl (((((((((HR3.out.set_ 0 _).set_ 1 _).set_ 2 _).set_ 3 _).set_ 4 _).set_ 5 _).set_ 6 _).set_ 7 _).set_ 8 _) Try.underlying48 (by kernel_rfl)) rfl ?_
      rw [HE.out]
      exact retPop (k := 0) (n := 0) (by first | decide | assumption) (by first | decide | assumption) (((((((((HM3.out.setCell (fun h => absurd h (by simp)) _).setCell (fun h => absurd h (by simp)) _).setCell (fun h => absurd h (by simp)) _).setCell (fun h => absurd h (by simp)) _).setCell (fun h => absurd h (by simp)) _).setCell (fun h => absurd h (by simp)) _).setCell (fun h => absurd h (by simp)) _).setCell (fun h => absurd h (by simp)) _).setCell (fun h => absurd h (by simp)) _)
    by_cases hgd : 1 ≤ (n : Int) ∧ (n : Int) ≤ 4294967295
    rotate_left
    · have HE : Sec (PopL xs = popC 0 0) := ⟨by rw [HPL2.out, HGN.out, decide_eq_false hgd, if_neg (by simp)]⟩
      have HUO := Sec.mk (fun w => uidOk_calls (n : Int) false (decide_eq_false hgd) w)
      clear HPL2 HGN hgd
      go_enter Try.func32, Try.ntmps32
      go_wp2_with fail
      refine (HC.out _).mono ?_
      rintro e w1 ⟨rfl, hm1⟩
      go_wp2_with fail
      refine (HD.out _).mono ?_
      rintro e w2 ⟨rfl, hm2⟩
      go_wp2_with fail
      refine (HUO.out _).mono ?_
      rintro e w3 ⟨rfl, hm3⟩
      have HR3 := Sec.mk (((HR0.out.mod hm1 id).mod hm2 id).mod hm3 id)
      have HM3 := Sec.mk (((HM0.out.transN hm1).transN hm2).transN hm3)
      clear hm1 hm2 hm3 HR0 HM0 hcv
      have hc0 : w3.cell? ⟨w.heap.size, 0, none⟩ = some (.int .i64 0) := HR3.out.cell 0
      have hf0 : w3.frozen? ⟨w.heap.size, 0, none⟩ = false := HR3.out.frozen 0
      have hc1 : w3.cell? ⟨w.heap.size, 1, none⟩ = some (.string ⟨#[]⟩) := HR3.out.cell 1
      have hf1 : w3.frozen? ⟨w.heap.size, 1, none⟩ = false := HR3.out.frozen 1
      have hc2 : w3.cell? ⟨w.heap.size, 2, none⟩ = some (.int .u32 0) := HR3.out.cell 2
      have hf2 : w3.frozen? ⟨w.heap.size, 2, none⟩ = false := HR3.out.frozen 2
      have hc3 : w3.cell? ⟨w.heap.size, 3, none⟩ = some (.bool false) := HR3.out.cell 3
      have hf3 : w3.frozen? ⟨w.heap.size, 3, none⟩ = false := HR3.out.frozen 3
      have hc4 : w3.cell? ⟨w.heap.size, 4, none⟩ = some (.slice none 0 0) := HR3.out.cell 4
      have hf4 : w3.frozen? ⟨w.heap.size, 4, none⟩ = false := HR3.out.frozen 4
      have hc5 : w3.cell? ⟨w.heap.size, 5, none⟩ = some (.int .i64 0) := HR3.out.cell 5
      have hf5 : w3.frozen? ⟨w.heap.size, 5, none⟩ = false := HR3.out.frozen 5
      have hc6 : w3.cell? ⟨w.heap.size, 6, none⟩ = some (.int .i64 0) := HR3.out.cell 6
      have hf6 : w3.frozen? ⟨w.heap.size, 6, none⟩ = false := HR3.out.frozen 6
      have hc7 : w3.cell? ⟨w.heap.size, 7, none⟩ = some (.int .u32 0) := HR3.out.cell 7
      have hf7 : w3.frozen? ⟨w.heap.size, 7, none⟩ = false := HR3.out.frozen 7
      have hc8 : w3.cell? ⟨w.heap.size, 8, none⟩ = some (.slice none 0 0) := HR3.out.cell 8
      have hf8 : w3.frozen? ⟨w.heap.size, 8, none⟩ = false := HR3.out.frozen 8
      go_wp2
      refine bodyPost_ret (results_blk rfl rfl (((((((((HR3.out.set_ 0 _).set_ 1 _).set_ 2 _).set_ 3 _).set_ 4 _).set_ 5 _).set_ 6 _).set_ 7 _).set_ 8 _) Try.underlying48 (by kernel_rfl)) rfl ?_
      rw [HE.out]
      exact retPop (k := 0) (n := 0) (by first | decide | assumption) (by first | decide | assumption) (((((((((HM3.out.setCell (fun h => absurd h (by simp)) _).setCell (fun h => absurd h (by simp)) _).setCell (fun h => absurd h (by simp)) _).setCell (fun h => absurd h (by simp)) _).setCell (fun h => absurd h (by simp)) _).setCell (fun h => absurd h (by simp)) _).setCell (fun h => absurd h (by simp)) _).setCell (fun h => absurd h (by simp)) _).setCell (fun h => absurd h (by simp)) _)
    have HE : Sec (PopL xs = if withK u = 0 then popC 0 0 else popC (withK u) (n : Int)) := ⟨by rw [HPL2.out, HGN.out, decide_eq_true hgd, if_pos (by simp)]⟩
    have HUO := Sec.mk (fun w => uidOk_calls (n : Int) true (decide_eq_true hgd) w)
    have hw32 := wrap32 (n := (n : Int)) (by omega) hgd.2
    clear HPL2 HGN hgd
    have hwk := withK_wrap u
    by_cases hz : withK u = 0
    · have HE2 : Sec (PopL xs = popC 0 0) := ⟨by rw [HE.out, if_pos hz]⟩
      have hzb : (withK u == 0) = true := by simpa using hz
      clear hz HE
      go_enter Try.func32, Try.ntmps32
      go_wp2_with fail
      refine (HC.out _).mono ?_
      rintro e w1 ⟨rfl, hm1⟩
      go_wp2_with fail
      refine (HD.out _).mono ?_
      rintro e w2 ⟨rfl, hm2⟩
      go_wp2_with fail
      refine (HUO.out _).mono ?_
      rintro e w3 ⟨rfl, hm3⟩
      go_wp2_with fail
      refine (HU.out _).mono ?_
      rintro e w4 ⟨rfl, hm4⟩
      have HR4 := Sec.mk ((((HR0.out.mod hm1 id).mod hm2 id).mod hm3 id).mod hm4 id)
      have HM4 := Sec.mk ((((HM0.out.transN hm1).transN hm2).transN hm3).transN hm4)
      clear hm1 hm2 hm3 hm4 HR0 HM0 hcv
      have P0 : Sec (MapSI (w4.alloc (.map #[] 0)) w4.heap.size 0 (fun _ => 0)) := ⟨MapOf.made _⟩
      have R0 := Sec.mk (HR4.out.alloc (.map #[] 0))
      have M0 := Sec.mk (HM4.out.alloc (.map #[] 0))
      have mk := mkMapSI
      have hlt0 : w.heap.size < w4.heap.size := by have := HR4.out.lt; omega
      go_wp2_with (first | (refine wpList_mapSet (w := _) kStr vInt rfl _ _ _ _ (.inr rfl) Try.underlying86 rfl P0.out (by decide) _ _ rfl rfl (by decide) (by decide) ?_; intro m1 hmap hmod; have P1 := Sec.mk hmap; have R1 := Sec.mk (R0.out.mod hmod (by omega)); have M1 := Sec.mk (M0.out.trans hmod (fun i hi hl => by omega)); clear hmap hmod) | (refine wpList_mapSet (w := _) kStr vInt rfl _ _ _ _ (.inr rfl) Try.underlying86 rfl P1.out (by decide) _ _ rfl rfl (by decide) (by decide) ?_; intro m2 hmap hmod; have P2 := Sec.mk hmap; have R2 := Sec.mk (R1.out.mod hmod (by omega)); have M2 := Sec.mk (M1.out.trans hmod (fun i hi hl => by omega)); clear hmap hmod) | (refine wpList_mapSet (w := _) kStr vInt rfl _ _ _ _ (.inr rfl) Try.underlying86 rfl P2.out (by decide) _ _ rfl rfl (by decide) (by decide) ?_; intro m3 hmap hmod; have P3 := Sec.mk hmap; have R3 := Sec.mk (R2.out.mod hmod (by omega)); have M3 := Sec.mk (M2.out.trans hmod (fun i hi hl => by omega)); clear hmap hmod) | (refine wpList_mapSet (w := _) kStr vInt rfl _ _ _ _ (.inr rfl) Try.underlying86 rfl P3.out (by decide) _ _ rfl rfl (by decide) (by decide) ?_; intro m4 hmap hmod; have P4 := Sec.mk hmap; have R4 := Sec.mk (R3.out.mod hmod (by omega)); have M4 := Sec.mk (M3.out.trans hmod (fun i hi hl => by omega)); clear hmap hmod) | (refine wpList_mapSet (w := _) kStr vInt rfl _ _ _ _ (.inr rfl) Try.underlying86 rfl P4.out (by decide) _ _ rfl rfl (by decide) (by decide) ?_; intro m5 hmap hmod; have P5 := Sec.mk hmap; have R5 := Sec.mk (R4.out.mod hmod (by omega)); have M5 := Sec.mk (M4.out.trans hmod (fun i hi hl => by omega)); clear hmap hmod) | (refine wpList_mapSet (w := _) kStr vInt rfl _ _ _ _ (.inr rfl) Try.underlying86 rfl P5.out (by decide) _ _ rfl rfl (by decide) (by decide) ?_; intro m6 hmap hmod; have P6 := Sec.mk hmap; have R6 := Sec.mk (R5.out.mod hmod (by omega)); have M6 := Sec.mk (M5.out.trans hmod (fun i hi hl => by omega)); have Q0 : Sec (MapSI (m6.alloc (.map #[] 0)) m6.heap.size 0 (fun _ => 0)) := ⟨MapOf.made _⟩; have A0 : Sec (MapSI (m6.alloc (.map #[] 0)) w4.heap.size 6 aloneK) := ⟨MapOf.mod (S := fun _ => False) P6.out ((Mod.refl _ _).alloc _) id⟩; have S0 := Sec.mk (R6.out.alloc (.map #[] 0)); have N0 := Sec.mk (M6.out.alloc (.map #[] 0)); have hlt6 : w4.heap.size < m6.heap.size := P6.out.lt; clear hmap hmod) | (refine wpList_mapSet kStr vInt rfl _ _ _ _ (.inr rfl) Try.underlying86 rfl Q0.out (by decide) _ _ rfl rfl (by decide) (by decide) ?_; intro q1 hmap hmod; have Q1 := Sec.mk hmap; have A1 := Sec.mk (A0.out.mod hmod (by omega)); have S1 := Sec.mk (S0.out.mod hmod (by omega)); have N1 := Sec.mk (N0.out.trans hmod (fun i hi hl => by omega)); clear hmap hmod) | (refine wpList_mapSet kStr vInt rfl _ _ _ _ (.inr rfl) Try.underlying86 rfl Q1.out (by decide) _ _ rfl rfl (by decide) (by decide) ?_; intro q2 hmap hmod; have Q2 := Sec.mk hmap; have A2 := Sec.mk (A1.out.mod hmod (by omega)); have S2 := Sec.mk (S1.out.mod hmod (by omega)); have N2 := Sec.mk (N1.out.trans hmod (fun i hi hl => by omega)); clear hmap hmod) | (refine wpList_mapSet kStr vInt rfl _ _ _ _ (.inr rfl) Try.underlying86 rfl Q2.out (by decide) _ _ rfl rfl (by decide) (by decide) ?_; intro q3 hmap hmod; have Q3 := Sec.mk hmap; have A3 := Sec.mk (A2.out.mod hmod (by omega)); have S3 := Sec.mk (S2.out.mod hmod (by omega)); have N3 := Sec.mk (N2.out.trans hmod (fun i hi hl => by omega)); clear hmap hmod) | (refine wpList_mapSet kStr vInt rfl _ _ _ _ (.inr rfl) Try.underlying86 rfl Q3.out (by decide) _ _ rfl rfl (by decide) (by decide) ?_; intro q4 hmap hmod; have Q4 := Sec.mk hmap; have A4 := Sec.mk (A3.out.mod hmod (by omega)); have S4 := Sec.mk (S3.out.mod hmod (by omega)); have N4 := Sec.mk (N3.out.trans hmod (fun i hi hl => by omega)); have W4 : Sec (MapSI q4 m6.heap.size 4 withK) := ⟨Q4.out⟩; have hc0 : q4.cell? ⟨w.heap.size, 0, none⟩ = some (.int .i64 0) := S4.out.cell 0; have hf0 : q4.frozen? ⟨w.heap.size, 0, none⟩ = false := S4.out.frozen 0; have hc1 : q4.cell? ⟨w.heap.size, 1, none⟩ = some (.string ⟨#[]⟩) := S4.out.cell 1; have hf1 : q4.frozen? ⟨w.heap.size, 1, none⟩ = false := S4.out.frozen 1; have hc2 : q4.cell? ⟨w.heap.size, 2, none⟩ = some (.int .u32 0) := S4.out.cell 2; have hf2 : q4.frozen? ⟨w.heap.size, 2, none⟩ = false := S4.out.frozen 2; have hc3 : q4.cell? ⟨w.heap.size, 3, none⟩ = some (.bool false) := S4.out.cell 3; have hf3 : q4.frozen? ⟨w.heap.size, 3, none⟩ = false := S4.out.frozen 3; have hc4 : q4.cell? ⟨w.heap.size, 4, none⟩ = some (.slice none 0 0) := S4.out.cell 4; have hf4 : q4.frozen? ⟨w.heap.size, 4, none⟩ = false := S4.out.frozen 4; have hc5 : q4.cell? ⟨w.heap.size, 5, none⟩ = some (.int .i64 0) := S4.out.cell 5; have hf5 : q4.frozen? ⟨w.heap.size, 5, none⟩ = false := S4.out.frozen 5; have hc6 : q4.cell? ⟨w.heap.size, 6, none⟩ = some (.int .i64 0) := S4.out.cell 6; have hf6 : q4.frozen? ⟨w.heap.size, 6, none⟩ = false := S4.out.frozen 6; have hc7 : q4.cell? ⟨w.heap.size, 7, none⟩ = some (.int .u32 0) := S4.out.cell 7; have hf7 : q4.frozen? ⟨w.heap.size, 7, none⟩ = false := S4.out.frozen 7; have hc8 : q4.cell? ⟨w.heap.size, 8, none⟩ = some (.slice none 0 0) := S4.out.cell 8; have hf8 : q4.frozen? ⟨w.heap.size, 8, none⟩ = false := S4.out.frozen 8; clear hmap hmod) | (refine wpList_mapGet kStr vInt rfl _ _ _ rfl Try.underlying86 rfl W4.out u rfl hul ?_))
      refine bodyPost_ret (results_blk rfl rfl (((((((((S4.out.set_ 0 _).set_ 1 _).set_ 2 _).set_ 3 _).set_ 4 _).set_ 5 _).set_ 6 _).set_ 7 _).set_ 8 _) Try.underlying48 (by kernel_rfl)) rfl ?_
      rw [HE2.out]
      exact retPop (k := 0) (n := 0) (by first | decide | assumption) (by first | decide | assumption) (((((((((N4.out.setCell (fun h => absurd h (by simp)) _).setCell (fun h => absurd h (by simp)) _).setCell (fun h => absurd h (by simp)) _).setCell (fun h => absurd h (by simp)) _).setCell (fun h => absurd h (by simp)) _).setCell (fun h => absurd h (by simp)) _).setCell (fun h => absurd h (by simp)) _).setCell (fun h => absurd h (by simp)) _).setCell (fun h => absurd h (by simp)) _)
    · have HE2 : Sec (PopL xs = popC (withK u) (n : Int)) := ⟨by rw [HE.out, if_neg hz]⟩
      have hzb : (withK u == 0) = false := by simpa using hz
      clear hz HE
      go_enter Try.func32, Try.ntmps32
      go_wp2_with fail
      refine (HC.out _).mono ?_
      rintro e w1 ⟨rfl, hm1⟩
      go_wp2_with fail
      refine (HD.out _).mono ?_
      rintro e w2 ⟨rfl, hm2⟩
      go_wp2_with fail
      refine (HUO.out _).mono ?_
      rintro e w3 ⟨rfl, hm3⟩
      go_wp2_with fail
      refine (HU.out _).mono ?_
      rintro e w4 ⟨rfl, hm4⟩
      have HR4 := Sec.mk ((((HR0.out.mod hm1 id).mod hm2 id).mod hm3 id).mod hm4 id)
      have HM4 := Sec.mk ((((HM0.out.transN hm1).transN hm2).transN hm3).transN hm4)
      clear hm1 hm2 hm3 hm4 HR0 HM0 hcv
      have P0 : Sec (MapSI (w4.alloc (.map #[] 0)) w4.heap.size 0 (fun _ => 0)) := ⟨MapOf.made _⟩
      have R0 := Sec.mk (HR4.out.alloc (.map #[] 0))
      have M0 := Sec.mk (HM4.out.alloc (.map #[] 0))
      have mk := mkMapSI
      have hlt0 : w.heap.size < w4.heap.size := by have := HR4.out.lt; omega
      go_wp2_with (first | (refine wpList_mapSet (w := _) kStr vInt rfl _ _ _ _ (.inr rfl) Try.underlying86 rfl P0.out (by decide) _ _ rfl rfl (by decide) (by decide) ?_; intro m1 hmap hmod; have P1 := Sec.mk hmap; have R1 := Sec.mk (R0.out.mod hmod (by omega)); have M1 := Sec.mk (M0.out.trans hmod (fun i hi hl => by omega)); clear hmap hmod) | (refine wpList_mapSet (w := _) kStr vInt rfl _ _ _ _ (.inr rfl) Try.underlying86 rfl P1.out (by decide) _ _ rfl rfl (by decide) (by decide) ?_; intro m2 hmap hmod; have P2 := Sec.mk hmap; have R2 := Sec.mk (R1.out.mod hmod (by omega)); have M2 := Sec.mk (M1.out.trans hmod (fun i hi hl => by omega)); clear hmap hmod) | (refine wpList_mapSet (w := _) kStr vInt rfl _ _ _ _ (.inr rfl) Try.underlying86 rfl P2.out (by decide) _ _ rfl rfl (by decide) (by decide) ?_; intro m3 hmap hmod; have P3 := Sec.mk hmap; have R3 := Sec.mk (R2.out.mod hmod (by omega)); have M3 := Sec.mk (M2.out.trans hmod (fun i hi hl => by omega)); clear hmap hmod) | (refine wpList_mapSet (w := _) kStr vInt rfl _ _ _ _ (.inr rfl) Try.underlying86 rfl P3.out (by decide) _ _ rfl rfl (by decide) (by decide) ?_; intro m4 hmap hmod; have P4 := Sec.mk hmap; have R4 := Sec.mk (R3.out.mod hmod (by omega)); have M4 := Sec.mk (M3.out.trans hmod (fun i hi hl => by omega)); clear hmap hmod) | (refine wpList_mapSet (w := _) kStr vInt rfl _ _ _ _ (.inr rfl) Try.underlying86 rfl P4.out (by decide) _ _ rfl rfl (by decide) (by decide) ?_; intro m5 hmap hmod; have P5 := Sec.mk hmap; have R5 := Sec.mk (R4.out.mod hmod (by omega)); have M5 := Sec.mk (M4.out.trans hmod (fun i hi hl => by omega)); clear hmap hmod) | (refine wpList_mapSet (w := _) kStr vInt rfl _ _ _ _ (.inr rfl) Try.underlying86 rfl P5.out (by decide) _ _ rfl rfl (by decide) (by decide) ?_; intro m6 hmap hmod; have P6 := Sec.mk hmap; have R6 := Sec.mk (R5.out.mod hmod (by omega)); have M6 := Sec.mk (M5.out.trans hmod (fun i hi hl => by omega)); have Q0 : Sec (MapSI (m6.alloc (.map #[] 0)) m6.heap.size 0 (fun _ => 0)) := ⟨MapOf.made _⟩; have A0 : Sec (MapSI (m6.alloc (.map #[] 0)) w4.heap.size 6 aloneK) := ⟨MapOf.mod (S := fun _ => False) P6.out ((Mod.refl _ _).alloc _) id⟩; have S0 := Sec.mk (R6.out.alloc (.map #[] 0)); have N0 := Sec.mk (M6.out.alloc (.map #[] 0)); have hlt6 : w4.heap.size < m6.heap.size := P6.out.lt; clear hmap hmod) | (refine wpList_mapSet kStr vInt rfl _ _ _ _ (.inr rfl) Try.underlying86 rfl Q0.out (by decide) _ _ rfl rfl (by decide) (by decide) ?_; intro q1 hmap hmod; have Q1 := Sec.mk hmap; have A1 := Sec.mk (A0.out.mod hmod (by omega)); have S1 := Sec.mk (S0.out.mod hmod (by omega)); have N1 := Sec.mk (N0.out.trans hmod (fun i hi hl => by omega)); clear hmap hmod) | (refine wpList_mapSet kStr vInt rfl _ _ _ _ (.inr rfl) Try.underlying86 rfl Q1.out (by decide) _ _ rfl rfl (by decide) (by decide) ?_; intro q2 hmap hmod; have Q2 := Sec.mk hmap; have A2 := Sec.mk (A1.out.mod hmod (by omega)); have S2 := Sec.mk (S1.out.mod hmod (by omega)); have N2 := Sec.mk (N1.out.trans hmod (fun i hi hl => by omega)); clear hmap hmod) | (refine wpList_mapSet kStr vInt rfl _ _ _ _ (.inr rfl) Try.underlying86 rfl Q2.out (by decide) _ _ rfl rfl (by decide) (by decide) ?_; intro q3 hmap hmod; have Q3 := Sec.mk hmap; have A3 := Sec.mk (A2.out.mod hmod (by omega)); have S3 := Sec.mk (S2.out.mod hmod (by omega)); have N3 := Sec.mk (N2.out.trans hmod (fun i hi hl => by omega)); clear hmap hmod) | (refine wpList_mapSet kStr vInt rfl _ _ _ _ (.inr rfl) Try.underlying86 rfl Q3.out (by decide) _ _ rfl rfl (by decide) (by decide) ?_; intro q4 hmap hmod; have Q4 := Sec.mk hmap; have A4 := Sec.mk (A3.out.mod hmod (by omega)); have S4 := Sec.mk (S3.out.mod hmod (by omega)); have N4 := Sec.mk (N3.out.trans hmod (fun i hi hl => by omega)); have W4 : Sec (MapSI q4 m6.heap.size 4 withK) := ⟨Q4.out⟩; have hc0 : q4.cell? ⟨w.heap.size, 0, none⟩ = some (.int .i64 0) := S4.out.cell 0; have hf0 : q4.frozen? ⟨w.heap.size, 0, none⟩ = false := S4.out.frozen 0; have hc1 : q4.cell? ⟨w.heap.size, 1, none⟩ = some (.string ⟨#[]⟩) := S4.out.cell 1; have hf1 : q4.frozen? ⟨w.heap.size, 1, none⟩ = false := S4.out.frozen 1; have hc2 : q4.cell? ⟨w.heap.size, 2, none⟩ = some (.int .u32 0) := S4.out.cell 2; have hf2 : q4.frozen? ⟨w.heap.size, 2, none⟩ = false := S4.out.frozen 2; have hc3 : q4.cell? ⟨w.heap.size, 3, none⟩ = some (.bool false) := S4.out.cell 3; have hf3 : q4.frozen? ⟨w.heap.size, 3, none⟩ = false := S4.out.frozen 3; have hc4 : q4.cell? ⟨w.heap.size, 4, none⟩ = some (.slice none 0 0) := S4.out.cell 4; have hf4 : q4.frozen? ⟨w.heap.size, 4, none⟩ = false := S4.out.frozen 4; have hc5 : q4.cell? ⟨w.heap.size, 5, none⟩ = some (.int .i64 0) := S4.out.cell 5; have hf5 : q4.frozen? ⟨w.heap.size, 5, none⟩ = false := S4.out.frozen 5; have hc6 : q4.cell? ⟨w.heap.size, 6, none⟩ = some (.int .i64 0) := S4.out.cell 6; have hf6 : q4.frozen? ⟨w.heap.size, 6, none⟩ = false := S4.out.frozen 6; have hc7 : q4.cell? ⟨w.heap.size, 7, none⟩ = some (.int .u32 0) := S4.out.cell 7; have hf7 : q4.frozen? ⟨w.heap.size, 7, none⟩ = false := S4.out.frozen 7; have hc8 : q4.cell? ⟨w.heap.size, 8, none⟩ = some (.slice none 0 0) := S4.out.cell 8; have hf8 : q4.frozen? ⟨w.heap.size, 8, none⟩ = false := S4.out.frozen 8; clear hmap hmod) | (refine wpList_mapGet kStr vInt rfl _ _ _ rfl Try.underlying86 rfl W4.out u rfl hul ?_))
      refine bodyPost_ret (results_blk rfl rfl (((((((((S4.out.set_ 0 _).set_ 1 _).set_ 2 _).set_ 3 _).set_ 4 _).set_ 5 _).set_ 6 _).set_ 7 _).set_ 8 _) Try.underlying48 (by kernel_rfl)) rfl ?_
      rw [HE2.out]
      exact retPop (k := withK u) (n := (n : Int)) (by first | decide | assumption) (by first | decide | assumption) (((((((((N4.out.setCell (fun h => absurd h (by simp)) _).setCell (fun h => absurd h (by simp)) _).setCell (fun h => absurd h (by simp)) _).setCell (fun h => absurd h (by simp)) _).setCell (fun h => absurd h (by simp)) _).setCell (fun h => absurd h (by simp)) _).setCell (fun h => absurd h (by simp)) _).setCell (fun h => absurd h (by simp)) _).setCell (fun h => absurd h (by simp)) _)
end Go.Proofs.Ytciaoedjiggonaa
