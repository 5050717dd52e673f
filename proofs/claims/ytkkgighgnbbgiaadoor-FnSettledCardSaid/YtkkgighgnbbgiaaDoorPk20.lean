/- The walk of the law FnSettled: operations one by one, then all synced, a crash. -/
import Derived.Test.YtkkgighgnbbgiaaDoorPk9
import Derived.Test.YtkkgighgnbbgiaaDoorPk10
import Derived.Test.YtkkgighgnbbgiaaDoorPk18
import Derived.Test.YtkkgighgnbbgiaaDoorPk19
import Derived.Test.YtkkgighgnbbgiaaDoorPk12
import Derived.Deep.DeepCutAuto
import Derived.Deep.Cut
namespace Go.Proofs.YtkkgighgnbbgiaaDoor
open Go.RowKit Mem
set_option linter.unusedVariables false
set_option linter.unusedSimpArgs false
def DkC (lo : Nat) (w : World) (b : Nat) (d : DiskT) : Prop := ∃ (A0 A1 A2 A3 : Option Addr) (c0 c1 c2 c3 : Nat), Blk w b 27 [.slice A0 d.1.length c0, .slice A1 d.2.1.length c1, .slice A2 d.2.2.1.length c2, .slice A3 d.2.2.2.1.length c3, .int .i64 d.2.2.2.2] ∧ Out4 (fun k => lo ≤ k) w (.slice A0 d.1.length c0) (.slice A1 d.2.1.length c1) (.slice A2 d.2.2.1.length c2) (.slice A3 d.2.2.2.1.length c3) d
theorem DkC.keep {S : Nat → Prop} {lo b : Nat} {w w' : World} {d : DiskT} (h : DkC lo w b d) (hm : Mod S w w') (hb : ¬ S b) (hS : ∀ k, lo ≤ k → ¬ S k) : DkC lo w' b d := by
  obtain ⟨A0, A1, A2, A3, c0, c1, c2, c3, hk, ho⟩ := h
  exact ⟨A0, A1, A2, A3, c0, c1, c2, c3, hk.mod hm hb, ho.keep hm hS⟩
theorem cut_one {w : World} {B : Nat → Prop} {ad : Addr} {c : Nat} {xs : OpST} (h : Row dOp w B (some ad) xs.length xs) {k : Nat} (hk : k < xs.length) (hc : xs.length ≤ c) : Row dOp w B (some (ad.add (k * 4))) 1 [xs[k]] := by
  have h1 := h.cut (k := k) (m := k + 1) (cap := c) (by omega) (by omega) hc
  rw [if_neg (by omega), show k + 1 - k = 1 by omega] at h1
  have e : (xs.take (k + 1)).drop k = [xs[k]] := by
    rw [List.take_succ_eq_append_getElem hk, List.drop_append_of_le_length (by simp; omega), List.drop_eq_nil_of_le (by rw [List.length_take]; exact Nat.min_le_left _ _)]
    rfl
  rw [e] at h1
  exact h1
theorem fldDone0 (a0 a1 a2 a3 a4 a5 a6 : Value) (w : World) : (Instr.field 32 (.agg #[a0, a1, a2, a3, a4, a5, a6]) 0).run Tryd.prog w = .ok (.agg #[a0, a1, a2, a3, a4]) w := by kernel_rfl
theorem oneL_quota (d : DiskL) (o : OpL) : (oneL d o).1.2.2.2.2 = d.2.2.2.2 := by
  unfold oneL
  repeat' split
  all_goals rfl
theorem ErrsAt.env {w w' : World} {lo : Nat} (h : ErrsAt w) (hm : Mod (fun k => w.heap.size ≤ k) w w') (hl : w.heap.size ≤ lo) : ∃ ea, ErrEnv lo w' ea := by
  obtain ⟨ea, he⟩ := h
  exact ⟨ea, (he.mod hm).up hl⟩
set_option maxHeartbeats 20000000 in
set_option maxRecDepth 100000 in
theorem lawFnSettled_walk {w : World} (hE : ErrsAt w) {A : Option Addr} {c : Nat} {xs : Bytes} (h : Row Ty.byte w (· < w.heap.size) A xs.length xs) (hc : xs.length ≤ c) {A' : Option Addr} {c' : Nat} {ys : Bytes} (h' : Row Ty.byte w (· < w.heap.size) A' ys.length ys) (hc' : ys.length ≤ c') :
    Calls Tryd.prog 3 #[.slice A xs.length c, .slice A' ys.length c'] w (Ret (.bool true) w) := by
  have HENV := Sec.mk hE
  have HX := Sec.mk h
  have HY := Sec.mk h'
  clear hE h h'
  by_cases hx : xs.length ≤ 1048576
  rotate_left
  · have hxi : (1048576 : Int) < (xs.length : Int) := by omega
    go_enter Tryd.func3, Tryd.ntmps3
    go_wp2
    go_ret
    exact ⟨rfl, Mod.refl _ _⟩
  have hxi : ¬ (1048576 : Int) < (xs.length : Int) := by omega
  by_cases hy : ys.length ≤ 1048576
  rotate_left
  · have hyi : (1048576 : Int) < (ys.length : Int) := by omega
    go_enter Tryd.func3, Tryd.ntmps3
    go_wp2
    go_ret
    exact ⟨rfl, Mod.refl _ _⟩
  have hyi : ¬ (1048576 : Int) < (ys.length : Int) := by omega
  have HB0 := Sec.mk ((Blk.new w 27 [.slice none 0 0, .slice none 0 0, .slice none 0 0, .slice none 0 0, .int .i64 4000]).alloc (.cells #[.slice none 0 0, .slice none 0 0, .slice none 0 0, .slice none 0 0, .int .i64 4000] 27))
  have HB1 : Sec (Blk ((w.alloc (.cells #[.slice none 0 0, .slice none 0 0, .slice none 0 0, .slice none 0 0, .int .i64 4000] 27)).alloc (.cells #[.slice none 0 0, .slice none 0 0, .slice none 0 0, .slice none 0 0, .int .i64 4000] 27)) (w.heap.size + 1) 27 [.slice none 0 0, .slice none 0 0, .slice none 0 0, .slice none 0 0, .int .i64 4000]) := ⟨by have := Blk.new (w.alloc (.cells #[.slice none 0 0, .slice none 0 0, .slice none 0 0, .slice none 0 0, .int .i64 4000] 27)) 27 [.slice none 0 0, .slice none 0 0, .slice none 0 0, .slice none 0 0, .int .i64 4000]; simpa using this⟩
  have HNZ : Sec (New w ((w.alloc (.cells #[.slice none 0 0, .slice none 0 0, .slice none 0 0, .slice none 0 0, .int .i64 4000] 27)).alloc (.cells #[.slice none 0 0, .slice none 0 0, .slice none 0 0, .slice none 0 0, .int .i64 4000] 27))) := ⟨((Mod.refl _ _).alloc _).alloc _⟩
  have hsz : ((w.alloc (.cells #[.slice none 0 0, .slice none 0 0, .slice none 0 0, .slice none 0 0, .int .i64 4000] 27)).alloc (.cells #[.slice none 0 0, .slice none 0 0, .slice none 0 0, .slice none 0 0, .int .i64 4000] 27)).heap.size = w.heap.size + 2 := by simp
  go_enter Tryd.func3, Tryd.ntmps3
  go_upto_region 5 with (fail)
  generalize ((w.alloc (.cells #[.slice none 0 0, .slice none 0 0, .slice none 0 0, .slice none 0 0, .int .i64 4000] 27)).alloc (.cells #[.slice none 0 0, .slice none 0 0, .slice none 0 0, .slice none 0 0, .int .i64 4000] 27)) = wz at *
  have hb1 : w.heap.size + 1 < wz.heap.size := by omega
  clear hsz
  have HXZ : Sec (Row Ty.byte wz (· < wz.heap.size) A xs.length xs) := ⟨HX.out.mod (fun k hk => Nat.lt_of_lt_of_le hk HNZ.out.size) (fun k hk => HNZ.out.block k hk id)⟩
  clear hxi hyi
  go_wp2_with (first
    | (refine wpList_mk _ rfl (.tmp 35) _ rfl Ty.byte 5 Tryd.underlying22 elt_byte 0 (fun _ => ⟨rfl, rfl⟩) xs.length rfl (by omega) ?_; intro w1 ho1; have HO1 := Sec.mk ho1; clear ho1)
    | (at_builtin; go_loud (refine wpList_app _ rfl (.tmp 36) (.tmp 37) _ rfl Tryd.underlying22 elt_byte flat_byte rfl rfl HO1.out (HO1.out.read HXZ.out (fun _ h => h)) (show (List.replicate xs.length 0).length + xs.length ≤ 34359738368 by simp; omega) ?_; intro A2 n2 c2 w2 ho2; have HO2 := Sec.mk ho2; clear ho2)))
  obtain rfl := HO2.out.len.1
  have HN2 := Sec.mk (HNZ.out.transN HO2.out.new)
  have hs2 := HO2.out.new.size
  have HB02 := Sec.mk (HB0.out.mod HO2.out.new id)
  have HB12 := Sec.mk (HB1.out.mod HO2.out.new id)
  go_wp2_with fail
  refine (drawDiskDo_calls HO2.out.row (fun k hk => hk.2) (by simp; omega)).mono ?_
  rintro e w3 ⟨B0, B1, B2, B3, n0, n1, n2, n3, e0, e1, e2, e3, q, AO, cO, ops, rfl, hol, HF, HOP, HN3⟩
  have HN4 : Sec (New w3 (w3.alloc (.cells #[.slice B0 n0 e0, .slice B1 n1 e1, .slice B2 n2 e2, .slice B3 n3 e3, .int .i64 q] 27))) := ⟨(Mod.refl _ _).alloc _⟩
  go_upto_region 6 with (fail)
  generalize w3.alloc (.cells #[.slice B0 n0 e0, .slice B1 n1 e1, .slice B2 n2 e2, .slice B3 n3 e3, .int .i64 q] 27) = w4 at *
  have HN24 : Sec (New w2 w4) := ⟨HN3.out.transN HN4.out⟩
  have HNW4 : Sec (New w w4) := ⟨HN2.out.transN HN24.out⟩
  have hs3 := HN3.out.size
  have hs4 := HN4.out.size
  have HD0 : Sec (DkC wz.heap.size w4 w.heap.size ([], [], [], [], 4000)) := ⟨none, none, none, none, 0, 0, 0, 0, HB02.out.mod HN24.out id, out40 _ _ _ (by decide)⟩
  have HD1 : Sec (DkC wz.heap.size w4 (w.heap.size + 1) ([], [], [], [], 4000)) := ⟨none, none, none, none, 0, 0, 0, 0, HB12.out.mod HN24.out id, out40 _ _ _ (by decide)⟩
  have HOP4 : Sec (OwI dOp 39 w4 wz.heap.size w3.heap.size (.slice AO ops.length cO) ops) := ⟨(HOP.out.new HN4.out).wide hs2 (Nat.le_refl _)⟩
  have HV0 : Sec (Vld ([], [], [], [], 4000)) := ⟨vld_empty 4000 (by decide) (by decide)⟩
  clear HX HXZ HB0 HB1 HB02 HB12 HO1 HO2 HOP HN3 HN4 HN2 HN24 HNZ
  generalize hlo : wz.heap.size = lo at *
  clear hlo
  go_wp2
  go_loopw [44] (fun i wr => ∃ (k : Nat) (D : DiskT), k ≤ ops.length ∧ i = .int .i64 (k : Int) ∧ Sec (Vld D) ∧ Sec (D.2.2.2.2 = 4000) ∧ Sec (DkC lo wr w.heap.size D) ∧ Sec (DkC lo wr (w.heap.size + 1) D) ∧ Sec (Mod (fun k => k = w.heap.size ∨ k = w.heap.size + 1) w4 wr)) (fun i _ => ops.length - (intOf i).toNat)
  case atStart => exact ⟨0, ([], [], [], [], 4000), Nat.zero_le _, rfl, HV0, ⟨rfl⟩, HD0, HD1, ⟨Mod.refl _ _⟩⟩
  case round =>
    clear HD0 HD1 HV0
    obtain ⟨k, D, hk, rfl, HV, HQ, HD0, HD1, HM⟩ := hrel
    have hsr := HM.out.size
    by_cases hlt : k < ops.length
    · obtain ⟨A0, A1, A2, A3, c0, c1, c2, c3, hk0, ho0⟩ := HD0.out
      obtain ⟨E0, E1, E2, E3, f0, f1, f2, f3, hk1, ho1⟩ := HD1.out
      have HK0 := Sec.mk hk0
      have HK1 := Sec.mk hk1
      have HO0 := Sec.mk ho0
      have HO1 := Sec.mk ho1
      clear hk0 hk1 ho0 ho1
      have HOPr := Sec.mk (HOP4.out.keep HM.out (fun i h1 h2 h3 => by omega))
      have hlc := HOPr.out.len
      have hrw := HOPr.out.rowlt
      obtain ⟨ad, hAO, -⟩ := hrw.2.2 (by omega)
      subst hAO
      have HCUT := Sec.mk (cut_one hrw hlt hlc.2.1)
      clear hrw
      have hki : (k : Int) < (ops.length : Int) := by omega
      have HOK : Sec (ops[k].2.2.2.length ≤ 1048576) := ⟨by have := (HF.out _ (List.getElem_mem hlt)).2.2; omega⟩
      obtain ⟨hv1, -, hv3⟩ := HV.out.any ops[k]
      have HVR : Sec (Vld (diskDoL D [ops[k]]).1) := ⟨hv1⟩
      have HQR : Sec ((diskDoL D [ops[k]]).1.2.2.2.2 = 4000) := ⟨by rw [hv3, oneL_quota]; exact HQ.out⟩
      clear hv1 hv3
      have HRO : Sec (∀ W, New wr W → RdV false dOpS W (.slice (some (ad.add (k * 4))) 1 (cO - k)) [ops[k]]) := ⟨fun W hW => RdV.of_row (xs := [ops[k]]) (HCUT.out.mod (fun i hi => Nat.lt_of_lt_of_le hi hW.size) (fun i hi => hW.block i hi id)) (by show 1 ≤ cO - k; omega) (by omega)⟩
      have HDL : Sec (∀ o, o ∈ [ops[k]] → o.2.2.2.length ≤ 1048576) := ⟨fun o ho => by rw [List.mem_singleton.1 ho]; exact HOK.out⟩
      generalize [ops[k]] = one at *
      have y0 : wr.cell? ⟨w.heap.size + 1, 0, none⟩ = some (.slice E0 D.1.length f0) := HK1.out.cell 0
      have y1 : wr.cell? ⟨w.heap.size + 1, 1, none⟩ = some (.slice E1 D.2.1.length f1) := HK1.out.cell 1
      have y2 : wr.cell? ⟨w.heap.size + 1, 2, none⟩ = some (.slice E2 D.2.2.1.length f2) := HK1.out.cell 2
      have y3 : wr.cell? ⟨w.heap.size + 1, 3, none⟩ = some (.slice E3 D.2.2.2.1.length f3) := HK1.out.cell 3
      have y4 : wr.cell? ⟨w.heap.size + 1, 4, none⟩ = some (.int .i64 D.2.2.2.2) := HK1.out.cell 4
      go_upto_region 10 with (fail)
      go_wp2_with fail
      refine (diskDoS_v HO1.out.rd (HRO.out _ (Mod.refl _ _)) HDL.out).mono ?_
      generalize hr : diskDoL D one = r at *
      have HRE := Sec.mk hr
      clear hr y0 y1 y2 y3 y4
      rintro e w5 ⟨v0, v1, v2, v3, rfl, hoS, hm5⟩
      obtain ⟨P0, p0, P1, p1, P2, p2, P3, p3, rfl, rfl, rfl, rfl, -⟩ := hoS.forms
      have hs5 := hm5.size
      have HN6 : Sec (New wr (w5.alloc (.cells #[.slice P0 r.1.1.length p0, .slice P1 r.1.2.1.length p1, .slice P2 r.1.2.2.1.length p2, .slice P3 r.1.2.2.2.1.length p3, .int .i64 r.1.2.2.2.2, .int .i64 r.2.1, .int .i64 r.2.2] 32))) := ⟨hm5.alloc _⟩
      have HBS := Sec.mk (Blk.new w5 32 [.slice P0 r.1.1.length p0, .slice P1 r.1.2.1.length p1, .slice P2 r.1.2.2.1.length p2, .slice P3 r.1.2.2.2.1.length p3, .int .i64 r.1.2.2.2.2, .int .i64 r.2.1, .int .i64 r.2.2])
      have HOS : Sec (Out4 (fun k => wr.heap.size ≤ k) (w5.alloc (.cells #[.slice P0 r.1.1.length p0, .slice P1 r.1.2.1.length p1, .slice P2 r.1.2.2.1.length p2, .slice P3 r.1.2.2.2.1.length p3, .int .i64 r.1.2.2.2.2, .int .i64 r.2.1, .int .i64 r.2.2] 32)) (.slice P0 r.1.1.length p0) (.slice P1 r.1.2.1.length p1) (.slice P2 r.1.2.2.1.length p2) (.slice P3 r.1.2.2.2.1.length p3) r.1) := ⟨hoS.new ((Mod.refl _ _).alloc _)⟩
      clear hoS hm5
      go_upto_region 11 with (fail)
      generalize w5.alloc (.cells #[.slice P0 r.1.1.length p0, .slice P1 r.1.2.1.length p1, .slice P2 r.1.2.2.1.length p2, .slice P3 r.1.2.2.2.1.length p3, .int .i64 r.1.2.2.2.2, .int .i64 r.2.1, .int .i64 r.2.2] 32) = w6 at *
      generalize w5.heap.size = gS at *
      have HK06 := Sec.mk (HK0.out.mod HN6.out id)
      have hs6 := HN6.out.size
      have z0 : w6.cell? ⟨w.heap.size, 0, none⟩ = some (.slice A0 D.1.length c0) := HK06.out.cell 0
      have z1 : w6.cell? ⟨w.heap.size, 1, none⟩ = some (.slice A1 D.2.1.length c1) := HK06.out.cell 1
      have z2 : w6.cell? ⟨w.heap.size, 2, none⟩ = some (.slice A2 D.2.2.1.length c2) := HK06.out.cell 2
      have z3 : w6.cell? ⟨w.heap.size, 3, none⟩ = some (.slice A3 D.2.2.2.1.length c3) := HK06.out.cell 3
      have z4 : w6.cell? ⟨w.heap.size, 4, none⟩ = some (.int .i64 D.2.2.2.2) := HK06.out.cell 4
      have HMW6 : Sec (Mod (fun k => w.heap.size ≤ k) w w6) := ⟨((Mod.ofNew HNW4.out).trans HM.out (fun i hi _ => by omega)).transN HN6.out⟩
      obtain ⟨ea, hea⟩ := HENV.out.env HMW6.out HMW6.out.size
      go_wp2_with fail
      refine (diskDoI_v (HO0.out.new HN6.out).rd (HRO.out _ HN6.out) HDL.out hea).mono ?_
      rw [HRE.out]
      clear hea z0 z1 z2 z3 z4
      rintro e w7 ⟨v0, v1, v2, v3, rfl, hoI, hm7⟩
      obtain ⟨Q0, q0, Q1, q1, Q2, q2, Q3, q3, rfl, rfl, rfl, rfl, -⟩ := hoI.forms
      have hs7 := hm7.size
      have HN8 : Sec (New w6 (w7.alloc (.cells #[.slice Q0 r.1.1.length q0, .slice Q1 r.1.2.1.length q1, .slice Q2 r.1.2.2.1.length q2, .slice Q3 r.1.2.2.2.1.length q3, .int .i64 r.1.2.2.2.2, .int .i64 r.2.1, .int .i64 r.2.2] 32))) := ⟨hm7.alloc _⟩
      have HBI := Sec.mk (Blk.new w7 32 [.slice Q0 r.1.1.length q0, .slice Q1 r.1.2.1.length q1, .slice Q2 r.1.2.2.1.length q2, .slice Q3 r.1.2.2.2.1.length q3, .int .i64 r.1.2.2.2.2, .int .i64 r.2.1, .int .i64 r.2.2])
      have HOI : Sec (Out4 (fun k => w6.heap.size ≤ k) (w7.alloc (.cells #[.slice Q0 r.1.1.length q0, .slice Q1 r.1.2.1.length q1, .slice Q2 r.1.2.2.1.length q2, .slice Q3 r.1.2.2.2.1.length q3, .int .i64 r.1.2.2.2.2, .int .i64 r.2.1, .int .i64 r.2.2] 32)) (.slice Q0 r.1.1.length q0) (.slice Q1 r.1.2.1.length q1) (.slice Q2 r.1.2.2.1.length q2) (.slice Q3 r.1.2.2.2.1.length q3) r.1) := ⟨hoI.new ((Mod.refl _ _).alloc _)⟩
      clear hoI hm7
      go_upto_region 12 with (fail)
      generalize w7.alloc (.cells #[.slice Q0 r.1.1.length q0, .slice Q1 r.1.2.1.length q1, .slice Q2 r.1.2.2.1.length q2, .slice Q3 r.1.2.2.2.1.length q3, .int .i64 r.1.2.2.2.2, .int .i64 r.2.1, .int .i64 r.2.2] 32) = w8 at *
      generalize w7.heap.size = gI at *
      have HBS8 := Sec.mk (HBS.out.mod HN8.out id)
      have HOS8 := Sec.mk (HOS.out.new HN8.out)
      have HK08 := Sec.mk (HK06.out.mod HN8.out id)
      have HK18 := Sec.mk (HK1.out.mod (HN6.out.transN HN8.out) id)
      have HMr8 : Sec (Mod (fun k => k = w.heap.size ∨ k = w.heap.size + 1) w4 w8) := ⟨HM.out.transN (HN6.out.transN HN8.out)⟩
      have hs8 := HN8.out.size
      clear HBS HOS HK06 HK0 HK1 HO0 HO1 HN6 HN8 HMW6 HM HD0 HD1
      have s0 : w8.cell? ⟨gS, 0, none⟩ = some (.slice P0 r.1.1.length p0) := HBS8.out.cell 0
      have s1 : w8.cell? ⟨gS, 1, none⟩ = some (.slice P1 r.1.2.1.length p1) := HBS8.out.cell 1
      have s2 : w8.cell? ⟨gS, 2, none⟩ = some (.slice P2 r.1.2.2.1.length p2) := HBS8.out.cell 2
      have s3 : w8.cell? ⟨gS, 3, none⟩ = some (.slice P3 r.1.2.2.2.1.length p3) := HBS8.out.cell 3
      have s4 : w8.cell? ⟨gS, 4, none⟩ = some (.int .i64 r.1.2.2.2.2) := HBS8.out.cell 4
      have s5 : w8.cell? ⟨gS, 5, none⟩ = some (.int .i64 r.2.1) := HBS8.out.cell 5
      have s6 : w8.cell? ⟨gS, 6, none⟩ = some (.int .i64 r.2.2) := HBS8.out.cell 6
      have t0 : w8.cell? ⟨gI, 0, none⟩ = some (.slice Q0 r.1.1.length q0) := HBI.out.cell 0
      have t1 : w8.cell? ⟨gI, 1, none⟩ = some (.slice Q1 r.1.2.1.length q1) := HBI.out.cell 1
      have t2 : w8.cell? ⟨gI, 2, none⟩ = some (.slice Q2 r.1.2.2.1.length q2) := HBI.out.cell 2
      have t3 : w8.cell? ⟨gI, 3, none⟩ = some (.slice Q3 r.1.2.2.2.1.length q3) := HBI.out.cell 3
      have t4 : w8.cell? ⟨gI, 4, none⟩ = some (.int .i64 r.1.2.2.2.2) := HBI.out.cell 4
      have t5 : w8.cell? ⟨gI, 5, none⟩ = some (.int .i64 r.2.1) := HBI.out.cell 5
      have t6 : w8.cell? ⟨gI, 6, none⟩ = some (.int .i64 r.2.2) := HBI.out.cell 6
      go_wp2_with fail
      refine (sameDisk_same HOS8.out.rd HOI.out.rd).mono ?_
      clear s0 s1 s2 s3 s4 s5 s6 t0 t1 t2 t3 t4 t5 t6
      rintro e w9 ⟨rfl, hm9⟩
      have HN9 := Sec.mk hm9
      have HBI9 := Sec.mk (HBI.out.mod hm9 id)
      clear hm9
      have t0 : w9.cell? ⟨gI, 0, none⟩ = some (.slice Q0 r.1.1.length q0) := HBI9.out.cell 0
      have t1 : w9.cell? ⟨gI, 1, none⟩ = some (.slice Q1 r.1.2.1.length q1) := HBI9.out.cell 1
      have t2 : w9.cell? ⟨gI, 2, none⟩ = some (.slice Q2 r.1.2.2.1.length q2) := HBI9.out.cell 2
      have t3 : w9.cell? ⟨gI, 3, none⟩ = some (.slice Q3 r.1.2.2.2.1.length q3) := HBI9.out.cell 3
      have t4 : w9.cell? ⟨gI, 4, none⟩ = some (.int .i64 r.1.2.2.2.2) := HBI9.out.cell 4
      have t5 : w9.cell? ⟨gI, 5, none⟩ = some (.int .i64 r.2.1) := HBI9.out.cell 5
      have t6 : w9.cell? ⟨gI, 6, none⟩ = some (.int .i64 r.2.2) := HBI9.out.cell 6
      go_wp2_with fail
      refine (diskValidI_v (HOI.out.new HN9.out).rd).mono ?_
      clear t0 t1 t2 t3 t4 t5 t6
      rintro e w10 ⟨rfl, hm10⟩
      rw [(vld_iff _).2 HVR.out]
      have HN10 : Sec (New w8 w10) := ⟨HN9.out.transN hm10⟩
      have HBS10 := Sec.mk (HBS8.out.mod HN10.out id)
      have HBI10 := Sec.mk (HBI9.out.mod hm10 id)
      have HOS10 := Sec.mk (HOS8.out.new HN10.out)
      have HOI10 := Sec.mk (HOI.out.new HN10.out)
      have HK010 := Sec.mk (HK08.out.mod HN10.out id)
      have HK110 := Sec.mk (HK18.out.mod HN10.out id)
      have HM10 := Sec.mk (HMr8.out.transN HN10.out)
      have hs10 := HN10.out.size
      have hSl := HBS10.out.lt
      have hIl := HBI10.out.lt
      have hgS : w.heap.size + 1 < gS := by omega
      have hgI : w.heap.size + 1 < gI := by omega
      clear hm10 HN9 HBI9 HBS8 HBI HOS8 HOI HK08 HK18 HMr8 HN10
      have s0 : w10.cell? ⟨gS, 0, none⟩ = some (.slice P0 r.1.1.length p0) := HBS10.out.cell 0
      have s1 : w10.cell? ⟨gS, 1, none⟩ = some (.slice P1 r.1.2.1.length p1) := HBS10.out.cell 1
      have s2 : w10.cell? ⟨gS, 2, none⟩ = some (.slice P2 r.1.2.2.1.length p2) := HBS10.out.cell 2
      have s3 : w10.cell? ⟨gS, 3, none⟩ = some (.slice P3 r.1.2.2.2.1.length p3) := HBS10.out.cell 3
      have s4 : w10.cell? ⟨gS, 4, none⟩ = some (.int .i64 r.1.2.2.2.2) := HBS10.out.cell 4
      have s5 : w10.cell? ⟨gS, 5, none⟩ = some (.int .i64 r.2.1) := HBS10.out.cell 5
      have s6 : w10.cell? ⟨gS, 6, none⟩ = some (.int .i64 r.2.2) := HBS10.out.cell 6
      have t0 : w10.cell? ⟨gI, 0, none⟩ = some (.slice Q0 r.1.1.length q0) := HBI10.out.cell 0
      have t1 : w10.cell? ⟨gI, 1, none⟩ = some (.slice Q1 r.1.2.1.length q1) := HBI10.out.cell 1
      have t2 : w10.cell? ⟨gI, 2, none⟩ = some (.slice Q2 r.1.2.2.1.length q2) := HBI10.out.cell 2
      have t3 : w10.cell? ⟨gI, 3, none⟩ = some (.slice Q3 r.1.2.2.2.1.length q3) := HBI10.out.cell 3
      have t4 : w10.cell? ⟨gI, 4, none⟩ = some (.int .i64 r.1.2.2.2.2) := HBI10.out.cell 4
      have t5 : w10.cell? ⟨gI, 5, none⟩ = some (.int .i64 r.2.1) := HBI10.out.cell 5
      have t6 : w10.cell? ⟨gI, 6, none⟩ = some (.int .i64 r.2.2) := HBI10.out.cell 6
      have y0 : w10.cell? ⟨w.heap.size + 1, 0, none⟩ = some (.slice E0 D.1.length f0) := HK110.out.cell 0
      have y1 : w10.cell? ⟨w.heap.size + 1, 1, none⟩ = some (.slice E1 D.2.1.length f1) := HK110.out.cell 1
      have y2 : w10.cell? ⟨w.heap.size + 1, 2, none⟩ = some (.slice E2 D.2.2.1.length f2) := HK110.out.cell 2
      have y3 : w10.cell? ⟨w.heap.size + 1, 3, none⟩ = some (.slice E3 D.2.2.2.1.length f3) := HK110.out.cell 3
      have y4 : w10.cell? ⟨w.heap.size + 1, 4, none⟩ = some (.int .i64 D.2.2.2.2) := HK110.out.cell 4
      have z0 : w10.cell? ⟨w.heap.size, 0, none⟩ = some (.slice A0 D.1.length c0) := HK010.out.cell 0
      have z1 : w10.cell? ⟨w.heap.size, 1, none⟩ = some (.slice A1 D.2.1.length c1) := HK010.out.cell 1
      have z2 : w10.cell? ⟨w.heap.size, 2, none⟩ = some (.slice A2 D.2.2.1.length c2) := HK010.out.cell 2
      have z3 : w10.cell? ⟨w.heap.size, 3, none⟩ = some (.slice A3 D.2.2.2.1.length c3) := HK010.out.cell 3
      have z4 : w10.cell? ⟨w.heap.size, 4, none⟩ = some (.int .i64 D.2.2.2.2) := HK010.out.cell 4
      have fy : ∀ j, w10.frozen? ⟨w.heap.size + 1, j, none⟩ = false := fun j => HK110.out.frozen j
      have fz : ∀ j, w10.frozen? ⟨w.heap.size, j, none⟩ = false := fun j => HK010.out.frozen j
      have HS1 := Sec.mk (set5_blk HK110.out (.slice P0 r.1.1.length p0) (.slice P1 r.1.2.1.length p1) (.slice P2 r.1.2.2.1.length p2) (.slice P3 r.1.2.2.2.1.length p3) (.int .i64 r.1.2.2.2.2))
      have hm1 := set5_mod w10 (w.heap.size + 1) (.slice P0 r.1.1.length p0) (.slice P1 r.1.2.1.length p1) (.slice P2 r.1.2.2.1.length p2) (.slice P3 r.1.2.2.2.1.length p3) (.int .i64 r.1.2.2.2.2)
      have HX0 := Sec.mk (HK010.out.mod hm1 (by omega))
      have HX1 := Sec.mk (HOS10.out.keep hm1 (fun i (hi : wr.heap.size ≤ i) => by omega))
      have HX2 := Sec.mk (HOI10.out.keep hm1 (fun i (hi : w6.heap.size ≤ i) => by omega))
      have HX3 := Sec.mk (HM10.out.trans hm1 (fun i hi _ => Or.inr hi))
      have HXB := Sec.mk (HBI10.out.mod hm1 (by omega))
      have hs11 := hm1.size
      clear hm1
      go_upto_region 15 with (fail)
      clear y0 y1 y2 y3 y4 z0 z1 z2 z3 z4 s0 s1 s2 s3 s4 s5 s6 t0 t1 t2 t3 t4 t5 t6 fy fz
      obtain ⟨w11, hw11⟩ : ∃ W, W = set5 w10 (w.heap.size + 1) (.slice P0 r.1.1.length p0) (.slice P1 r.1.2.1.length p1) (.slice P2 r.1.2.2.1.length p2) (.slice P3 r.1.2.2.2.1.length p3) (.int .i64 r.1.2.2.2.2) := ⟨_, rfl⟩
      rw [← hw11] at HS1 HX0 HX1 HX2 HX3 HXB hs11
      rw [show (((((w10.setCell ⟨w.heap.size + 1, 0, none⟩ (.slice P0 r.1.1.length p0)).setCell ⟨w.heap.size + 1, 1, none⟩ (.slice P1 r.1.2.1.length p1)).setCell ⟨w.heap.size + 1, 2, none⟩ (.slice P2 r.1.2.2.1.length p2)).setCell ⟨w.heap.size + 1, 3, none⟩ (.slice P3 r.1.2.2.2.1.length p3)).setCell ⟨w.heap.size + 1, 4, none⟩ (.int .i64 r.1.2.2.2.2)) = w11 from hw11.symm]
      clear hw11 HK110 HK010 HBI10 HBS10 HOS10 HOI10 HM10
      have t0 : w11.cell? ⟨gI, 0, none⟩ = some (.slice Q0 r.1.1.length q0) := HXB.out.cell 0
      have t1 : w11.cell? ⟨gI, 1, none⟩ = some (.slice Q1 r.1.2.1.length q1) := HXB.out.cell 1
      have t2 : w11.cell? ⟨gI, 2, none⟩ = some (.slice Q2 r.1.2.2.1.length q2) := HXB.out.cell 2
      have t3 : w11.cell? ⟨gI, 3, none⟩ = some (.slice Q3 r.1.2.2.2.1.length q3) := HXB.out.cell 3
      have t4 : w11.cell? ⟨gI, 4, none⟩ = some (.int .i64 r.1.2.2.2.2) := HXB.out.cell 4
      have t5 : w11.cell? ⟨gI, 5, none⟩ = some (.int .i64 r.2.1) := HXB.out.cell 5
      have t6 : w11.cell? ⟨gI, 6, none⟩ = some (.int .i64 r.2.2) := HXB.out.cell 6
      have z0 : w11.cell? ⟨w.heap.size, 0, none⟩ = some (.slice A0 D.1.length c0) := HX0.out.cell 0
      have z1 : w11.cell? ⟨w.heap.size, 1, none⟩ = some (.slice A1 D.2.1.length c1) := HX0.out.cell 1
      have z2 : w11.cell? ⟨w.heap.size, 2, none⟩ = some (.slice A2 D.2.2.1.length c2) := HX0.out.cell 2
      have z3 : w11.cell? ⟨w.heap.size, 3, none⟩ = some (.slice A3 D.2.2.2.1.length c3) := HX0.out.cell 3
      have z4 : w11.cell? ⟨w.heap.size, 4, none⟩ = some (.int .i64 D.2.2.2.2) := HX0.out.cell 4
      have fz : ∀ j, w11.frozen? ⟨w.heap.size, j, none⟩ = false := fun j => HX0.out.frozen j
      have HS2 := Sec.mk (set5_blk HX0.out (.slice Q0 r.1.1.length q0) (.slice Q1 r.1.2.1.length q1) (.slice Q2 r.1.2.2.1.length q2) (.slice Q3 r.1.2.2.2.1.length q3) (.int .i64 r.1.2.2.2.2))
      have hm2 := set5_mod w11 w.heap.size (.slice Q0 r.1.1.length q0) (.slice Q1 r.1.2.1.length q1) (.slice Q2 r.1.2.2.1.length q2) (.slice Q3 r.1.2.2.2.1.length q3) (.int .i64 r.1.2.2.2.2)
      have HY1 := Sec.mk (HX1.out.keep hm2 (fun i (hi : wr.heap.size ≤ i) => by omega))
      have HY2 := Sec.mk (HX2.out.keep hm2 (fun i (hi : w6.heap.size ≤ i) => by omega))
      have HY3 := Sec.mk (HX3.out.trans hm2 (fun i hi _ => Or.inl hi))
      have HYS := Sec.mk (HS1.out.mod hm2 (by omega))
      clear hm2
      go_upto_region 16 with (fail)
      obtain ⟨w12, hw12⟩ : ∃ W, W = set5 w11 w.heap.size (.slice Q0 r.1.1.length q0) (.slice Q1 r.1.2.1.length q1) (.slice Q2 r.1.2.2.1.length q2) (.slice Q3 r.1.2.2.2.1.length q3) (.int .i64 r.1.2.2.2.2) := ⟨_, rfl⟩
      rw [← hw12] at HS2 HY1 HY2 HY3 HYS
      rw [show (((((w11.setCell ⟨w.heap.size, 0, none⟩ (.slice Q0 r.1.1.length q0)).setCell ⟨w.heap.size, 1, none⟩ (.slice Q1 r.1.2.1.length q1)).setCell ⟨w.heap.size, 2, none⟩ (.slice Q2 r.1.2.2.1.length q2)).setCell ⟨w.heap.size, 3, none⟩ (.slice Q3 r.1.2.2.2.1.length q3)).setCell ⟨w.heap.size, 4, none⟩ (.int .i64 r.1.2.2.2.2)) = w12 from hw12.symm]
      clear hw12 t0 t1 t2 t3 t4 t5 t6 z0 z1 z2 z3 z4 fz
      go_wp2
      go_roundw
      case rel => exact ⟨k + 1, r.1, by omega, by go_num, HVR, HQR, ⟨_, _, _, _, _, _, _, _, HS2.out, HY2.out.wide (fun i h1 (h2 : w6.heap.size ≤ i) => by show lo ≤ i; omega)⟩, ⟨_, _, _, _, _, _, _, _, HYS.out, HY1.out.wide (fun i h1 (h2 : wr.heap.size ≤ i) => by show lo ≤ i; omega)⟩, HY3⟩
      case measure => simp [intOf]; omega
    obtain rfl : k = ops.length := by omega
    obtain ⟨A0, A1, A2, A3, c0, c1, c2, c3, hk0, ho0⟩ := HD0.out
    obtain ⟨E0, E1, E2, E3, f0, f1, f2, f3, hk1, ho1⟩ := HD1.out
    have HK0 := Sec.mk hk0
    have HK1 := Sec.mk hk1
    have HO0 := Sec.mk ho0
    have HO1 := Sec.mk ho1
    have HMW : Sec (Mod (fun k => w.heap.size ≤ k) w wr) := ⟨(Mod.ofNew HNW4.out).trans HM.out (fun i hi _ => by omega)⟩
    obtain ⟨-, G1, -, -, -, hOE, -⟩ := ho1
    have HRE : Sec (Row dEntry wr (· < wr.heap.size) E1 D.2.1.length D.2.1) := ⟨(hOE.row rfl).mod hOE.lt (fun _ _ => rfl)⟩
    have hmx := HRE.out.2.1
    have hnl : D.2.1.length ≤ 300 := HV.out.names.len
    clear hk0 hk1 ho0 hOE HD0 HD1 HNW4 HM HOP4 HF hol hk hlt
    generalize ops.length = lops at *
    clear ops
    rename World => wq
    have y0 : wq.cell? ⟨w.heap.size + 1, 0, none⟩ = some (.slice E0 D.1.length f0) := HK1.out.cell 0
    have y1 : wq.cell? ⟨w.heap.size + 1, 1, none⟩ = some (.slice E1 D.2.1.length f1) := HK1.out.cell 1
    have y2 : wq.cell? ⟨w.heap.size + 1, 2, none⟩ = some (.slice E2 D.2.2.1.length f2) := HK1.out.cell 2
    have y3 : wq.cell? ⟨w.heap.size + 1, 3, none⟩ = some (.slice E3 D.2.2.2.1.length f3) := HK1.out.cell 3
    have y4 : wq.cell? ⟨w.heap.size + 1, 4, none⟩ = some (.int .i64 D.2.2.2.2) := HK1.out.cell 4
    go_wp2
    clear y0 y1 y2 y3 y4
    go_loopw [85, 13] (fun i o wr => ∃ (k : Nat) (AL : Option Addr) (nL cL : Nat), k ≤ D.2.1.length ∧ i = .int .i64 (k : Int) ∧ o = .slice AL nL cL ∧ Sec (OwI dOp 39 wr wq.heap.size wr.heap.size (.slice AL nL cL) ((D.2.1.take k).map (fun e => ((3, e.1, [], []) : OpT)))) ∧ Sec (New wq wr)) (fun i _ _ => D.2.1.length - (intOf i).toNat)
    case atStart => exact ⟨0, none, 0, 0, Nat.zero_le _, rfl, rfl, ⟨OwI.nil _ _ _ _ _⟩, ⟨Mod.refl _ _⟩⟩
    case round =>
      obtain ⟨k, AL, nL, cL, hk, rfl, rfl, HOL, HM⟩ := hrel
      have hsr := HM.out.size
      by_cases hlt : k < D.2.1.length
      · obtain ⟨ad, hE1, h0, h1, hxl, hyw⟩ := ent_at HRE.out (fun i hi => HM.out.block i hi id) hlt
        subst hE1
        have hki : (k : Int) < (D.2.1.length : Int) := by omega
        have HTK : Sec ((D.2.1.take k).map (fun e => ((3, e.1, [], []) : OpT)) ++ [(3, D.2.1[k].1, [], [])] = (D.2.1.take (k + 1)).map (fun e => ((3, e.1, [], []) : OpT))) := ⟨by rw [List.take_succ_eq_append_getElem hlt, List.map_append]; rfl⟩
        have hlk : ((D.2.1.take k).map (fun e => ((3, e.1, [], []) : OpT))).length = k := by simp; omega
        have HLK := Sec.mk hlk
        generalize (D.2.1.take k).map (fun e => ((3, e.1, [], []) : OpT)) = LK at *
        generalize D.2.1[k].1 = X at *
        generalize D.2.1[k].2 = Y at *
        clear hlk
        have HBE := Sec.mk (Blk.new wr 37 [.string ⟨X.toArray⟩, .int .i64 Y])
        have HNE : Sec (New wr (wr.alloc (.cells #[.string ⟨X.toArray⟩, .int .i64 Y] 37))) := ⟨(Mod.refl _ _).alloc _⟩
        go_upto_region 21 with (fail)
        generalize wr.alloc (.cells #[.string ⟨X.toArray⟩, .int .i64 Y] 37) = wx at *
        have ke0 : wx.cell? ⟨wr.heap.size, 0, none⟩ = some (.string ⟨X.toArray⟩) := HBE.out.cell 0
        have HOX := Sec.mk ((HOL.out.new HNE.out).new ((Mod.refl (fun _ => False) wx).alloc (.cells #[.int .i64 3, .string ⟨X.toArray⟩, .string ⟨#[]⟩, .slice none 0 0] 39)))
        have hsx := HNE.out.size
        have HSZ : Sec (wr.heap.size ≤ (wx.alloc (.cells #[.int .i64 3, .string ⟨X.toArray⟩, .string ⟨#[]⟩, .slice none 0 0] 39)).heap.size) := ⟨by simp; omega⟩
        have HXL := Sec.mk hxl
        clear hxl hyw
        go_wp2_with (at_builtin; go_loud (refine wpList_appO _ rfl (.tmp 89) (.tmp 93) _ rfl Tryd.underlying28 eltOp rfl rfl HOX.out (y := (3, X, [], [])) (G := []) (mOp (x := (3, X, [], [])) (show IntKind.i64.wrap 3 = 3 by decide) HXL.out (show ([] : Bytes).length ≤ 9223372036854775807 by decide) (Own.nil _ _ _)) (by simp) (lit_cells _ _ _ rfl) (show wq.heap.size ≤ wr.heap.size from hsr) HSZ.out (show LK.length + 1 ≤ 34359738368 by have := HLK.out; omega) ?_; intro A7 n7 c7 w7 HO7 hm7; have HO7s := Sec.mk HO7; have HM7s := Sec.mk hm7; clear HO7 hm7))
        have HN7 : Sec (New wq w7) := ⟨((HM.out.transN HNE.out).alloc (.cells #[.int .i64 3, .string ⟨X.toArray⟩, .string ⟨#[]⟩, .slice none 0 0] 39)).trans HM7s.out (fun i h1 h2 => by omega)⟩
        rw [HTK.out] at HO7s
        go_roundw
        case rel => exact ⟨k + 1, A7, n7, c7, by omega, by go_num, rfl, HO7s, HN7⟩
        case measure => simp [intOf]; omega
      obtain rfl : k = D.2.1.length := by omega
      obtain rfl := HOL.out.len.1
      have HOX := Sec.mk (HOL.out.new ((Mod.refl (fun _ => False) wr).alloc (.cells #[.int .i64 6, .string ⟨#[]⟩, .string ⟨#[]⟩, .slice none 0 0] 39)))
      have HSZ : Sec (wr.heap.size ≤ (wr.alloc (.cells #[.int .i64 6, .string ⟨#[]⟩, .string ⟨#[]⟩, .slice none 0 0] 39)).heap.size) := ⟨by simp⟩
      have HLL : Sec ((((D.2.1.take D.2.1.length).map (fun e => ((3, e.1, [], []) : OpT))).length) + 1 ≤ 34359738368) := ⟨by simp; omega⟩
      have HEL : Sec ((D.2.1.take D.2.1.length).map (fun e => ((3, e.1, [], []) : OpT)) ++ [(6, [], [], [])] = lastOps D.2.1) := ⟨by rw [List.take_length]; rfl⟩
      generalize (D.2.1.take D.2.1.length).map (fun e => ((3, e.1, [], []) : OpT)) = LK at *
      go_upto_region 24 with (at_builtin; go_loud (refine wpList_appO _ rfl (.tmp 96) (.tmp 98) _ rfl Tryd.underlying28 eltOp rfl rfl HOX.out (y := (6, [], [], [])) (G := []) (mOp (x := (6, [], [], [])) (by decide) (by decide) (by decide) (Own.nil _ _ _)) (by simp) (lit_cells _ _ _ rfl) (show wq.heap.size ≤ wr.heap.size from hsr) HSZ.out HLL.out ?_; intro A7 n7 c7 w7 HO7 hm7; have HO7s := Sec.mk HO7; have HM7s := Sec.mk hm7; clear HO7 hm7))
      rw [HEL.out] at HO7s
      have HN7 : Sec (New wq w7) := ⟨(HM.out.alloc (.cells #[.int .i64 6, .string ⟨#[]⟩, .string ⟨#[]⟩, .slice none 0 0] 39)).trans HM7s.out (fun i h1 h2 => by omega)⟩
      clear HOX HSZ HLL HEL HM7s HOL HM hsr hk hlt
      obtain rfl := HO7s.out.len.1
      have hs7 := HN7.out.size
      have HMW7 : Sec (Mod (fun k => w.heap.size ≤ k) w w7) := ⟨HMW.out.transN HN7.out⟩
      have HYR : Sec (Row Ty.byte w7 (· < w7.heap.size) A' ys.length ys) := ⟨HY.out.mod (fun k hk => Nat.lt_of_lt_of_le hk HMW7.out.size) (fun k hk => HMW7.out.block k hk (by show ¬ w.heap.size ≤ k; omega))⟩
      go_wp2_with fail
      refine (drawPicks_calls HYR.out (fun k hk => hk) (by omega)).mono ?_
      rintro e w8 ⟨dirs, A8, c8, ps, rfl, hdw, hpl, HPS, HN8⟩
      have hs8 := HN8.out.size
      have HN78 : Sec (New wq w8) := ⟨HN7.out.transN HN8.out⟩
      obtain ⟨s, hS⟩ := settled HV.out
      have HS := Sec.mk hS
      have HOL8 : Sec (RdV false dOpS w8 (.slice A7 (lastOps D.2.1).length c7) (lastOps D.2.1)) := ⟨RdV.of_row (HO7s.out.new HN8.out).rowlt (HO7s.out.len.2.1) (HO7s.out.len.2.2)⟩
      have HDL : Sec (∀ o, o ∈ lastOps D.2.1 → o.2.2.2.length ≤ 1048576) := ⟨fun o ho => by
        unfold lastOps at ho
        rcases List.mem_append.1 ho with h | h
        · obtain ⟨e, -, rfl⟩ := List.mem_map.1 h
          exact Nat.zero_le _
        · rw [List.mem_singleton.1 h]
          exact Nat.zero_le _⟩
      obtain ⟨ea, hea⟩ := HENV.out.env (HMW.out.transN HN78.out) (HMW.out.transN HN78.out).size
      have HRUN : Sec (∃ m : Int × Int, diskDoL D (lastOps D.2.1) = (s, m)) := ⟨⟨_, Prod.ext hS.run rfl⟩⟩
      obtain ⟨m, hrun⟩ := HRUN.out
      clear hS HRUN
      have HD08 := Sec.mk (HO0.out.new HN78.out)
      have hdo := diskDoI_v HD08.out.rd HOL8.out HDL.out hea
      rw [hrun] at hdo
      have HDO := Sec.mk hdo
      clear hdo hrun hea HDL HOL8 HO7s HYR
      generalize (lastOps D.2.1).length = lol at *
      have HK08 := Sec.mk (HK0.out.mod HN78.out id)
      have z0 : w8.cell? ⟨w.heap.size, 0, none⟩ = some (.slice A0 D.1.length c0) := HK08.out.cell 0
      have z1 : w8.cell? ⟨w.heap.size, 1, none⟩ = some (.slice A1 D.2.1.length c1) := HK08.out.cell 1
      have z2 : w8.cell? ⟨w.heap.size, 2, none⟩ = some (.slice A2 D.2.2.1.length c2) := HK08.out.cell 2
      have z3 : w8.cell? ⟨w.heap.size, 3, none⟩ = some (.slice A3 D.2.2.2.1.length c3) := HK08.out.cell 3
      have z4 : w8.cell? ⟨w.heap.size, 4, none⟩ = some (.int .i64 D.2.2.2.2) := HK08.out.cell 4
      go_wp2_with fail
      refine HDO.out.mono ?_
      clear z0 z1 z2 z3 z4 HDO HD08 HK08
      rintro e w9 ⟨v0, v1, v2, v3, rfl, ho9, hm9⟩
      obtain ⟨P0, p0, P1, p1, P2, p2, P3, p3, rfl, rfl, rfl, rfl, -⟩ := ho9.forms
      simp only at ho9
      have HNB : Sec (New w9 (w9.alloc (.cells #[.slice P0 s.1.length p0, .slice P1 s.2.1.length p1, .slice P2 s.2.2.1.length p2, .slice P3 s.2.2.2.1.length p3, .int .i64 s.2.2.2.2] 27))) := ⟨(Mod.refl _ _).alloc _⟩
      have HBS := Sec.mk (Blk.new w9 27 [.slice P0 s.1.length p0, .slice P1 s.2.1.length p1, .slice P2 s.2.2.1.length p2, .slice P3 s.2.2.2.1.length p3, .int .i64 s.2.2.2.2])
      have HOS := Sec.mk (ho9.new HNB.out)
      have HN9 : Sec (New wq (w9.alloc (.cells #[.slice P0 s.1.length p0, .slice P1 s.2.1.length p1, .slice P2 s.2.2.1.length p2, .slice P3 s.2.2.2.1.length p3, .int .i64 s.2.2.2.2] 27))) := ⟨(HN78.out.transN hm9).transN HNB.out⟩
      have HPS9 := Sec.mk (HPS.out.step (hm9.transN HNB.out))
      clear ho9 hm9 HNB HPS
      have hfd := fun a0 a1 a2 a3 a4 a5 a6 => fldDone0 a0 a1 a2 a3 a4 a5 a6 w9
      go_upto_region 26 with (fail)
      clear hfd
      generalize w9.alloc (.cells #[.slice P0 s.1.length p0, .slice P1 s.2.1.length p1, .slice P2 s.2.2.1.length p2, .slice P3 s.2.2.2.1.length p3, .int .i64 s.2.2.2.2] 27) = w10 at *
      generalize w9.heap.size = gS at *
      have z0 : w10.cell? ⟨gS, 0, none⟩ = some (.slice P0 s.1.length p0) := HBS.out.cell 0
      have z1 : w10.cell? ⟨gS, 1, none⟩ = some (.slice P1 s.2.1.length p1) := HBS.out.cell 1
      have z2 : w10.cell? ⟨gS, 2, none⟩ = some (.slice P2 s.2.2.1.length p2) := HBS.out.cell 2
      have z3 : w10.cell? ⟨gS, 3, none⟩ = some (.slice P3 s.2.2.2.1.length p3) := HBS.out.cell 3
      have z4 : w10.cell? ⟨gS, 4, none⟩ = some (.int .i64 s.2.2.2.2) := HBS.out.cell 4
      have hcr := diskCrashI_v HOS.out.rd dirs hdw HPS9.out (by omega)
      rw [HS.out.crash] at hcr
      have HCR := Sec.mk hcr
      clear hcr
      go_wp2_with fail
      refine HCR.out.mono ?_
      clear z0 z1 z2 z3 z4 HCR HPS9
      rintro e w11 ⟨v, rfl, ho11, hm11⟩
      have HRS0 := Sec.mk ho11.rd
      obtain ⟨Q0, q0, Q1, q1, Q2, q2, Q3, q3, rfl⟩ := cellsDisk ho11.rd
      have HNC : Sec (New w11 (w11.alloc (.cells #[.slice Q0 s.1.length q0, .slice Q1 s.2.1.length q1, .slice Q2 s.2.2.1.length q2, .slice Q3 s.2.2.2.1.length q3, .int .i64 s.2.2.2.2] 27))) := ⟨(Mod.refl _ _).alloc _⟩
      have HBC := Sec.mk (Blk.new w11 27 [.slice Q0 s.1.length q0, .slice Q1 s.2.1.length q1, .slice Q2 s.2.2.1.length q2, .slice Q3 s.2.2.2.1.length q3, .int .i64 s.2.2.2.2])
      have HRS := Sec.mk (HRS0.out.step HNC.out)
      have HN11 : Sec (New wq (w11.alloc (.cells #[.slice Q0 s.1.length q0, .slice Q1 s.2.1.length q1, .slice Q2 s.2.2.1.length q2, .slice Q3 s.2.2.2.1.length q3, .int .i64 s.2.2.2.2] 27))) := ⟨(HN9.out.transN hm11).transN HNC.out⟩
      clear ho11 hm11 HRS0 HNC HBS HOS HN9
      go_upto_region 27 with (fail)
      generalize w11.alloc (.cells #[.slice Q0 s.1.length q0, .slice Q1 s.2.1.length q1, .slice Q2 s.2.2.1.length q2, .slice Q3 s.2.2.2.1.length q3, .int .i64 s.2.2.2.2] 27) = w12 at *
      generalize w11.heap.size = gC at *
      have hsn : s.2.1.length = D.2.1.length := by rw [HS.out.names, crashEs_len]
      have hneq : ((s.2.1.length : Int) != (D.2.1.length : Int)) = false := by simp [hsn]
      have hqq : s.2.2.2.2 = 4000 := by rw [HS.out.quota]; exact HQ.out
      have hqn : (s.2.2.2.2 != (4000 : Int)) = false := by simp [hqq]
      clear hsn hqq
      have HK12 := Sec.mk (HK1.out.mod HN11.out id)
      have z0 : w12.cell? ⟨gC, 0, none⟩ = some (.slice Q0 s.1.length q0) := HBC.out.cell 0
      have z1 : w12.cell? ⟨gC, 1, none⟩ = some (.slice Q1 s.2.1.length q1) := HBC.out.cell 1
      have z2 : w12.cell? ⟨gC, 2, none⟩ = some (.slice Q2 s.2.2.1.length q2) := HBC.out.cell 2
      have z3 : w12.cell? ⟨gC, 3, none⟩ = some (.slice Q3 s.2.2.2.1.length q3) := HBC.out.cell 3
      have z4 : w12.cell? ⟨gC, 4, none⟩ = some (.int .i64 s.2.2.2.2) := HBC.out.cell 4
      have y0 : w12.cell? ⟨w.heap.size + 1, 0, none⟩ = some (.slice E0 D.1.length f0) := HK12.out.cell 0
      have y1 : w12.cell? ⟨w.heap.size + 1, 1, none⟩ = some (.slice E1 D.2.1.length f1) := HK12.out.cell 1
      have y2 : w12.cell? ⟨w.heap.size + 1, 2, none⟩ = some (.slice E2 D.2.2.1.length f2) := HK12.out.cell 2
      have y3 : w12.cell? ⟨w.heap.size + 1, 3, none⟩ = some (.slice E3 D.2.2.2.1.length f3) := HK12.out.cell 3
      have y4 : w12.cell? ⟨w.heap.size + 1, 4, none⟩ = some (.int .i64 D.2.2.2.2) := HK12.out.cell 4
      go_wp2_with fail
      refine (diskValidI_v HRS.out).mono ?_
      rw [(vld_iff _).2 HS.out.vld]
      clear z0 z1 z2 z3 z4 y0 y1 y2 y3 y4
      rintro e w13 ⟨rfl, hm13⟩
      have HN13 : Sec (New wq w13) := ⟨HN11.out.transN hm13⟩
      have HBC13 := Sec.mk (HBC.out.mod hm13 id)
      have HRS13 := Sec.mk (HRS.out.step hm13)
      have HK13 := Sec.mk (HK12.out.mod hm13 id)
      clear hm13 HN11 HBC HRS HK12
      have z0 : w13.cell? ⟨gC, 0, none⟩ = some (.slice Q0 s.1.length q0) := HBC13.out.cell 0
      have z1 : w13.cell? ⟨gC, 1, none⟩ = some (.slice Q1 s.2.1.length q1) := HBC13.out.cell 1
      have z2 : w13.cell? ⟨gC, 2, none⟩ = some (.slice Q2 s.2.2.1.length q2) := HBC13.out.cell 2
      have z3 : w13.cell? ⟨gC, 3, none⟩ = some (.slice Q3 s.2.2.2.1.length q3) := HBC13.out.cell 3
      have z4 : w13.cell? ⟨gC, 4, none⟩ = some (.int .i64 s.2.2.2.2) := HBC13.out.cell 4
      have y0 : w13.cell? ⟨w.heap.size + 1, 0, none⟩ = some (.slice E0 D.1.length f0) := HK13.out.cell 0
      have y1 : w13.cell? ⟨w.heap.size + 1, 1, none⟩ = some (.slice E1 D.2.1.length f1) := HK13.out.cell 1
      have y2 : w13.cell? ⟨w.heap.size + 1, 2, none⟩ = some (.slice E2 D.2.2.1.length f2) := HK13.out.cell 2
      have y3 : w13.cell? ⟨w.heap.size + 1, 3, none⟩ = some (.slice E3 D.2.2.2.1.length f3) := HK13.out.cell 3
      have y4 : w13.cell? ⟨w.heap.size + 1, 4, none⟩ = some (.int .i64 D.2.2.2.2) := HK13.out.cell 4
      go_upto_region 30 with (fail)
      clear z0 z1 z2 z3 z4 y0 y1 y2 y3 y4 hneq hqn
      obtain ⟨F0, -, -, -, hON, -⟩ := HO1.out
      have HRN : Sec (Row dNode wq (· < wq.heap.size) E0 D.1.length D.1) := ⟨(hON.row rfl).mod hON.lt (fun _ _ => rfl)⟩
      have hnm := HRN.out.2.1
      clear hON HO1 HO0 HK0 HK1
      go_loopw [133] (fun i wr => ∃ k : Nat, k ≤ D.2.1.length ∧ i = .int .i64 (k : Int) ∧ Sec (New w13 wr)) (fun i _ => D.2.1.length - (intOf i).toNat)
      case atStart => exact ⟨0, Nat.zero_le _, rfl, ⟨Mod.refl _ _⟩⟩
      case round =>
        obtain ⟨k, hk, rfl, HM3⟩ := hrel
        by_cases hlt : k < D.2.1.length
        rotate_left
        · obtain rfl : k = D.2.1.length := by omega
          have HFIN : Sec (New w wr) := ⟨(HMW.out.transN (HN13.out.transN HM3.out)).mono (fun i h1 h2 => by have h3 : w.heap.size ≤ i := h2; omega)⟩
          go_wp2
          go_ret
          exact ⟨rfl, HFIN.out⟩
        have HNq : Sec (New wq wr) := ⟨HN13.out.transN HM3.out⟩
        obtain ⟨ad, hE1, h0, h1, hxl, hyw⟩ := ent_at HRE.out (fun i hi => HNq.out.block i hi id) hlt
        obtain ⟨nd, hnd, hndl, HRL⟩ : ∃ nd : Nat, D.2.1[k].2 = (nd : Int) ∧ ∃ h : nd < D.1.length, Sec (readL s D.2.1[k].1 = (true, D.1[nd].1)) := by
          have hm := List.getElem_mem hlt
          have hr := HV.out.names.inr _ hm
          refine ⟨D.2.1[k].2.toNat, by omega, by omega, ⟨?_⟩⟩
          obtain ⟨g1, g2⟩ := HS.out.read HV.out hm
          unfold readL
          rw [if_pos ⟨(vld_iff s).2 HS.out.vld, g1⟩]
          refine Prod.ext rfl (g2.trans ?_)
          have := nodeAt_nat (d := D) (nd := D.2.1[k].2.toNat) (by omega)
          rw [show ((D.2.1[k].2.toNat : Nat) : Int) = D.2.1[k].2 by omega] at this
          rw [this]
        obtain ⟨ad2, Ae, ce, hE0, n0, -, -, -, hrow, -⟩ := node_at HRN.out (fun i hi => HNq.out.block i hi id) hndl
        have hki : (k : Int) < (D.2.1.length : Int) := by omega
        have hni : (nd : Int) < (D.1.length : Int) := by omega
        rw [hnd] at h1
        have HXL := Sec.mk hxl
        have HROW := Sec.mk hrow
        clear hnd hyw hxl hrow
        generalize D.2.1[k].1 = X at *
        generalize D.1[nd].1 = Z at *
        subst hE1
        have HBN := Sec.mk (Blk.new wr 37 [.string ⟨X.toArray⟩, .int .i64 (nd : Int)])
        have HNN : Sec (New wr (wr.alloc (.cells #[.string ⟨X.toArray⟩, .int .i64 (nd : Int)] 37))) := ⟨(Mod.refl _ _).alloc _⟩
        go_upto_region 32 with (fail)
        generalize wr.alloc (.cells #[.string ⟨X.toArray⟩, .int .i64 (nd : Int)] 37) = wx at *
        generalize wr.heap.size = gN at *
        have ke0 : wx.cell? ⟨gN, 0, none⟩ = some (.string ⟨X.toArray⟩) := HBN.out.cell 0
        have HBCx := Sec.mk (HBC13.out.mod (HM3.out.transN HNN.out) id)
        have z0 : wx.cell? ⟨gC, 0, none⟩ = some (.slice Q0 s.1.length q0) := HBCx.out.cell 0
        have z1 : wx.cell? ⟨gC, 1, none⟩ = some (.slice Q1 s.2.1.length q1) := HBCx.out.cell 1
        have z2 : wx.cell? ⟨gC, 2, none⟩ = some (.slice Q2 s.2.2.1.length q2) := HBCx.out.cell 2
        have z3 : wx.cell? ⟨gC, 3, none⟩ = some (.slice Q3 s.2.2.2.1.length q3) := HBCx.out.cell 3
        have z4 : wx.cell? ⟨gC, 4, none⟩ = some (.int .i64 s.2.2.2.2) := HBCx.out.cell 4
        have hrd := diskReadI_v (HRS13.out.step (HM3.out.transN HNN.out)) X HXL.out
        rw [HRL.out] at hrd
        have HRD := Sec.mk hrd
        clear hrd
        go_wp2_with fail
        refine HRD.out.mono ?_
        clear ke0 z0 z1 z2 z3 z4 HRD h0 h1
        rintro e w15 ⟨v, rfl, ho15, hm15⟩
        obtain ⟨v1, hv1, hrc⟩ := rdContent ho15.rd
        obtain ⟨Ad, cd, hv1', -, hrz⟩ := hrc.slice
        subst hv1'
        subst hv1
        have HRZ := Sec.mk hrz
        have HBR := Sec.mk (Blk.new w15 45 [.bool true, .slice Ad Z.length cd])
        have HNR : Sec (New w15 (w15.alloc (.cells #[.bool true, .slice Ad Z.length cd] 45))) := ⟨(Mod.refl _ _).alloc _⟩
        clear ho15 hrc hrz
        go_upto_region 33 with (fail)
        have HN16 : Sec (New wr (w15.alloc (.cells #[.bool true, .slice Ad Z.length cd] 45))) := ⟨(HNN.out.transN hm15).transN HNR.out⟩
        have HRZ16 : Sec (Row Ty.byte (w15.alloc (.cells #[.bool true, .slice Ad Z.length cd] 45)) (fun i => i < w15.heap.size) Ad Z.length Z) := ⟨HRZ.out.mod (fun _ h => h) (fun i hi => HNR.out.block i hi id)⟩
        generalize w15.alloc (.cells #[.bool true, .slice Ad Z.length cd] 45) = w16 at *
        generalize w15.heap.size = gR at *
        have HBN16 := Sec.mk (HBN.out.mod (hm15.transN HNR.out) id)
        have HK16 := Sec.mk (HK13.out.mod (HM3.out.transN HN16.out) id)
        have kn1 : w16.cell? ⟨gN, 1, none⟩ = some (.int .i64 (nd : Int)) := HBN16.out.cell 1
        have kr0 : w16.cell? ⟨gR, 0, none⟩ = some (.bool true) := HBR.out.cell 0
        have kr1 : w16.cell? ⟨gR, 1, none⟩ = some (.slice Ad Z.length cd) := HBR.out.cell 1
        have ky0 : w16.cell? ⟨w.heap.size + 1, 0, none⟩ = some (.slice E0 D.1.length f0) := HK16.out.cell 0
        have kd0 : w16.cell? (ad2.add (nd * 2)) = some (.slice Ae Z.length ce) := HN16.out.cell_of n0
        have HFIN : Sec (New w13 w16) := ⟨HM3.out.transN HN16.out⟩
        have hgc : ∀ n, Calls Tryd.prog 12 #[.slice Ad Z.length cd, .slice Ae Z.length ce] (w16.drewN n) (fun e w' => e = .returned (.bool true) ∧ w' = w16.drewN n) := fun n => (sameBytes_calls (w := w16.drewN n) (HRZ16.out.mod (fun _ h => h) (fun _ _ => rfl)) ((HROW.out.mod (w' := w16) (fun _ h => h) (fun i hi => HN16.out.block i (Nat.lt_of_lt_of_le hi HNq.out.size) id)).mod (w' := w16.drewN n) (fun _ h => h) (fun _ _ => rfl))).mono fun e w' hh => ⟨by simpa using hh.1, hh.2⟩
        subst hE0
        clear HBN HNN hm15 HNR HBCx HRZ HRZ16 HROW HBN16 HK16 n0
        go_wp2
        refine wp_region_quiet_lit (by kernel_rfl) (by kernel_rfl) ?_
        repeat ((with_reducible refine wpQuiet_step (fun K hK => ?_)); go_simp; first | (refine hK _ ?_; clear hK K) | (apply Exists.intro; refine ⟨fun _ => ?_, hK _ ?_⟩; (first | (go_at_call 12; refine Calls.quiet_of_same (hgc _))); clear hK K))
        refine wpQuiet_nil ?_
        intro _ hwq
        obtain ⟨nq, hwqq⟩ := hwq
        subst hwqq
        go_wp2
        go_roundw
        case rel => exact ⟨k + 1, by omega, by go_num, ⟨HFIN.out.drewN _⟩⟩
        case measure => simp [intOf]; omega
end Go.Proofs.YtkkgighgnbbgiaaDoor
