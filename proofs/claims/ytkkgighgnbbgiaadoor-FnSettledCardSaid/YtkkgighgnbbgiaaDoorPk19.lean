/- What a row over operations on a disk lists, read off the memory: five errors, each a pointer of its own. The specification's crash. The program's crash. -/
import Derived.Test.YtkkgighgnbbgiaaDoorPk12
import Derived.Test.YtkkgighgnbbgiaaDoorRows
import Derived.ChangeVars
import Derived.Stop.LaidErr
import Derived.LaidLaws
import Derived.Test.YtkkgighgnbbgiaaDoorPk5
import Derived.Test.YtkkgighgnbbgiaaDoorPk9
import Derived.Deep.DeepCutAuto
import Derived.Deep.Cut
import Derived.Test.YtkkgighgnbbgiaaDoorPk11
namespace Go.Proofs.YtkkgighgnbbgiaaDoor
open Go.RowKit Mem Go.ChangeShapes
set_option linter.unusedVariables false
set_option maxRecDepth 100000
def ErrsAt (w : World) : Prop := ∃ ea, ErrEnv w.heap.size w ea
theorem starE : "*" ++ "errors.errorString" = "*errors.errorString" := by decide
theorem row141 (u : TypeId) (h : Tryd.prog.typeName? 3 u = some "*errors.errorString") : u = 115 :=
  typeName_ptr_named (nm := "errors.errorString") (by rw [starE]; kernel_rfl) (by kernel_rfl) (by decide) u (by rw [starE]; exact h)
theorem laid_next {P : Program} {x : String × DataW Unit} {r : List (String × DataW Unit)} {W : World} (h : laidMet P (x :: r) W) : laidMet P r W := by
  obtain ⟨ps, ⟨g, t, cs, fuel, p, q, hg, ht, hv, hd, hr, e⟩, hnd, hrows⟩ := h
  subst e
  exact ⟨q, hr, (List.nodup_append.1 hnd).2.1, fun b off hm => hrows b off (List.mem_append_right _ hm)⟩
theorem sentinel_at {n : String} {g : Nat} {text : List UInt8} {r : List (String × DataW Unit)} {W : World}
    (h : laidMet Tryd.prog ((n, .iface "*errors.errorString" (.ptr (.agg [.lit (.string text)]))) :: r) W) (hg : Tryd.prog.globalNamed n = some g) (ht : (Tryd.prog.globals[g]?).map (·.type) = some 60) :
    ∃ a : Addr, W.cell? ⟨g, 0, none⟩ = some (.iface 115 (.pointer (some a))) ∧ (∃ s : ByteArray, W.cell? a = some (.string s) ∧ s.data.toList = text) ∧ ∃ c t, W.heap[a.block]? = some (.cells c t (0, 0)) := by
  obtain ⟨ps, ⟨g0, t0, cs0, f0, p0, q0, hg0, ht0, hv0, hd0, _, e0⟩, hnd, hrows⟩ := h
  obtain rfl := Option.some.inj (hg.symm.trans hg0)
  obtain rfl := Option.some.inj (ht.symm.trans ht0)
  subst e0
  obtain ⟨l0⟩ := cs0
  have ok0 : ∀ u v, l0 = [.iface u v] → Value.okWide Tryd.prog W .any 0 u v := fun u v e => by
    subst e
    exact (hrows g 0 (by simp [MemPlace.row])).2 u v (by simpa using World.var?_cell hg0 hv0 0)
  obtain ⟨a0, s0, rfl, hc0, hs0, hz0, rfl⟩ := errorString_of_trod Tryd.underlying60 row141 Tryd.underlying115 Tryd.underlying140 rfl rfl Tryd.underlying9 (by kernel_rfl) (by kernel_rfl) hd0 ok0
  obtain ⟨c0, t0, hb0⟩ := (hrows a0.block a0.off (by simp [MemPlace.row])).1
  exact ⟨a0, by simpa using World.var?_cell hg0 hv0 0, ⟨s0, hc0, hs0⟩, c0, t0, hb0⟩
theorem errsAt_of_laid {W : World} {r : List (String × DataW Unit)}
    (h : laidMet Tryd.prog (("loop.example/s02349/impl.errKind", Rows.laid_loop_example_s02349_impl_errKind) :: ("loop.example/s02349/impl.errName", Rows.laid_loop_example_s02349_impl_errName) :: ("loop.example/s02349/impl.errMissing", Rows.laid_loop_example_s02349_impl_errMissing) :: ("loop.example/s02349/impl.errSpace", Rows.laid_loop_example_s02349_impl_errSpace) :: ("loop.example/s02349/impl.errFull", Rows.laid_loop_example_s02349_impl_errFull) :: r) W) : ErrsAt W := by
  obtain ⟨a2, c2, ⟨s2, k2, t2⟩, b2⟩ := sentinel_at (g := 0) h (by kernel_rfl) (by kernel_rfl)
  have h := laid_next h
  obtain ⟨a3, c3, ⟨s3, k3, t3⟩, b3⟩ := sentinel_at (g := 1) h (by kernel_rfl) (by kernel_rfl)
  have h := laid_next h
  obtain ⟨a4, c4, ⟨s4, k4, t4⟩, b4⟩ := sentinel_at (g := 2) h (by kernel_rfl) (by kernel_rfl)
  have h := laid_next h
  obtain ⟨a5, c5, ⟨s5, k5, t5⟩, b5⟩ := sentinel_at (g := 3) h (by kernel_rfl) (by kernel_rfl)
  have h := laid_next h
  obtain ⟨a6, c6, ⟨s6, k6, t6⟩, b6⟩ := sentinel_at (g := 4) h (by kernel_rfl) (by kernel_rfl)
  have ne : ∀ {a b : Addr} {s t : ByteArray} {x y : List UInt8}, W.cell? a = some (.string s) → W.cell? b = some (.string t) → s.data.toList = x → t.data.toList = y → x ≠ y → a ≠ b := by
    intro a b s t x y h1 h2 e1 e2 hne e
    subst e
    have h3 := Option.some.inj (h1.symm.trans h2)
    injection h3 with h3
    subst h3
    exact hne (e1.symm.trans e2)
  have lt : ∀ {a : Addr}, (∃ c t, W.heap[a.block]? = some (.cells c t (0, 0))) → a.block < W.heap.size := fun ⟨c, t, h⟩ => (Array.getElem?_eq_some_iff.1 h).1
  have hg := fun {g : Nat} {v : Value} (h : W.cell? ⟨g, 0, none⟩ = some v) => World.block_lt_of_cell? W _ h
  have key : ∀ i, 2 ≤ i → i ≤ 6 → i = 2 ∨ i = 3 ∨ i = 4 ∨ i = 5 ∨ i = 6 := fun i h1 h2 => by omega
  refine ⟨fun i => if i = 2 then a2 else if i = 3 then a3 else if i = 4 then a4 else if i = 5 then a5 else a6, c2, c3, c4, c5, c6, fun i h1 h2 => ?_, fun i j h1 h2 h3 h4 hij => ?_, ⟨hg c2, hg c3, hg c4, hg c5, hg c6⟩⟩
  · rcases key i h1 h2 with rfl | rfl | rfl | rfl | rfl
    · exact ⟨lt b2, b2⟩
    · exact ⟨lt b3, b3⟩
    · exact ⟨lt b4, b4⟩
    · exact ⟨lt b5, b5⟩
    · exact ⟨lt b6, b6⟩
  · have n23 := ne k2 k3 t2 t3 (by decide)
    have n24 := ne k2 k4 t2 t4 (by decide)
    have n25 := ne k2 k5 t2 t5 (by decide)
    have n26 := ne k2 k6 t2 t6 (by decide)
    have n34 := ne k3 k4 t3 t4 (by decide)
    have n35 := ne k3 k5 t3 t5 (by decide)
    have n36 := ne k3 k6 t3 t6 (by decide)
    have n45 := ne k4 k5 t4 t5 (by decide)
    have n46 := ne k4 k6 t4 t6 (by decide)
    have n56 := ne k5 k6 t5 t6 (by decide)
    rcases key i h1 h2 with rfl | rfl | rfl | rfl | rfl <;> rcases key j h3 h4 with rfl | rfl | rfl | rfl | rfl
    all_goals first
      | exact absurd rfl hij
      | exact n23 | exact n24 | exact n25 | exact n26 | exact n34 | exact n35 | exact n36 | exact n45 | exact n46 | exact n56
      | exact n23.symm | exact n24.symm | exact n25.symm | exact n26.symm | exact n34.symm | exact n35.symm | exact n36.symm | exact n45.symm | exact n46.symm | exact n56.symm
theorem trodVars_consD {H : Type} {enc : TypeId × Value → H} {P : Program} {w : World} {spare : Nat → Bool} {n : String} {ns : List String} {gs : List (DataW H)} {ps : List MemPlace} (h : DataW.TrodVars enc P w spare (n :: ns) gs ps) : ∃ d gs' qs, gs = d :: gs' ∧ DataW.TrodVars enc P w spare ns gs' qs := by
  cases gs with
  | nil => simp [DataW.TrodVars] at h
  | cons d ds =>
    obtain ⟨g, t, cs, fuel, p, q, h1, h2, h3, h4, hs, e⟩ := h
    exact ⟨d, ds, q, rfl, hs⟩
end Go.Proofs.YtkkgighgnbbgiaaDoor

namespace Go.Proofs.YtkkgighgnbbgiaaDoor
open Go.RowKit Mem
set_option linter.unusedVariables false
set_option linter.unusedSimpArgs false
end Go.Proofs.YtkkgighgnbbgiaaDoor

namespace Go.Proofs.YtkkgighgnbbgiaaDoor
open Go.RowKit Mem
set_option linter.unusedVariables false
set_option linter.unusedSimpArgs false
set_option maxHeartbeats 4000000 in
set_option maxRecDepth 100000 in
theorem diskCrashI_v {w : World} {v vp : Value} {x : DiskT} {ps : List Int} (h : RdV true dDisk w v x) (dirs : Int) (hd : IntKind.i64.wrap dirs = dirs) (hp : RdV false dIntS w vp ps) (hpl : ps.length ≤ 1048576) : Calls Tryd.prog 10 #[v, .int .i64 dirs, vp] w (RetV true dDisk w (crashL x dirs ps)) := by
  have HX := Sec.mk h
  have HQW := Sec.mk (okDisk h)
  obtain ⟨v0, v1, v2, v3, rfl, k0, k1, k2, k3⟩ := rdDisk h
  obtain ⟨Ap, cp, rfl, hcp, hrp⟩ := hp.slice
  have HRP := Sec.mk hrp
  have HRL0 : Sec (¬ DiskValidL x = true → crashL x dirs ps = ([], [], [], [], 0)) := ⟨fun h => if_neg h⟩
  have HRL1 : Sec (DiskValidL x = true → crashL x dirs ps = (crashNs x.1 ps (listAt x dirs), crashEs (listAt x dirs), crashEs (listAt x dirs), [], x.2.2.2.2)) := ⟨fun h => if_pos h⟩
  obtain ⟨A0, c0, rfl, hc0, hr0⟩ := k0.slice
  obtain ⟨A1, c1, rfl, hc1, hr1⟩ := k1.slice
  obtain ⟨A2, c2, rfl, hc2, hr2⟩ := k2.slice
  obtain ⟨A3, c3, rfl, hc3, hr3⟩ := k3.slice
  have HR0 := Sec.mk hr0
  have HR2 := Sec.mk hr2
  have HR3 := Sec.mk hr3
  have HBX := Sec.mk ((Blk.new w 27 [.slice A0 x.1.length c0, .slice A1 x.2.1.length c1, .slice A2 x.2.2.1.length c2, .slice A3 x.2.2.2.1.length c3, .int .i64 x.2.2.2.2]).alloc (.cells #[.slice none 0 0, .slice none 0 0, .slice none 0 0, .slice none 0 0, .int .i64 0] 27))
  have HBC := Sec.mk (Blk.new (w.alloc (.cells #[.slice A0 x.1.length c0, .slice A1 x.2.1.length c1, .slice A2 x.2.2.1.length c2, .slice A3 x.2.2.2.1.length c3, .int .i64 x.2.2.2.2] 27)) 27 [.slice none 0 0, .slice none 0 0, .slice none 0 0, .slice none 0 0, .int .i64 0])
  have HM0 := Sec.mk (((Mod.refl (fun _ => False) w).alloc (.cells #[.slice A0 x.1.length c0, .slice A1 x.2.1.length c1, .slice A2 x.2.2.1.length c2, .slice A3 x.2.2.2.1.length c3, .int .i64 x.2.2.2.2] 27)).alloc (.cells #[.slice none 0 0, .slice none 0 0, .slice none 0 0, .slice none 0 0, .int .i64 0] 27))
  have p0 := HBX.out.cell 0
  have p1 := HBX.out.cell 1
  have p2 := HBX.out.cell 2
  have p3 := HBX.out.cell 3
  have p4 := HBX.out.cell 4
  clear h k0 k1 k2 k3 hr0 hr1 hr2 hr3 hp hrp
  go_enter Tryd.func10, Tryd.ntmps10
  go_wp2_with fail
  refine (diskValidI_v (HX.out.step HM0.out)).mono ?_
  rintro e w2 ⟨rfl, hm2⟩
  have HM2 := Sec.mk (HM0.out.transN hm2)
  have HB2 := Sec.mk (HBX.out.mod hm2 id)
  have HC2 : Sec (Blk w2 (w.heap.size + 1) 27 [.slice none 0 0, .slice none 0 0, .slice none 0 0, .slice none 0 0, .int .i64 0]) := ⟨by have := HBC.out.mod hm2 id; simpa using this⟩
  clear hm2 HM0 HBX HBC p0 p1 p2 p3 p4
  cases hv : DiskValidL x
  · have HE := Sec.mk (HRL0.out (by rw [hv]; simp))
    have q0 : w2.cell? ⟨w.heap.size + 1, 0, none⟩ = some (.slice none 0 0) := HC2.out.cell 0
    have q1 : w2.cell? ⟨w.heap.size + 1, 1, none⟩ = some (.slice none 0 0) := HC2.out.cell 1
    have q2 : w2.cell? ⟨w.heap.size + 1, 2, none⟩ = some (.slice none 0 0) := HC2.out.cell 2
    have q3 : w2.cell? ⟨w.heap.size + 1, 3, none⟩ = some (.slice none 0 0) := HC2.out.cell 3
    have q4 : w2.cell? ⟨w.heap.size + 1, 4, none⟩ = some (.int .i64 0) := HC2.out.cell 4
    have f0 : w2.frozen? ⟨w.heap.size + 1, 0, none⟩ = false := HC2.out.frozen 0
    have f1 : w2.frozen? ⟨w.heap.size + 1, 1, none⟩ = false := HC2.out.frozen 1
    have f2 : w2.frozen? ⟨w.heap.size + 1, 2, none⟩ = false := HC2.out.frozen 2
    have f3 : w2.frozen? ⟨w.heap.size + 1, 3, none⟩ = false := HC2.out.frozen 3
    have f4 : w2.frozen? ⟨w.heap.size + 1, 4, none⟩ = false := HC2.out.frozen 4
    have hlt2 := HC2.out.lt
    have HC3 := Sec.mk (((((HC2.out.set_ 0 (.slice none 0 0)).set_ 1 (.slice none 0 0)).set_ 2 (.slice none 0 0)).set_ 3 (.slice none 0 0)).set_ 4 (.int .i64 0))
    have HM3 := Sec.mk (((((HM2.out.setCell (p := ⟨w.heap.size + 1, 0, none⟩) (fun h => absurd h (by simp)) (.slice none 0 0)).setCell (p := ⟨w.heap.size + 1, 1, none⟩) (fun h => absurd h (by simp)) (.slice none 0 0)).setCell (p := ⟨w.heap.size + 1, 2, none⟩) (fun h => absurd h (by simp)) (.slice none 0 0)).setCell (p := ⟨w.heap.size + 1, 3, none⟩) (fun h => absurd h (by simp)) (.slice none 0 0)).setCell (p := ⟨w.heap.size + 1, 4, none⟩) (fun h => absurd h (by simp)) (.int .i64 0))
    clear hv
    go_wp2
    refine bodyPost_ret (results_blk rfl rfl HC3.out Tryd.underlying27 (by kernel_rfl)) rfl ?_
    rw [HE.out]
    exact ⟨_, rfl, (Out3.nil (fun k => w.heap.size ≤ k) _).disk (by decide) (fun k h => h), HM3.out⟩
  have HVL := Sec.mk hv
  have HE := Sec.mk (HRL1.out hv)
  have hok := (DiskValidL_iff x).1 hv
  have HIN := Sec.mk (inR_of hok.2.2.2.2.2.2.2.1)
  have HRS := Sec.mk hok.2.2.2.2.2.2.2.2
  have HOK := Sec.mk (inOrdL_ord hok.2.2.2.2.2.2.2.1)
  have HNO := Sec.mk hok.2.2.2.2.1
  have hk300 : x.2.2.1.length ≤ 300 := ((inOrdL_iff x.2.2.1 x.1.length).1 hok.2.2.2.2.2.2.2.1).1
  have hn600 := hok.2.2.1
  have hp1000 := hok.2.2.2.1
  clear hv hok HRL0 HRL1
  have p0 : w2.cell? ⟨w.heap.size, 0, none⟩ = some (.slice A0 x.1.length c0) := HB2.out.cell 0
  have p2 : w2.cell? ⟨w.heap.size, 2, none⟩ = some (.slice A2 x.2.2.1.length c2) := HB2.out.cell 2
  have p3 : w2.cell? ⟨w.heap.size, 3, none⟩ = some (.slice A3 x.2.2.2.1.length c3) := HB2.out.cell 3
  clear p3
  have p3 : w2.cell? ⟨w.heap.size, 3, none⟩ = some (.slice A3 x.2.2.2.1.length c3) := HB2.out.cell 3
  have HL2 := Sec.mk (HR2.out.mod (w' := w2) (B' := (· < w2.heap.size)) (fun k hk => Nat.lt_of_lt_of_le hk HM2.out.size) (fun k hk => HM2.out.block k hk id))
  have HDX : Sec (∃ D : Nat, max 0 (min dirs (x.2.2.2.1.length : Int)) = (D : Int) ∧ D = min dirs.toNat x.2.2.2.1.length) := ⟨⟨min dirs.toNat x.2.2.2.1.length, by omega, rfl⟩⟩
  go_wp2
  obtain ⟨D, hD1, hD2⟩ := HDX.out
  have HD2 := Sec.mk hD2
  have hDl : D ≤ x.2.2.2.1.length := by omega
  rw [hD1, Int.toNat_natCast]
  clear hD1 hD2 HDX
  go_loopw [7, 32] (fun l i wr => ∃ (k : Nat) (A' : Option Addr) (c' : Nat) (cur : List EntryT), k ≤ D ∧ i = .int .i64 (k : Int) ∧ l = .slice A' cur.length c' ∧ cur.length ≤ c' ∧ Sec (Row dEntry wr (· < wr.heap.size) A' cur.length cur) ∧ Sec (Ord cur ∧ InR x.1.length cur) ∧ cur.length ≤ 300 ∧ Sec (cur = runL x.1.length x.2.2.1 (x.2.2.2.1.take k)) ∧ Sec (replaysL x.1.length cur (x.2.2.2.1.drop k) = some x.2.1) ∧ Sec (Blk wr w.heap.size 27 [.slice A0 x.1.length c0, .slice A1 x.2.1.length c1, .slice A2 x.2.2.1.length c2, .slice A3 x.2.2.2.1.length c3, .int .i64 x.2.2.2.2]) ∧ Sec (Blk wr (w.heap.size + 1) 27 [.slice none 0 0, .slice none 0 0, .slice none 0 0, .slice none 0 0, .int .i64 0]) ∧ Sec (New w wr)) (fun _ i _ => D - (intOf i).toNat)
  case atStart => exact ⟨0, A2, c2, x.2.2.1, Nat.zero_le _, rfl, rfl, hc2, HL2, ⟨HOK.out, HIN.out⟩, hk300, ⟨rfl⟩, ⟨HRS.out⟩, HB2, HC2, HM2⟩
  case round =>
    clear HM2 HB2 HC2 HL2 p0 p2 p3
    obtain ⟨k, A', c', cur, hk, rfl, rfl, hcc', HC, HOC, hcl, HCR, HP, HBr, HCr, HMr⟩ := hrel
    have hwr : w.heap.size < wr.heap.size := HBr.out.lt
    have q0 : wr.cell? ⟨w.heap.size, 0, none⟩ = some (.slice A0 x.1.length c0) := HBr.out.cell 0
    by_cases hltD : k < D
    · have hlt : k < x.2.2.2.1.length := by omega
      obtain ⟨ad, rfl, d0, d1, d2, d3, g0, g1, g2, g3⟩ := dop_at HR3.out (w' := wr) (fun i hi => HMr.out.block i hi id) hlt
      have hki : (k : Int) < (D : Int) := by omega
      have HG := Sec.mk (And.intro g0 (And.intro g1 (And.intro g2 g3)))
      clear g0 g1 g2 g3
      have HPX : Sec (∃ q : DirOpT, q = x.2.2.2.1[k]) := ⟨⟨_, rfl⟩⟩
      obtain ⟨q, hq⟩ := HPX.out
      have HQ := Sec.mk hq
      rw [← hq] at d0 d1 d2 d3 HG
      clear hq HPX
      have HBa := Sec.mk (HBr.out.alloc (.cells #[.int .i64 q.1, .string ⟨q.2.1.toArray⟩, .string ⟨q.2.2.1.toArray⟩, .int .i64 q.2.2.2] 66))
      have HCb := Sec.mk (HCr.out.alloc (.cells #[.int .i64 q.1, .string ⟨q.2.1.toArray⟩, .string ⟨q.2.2.1.toArray⟩, .int .i64 q.2.2.2] 66))
      have HMa := Sec.mk (HMr.out.alloc (.cells #[.int .i64 q.1, .string ⟨q.2.1.toArray⟩, .string ⟨q.2.2.1.toArray⟩, .int .i64 q.2.2.2] 66))
      have HCa := Sec.mk (HC.out.mod (w' := wr.alloc (.cells #[.int .i64 q.1, .string ⟨q.2.1.toArray⟩, .string ⟨q.2.2.1.toArray⟩, .int .i64 q.2.2.2] 66)) (B' := (· < wr.heap.size)) (fun _ h => h) (fun k hk => Below.heap_alloc _ _ _ hk))
      have HST := Sec.mk (replays_step hlt HP.out)
      go_wp2_with fail
      refine (replay_calls HCa.out (fun k hk => Nat.lt_of_lt_of_le hk (by simp)) hcc' (by omega) HOC.out.1 q HG.out.2.1 HG.out.2.2.1 HG.out.2.2.2 (x.1.length : Int)).mono ?_
      intro e w5 hr5
      obtain ⟨m, hm1, hml, hm2⟩ := HST.out
      rw [← HQ.out] at hm1
      rw [hm1] at hr5
      obtain ⟨A5, c5, rfl, hmine⟩ := hr5
      have HM5 := Sec.mk (HMa.out.transN hmine.new)
      have HB5 := Sec.mk (HBa.out.mod hmine.new id)
      have HC5 := Sec.mk (HCb.out.mod hmine.new id)
      have HR5 := Sec.mk (hmine.row.mod (B' := (· < w5.heap.size)) (fun _ h => h.2) (fun _ _ => rfl))
      have HO5 := Sec.mk (And.intro (replayL_ord HOC.out.1 hm1) (inR_replay HOC.out.1 HOC.out.2 hm1))
      have HN5 : Sec (m = runL x.1.length x.2.2.1 (x.2.2.2.1.take (k + 1))) := ⟨by rw [runL_take _ _ _ hlt, ← HQ.out, ← HCR.out, hm1]; rfl⟩
      have HP5 := Sec.mk hm2
      have hyc := hmine.len.2.1
      clear hmine hm1 hm2
      go_wp2
      go_roundw
      case rel => exact ⟨k + 1, A5, c5, m, by omega, by go_num, rfl, hyc, HR5, HO5, hml, HN5, HP5, HB5, HC5, HM5⟩
      case measure => simp [intOf]; omega
    · obtain rfl : k = D := by omega
      have HLA : Sec (listAt x dirs = cur) := ⟨by
        rw [HCR.out]; unfold listAt
        congr 1
        rw [HD2.out]
        by_cases hh : dirs.toNat ≤ x.2.2.2.1.length
        · rw [Nat.min_eq_left hh]
        · rw [Nat.min_eq_right (by omega), List.take_of_length_le (by omega), List.take_of_length_le (Nat.le_refl _)]⟩
      rw [HLA.out] at HE
      have q4 : wr.cell? ⟨w.heap.size, 4, none⟩ = some (.int .i64 x.2.2.2.2) := HBr.out.cell 4
      rename World => wz
      have HGE : Sec (Blk (wz.alloc (.cells #[.slice none 0 0, .slice none 0 0, .slice none 0 0, .slice none 0 0, .int .i64 x.2.2.2.2] 27)) wz.heap.size 27 [.slice none 0 0, .slice none 0 0, .slice none 0 0, .slice none 0 0, .int .i64 x.2.2.2.2]) := ⟨Blk.new wz 27 _⟩
      have HQI := Sec.mk HOC.out.2
      clear HCR HP HOC hltD hk HLA
      go_wp2
      go_loopw [51] (fun i wr => ∃ (k : Nat) (B0 B1 : Option Addr) (m0 e0 m1 e1 : Nat), k ≤ cur.length ∧ i = .int .i64 (k : Int) ∧ Sec (Blk wr wz.heap.size 27 [.slice B0 m0 e0, .slice B1 m1 e1, .slice none 0 0, .slice none 0 0, .int .i64 x.2.2.2.2]) ∧ Sec (Out3 (fun k => wz.heap.size + 1 ≤ k) wr (.slice B0 m0 e0) (.slice B1 m1 e1) (.slice none 0 0) (crashNs x.1 ps (cur.take k)) (crashEs (cur.take k)) []) ∧ Sec (New wz wr)) (fun i _ => cur.length - (intOf i).toNat)
      case atStart => exact ⟨0, none, none, 0, 0, 0, 0, Nat.zero_le _, rfl, HGE, ⟨Out3.nil _ _⟩, ⟨(Mod.refl _ _).alloc _⟩⟩
      case round =>
        clear HGE
        obtain ⟨k, B0, B1, m0, e0, m1, e1, hk, rfl, HGB, H3, HMq⟩ := hrel
        have HBq := Sec.mk (HBr.out.mod HMq.out id)
        have hwq : wz.heap.size < wr.heap.size := HGB.out.lt
        have hwz : w.heap.size + 1 < wz.heap.size := HCr.out.lt
        clear q0 q4
        by_cases hlt : k < cur.length
        · obtain ⟨ae, hA', d0, d1, g0, g1⟩ := ent_at HC.out (w' := wr) (fun i hi => HMq.out.block i hi id) hlt
          subst hA'
          have hki : (k : Int) < (cur.length : Int) := by omega
          have HIE := Sec.mk (HQI.out _ (List.getElem_mem hlt))
          have HTK := Sec.mk (crashNs_take x.1 ps cur hlt)
          have HTE := Sec.mk (crashEs_take cur hlt)
          have HPX : Sec (∃ q : EntryT, q = cur[k]) := ⟨⟨_, rfl⟩⟩
          obtain ⟨q, hq⟩ := HPX.out
          rw [← hq] at d0 d1 g0 g1 HTK HTE HIE
          clear hq HPX
          obtain ⟨nm, u⟩ := q
          simp only at d0 d1 g0 g1
          obtain ⟨nd, hnd⟩ := Int.eq_ofNat_of_zero_le HIE.out.1
          simp only at hnd
          subst hnd
          have hnl : nd < x.1.length := by have := HIE.out.2; simp only at this; omega
          obtain ⟨bd, An, cn, hA0, n0, n1, hcc, hcm, hrow, hw⟩ := node_at (HR0.out.mod (w' := (wr.alloc (.cells #[.string ⟨nm.toArray⟩, .int .i64 (nd : Int)] 37))) (fun _ h => h) (fun k hk => ((HMr.out.transN HMq.out).alloc _).block k hk id)) (w' := (wr.alloc (.cells #[.string ⟨nm.toArray⟩, .int .i64 (nd : Int)] 37))) (fun _ _ => rfl) hnl
          subst hA0
          have HNK := Sec.mk (HNO.out nd hnl)
          have HCN : Sec (crashNode x.1 ps k (nm, (nd : Int)) = (x.1[nd].1.take (keepN x.1[nd] ps k).toNat, keepN x.1[nd] ps k)) := ⟨crashNode_at hnl ps k nm⟩
          have HRW := Sec.mk hrow
          have HWP := Sec.mk hw
          clear hrow hw HIE
          have HPX : Sec (∃ z : NodeT, z = x.1[nd]) := ⟨⟨_, rfl⟩⟩
          obtain ⟨z, hz⟩ := HPX.out
          rw [← hz] at n0 n1 hcc HRW HWP HNK HCN
          clear hz HPX
          obtain ⟨dat, safe⟩ := z
          simp only at n0 n1 hcc
          rw [HCN.out] at HTK
          have hdn := HNK.out
          unfold nodeOk at hdn
          have hdn2 := of_decide_eq_true hdn
          simp only at hdn2
          clear hdn
          have q0 : wr.cell? ⟨w.heap.size, 0, none⟩ = some (.slice (some bd) x.1.length c0) := HBq.out.cell 0
          have hwr2 : w.heap.size < wr.heap.size := by omega
          have HKI := Sec.mk (keepN_in HNK.out ps k)
          have HKN : Sec (keepN (dat, safe) ps k = if 0 < ps.length then (if 0 < ps[k % ps.length]?.getD 0 then safe + (ps[k % ps.length]?.getD 0) % ((dat.length : Int) - safe + 1) else safe) else safe) := ⟨rfl⟩
          go_upto_if 66 with (fail)
          go_cut [14] (fun kv wx => ∃ kp : Nat, kv = .int .i64 (kp : Int) ∧ Sec (keepN (dat, safe) ps k = (kp : Int)) ∧ wx = ((wr.alloc (.cells #[.string ⟨nm.toArray⟩, .int .i64 (nd : Int)] 37)).alloc (.cells #[.slice An dat.length cn, .int .i64 safe] 49)))
          case first =>
            by_cases hps : 0 < ps.length
            rotate_left
            · have hps' : ¬ (0 : Int) < (ps.length : Int) := by omega
              have hkv : Sec (keepN (dat, safe) ps k = safe) := ⟨HKN.out.trans (if_neg hps)⟩
              go_wp2
              go_meet
              exact ⟨safe.toNat, by rw [Int.toNat_of_nonneg hdn2.2.1], ⟨by rw [hkv.out, Int.toNat_of_nonneg hdn2.2.1]⟩, rfl⟩
            have hps' : (0 : Int) < (ps.length : Int) := by omega
            have hjl : k % ps.length < ps.length := Nat.mod_lt _ hps
            obtain ⟨ap, hAp, dp, -⟩ := intRow_at HRP.out (w' := ((wr.alloc (.cells #[.string ⟨nm.toArray⟩, .int .i64 (nd : Int)] 37)).alloc (.cells #[.slice An dat.length cn, .int .i64 safe] 49))) (fun k hk => (((HMr.out.transN HMq.out).alloc _).alloc _).block k hk id) hjl
            subst hAp
            have hmod : Int.tmod (k : Int) (ps.length : Int) = ((k % ps.length : Nat) : Int) := (Int.ofNat_tmod k ps.length).symm
            have HKN2 : Sec (keepN (dat, safe) ps k = if 0 < ps[k % ps.length] then safe + ps[k % ps.length] % ((dat.length : Int) - safe + 1) else safe) := ⟨by rw [HKN.out, if_pos hps, List.getElem?_eq_getElem hjl]; rfl⟩
            generalize ps[k % ps.length] = pv at *
            generalize hjj : k % ps.length = j at *
            have hjl' : (j : Int) < (ps.length : Int) := by omega
            clear hjj
            by_cases hpv : 0 < pv
            rotate_left
            · have hkv : Sec (keepN (dat, safe) ps k = safe) := ⟨HKN2.out.trans (if_neg hpv)⟩
              go_wp2
              go_meet
              exact ⟨safe.toNat, by rw [Int.toNat_of_nonneg hdn2.2.1], ⟨by rw [hkv.out, Int.toNat_of_nonneg hdn2.2.1]⟩, rfl⟩
            have hkv : Sec (keepN (dat, safe) ps k = safe + pv % ((dat.length : Int) - safe + 1)) := ⟨HKN2.out.trans (if_pos hpv)⟩
            have hdv : 0 < (dat.length : Int) - safe + 1 := by omega
            have htm : Int.tmod pv ((dat.length : Int) - safe + 1) = pv % ((dat.length : Int) - safe + 1) := Int.tmod_eq_emod_of_nonneg (by omega)
            go_wp2
            go_meet
            have hki2 := HKI.out
            rw [hkv.out] at hki2
            (try simp only at hki2)
            refine ⟨(safe + pv % ((dat.length : Int) - safe + 1)).toNat, ?_, ⟨by rw [hkv.out, Int.toNat_of_nonneg hki2.1]⟩, rfl⟩
            rw [Int.toNat_of_nonneg hki2.1]
            congr 1
            rw [wrap64]
            omega
          case rest =>
            obtain ⟨kp, rfl, HKP, rfl⟩ := hcut
            have hkl := HKI.out
            rw [HKP.out] at hkl
            simp only at hkl
            have hkl2 : kp ≤ dat.length := by omega
            have HTK2 : Sec (crashNs x.1 ps (cur.take (k + 1)) = crashNs x.1 ps (cur.take k) ++ [(dat.take kp, (kp : Int))]) := ⟨by rw [HTK.out, HKP.out, Int.toNat_natCast]⟩
            have HTKL : Sec ((dat.take kp).length = kp) := ⟨by rw [List.length_take]; omega⟩
            have hre : (wr.alloc (.cells #[.string ⟨nm.toArray⟩, .int .i64 (nd : Int)] 37)).heap.size = wr.heap.size + 1 := by simp
            have HMN : Sec (New wr ((wr.alloc (.cells #[.string ⟨nm.toArray⟩, .int .i64 (nd : Int)] 37)).alloc (.cells #[.slice An dat.length cn, .int .i64 safe] 49))) := ⟨((Mod.refl _ _).alloc _).alloc _⟩
            have HGN := Sec.mk (HGB.out.mod HMN.out id)
            have HEN := Sec.mk ((Blk.new wr 37 [.string ⟨nm.toArray⟩, .int .i64 (nd : Int)]).alloc (.cells #[.slice An dat.length cn, .int .i64 safe] 49))
            have HNN : Sec (Blk ((wr.alloc (.cells #[.string ⟨nm.toArray⟩, .int .i64 (nd : Int)] 37)).alloc (.cells #[.slice An dat.length cn, .int .i64 safe] 49)) (wr.heap.size + 1) 49 [.slice An dat.length cn, .int .i64 safe]) := ⟨by rw [← hre]; exact Blk.new (wr.alloc (.cells #[.string ⟨nm.toArray⟩, .int .i64 (nd : Int)] 37)) 49 _⟩
            have H3N := Sec.mk ((H3.out.wide (X' := fun k => wz.heap.size + 1 ≤ k ∧ k < wr.heap.size) (fun k h1 h2 => ⟨h2, h1⟩)).new HMN.out)
            have HRB := Sec.mk ((HRW.out.mod (w' := ((wr.alloc (.cells #[.string ⟨nm.toArray⟩, .int .i64 (nd : Int)] 37)).alloc (.cells #[.slice An dat.length cn, .int .i64 safe] 49))) (fun _ h => h) (fun k hk => ((Mod.refl (fun _ => False) (wr.alloc (.cells #[.string ⟨nm.toArray⟩, .int .i64 (nd : Int)] 37))).alloc (.cells #[.slice An dat.length cn, .int .i64 safe] 49)).block k (Nat.lt_of_lt_of_le hk (by simp; omega)) id)).take hkl2)
            have hsn : ((wr.alloc (.cells #[.string ⟨nm.toArray⟩, .int .i64 (nd : Int)] 37)).alloc (.cells #[.slice An dat.length cn, .int .i64 safe] 49)).heap.size = wr.heap.size + 2 := by simp
            clear HTK HKI HKN HCN hre HRW
            generalize dat.take kp = tk at *
            generalize ((wr.alloc (.cells #[.string ⟨nm.toArray⟩, .int .i64 (nd : Int)] 37)).alloc (.cells #[.slice An dat.length cn, .int .i64 safe] 49)) = wn at *
            clear q0 n0 n1 d0 d1
            have hkc : kp ≤ cn := by omega
            have HTT : Sec (wn.drew.cell? ⟨wz.heap.size, 0, none⟩ = some (.slice B0 m0 e0) ∧ wn.drew.cell? ⟨wr.heap.size + 1, 0, none⟩ = some (.slice An dat.length cn)) := ⟨HGN.out.cell 0, HNN.out.cell 0⟩
            go_wp2
            refine reg_start [13] (fun W => Sec (W.cell? ⟨wz.heap.size, 0, none⟩ = some (.slice B0 m0 e0) ∧ W.cell? ⟨wr.heap.size + 1, 0, none⟩ = some (.slice An dat.length cn))) (by kernel_rfl) ?_
            have HSS := HTT
            refine reg_take (.pointer (some ⟨wz.heap.size, 0, none⟩)) (i := 0) (n := 87) HSS rfl (by kernel_rfl) (by kernel_rfl) (by kernel_rfl) (by kernel_rfl) (fun _ _ _ h => h) (fun W hW => exec_field rfl rfl (fptDisk0 _ _)) ?_
            simp only [Act.put, List.setIfInBounds_toArray, List.set_cons_zero, List.set_cons_succ]
            refine reg_take (.slice B0 m0 e0) (i := 1) (n := 88) HSS rfl (by kernel_rfl) (by kernel_rfl) (by kernel_rfl) (by kernel_rfl) (fun _ _ _ h => h) (fun W hW => exec_load rfl rfl (ldNodesD hW.out.1)) ?_
            simp only [Act.put, List.setIfInBounds_toArray, List.set_cons_zero, List.set_cons_succ]
            refine reg_take (.pointer (some ⟨wr.heap.size + 1, 0, none⟩)) (i := 3) (n := 90) HSS rfl (by kernel_rfl) (by kernel_rfl) (by kernel_rfl) (by kernel_rfl) (fun _ _ _ h => h) (fun W hW => exec_field rfl rfl (fptNode0D _ _)) ?_
            simp only [Act.put, List.setIfInBounds_toArray, List.set_cons_zero, List.set_cons_succ]
            refine reg_take (.slice An dat.length cn) (i := 4) (n := 91) HSS rfl (by kernel_rfl) (by kernel_rfl) (by kernel_rfl) (by kernel_rfl) (fun _ _ _ h => h) (fun W hW => exec_load rfl rfl (ldBytesD hW.out.2)) ?_
            simp only [Act.put, List.setIfInBounds_toArray, List.set_cons_zero, List.set_cons_succ]
            refine reg_take (.int .i64 (kp : Int)) (i := 5) (n := 92) HSS rfl (by kernel_rfl) (by kernel_rfl) (by kernel_rfl) (by kernel_rfl) (fun _ _ _ h => h) (fun W hW => exec_move rfl rfl) ?_
            simp only [Act.put, List.setIfInBounds_toArray, List.set_cons_zero, List.set_cons_succ]
            refine reg_take (.slice An kp cn) (i := 6) (n := 93) HSS rfl (by kernel_rfl) (by kernel_rfl) (by kernel_rfl) (by kernel_rfl) (fun _ _ _ h => h) (fun W hW => exec_slice rfl rfl rfl rfl rfl (slcBytesTo hkc _)) ?_
            simp only [Act.put, List.setIfInBounds_toArray, List.set_cons_zero, List.set_cons_succ]
            refine reg_take (.int .i64 (kp : Int)) (i := 8) (n := 95) HSS rfl (by kernel_rfl) (by kernel_rfl) (by kernel_rfl) (by kernel_rfl) (fun _ _ _ h => h) (fun W hW => exec_move rfl rfl) ?_
            simp only [Act.put, List.setIfInBounds_toArray, List.set_cons_zero, List.set_cons_succ]
            refine reg_step (i := 2) rfl (by kernel_rfl) (fun K hK => ?_)
            refine wp_valw (n := 89) (v := .slice (some ⟨wn.drew.heap.size, 0, none⟩) 0 0) (w' := wn.drew.alloc (.cells #[] 5)) (exec_buildSlice (parts := []) (vs := []) rfl rfl (bldBytes0 _)) rfl ?_
            have HN4 : Sec (New wn (wn.drew.alloc (.cells #[] 5))) := ⟨((Mod.refl _ _).drew).alloc _⟩
            have HSS : Sec ((wn.drew.alloc (.cells #[] 5)).cell? ⟨wz.heap.size, 0, none⟩ = some (.slice B0 m0 e0) ∧ (wn.drew.alloc (.cells #[] 5)).cell? ⟨wr.heap.size + 1, 0, none⟩ = some (.slice An dat.length cn)) := ⟨(HGN.out.mod HN4.out id).cell 0, (HNN.out.mod HN4.out id).cell 0⟩
            refine hK.out _ _ (fun _ => HSS) ?_
            clear hK K
            simp only [Act.put, List.setIfInBounds_toArray, List.set_cons_zero, List.set_cons_succ]
            refine reg_step (i := 7) rfl (by kernel_rfl) (fun K hK => ?_)
            refine wp_app _ (.tmp 89) (.tmp 93) _ rfl Tryd.underlying22 elt_byte flat_byte rfl rfl (Mine.lit0 (w0 := wn) 5 rfl (Mod.refl _ _).drew) (HRB.out.mod (w' := wn.drew.alloc (.cells #[] 5)) (fun _ h => h) (fun k hk => HN4.out.block k (by have := Nat.lt_of_lt_of_le hk HMr.out.size; omega) id)) (show ([] : Bytes).length + tk.length ≤ 34359738368 by rw [HTKL.out]; simp; omega) ?_
            intro A5 n5 c5 w5 hmine
            rw [List.nil_append] at hmine
            have HN5 : Sec (New wn w5) := ⟨hmine.new⟩
            have HMN5 := Sec.mk hmine
            have HSS : Sec (w5.cell? ⟨wz.heap.size, 0, none⟩ = some (.slice B0 m0 e0) ∧ w5.cell? ⟨wr.heap.size + 1, 0, none⟩ = some (.slice An dat.length cn)) := ⟨(HGN.out.mod HN5.out id).cell 0, (HNN.out.mod HN5.out id).cell 0⟩
            obtain rfl := hmine.len.1
            refine hK.out _ _ (fun _ => HSS) ?_
            clear hmine
            clear hK K
            simp only [Act.put, List.setIfInBounds_toArray, List.set_cons_zero, List.set_cons_succ]
            refine reg_take (.agg #[.slice A5 tk.length c5, .int .i64 (kp : Int)]) (i := 9) (n := 96) HSS rfl (by kernel_rfl) (by kernel_rfl) (by kernel_rfl) (by kernel_rfl) (fun _ _ _ h => h) (fun W hW => exec_build (parts := [(0, .tmp 94), (1, .tmp 95)]) rfl rfl (bldNode _ _ _ _ _)) ?_
            simp only [Act.put, List.setIfInBounds_toArray, List.set_cons_zero, List.set_cons_succ]
            refine reg_step (i := 10) rfl (by kernel_rfl) (fun K hK => ?_)
            refine wp_valw (n := 97) (v := .slice (some ⟨w5.heap.size, 0, none⟩) 1 1) (w' := w5.alloc (.cells #[.slice A5 tk.length c5, .int .i64 (kp : Int)] 49)) (exec_buildSlice (parts := [(0, .tmp 96)]) (vs := [(0, .agg #[.slice A5 tk.length c5, .int .i64 (kp : Int)])]) rfl rfl (bldNode1 _ _ _ _ _)) rfl ?_
            have HN6 := Sec.mk (HN5.out.alloc (.cells #[.slice A5 tk.length c5, .int .i64 (kp : Int)] 49))
            have HSS : Sec ((w5.alloc (.cells #[.slice A5 tk.length c5, .int .i64 (kp : Int)] 49)).cell? ⟨wz.heap.size, 0, none⟩ = some (.slice B0 m0 e0) ∧ (w5.alloc (.cells #[.slice A5 tk.length c5, .int .i64 (kp : Int)] 49)).cell? ⟨wr.heap.size + 1, 0, none⟩ = some (.slice An dat.length cn)) := ⟨(HGN.out.mod HN6.out id).cell 0, (HNN.out.mod HN6.out id).cell 0⟩
            refine hK.out _ _ (fun _ => HSS) ?_
            clear hK K
            simp only [Act.put, List.setIfInBounds_toArray, List.set_cons_zero, List.set_cons_succ]
            refine reg_step (i := 11) rfl (by kernel_rfl) (fun K hK => ?_)
            obtain ⟨⟨F5, ho5, hF5⟩, -⟩ := HMN5.out
            have hs5 := HN5.out.size
            have hln := crashNs_len x.1 ps (cur.take k)
            rw [List.length_take] at hln
            refine Out3.wp0 (X := fun k => wz.heap.size + 1 ≤ k ∧ k ≠ wr.heap.size ∧ k ≠ wr.heap.size + 1) _ (.tmp 88) (.tmp 97) _ rfl Tryd.underlying23 eltNode rfl rfl (H3N.out.new HN6.out) (y := (tk, (kp : Int))) (mNode (x := (tk, (kp : Int))) (show IntKind.i64.wrap (kp : Int) = (kp : Int) by rw [IntKind.wrap_i64]; omega) (ho5.keep ((Mod.refl (fun _ => False) w5).alloc _) (fun _ _ h => h))) (fun k hk => by have := hF5 k (by simpa using hk); omega) (lit_cells _ _ _ rfl) (fun k hk => by omega) (fun k hk => by simp at hk; omega) (by omega) ?_
            intro A7 n7 c7 w7 h7 hm7
            have H7 := Sec.mk h7
            have HM7 := Sec.mk (HMN.out.transN HN6.out)
            have HG7 := Sec.mk ((HGN.out.mod HN6.out id).mod hm7 (by omega))
            have HE7 := Sec.mk ((HEN.out.mod HN6.out id).mod hm7 (by omega))
            have HNN7 := Sec.mk ((HNN.out.mod HN6.out id).mod hm7 (by omega))
            have HW7 : Sec (New wr wr → New wz w7) := ⟨fun _ => ((HMq.out.transN HM7.out).trans hm7 (fun i hi hlt => by omega))⟩
            have HSS : Sec (w7.cell? ⟨wz.heap.size, 0, none⟩ = some (.slice B0 m0 e0) ∧ w7.cell? ⟨wr.heap.size + 1, 0, none⟩ = some (.slice An dat.length cn)) := ⟨HG7.out.cell 0, HNN7.out.cell 0⟩
            have hs7 := hm7.size
            refine hK.out _ _ (fun _ => HSS) ?_
            clear h7 hm7 ho5 hF5
            clear hK K
            simp only [Act.put, List.setIfInBounds_toArray, List.set_cons_zero, List.set_cons_succ]
            refine reg_take (.pointer (some ⟨wz.heap.size, 0, none⟩)) (i := 12) (n := 99) HSS rfl (by kernel_rfl) (by kernel_rfl) (by kernel_rfl) (by kernel_rfl) (fun _ _ _ h => h) (fun W hW => exec_field rfl rfl (fptDisk0 _ _)) ?_
            simp only [Act.put, List.setIfInBounds_toArray, List.set_cons_zero, List.set_cons_succ]
            refine reg_step (i := 13) rfl (by kernel_rfl) (fun K hK => ?_)
            refine wp_store rfl rfl rfl rfl (stNodesC A7 n7 c7 (HG7.out.cell 0) (HG7.out.frozen 0)) (hK.out _ _ (fun h => absurd (List.mem_singleton.2 rfl) h) ?_)
            clear hK K
            refine reg_done (by kernel_rfl) ?_ _
            have HN7 := Sec.mk (HW7.out (Mod.refl _ _))
            have H8 := Sec.mk (H7.out.keep (S := fun k => k < wz.heap.size + 1) (Mod.setCell (Mod.refl _ _) (p := ⟨wz.heap.size, 0, none⟩) (fun _ => by simp) (.slice A7 n7 c7)) (fun k h1 h2 => by omega))
            have HG8 := Sec.mk (HG7.out.set_ 0 (.slice A7 n7 c7))
            have HE8 := Sec.mk (HE7.out.far (p := ⟨wz.heap.size, 0, none⟩) (by show wr.heap.size ≠ wz.heap.size; omega) (.slice A7 n7 c7))
            have HN8 := Sec.mk (HN7.out.setCell (p := ⟨wz.heap.size, 0, none⟩) (fun h => absurd h (Nat.lt_irrefl _)) (.slice A7 n7 c7))
            have hs8 : (w7.setCell ⟨wz.heap.size, 0, none⟩ (.slice A7 n7 c7)).heap.size = w7.heap.size := by simp [World.setCell]
            simp only [List.set_cons_zero] at HG8
            have hs7' : wr.heap.size + 2 < w7.heap.size := by have h := hs7; simp at h; omega
            have HLN := Sec.mk (crashEs_len (cur.take k))
            have hlt7 : (cur.take k).length ≤ 300 := by rw [List.length_take]; omega
            have HG0 := Sec.mk g0
            have HWK : Sec (IntKind.i64.wrap (k : Int) = (k : Int)) := ⟨by rw [IntKind.wrap_i64]; omega⟩
            clear HG7 HE7 H7 HN7 HNN7 HW7 HSS HTT HM7 HN6 HN5 HMN5 HMN H3N HGN HEN HNN HRB g0 hs5 hln
            generalize w7.setCell ⟨wz.heap.size, 0, none⟩ (.slice A7 n7 c7) = w8 at *
            have n1 : w8.cell? ⟨wz.heap.size, 1, none⟩ = some (.slice B1 m1 e1) := HG8.out.cell 1
            have z0 : w8.cell? ⟨wr.heap.size, 0, none⟩ = some (.string ⟨nm.toArray⟩) := HE8.out.cell 0
            have hw8 : wz.heap.size < w8.heap.size := by omega
            have hw8' : wr.heap.size < w8.heap.size := by omega
            have hw8'' : wr.heap.size + 2 < w8.heap.size := by omega
            clear hs8 hs7
            go_wp2_with (at_builtin; go_loud (refine Out3.list1 _ rfl (.tmp 101) (.tmp 106) _ rfl Tryd.underlying24 elt_entry rfl rfl (H8.out.new ((Mod.refl _ _).alloc _)) (rowEnt _ HG0.out HWK.out rfl) (fun k hk => by simp at hk; omega) (by rw [HLN.out, List.length_singleton]; omega) ?_; intro A9 n9 c9 w9 h9 hm9; have H9 := Sec.mk h9; have HG9 := Sec.mk ((HG8.out.alloc _).mod hm9 (by omega)); have HE9 := Sec.mk ((HE8.out.alloc _).mod hm9 (by omega)); have HN9 := Sec.mk ((HN8.out.alloc _).trans hm9 (fun i hi hlt => by omega)); have hw9 : wr.heap.size + 2 < w9.heap.size := (by have h := hm9.size; simp at h; omega); clear h9 hm9; have hw9' : wr.heap.size < w9.heap.size := (by omega); have hw9'' : wz.heap.size < w9.heap.size := (by omega); have n1' : w9.cell? ⟨wz.heap.size, 1, none⟩ = some (.slice B1 m1 e1) := HG9.out.cell 1; have f1' : w9.frozen? ⟨wz.heap.size, 1, none⟩ = false := HG9.out.frozen 1))
            go_roundw
            case rel =>
              have hbf := HG9.out.set_ 1 (.slice A9 n9 c9)
              simp only [List.set_cons_zero, List.set_cons_succ] at hbf
              refine ⟨k + 1, A7, A9, n7, c7, n9, c9, by omega, by go_num, ⟨hbf⟩, ⟨?_⟩, ⟨HN9.out.setCell (p := ⟨wz.heap.size, 1, none⟩) (fun h => absurd h (Nat.lt_irrefl _)) _⟩⟩
              rw [HTK2.out, HTE.out]
              exact (H9.out.keep (S := fun k => k < wz.heap.size + 1) (Mod.setCell (Mod.refl _ _) (p := ⟨wz.heap.size, 1, none⟩) (fun _ => by simp) (.slice A9 n9 c9)) (fun k h1 h2 => by omega)).wide (fun k _ h => h.1)
            case measure => simp [intOf]; omega
        · obtain rfl : k = cur.length := by omega
          have HCq := Sec.mk (HCr.out.mod HMq.out id)
          have hlq : w.heap.size + 1 < wr.heap.size := by omega
          have m1' : wr.cell? ⟨wz.heap.size, 1, none⟩ = some (.slice B1 m1 e1) := HGB.out.cell 1
          have H3' := H3.out
          rw [List.take_length] at H3'
          have H3s := Sec.mk (H3'.wide (X' := fun k => wz.heap.size + 1 ≤ k ∧ k < wr.heap.size) (fun k h1 h2 => ⟨h2, h1⟩))
          have HR1 := Sec.mk (H3'.row1.mod (w' := wr.alloc (.cells #[] 37)) (B' := (· < wr.heap.size)) (fun _ h => h) (fun k hk => Below.heap_alloc _ _ _ hk))
          have HO1 : Sec (Mine dEntry 37 wr (wr.alloc (.cells #[] 37)) (.slice (some ⟨wr.heap.size, 0, none⟩) 0 0) []) := ⟨Mine.empty _ _ rfl (Mod.refl _ _)⟩
          have HLE := Sec.mk (crashEs_len cur)
          clear H3'
          go_wp2_with (at_builtin; go_loud (refine wpList_app _ rfl (.tmp 110) (.tmp 112) _ rfl Tryd.underlying24 elt_entry flatEntry rfl rfl HO1.out HR1.out (show ([] : EntryST).length + (crashEs cur).length ≤ 34359738368 by rw [HLE.out]; simp; omega) ?_; intro A5 n5 c5 w5 ho5; have HO5 := Sec.mk ho5; have hw5 := ho5.new.size; have HG5 := Sec.mk (HGB.out.mod ho5.new id); have HQ5 := Sec.mk (HCq.out.mod ho5.new id); have HN5 := Sec.mk ((HMr.out.transN HMq.out).transN ho5.new); have H35 := Sec.mk (H3s.out.new ho5.new); clear ho5; have hl5 : w.heap.size + 1 < w5.heap.size := (by omega); have hl5' : wz.heap.size < w5.heap.size := (by omega); have m0' : w5.cell? ⟨wz.heap.size, 0, none⟩ = some (.slice B0 m0 e0) := HG5.out.cell 0; have m1' : w5.cell? ⟨wz.heap.size, 1, none⟩ = some (.slice B1 m1 e1) := HG5.out.cell 1; have m2' : w5.cell? ⟨wz.heap.size, 2, none⟩ = some (.slice none 0 0) := HG5.out.cell 2; have m3' : w5.cell? ⟨wz.heap.size, 3, none⟩ = some (.slice none 0 0) := HG5.out.cell 3; have m4' : w5.cell? ⟨wz.heap.size, 4, none⟩ = some (.int .i64 x.2.2.2.2) := HG5.out.cell 4; have mf' : w5.frozen? ⟨wz.heap.size, 2, none⟩ = false := HG5.out.frozen 2; have q0 : w5.cell? ⟨w.heap.size + 1, 0, none⟩ = some (.slice none 0 0) := HQ5.out.cell 0; have q1 : w5.cell? ⟨w.heap.size + 1, 1, none⟩ = some (.slice none 0 0) := HQ5.out.cell 1; have q2 : w5.cell? ⟨w.heap.size + 1, 2, none⟩ = some (.slice none 0 0) := HQ5.out.cell 2; have q3 : w5.cell? ⟨w.heap.size + 1, 3, none⟩ = some (.slice none 0 0) := HQ5.out.cell 3; have q4 : w5.cell? ⟨w.heap.size + 1, 4, none⟩ = some (.int .i64 0) := HQ5.out.cell 4; have f0 : w5.frozen? ⟨w.heap.size + 1, 0, none⟩ = false := HQ5.out.frozen 0; have f1 : w5.frozen? ⟨w.heap.size + 1, 1, none⟩ = false := HQ5.out.frozen 1; have f2 : w5.frozen? ⟨w.heap.size + 1, 2, none⟩ = false := HQ5.out.frozen 2; have f3 : w5.frozen? ⟨w.heap.size + 1, 3, none⟩ = false := HQ5.out.frozen 3; have f4 : w5.frozen? ⟨w.heap.size + 1, 4, none⟩ = false := HQ5.out.frozen 4))
          have HC3 := Sec.mk ((((((HQ5.out.far (p := ⟨wz.heap.size, 2, none⟩) (by show w.heap.size + 1 ≠ wz.heap.size; omega) (.slice A5 n5 c5)).set_ 0 (.slice B0 m0 e0)).set_ 1 (.slice B1 m1 e1)).set_ 2 (.slice A5 n5 c5)).set_ 3 (.slice none 0 0)).set_ 4 (.int .i64 x.2.2.2.2))
          have HM3 := Sec.mk ((((((HN5.out.setCell (p := ⟨wz.heap.size, 2, none⟩) (fun h => by exfalso; simp only at h; omega) (.slice A5 n5 c5)).setCell (p := ⟨w.heap.size + 1, 0, none⟩) (fun h => absurd h (by simp)) (.slice B0 m0 e0)).setCell (p := ⟨w.heap.size + 1, 1, none⟩) (fun h => absurd h (by simp)) (.slice B1 m1 e1)).setCell (p := ⟨w.heap.size + 1, 2, none⟩) (fun h => absurd h (by simp)) (.slice A5 n5 c5)).setCell (p := ⟨w.heap.size + 1, 3, none⟩) (fun h => absurd h (by simp)) (.slice none 0 0)).setCell (p := ⟨w.heap.size + 1, 4, none⟩) (fun h => absurd h (by simp)) (.int .i64 x.2.2.2.2))
          have HMS := Sec.mk ((((((Mod.refl (fun k => k < wz.heap.size + 1) w5).setCell (p := ⟨wz.heap.size, 2, none⟩) (fun _ => by show wz.heap.size < _; omega) (.slice A5 n5 c5)).setCell (p := ⟨w.heap.size + 1, 0, none⟩) (fun _ => by show w.heap.size + 1 < _; omega) (.slice B0 m0 e0)).setCell (p := ⟨w.heap.size + 1, 1, none⟩) (fun _ => by show w.heap.size + 1 < _; omega) (.slice B1 m1 e1)).setCell (p := ⟨w.heap.size + 1, 2, none⟩) (fun _ => by show w.heap.size + 1 < _; omega) (.slice A5 n5 c5)).setCell (p := ⟨w.heap.size + 1, 3, none⟩) (fun _ => by show w.heap.size + 1 < _; omega) (.slice none 0 0))
          have HMT := Sec.mk (HMS.out.setCell (p := ⟨w.heap.size + 1, 4, none⟩) (fun _ => by show w.heap.size + 1 < _; omega) (.int .i64 x.2.2.2.2))
          obtain ⟨⟨F5, ho5, hF5⟩, -⟩ := HO5.out
          rw [List.nil_append] at ho5
          have H4 := Sec.mk ((H35.out.put2 (X := fun k => wz.heap.size + 1 ≤ k) ho5 (fun k hk => by have := hF5 k hk; omega) (fun k hk => hk.1)).keep HMT.out (fun k h1 h2 => by omega))
          clear ho5 hF5
          refine bodyPost_ret (results_blk rfl rfl HC3.out Tryd.underlying27 (by kernel_rfl)) rfl ?_
          rw [HE.out]
          exact ⟨_, rfl, H4.out.disk HQW.out (fun k h => by omega), HM3.out⟩
end Go.Proofs.YtkkgighgnbbgiaaDoor
