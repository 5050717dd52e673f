/- What the row over operations on a disk lists, read off the memory: five errors, each a pointer of its own. The walk of the law FnExactDiskDo. -/
import Derived.Test.YtkkgighgnbbgiaaGreatDoorPk17
import Derived.Test.YtkkgighgnbbgiaaGreatDoorRows
import Derived.ChangeVars
import Derived.Stop.LaidErr
import Derived.LaidLaws
namespace Go.Proofs.YtkkgighgnbbgiaaGreatDoor
open Go.RowKit Mem Go.ChangeShapes
set_option linter.unusedVariables false
set_option maxRecDepth 100000
theorem starE : "*" ++ "errors.errorString" = "*errors.errorString" := by decide
theorem row141 (u : TypeId) (h : Tryz.prog.typeName? 3 u = some "*errors.errorString") : u = 141 :=
  typeName_ptr_named (nm := "errors.errorString") (by rw [starE]; kernel_rfl) (by kernel_rfl) (by decide) u (by rw [starE]; exact h)
theorem laid_next {P : Program} {x : String × DataW Unit} {r : List (String × DataW Unit)} {W : World} (h : laidMet P (x :: r) W) : laidMet P r W := by
  obtain ⟨ps, ⟨g, t, cs, fuel, p, q, hg, ht, hv, hd, hr, e⟩, hnd, hrows⟩ := h
  subst e
  exact ⟨q, hr, (List.nodup_append.1 hnd).2.1, fun b off hm => hrows b off (List.mem_append_right _ hm)⟩
theorem sentinel_at {n : String} {g : Nat} {text : List UInt8} {r : List (String × DataW Unit)} {W : World}
    (h : laidMet Tryz.prog ((n, .iface "*errors.errorString" (.ptr (.agg [.lit (.string text)]))) :: r) W) (hg : Tryz.prog.globalNamed n = some g) (ht : (Tryz.prog.globals[g]?).map (·.type) = some 65) :
    ∃ a : Addr, W.cell? ⟨g, 0, none⟩ = some (.iface 141 (.pointer (some a))) ∧ (∃ s : ByteArray, W.cell? a = some (.string s) ∧ s.data.toList = text) ∧ ∃ c t, W.heap[a.block]? = some (.cells c t (0, 0)) := by
  obtain ⟨ps, ⟨g0, t0, cs0, f0, p0, q0, hg0, ht0, hv0, hd0, _, e0⟩, hnd, hrows⟩ := h
  obtain rfl := Option.some.inj (hg.symm.trans hg0)
  obtain rfl := Option.some.inj (ht.symm.trans ht0)
  subst e0
  obtain ⟨l0⟩ := cs0
  have ok0 : ∀ u v, l0 = [.iface u v] → Value.okWide Tryz.prog W .any 0 u v := fun u v e => by
    subst e
    exact (hrows g 0 (by simp [MemPlace.row])).2 u v (by simpa using World.var?_cell hg0 hv0 0)
  obtain ⟨a0, s0, rfl, hc0, hs0, hz0, rfl⟩ := errorString_of_trod Tryz.underlying65 row141 Tryz.underlying141 Tryz.underlying166 rfl rfl Tryz.underlying9 (by kernel_rfl) (by kernel_rfl) hd0 ok0
  obtain ⟨c0, t0, hb0⟩ := (hrows a0.block a0.off (by simp [MemPlace.row])).1
  exact ⟨a0, by simpa using World.var?_cell hg0 hv0 0, ⟨s0, hc0, hs0⟩, c0, t0, hb0⟩
theorem errsAt_of_laid {W : World} {r : List (String × DataW Unit)}
    (h : laidMet Tryz.prog (("loop.example/s02349/impl.errKind", Rows.laid_loop_example_s02349_impl_errKind) :: ("loop.example/s02349/impl.errName", Rows.laid_loop_example_s02349_impl_errName) :: ("loop.example/s02349/impl.errMissing", Rows.laid_loop_example_s02349_impl_errMissing) :: ("loop.example/s02349/impl.errSpace", Rows.laid_loop_example_s02349_impl_errSpace) :: ("loop.example/s02349/impl.errFull", Rows.laid_loop_example_s02349_impl_errFull) :: r) W) : ErrsAt W := by
  obtain ⟨a2, c2, ⟨s2, k2, t2⟩, b2⟩ := sentinel_at (g := 0) h (by kernel_rfl) (by kernel_rfl)
  have h := laid_next h
  obtain ⟨a3, c3, ⟨s3, k3, t3⟩, b3⟩ := sentinel_at (g := 1) h (by kernel_rfl) (by kernel_rfl)
  have h := laid_next h
  obtain ⟨a4, c4, ⟨s4, k4, t4⟩, b4⟩ := sentinel_at (g := 2) h (by kernel_rfl) (by kernel_rfl)
  have h := laid_next h
  obtain ⟨a5, c5, ⟨s5, k5, t5⟩, b5⟩ := sentinel_at (g := 3) h (by kernel_rfl) (by kernel_rfl)
  have h := laid_next h
  obtain ⟨a6, c6, ⟨s6, k6, t6⟩, b6⟩ := sentinel_at (g := 4) h (by kernel_rfl) (by kernel_rfl)
  have ne : ∀ {a b : Addr} {s t : ByteArray} {x y : List UInt8}, W.cell? a = some (.string s) → W.cell? b = some (.string t) → s.data.toList = x → t.data.toList = y → x ≠ y → a ≠ b := by
    intro a b s t x y h1 h2 e1 e2 hne e
    subst e
    have h3 := Option.some.inj (h1.symm.trans h2)
    injection h3 with h3
    subst h3
    exact hne (e1.symm.trans e2)
  have lt : ∀ {a : Addr}, (∃ c t, W.heap[a.block]? = some (.cells c t (0, 0))) → a.block < W.heap.size := fun ⟨c, t, h⟩ => (Array.getElem?_eq_some_iff.1 h).1
  have hg := fun {g : Nat} {v : Value} (h : W.cell? ⟨g, 0, none⟩ = some v) => World.block_lt_of_cell? W _ h
  have key : ∀ i, 2 ≤ i → i ≤ 6 → i = 2 ∨ i = 3 ∨ i = 4 ∨ i = 5 ∨ i = 6 := fun i h1 h2 => by omega
  refine ⟨fun i => if i = 2 then a2 else if i = 3 then a3 else if i = 4 then a4 else if i = 5 then a5 else a6, c2, c3, c4, c5, c6, fun i h1 h2 => ?_, fun i j h1 h2 h3 h4 hij => ?_, ⟨hg c2, hg c3, hg c4, hg c5, hg c6⟩⟩
  · rcases key i h1 h2 with rfl | rfl | rfl | rfl | rfl
    · exact ⟨lt b2, b2⟩
    · exact ⟨lt b3, b3⟩
    · exact ⟨lt b4, b4⟩
    · exact ⟨lt b5, b5⟩
    · exact ⟨lt b6, b6⟩
  · have n23 := ne k2 k3 t2 t3 (by decide)
    have n24 := ne k2 k4 t2 t4 (by decide)
    have n25 := ne k2 k5 t2 t5 (by decide)
    have n26 := ne k2 k6 t2 t6 (by decide)
    have n34 := ne k3 k4 t3 t4 (by decide)
    have n35 := ne k3 k5 t3 t5 (by decide)
    have n36 := ne k3 k6 t3 t6 (by decide)
    have n45 := ne k4 k5 t4 t5 (by decide)
    have n46 := ne k4 k6 t4 t6 (by decide)
    have n56 := ne k5 k6 t5 t6 (by decide)
    rcases key i h1 h2 with rfl | rfl | rfl | rfl | rfl <;> rcases key j h3 h4 with rfl | rfl | rfl | rfl | rfl
    all_goals first
      | exact absurd rfl hij
      | exact n23 | exact n24 | exact n25 | exact n26 | exact n34 | exact n35 | exact n36 | exact n45 | exact n46 | exact n56
      | exact n23.symm | exact n24.symm | exact n25.symm | exact n26.symm | exact n34.symm | exact n35.symm | exact n36.symm | exact n45.symm | exact n46.symm | exact n56.symm
theorem opens_opL : Mem.Opens Tryz.prog dOp 54 := Mem.Opens.struct (fs := [_, _, _, _]) Tryz.underlying54 (by kernel_rfl) (Mem.OpensF.cons rfl opens_intL (Mem.OpensF.cons rfl opens_textL (Mem.OpensF.cons rfl opens_textL (Mem.OpensF.last rfl opens_bytesL))))
theorem opens_opsL : Mem.Opens Tryz.prog dOpS 27 := Mem.Opens.sliceAny Tryz.underlying27 (by kernel_rfl) opens_opL
theorem trodVars_consD {H : Type} {enc : TypeId × Value → H} {P : Program} {w : World} {spare : Nat → Bool} {n : String} {ns : List String} {gs : List (DataW H)} {ps : List MemPlace} (h : DataW.TrodVars enc P w spare (n :: ns) gs ps) : ∃ d gs' qs, gs = d :: gs' ∧ DataW.TrodVars enc P w spare ns gs' qs := by
  cases gs with
  | nil => simp [DataW.TrodVars] at h
  | cons d ds =>
    obtain ⟨g, t, cs, fuel, p, q, h1, h2, h3, h4, hs, e⟩ := h
    exact ⟨d, ds, q, rfl, hs⟩
end Go.Proofs.YtkkgighgnbbgiaaGreatDoor

namespace Go.Proofs.YtkkgighgnbbgiaaGreatDoor
open Go.RowKit Mem
set_option linter.unusedVariables false
set_option synthInstance.maxSize 2000

set_option maxHeartbeats 4000000 in
set_option maxRecDepth 100000 in
theorem lawFnExactDiskDo_walk {w : World} (hE : ErrsAt w) {vD : Value} {xD : DiskT} (haD : RdV true dDisk w vD xD) {vOps : Value} {xOps : OpST} (haOps : RdV false dOpS w vOps xOps) :
    Calls Tryz.prog 3 #[vD, vOps] w (Ret (.bool true) w) := by
  have HENV := Sec.mk hE
  clear hE
  have HRaD := Sec.mk haD
  clear haD
  have HRaOps := Sec.mk haOps
  clear haOps
  obtain ⟨caD_0, caD_1, caD_2, caD_3, caD_4, caD_5, caD_6, caD_7, rfl⟩ := cellsDisk HRaD.out
  by_cases hsz0 : ((szDisk xD : Nat) : Int) ≤ 1048576
  rotate_left
  · have hif : Sec ((if (1048576 : Int) < ((szDisk xD : Nat) : Int) then (-1 : Int) else 1048576 - ((szDisk xD : Nat) : Int)) = -1) := ⟨if_pos (by omega)⟩
    go_enter Tryz.func3, Tryz.ntmps3
    have HM0 := Sec.mk ((Mod.refl (fun _ => False) w).alloc (.cells #[.slice caD_0 xD.1.length caD_1, .slice caD_2 xD.2.1.length caD_3, .slice caD_4 xD.2.2.1.length caD_5, .slice caD_6 xD.2.2.2.1.length caD_7, .int .i64 xD.2.2.2.2] 26))
    have HBK_aD := Sec.mk (Blk.new w 26 [.slice caD_0 xD.1.length caD_1, .slice caD_2 xD.2.1.length caD_3, .slice caD_4 xD.2.2.1.length caD_5, .slice caD_6 xD.2.2.2.1.length caD_7, .int .i64 xD.2.2.2.2])
    have hz0 : ((w.alloc (.cells #[.slice caD_0 xD.1.length caD_1, .slice caD_2 xD.2.1.length caD_3, .slice caD_4 xD.2.2.1.length caD_5, .slice caD_6 xD.2.2.2.1.length caD_7, .int .i64 xD.2.2.2.2] 26))).heap.size = w.heap.size + 1 := by simp
    have kaD_0 : ((w.alloc (.cells #[.slice caD_0 xD.1.length caD_1, .slice caD_2 xD.2.1.length caD_3, .slice caD_4 xD.2.2.1.length caD_5, .slice caD_6 xD.2.2.2.1.length caD_7, .int .i64 xD.2.2.2.2] 26))).cell? ⟨w.heap.size, 0, none⟩ = some (.slice caD_0 xD.1.length caD_1) := HBK_aD.out.cell 0
    have kaD_1 : ((w.alloc (.cells #[.slice caD_0 xD.1.length caD_1, .slice caD_2 xD.2.1.length caD_3, .slice caD_4 xD.2.2.1.length caD_5, .slice caD_6 xD.2.2.2.1.length caD_7, .int .i64 xD.2.2.2.2] 26))).cell? ⟨w.heap.size, 1, none⟩ = some (.slice caD_2 xD.2.1.length caD_3) := HBK_aD.out.cell 1
    have kaD_2 : ((w.alloc (.cells #[.slice caD_0 xD.1.length caD_1, .slice caD_2 xD.2.1.length caD_3, .slice caD_4 xD.2.2.1.length caD_5, .slice caD_6 xD.2.2.2.1.length caD_7, .int .i64 xD.2.2.2.2] 26))).cell? ⟨w.heap.size, 2, none⟩ = some (.slice caD_4 xD.2.2.1.length caD_5) := HBK_aD.out.cell 2
    have kaD_3 : ((w.alloc (.cells #[.slice caD_0 xD.1.length caD_1, .slice caD_2 xD.2.1.length caD_3, .slice caD_4 xD.2.2.1.length caD_5, .slice caD_6 xD.2.2.2.1.length caD_7, .int .i64 xD.2.2.2.2] 26))).cell? ⟨w.heap.size, 3, none⟩ = some (.slice caD_6 xD.2.2.2.1.length caD_7) := HBK_aD.out.cell 3
    have kaD_4 : ((w.alloc (.cells #[.slice caD_0 xD.1.length caD_1, .slice caD_2 xD.2.1.length caD_3, .slice caD_4 xD.2.2.1.length caD_5, .slice caD_6 xD.2.2.2.1.length caD_7, .int .i64 xD.2.2.2.2] 26))).cell? ⟨w.heap.size, 4, none⟩ = some (.int .i64 xD.2.2.2.2) := HBK_aD.out.cell 4
    go_wp2_with fail
    refine (szDisk_v (HRaD.out.step HM0.out) (1048576) (by omega) (by omega)).mono ?_
    rintro e w1 ⟨rfl, hm1⟩
    rw [hif.out]
    clear kaD_0 kaD_1 kaD_2 kaD_3 kaD_4
    have HBK1_aD := Sec.mk (HBK_aD.out.mod hm1 id)
    clear HBK_aD
    have HM1 := Sec.mk (HM0.out.transN hm1)
    clear HM0
    have hs1 := hm1.size
    clear hm1
    have kaD_0 : (w1).cell? ⟨w.heap.size, 0, none⟩ = some (.slice caD_0 xD.1.length caD_1) := HBK1_aD.out.cell 0
    have kaD_1 : (w1).cell? ⟨w.heap.size, 1, none⟩ = some (.slice caD_2 xD.2.1.length caD_3) := HBK1_aD.out.cell 1
    have kaD_2 : (w1).cell? ⟨w.heap.size, 2, none⟩ = some (.slice caD_4 xD.2.2.1.length caD_5) := HBK1_aD.out.cell 2
    have kaD_3 : (w1).cell? ⟨w.heap.size, 3, none⟩ = some (.slice caD_6 xD.2.2.2.1.length caD_7) := HBK1_aD.out.cell 3
    have kaD_4 : (w1).cell? ⟨w.heap.size, 4, none⟩ = some (.int .i64 xD.2.2.2.2) := HBK1_aD.out.cell 4
    go_wp2
    go_ret
    exact ⟨by simp, HM1.out⟩
  by_cases hsz1 : ((szOpS xOps : Nat) : Int) ≤ 1048576 - ((szDisk xD : Nat) : Int)
  rotate_left
  · have hif : Sec ((if (1048576 - ((szDisk xD : Nat) : Int) : Int) < ((szOpS xOps : Nat) : Int) then (-1 : Int) else 1048576 - ((szDisk xD : Nat) : Int) - ((szOpS xOps : Nat) : Int)) = -1) := ⟨if_pos (by omega)⟩
    have hif0 : Sec ((if (1048576 : Int) < ((szDisk xD : Nat) : Int) then (-1 : Int) else 1048576 - ((szDisk xD : Nat) : Int)) = 1048576 - ((szDisk xD : Nat) : Int)) := ⟨if_neg (by omega)⟩
    go_enter Tryz.func3, Tryz.ntmps3
    have HM0 := Sec.mk ((Mod.refl (fun _ => False) w).alloc (.cells #[.slice caD_0 xD.1.length caD_1, .slice caD_2 xD.2.1.length caD_3, .slice caD_4 xD.2.2.1.length caD_5, .slice caD_6 xD.2.2.2.1.length caD_7, .int .i64 xD.2.2.2.2] 26))
    have HBK_aD := Sec.mk (Blk.new w 26 [.slice caD_0 xD.1.length caD_1, .slice caD_2 xD.2.1.length caD_3, .slice caD_4 xD.2.2.1.length caD_5, .slice caD_6 xD.2.2.2.1.length caD_7, .int .i64 xD.2.2.2.2])
    have hz0 : ((w.alloc (.cells #[.slice caD_0 xD.1.length caD_1, .slice caD_2 xD.2.1.length caD_3, .slice caD_4 xD.2.2.1.length caD_5, .slice caD_6 xD.2.2.2.1.length caD_7, .int .i64 xD.2.2.2.2] 26))).heap.size = w.heap.size + 1 := by simp
    have kaD_0 : ((w.alloc (.cells #[.slice caD_0 xD.1.length caD_1, .slice caD_2 xD.2.1.length caD_3, .slice caD_4 xD.2.2.1.length caD_5, .slice caD_6 xD.2.2.2.1.length caD_7, .int .i64 xD.2.2.2.2] 26))).cell? ⟨w.heap.size, 0, none⟩ = some (.slice caD_0 xD.1.length caD_1) := HBK_aD.out.cell 0
    have kaD_1 : ((w.alloc (.cells #[.slice caD_0 xD.1.length caD_1, .slice caD_2 xD.2.1.length caD_3, .slice caD_4 xD.2.2.1.length caD_5, .slice caD_6 xD.2.2.2.1.length caD_7, .int .i64 xD.2.2.2.2] 26))).cell? ⟨w.heap.size, 1, none⟩ = some (.slice caD_2 xD.2.1.length caD_3) := HBK_aD.out.cell 1
    have kaD_2 : ((w.alloc (.cells #[.slice caD_0 xD.1.length caD_1, .slice caD_2 xD.2.1.length caD_3, .slice caD_4 xD.2.2.1.length caD_5, .slice caD_6 xD.2.2.2.1.length caD_7, .int .i64 xD.2.2.2.2] 26))).cell? ⟨w.heap.size, 2, none⟩ = some (.slice caD_4 xD.2.2.1.length caD_5) := HBK_aD.out.cell 2
    have kaD_3 : ((w.alloc (.cells #[.slice caD_0 xD.1.length caD_1, .slice caD_2 xD.2.1.length caD_3, .slice caD_4 xD.2.2.1.length caD_5, .slice caD_6 xD.2.2.2.1.length caD_7, .int .i64 xD.2.2.2.2] 26))).cell? ⟨w.heap.size, 3, none⟩ = some (.slice caD_6 xD.2.2.2.1.length caD_7) := HBK_aD.out.cell 3
    have kaD_4 : ((w.alloc (.cells #[.slice caD_0 xD.1.length caD_1, .slice caD_2 xD.2.1.length caD_3, .slice caD_4 xD.2.2.1.length caD_5, .slice caD_6 xD.2.2.2.1.length caD_7, .int .i64 xD.2.2.2.2] 26))).cell? ⟨w.heap.size, 4, none⟩ = some (.int .i64 xD.2.2.2.2) := HBK_aD.out.cell 4
    go_wp2_with fail
    refine (szDisk_v (HRaD.out.step HM0.out) (1048576) (by omega) (by omega)).mono ?_
    rintro e w1 ⟨rfl, hm1⟩
    rw [hif0.out]
    clear kaD_0 kaD_1 kaD_2 kaD_3 kaD_4
    have HBK1_aD := Sec.mk (HBK_aD.out.mod hm1 id)
    clear HBK_aD
    have HM1 := Sec.mk (HM0.out.transN hm1)
    clear HM0
    have hs1 := hm1.size
    clear hm1
    have kaD_0 : (w1).cell? ⟨w.heap.size, 0, none⟩ = some (.slice caD_0 xD.1.length caD_1) := HBK1_aD.out.cell 0
    have kaD_1 : (w1).cell? ⟨w.heap.size, 1, none⟩ = some (.slice caD_2 xD.2.1.length caD_3) := HBK1_aD.out.cell 1
    have kaD_2 : (w1).cell? ⟨w.heap.size, 2, none⟩ = some (.slice caD_4 xD.2.2.1.length caD_5) := HBK1_aD.out.cell 2
    have kaD_3 : (w1).cell? ⟨w.heap.size, 3, none⟩ = some (.slice caD_6 xD.2.2.2.1.length caD_7) := HBK1_aD.out.cell 3
    have kaD_4 : (w1).cell? ⟨w.heap.size, 4, none⟩ = some (.int .i64 xD.2.2.2.2) := HBK1_aD.out.cell 4
    go_wp2_with fail
    refine (szOpS_v (HRaOps.out.step HM1.out) (1048576 - ((szDisk xD : Nat) : Int)) (by omega) (by omega)).mono ?_
    rintro e w2 ⟨rfl, hm2⟩
    rw [hif.out]
    clear kaD_0 kaD_1 kaD_2 kaD_3 kaD_4
    have HBK2_aD := Sec.mk (HBK1_aD.out.mod hm2 id)
    clear HBK1_aD
    have HM2 := Sec.mk (HM1.out.transN hm2)
    clear HM1
    have hs2 := hm2.size
    clear hm2
    have kaD_0 : (w2).cell? ⟨w.heap.size, 0, none⟩ = some (.slice caD_0 xD.1.length caD_1) := HBK2_aD.out.cell 0
    have kaD_1 : (w2).cell? ⟨w.heap.size, 1, none⟩ = some (.slice caD_2 xD.2.1.length caD_3) := HBK2_aD.out.cell 1
    have kaD_2 : (w2).cell? ⟨w.heap.size, 2, none⟩ = some (.slice caD_4 xD.2.2.1.length caD_5) := HBK2_aD.out.cell 2
    have kaD_3 : (w2).cell? ⟨w.heap.size, 3, none⟩ = some (.slice caD_6 xD.2.2.2.1.length caD_7) := HBK2_aD.out.cell 3
    have kaD_4 : (w2).cell? ⟨w.heap.size, 4, none⟩ = some (.int .i64 xD.2.2.2.2) := HBK2_aD.out.cell 4
    go_wp2
    go_ret
    exact ⟨by simp, HM2.out⟩
  have hif0 : Sec ((if (1048576 : Int) < ((szDisk xD : Nat) : Int) then (-1 : Int) else 1048576 - ((szDisk xD : Nat) : Int)) = 1048576 - ((szDisk xD : Nat) : Int)) := ⟨if_neg (by omega)⟩
  have hif1 : Sec ((if (1048576 - ((szDisk xD : Nat) : Int) : Int) < ((szOpS xOps : Nat) : Int) then (-1 : Int) else 1048576 - ((szDisk xD : Nat) : Int) - ((szOpS xOps : Nat) : Int)) = 1048576 - ((szDisk xD : Nat) : Int) - ((szOpS xOps : Nat) : Int)) := ⟨if_neg (by omega)⟩
  have hb0 : szDisk xD ≤ 1048576 := by omega
  have hc0 := cntDisk_lt hb0
  have hlf0 : ¬ (1048576 - ((szDisk xD : Nat) : Int) < 0) := by omega
  have hb1 : szOpS xOps ≤ 1048576 := by omega
  have hc1 := cntOpS_lt hb1
  have hlf1 : ¬ (1048576 - ((szDisk xD : Nat) : Int) - ((szOpS xOps : Nat) : Int) < 0) := by omega
  have hcr := DiskDo_cnt (xD) (xOps) hb0 hb1
  generalize hFN : DiskDoL xD xOps = r at *
  have HFN := Sec.mk hFN
  clear hFN
  go_enter Tryz.func3, Tryz.ntmps3
  have HM0 := Sec.mk ((Mod.refl (fun _ => False) w).alloc (.cells #[.slice caD_0 xD.1.length caD_1, .slice caD_2 xD.2.1.length caD_3, .slice caD_4 xD.2.2.1.length caD_5, .slice caD_6 xD.2.2.2.1.length caD_7, .int .i64 xD.2.2.2.2] 26))
  have HBK_aD := Sec.mk (Blk.new w 26 [.slice caD_0 xD.1.length caD_1, .slice caD_2 xD.2.1.length caD_3, .slice caD_4 xD.2.2.1.length caD_5, .slice caD_6 xD.2.2.2.1.length caD_7, .int .i64 xD.2.2.2.2])
  have hz0 : ((w.alloc (.cells #[.slice caD_0 xD.1.length caD_1, .slice caD_2 xD.2.1.length caD_3, .slice caD_4 xD.2.2.1.length caD_5, .slice caD_6 xD.2.2.2.1.length caD_7, .int .i64 xD.2.2.2.2] 26))).heap.size = w.heap.size + 1 := by simp
  have kaD_0 : ((w.alloc (.cells #[.slice caD_0 xD.1.length caD_1, .slice caD_2 xD.2.1.length caD_3, .slice caD_4 xD.2.2.1.length caD_5, .slice caD_6 xD.2.2.2.1.length caD_7, .int .i64 xD.2.2.2.2] 26))).cell? ⟨w.heap.size, 0, none⟩ = some (.slice caD_0 xD.1.length caD_1) := HBK_aD.out.cell 0
  have kaD_1 : ((w.alloc (.cells #[.slice caD_0 xD.1.length caD_1, .slice caD_2 xD.2.1.length caD_3, .slice caD_4 xD.2.2.1.length caD_5, .slice caD_6 xD.2.2.2.1.length caD_7, .int .i64 xD.2.2.2.2] 26))).cell? ⟨w.heap.size, 1, none⟩ = some (.slice caD_2 xD.2.1.length caD_3) := HBK_aD.out.cell 1
  have kaD_2 : ((w.alloc (.cells #[.slice caD_0 xD.1.length caD_1, .slice caD_2 xD.2.1.length caD_3, .slice caD_4 xD.2.2.1.length caD_5, .slice caD_6 xD.2.2.2.1.length caD_7, .int .i64 xD.2.2.2.2] 26))).cell? ⟨w.heap.size, 2, none⟩ = some (.slice caD_4 xD.2.2.1.length caD_5) := HBK_aD.out.cell 2
  have kaD_3 : ((w.alloc (.cells #[.slice caD_0 xD.1.length caD_1, .slice caD_2 xD.2.1.length caD_3, .slice caD_4 xD.2.2.1.length caD_5, .slice caD_6 xD.2.2.2.1.length caD_7, .int .i64 xD.2.2.2.2] 26))).cell? ⟨w.heap.size, 3, none⟩ = some (.slice caD_6 xD.2.2.2.1.length caD_7) := HBK_aD.out.cell 3
  have kaD_4 : ((w.alloc (.cells #[.slice caD_0 xD.1.length caD_1, .slice caD_2 xD.2.1.length caD_3, .slice caD_4 xD.2.2.1.length caD_5, .slice caD_6 xD.2.2.2.1.length caD_7, .int .i64 xD.2.2.2.2] 26))).cell? ⟨w.heap.size, 4, none⟩ = some (.int .i64 xD.2.2.2.2) := HBK_aD.out.cell 4
  go_wp2_with fail
  refine (szDisk_v (HRaD.out.step HM0.out) (1048576) (by omega) (by omega)).mono ?_
  rintro e w1 ⟨rfl, hm1⟩
  rw [hif0.out]
  clear kaD_0 kaD_1 kaD_2 kaD_3 kaD_4
  have HBK1_aD := Sec.mk (HBK_aD.out.mod hm1 id)
  clear HBK_aD
  have HM1 := Sec.mk (HM0.out.transN hm1)
  clear HM0
  have hs1 := hm1.size
  clear hm1
  have kaD_0 : (w1).cell? ⟨w.heap.size, 0, none⟩ = some (.slice caD_0 xD.1.length caD_1) := HBK1_aD.out.cell 0
  have kaD_1 : (w1).cell? ⟨w.heap.size, 1, none⟩ = some (.slice caD_2 xD.2.1.length caD_3) := HBK1_aD.out.cell 1
  have kaD_2 : (w1).cell? ⟨w.heap.size, 2, none⟩ = some (.slice caD_4 xD.2.2.1.length caD_5) := HBK1_aD.out.cell 2
  have kaD_3 : (w1).cell? ⟨w.heap.size, 3, none⟩ = some (.slice caD_6 xD.2.2.2.1.length caD_7) := HBK1_aD.out.cell 3
  have kaD_4 : (w1).cell? ⟨w.heap.size, 4, none⟩ = some (.int .i64 xD.2.2.2.2) := HBK1_aD.out.cell 4
  go_wp2_with fail
  refine (szOpS_v (HRaOps.out.step HM1.out) (1048576 - ((szDisk xD : Nat) : Int)) (by omega) (by omega)).mono ?_
  rintro e w2 ⟨rfl, hm2⟩
  rw [hif1.out]
  clear kaD_0 kaD_1 kaD_2 kaD_3 kaD_4
  have HBK2_aD := Sec.mk (HBK1_aD.out.mod hm2 id)
  clear HBK1_aD
  have HM2 := Sec.mk (HM1.out.transN hm2)
  clear HM1
  have hs2 := hm2.size
  clear hm2
  have kaD_0 : (w2).cell? ⟨w.heap.size, 0, none⟩ = some (.slice caD_0 xD.1.length caD_1) := HBK2_aD.out.cell 0
  have kaD_1 : (w2).cell? ⟨w.heap.size, 1, none⟩ = some (.slice caD_2 xD.2.1.length caD_3) := HBK2_aD.out.cell 1
  have kaD_2 : (w2).cell? ⟨w.heap.size, 2, none⟩ = some (.slice caD_4 xD.2.2.1.length caD_5) := HBK2_aD.out.cell 2
  have kaD_3 : (w2).cell? ⟨w.heap.size, 3, none⟩ = some (.slice caD_6 xD.2.2.2.1.length caD_7) := HBK2_aD.out.cell 3
  have kaD_4 : (w2).cell? ⟨w.heap.size, 4, none⟩ = some (.int .i64 xD.2.2.2.2) := HBK2_aD.out.cell 4
  go_wp2_with fail
  refine (toDisk_v (HRaD.out.step HM2.out) hb0).mono ?_
  rintro e w3 ⟨v3, rfl, ho3, hm3⟩
  clear kaD_0 kaD_1 kaD_2 kaD_3 kaD_4
  have HBK3_aD := Sec.mk (HBK2_aD.out.mod hm3 id)
  clear HBK2_aD
  have HM3 := Sec.mk (HM2.out.transN hm3)
  clear HM2
  have hs3 := hm3.size
  clear hm3
  have kaD_0 : (w3).cell? ⟨w.heap.size, 0, none⟩ = some (.slice caD_0 xD.1.length caD_1) := HBK3_aD.out.cell 0
  have kaD_1 : (w3).cell? ⟨w.heap.size, 1, none⟩ = some (.slice caD_2 xD.2.1.length caD_3) := HBK3_aD.out.cell 1
  have kaD_2 : (w3).cell? ⟨w.heap.size, 2, none⟩ = some (.slice caD_4 xD.2.2.1.length caD_5) := HBK3_aD.out.cell 2
  have kaD_3 : (w3).cell? ⟨w.heap.size, 3, none⟩ = some (.slice caD_6 xD.2.2.2.1.length caD_7) := HBK3_aD.out.cell 3
  have kaD_4 : (w3).cell? ⟨w.heap.size, 4, none⟩ = some (.int .i64 xD.2.2.2.2) := HBK3_aD.out.cell 4
  have TDW0_3 := Sec.mk ho3
  clear ho3
  go_wp2_with fail
  refine (toOpS_v (HRaOps.out.step HM3.out) hb1).mono ?_
  rintro e w4 ⟨v4, rfl, ho4, hm4⟩
  clear kaD_0 kaD_1 kaD_2 kaD_3 kaD_4
  have HBK4_aD := Sec.mk (HBK3_aD.out.mod hm4 id)
  clear HBK3_aD
  have TDW0_4 := Sec.mk (TDW0_3.out.step hm4)
  clear TDW0_3
  have HM4 := Sec.mk (HM3.out.transN hm4)
  clear HM3
  have hs4 := hm4.size
  clear hm4
  have kaD_0 : (w4).cell? ⟨w.heap.size, 0, none⟩ = some (.slice caD_0 xD.1.length caD_1) := HBK4_aD.out.cell 0
  have kaD_1 : (w4).cell? ⟨w.heap.size, 1, none⟩ = some (.slice caD_2 xD.2.1.length caD_3) := HBK4_aD.out.cell 1
  have kaD_2 : (w4).cell? ⟨w.heap.size, 2, none⟩ = some (.slice caD_4 xD.2.2.1.length caD_5) := HBK4_aD.out.cell 2
  have kaD_3 : (w4).cell? ⟨w.heap.size, 3, none⟩ = some (.slice caD_6 xD.2.2.2.1.length caD_7) := HBK4_aD.out.cell 3
  have kaD_4 : (w4).cell? ⟨w.heap.size, 4, none⟩ = some (.int .i64 xD.2.2.2.2) := HBK4_aD.out.cell 4
  have TOPSW0_4 := Sec.mk ho4
  clear ho4
  go_wp2_with fail
  refine (specDiskDo_v TDW0_4.out.rd TOPSW0_4.out.rd hb0 hb1).mono ?_
  rw [HFN.out]
  rintro e w5 ⟨v5, rfl, ho5, hm5⟩
  clear kaD_0 kaD_1 kaD_2 kaD_3 kaD_4
  have HBK5_aD := Sec.mk (HBK4_aD.out.mod hm5 id)
  clear HBK4_aD
  have TDW0_5 := Sec.mk (TDW0_4.out.step hm5)
  clear TDW0_4
  have TOPSW0_5 := Sec.mk (TOPSW0_4.out.step hm5)
  clear TOPSW0_4
  have HM5 := Sec.mk (HM4.out.transN hm5)
  clear HM4
  have hs5 := hm5.size
  clear hm5
  have kaD_0 : (w5).cell? ⟨w.heap.size, 0, none⟩ = some (.slice caD_0 xD.1.length caD_1) := HBK5_aD.out.cell 0
  have kaD_1 : (w5).cell? ⟨w.heap.size, 1, none⟩ = some (.slice caD_2 xD.2.1.length caD_3) := HBK5_aD.out.cell 1
  have kaD_2 : (w5).cell? ⟨w.heap.size, 2, none⟩ = some (.slice caD_4 xD.2.2.1.length caD_5) := HBK5_aD.out.cell 2
  have kaD_3 : (w5).cell? ⟨w.heap.size, 3, none⟩ = some (.slice caD_6 xD.2.2.2.1.length caD_7) := HBK5_aD.out.cell 3
  have kaD_4 : (w5).cell? ⟨w.heap.size, 4, none⟩ = some (.int .i64 xD.2.2.2.2) := HBK5_aD.out.cell 4
  have W0_5 := Sec.mk ho5
  clear ho5
  obtain ⟨cw0_0, cw0_1, cw0_2, cw0_3, cw0_4, cw0_5, cw0_6, cw0_7, rfl⟩ := cellsDone W0_5.out.rd
  have hma5 := ((Mod.refl (fun _ => False) w5).alloc (.cells #[.slice cw0_0 r.1.1.length cw0_1, .slice cw0_2 r.1.2.1.length cw0_3, .slice cw0_4 r.1.2.2.1.length cw0_5, .slice cw0_6 r.1.2.2.2.1.length cw0_7, .int .i64 r.1.2.2.2.2, .int .i64 r.2.1, .int .i64 r.2.2] 36))
  clear kaD_0 kaD_1 kaD_2 kaD_3 kaD_4
  have HBK6_aD := Sec.mk (HBK5_aD.out.mod hma5 id)
  clear HBK5_aD
  have TDW0_6 := Sec.mk (TDW0_5.out.step hma5)
  clear TDW0_5
  have TOPSW0_6 := Sec.mk (TOPSW0_5.out.step hma5)
  clear TOPSW0_5
  have W0_6 := Sec.mk (W0_5.out.step hma5)
  clear W0_5
  have HM6 := Sec.mk (HM5.out.transN hma5)
  clear HM5
  have hs6 := hma5.size
  clear hma5
  have kaD_0 : (w5.alloc (.cells #[.slice cw0_0 r.1.1.length cw0_1, .slice cw0_2 r.1.2.1.length cw0_3, .slice cw0_4 r.1.2.2.1.length cw0_5, .slice cw0_6 r.1.2.2.2.1.length cw0_7, .int .i64 r.1.2.2.2.2, .int .i64 r.2.1, .int .i64 r.2.2] 36)).cell? ⟨w.heap.size, 0, none⟩ = some (.slice caD_0 xD.1.length caD_1) := HBK6_aD.out.cell 0
  have kaD_1 : (w5.alloc (.cells #[.slice cw0_0 r.1.1.length cw0_1, .slice cw0_2 r.1.2.1.length cw0_3, .slice cw0_4 r.1.2.2.1.length cw0_5, .slice cw0_6 r.1.2.2.2.1.length cw0_7, .int .i64 r.1.2.2.2.2, .int .i64 r.2.1, .int .i64 r.2.2] 36)).cell? ⟨w.heap.size, 1, none⟩ = some (.slice caD_2 xD.2.1.length caD_3) := HBK6_aD.out.cell 1
  have kaD_2 : (w5.alloc (.cells #[.slice cw0_0 r.1.1.length cw0_1, .slice cw0_2 r.1.2.1.length cw0_3, .slice cw0_4 r.1.2.2.1.length cw0_5, .slice cw0_6 r.1.2.2.2.1.length cw0_7, .int .i64 r.1.2.2.2.2, .int .i64 r.2.1, .int .i64 r.2.2] 36)).cell? ⟨w.heap.size, 2, none⟩ = some (.slice caD_4 xD.2.2.1.length caD_5) := HBK6_aD.out.cell 2
  have kaD_3 : (w5.alloc (.cells #[.slice cw0_0 r.1.1.length cw0_1, .slice cw0_2 r.1.2.1.length cw0_3, .slice cw0_4 r.1.2.2.1.length cw0_5, .slice cw0_6 r.1.2.2.2.1.length cw0_7, .int .i64 r.1.2.2.2.2, .int .i64 r.2.1, .int .i64 r.2.2] 36)).cell? ⟨w.heap.size, 3, none⟩ = some (.slice caD_6 xD.2.2.2.1.length caD_7) := HBK6_aD.out.cell 3
  have kaD_4 : (w5.alloc (.cells #[.slice cw0_0 r.1.1.length cw0_1, .slice cw0_2 r.1.2.1.length cw0_3, .slice cw0_4 r.1.2.2.1.length cw0_5, .slice cw0_6 r.1.2.2.2.1.length cw0_7, .int .i64 r.1.2.2.2.2, .int .i64 r.2.1, .int .i64 r.2.2] 36)).cell? ⟨w.heap.size, 4, none⟩ = some (.int .i64 xD.2.2.2.2) := HBK6_aD.out.cell 4
  have HBK_w0 := Sec.mk (Blk.new w5 36 [.slice cw0_0 r.1.1.length cw0_1, .slice cw0_2 r.1.2.1.length cw0_3, .slice cw0_4 r.1.2.2.1.length cw0_5, .slice cw0_6 r.1.2.2.2.1.length cw0_7, .int .i64 r.1.2.2.2.2, .int .i64 r.2.1, .int .i64 r.2.2])
  have hz5 : (w5.alloc (.cells #[.slice cw0_0 r.1.1.length cw0_1, .slice cw0_2 r.1.2.1.length cw0_3, .slice cw0_4 r.1.2.2.1.length cw0_5, .slice cw0_6 r.1.2.2.2.1.length cw0_7, .int .i64 r.1.2.2.2.2, .int .i64 r.2.1, .int .i64 r.2.2] 36)).heap.size = w5.heap.size + 1 := by simp
  clear kaD_0 kaD_1 kaD_2 kaD_3 kaD_4
  have kaD_0 : (w5.alloc (.cells #[.slice cw0_0 r.1.1.length cw0_1, .slice cw0_2 r.1.2.1.length cw0_3, .slice cw0_4 r.1.2.2.1.length cw0_5, .slice cw0_6 r.1.2.2.2.1.length cw0_7, .int .i64 r.1.2.2.2.2, .int .i64 r.2.1, .int .i64 r.2.2] 36)).cell? ⟨w.heap.size, 0, none⟩ = some (.slice caD_0 xD.1.length caD_1) := HBK6_aD.out.cell 0
  have kaD_1 : (w5.alloc (.cells #[.slice cw0_0 r.1.1.length cw0_1, .slice cw0_2 r.1.2.1.length cw0_3, .slice cw0_4 r.1.2.2.1.length cw0_5, .slice cw0_6 r.1.2.2.2.1.length cw0_7, .int .i64 r.1.2.2.2.2, .int .i64 r.2.1, .int .i64 r.2.2] 36)).cell? ⟨w.heap.size, 1, none⟩ = some (.slice caD_2 xD.2.1.length caD_3) := HBK6_aD.out.cell 1
  have kaD_2 : (w5.alloc (.cells #[.slice cw0_0 r.1.1.length cw0_1, .slice cw0_2 r.1.2.1.length cw0_3, .slice cw0_4 r.1.2.2.1.length cw0_5, .slice cw0_6 r.1.2.2.2.1.length cw0_7, .int .i64 r.1.2.2.2.2, .int .i64 r.2.1, .int .i64 r.2.2] 36)).cell? ⟨w.heap.size, 2, none⟩ = some (.slice caD_4 xD.2.2.1.length caD_5) := HBK6_aD.out.cell 2
  have kaD_3 : (w5.alloc (.cells #[.slice cw0_0 r.1.1.length cw0_1, .slice cw0_2 r.1.2.1.length cw0_3, .slice cw0_4 r.1.2.2.1.length cw0_5, .slice cw0_6 r.1.2.2.2.1.length cw0_7, .int .i64 r.1.2.2.2.2, .int .i64 r.2.1, .int .i64 r.2.2] 36)).cell? ⟨w.heap.size, 3, none⟩ = some (.slice caD_6 xD.2.2.2.1.length caD_7) := HBK6_aD.out.cell 3
  have kaD_4 : (w5.alloc (.cells #[.slice cw0_0 r.1.1.length cw0_1, .slice cw0_2 r.1.2.1.length cw0_3, .slice cw0_4 r.1.2.2.1.length cw0_5, .slice cw0_6 r.1.2.2.2.1.length cw0_7, .int .i64 r.1.2.2.2.2, .int .i64 r.2.1, .int .i64 r.2.2] 36)).cell? ⟨w.heap.size, 4, none⟩ = some (.int .i64 xD.2.2.2.2) := HBK6_aD.out.cell 4
  have kw0_0 : (w5.alloc (.cells #[.slice cw0_0 r.1.1.length cw0_1, .slice cw0_2 r.1.2.1.length cw0_3, .slice cw0_4 r.1.2.2.1.length cw0_5, .slice cw0_6 r.1.2.2.2.1.length cw0_7, .int .i64 r.1.2.2.2.2, .int .i64 r.2.1, .int .i64 r.2.2] 36)).cell? ⟨w5.heap.size, 0, none⟩ = some (.slice cw0_0 r.1.1.length cw0_1) := HBK_w0.out.cell 0
  have kw0_1 : (w5.alloc (.cells #[.slice cw0_0 r.1.1.length cw0_1, .slice cw0_2 r.1.2.1.length cw0_3, .slice cw0_4 r.1.2.2.1.length cw0_5, .slice cw0_6 r.1.2.2.2.1.length cw0_7, .int .i64 r.1.2.2.2.2, .int .i64 r.2.1, .int .i64 r.2.2] 36)).cell? ⟨w5.heap.size, 1, none⟩ = some (.slice cw0_2 r.1.2.1.length cw0_3) := HBK_w0.out.cell 1
  have kw0_2 : (w5.alloc (.cells #[.slice cw0_0 r.1.1.length cw0_1, .slice cw0_2 r.1.2.1.length cw0_3, .slice cw0_4 r.1.2.2.1.length cw0_5, .slice cw0_6 r.1.2.2.2.1.length cw0_7, .int .i64 r.1.2.2.2.2, .int .i64 r.2.1, .int .i64 r.2.2] 36)).cell? ⟨w5.heap.size, 2, none⟩ = some (.slice cw0_4 r.1.2.2.1.length cw0_5) := HBK_w0.out.cell 2
  have kw0_3 : (w5.alloc (.cells #[.slice cw0_0 r.1.1.length cw0_1, .slice cw0_2 r.1.2.1.length cw0_3, .slice cw0_4 r.1.2.2.1.length cw0_5, .slice cw0_6 r.1.2.2.2.1.length cw0_7, .int .i64 r.1.2.2.2.2, .int .i64 r.2.1, .int .i64 r.2.2] 36)).cell? ⟨w5.heap.size, 3, none⟩ = some (.slice cw0_6 r.1.2.2.2.1.length cw0_7) := HBK_w0.out.cell 3
  have kw0_4 : (w5.alloc (.cells #[.slice cw0_0 r.1.1.length cw0_1, .slice cw0_2 r.1.2.1.length cw0_3, .slice cw0_4 r.1.2.2.1.length cw0_5, .slice cw0_6 r.1.2.2.2.1.length cw0_7, .int .i64 r.1.2.2.2.2, .int .i64 r.2.1, .int .i64 r.2.2] 36)).cell? ⟨w5.heap.size, 4, none⟩ = some (.int .i64 r.1.2.2.2.2) := HBK_w0.out.cell 4
  have kw0_5 : (w5.alloc (.cells #[.slice cw0_0 r.1.1.length cw0_1, .slice cw0_2 r.1.2.1.length cw0_3, .slice cw0_4 r.1.2.2.1.length cw0_5, .slice cw0_6 r.1.2.2.2.1.length cw0_7, .int .i64 r.1.2.2.2.2, .int .i64 r.2.1, .int .i64 r.2.2] 36)).cell? ⟨w5.heap.size, 5, none⟩ = some (.int .i64 r.2.1) := HBK_w0.out.cell 5
  have kw0_6 : (w5.alloc (.cells #[.slice cw0_0 r.1.1.length cw0_1, .slice cw0_2 r.1.2.1.length cw0_3, .slice cw0_4 r.1.2.2.1.length cw0_5, .slice cw0_6 r.1.2.2.2.1.length cw0_7, .int .i64 r.1.2.2.2.2, .int .i64 r.2.1, .int .i64 r.2.2] 36)).cell? ⟨w5.heap.size, 6, none⟩ = some (.int .i64 r.2.2) := HBK_w0.out.cell 6
  clear TDW0_6
  clear TOPSW0_6
  go_wp2_with fail
  refine (toDisk_v (HRaD.out.step HM6.out) hb0).mono ?_
  rintro e w7 ⟨v7, rfl, ho7, hm7⟩
  clear kaD_0 kaD_1 kaD_2 kaD_3 kaD_4
  clear kw0_0 kw0_1 kw0_2 kw0_3 kw0_4 kw0_5 kw0_6
  have HBK7_aD := Sec.mk (HBK6_aD.out.mod hm7 id)
  clear HBK6_aD
  have HBK7_w0 := Sec.mk (HBK_w0.out.mod hm7 id)
  clear HBK_w0
  have W0_7 := Sec.mk (W0_6.out.step hm7)
  clear W0_6
  have HM7 := Sec.mk (HM6.out.transN hm7)
  clear HM6
  have hs7 := hm7.size
  clear hm7
  have kaD_0 : (w7).cell? ⟨w.heap.size, 0, none⟩ = some (.slice caD_0 xD.1.length caD_1) := HBK7_aD.out.cell 0
  have kaD_1 : (w7).cell? ⟨w.heap.size, 1, none⟩ = some (.slice caD_2 xD.2.1.length caD_3) := HBK7_aD.out.cell 1
  have kaD_2 : (w7).cell? ⟨w.heap.size, 2, none⟩ = some (.slice caD_4 xD.2.2.1.length caD_5) := HBK7_aD.out.cell 2
  have kaD_3 : (w7).cell? ⟨w.heap.size, 3, none⟩ = some (.slice caD_6 xD.2.2.2.1.length caD_7) := HBK7_aD.out.cell 3
  have kaD_4 : (w7).cell? ⟨w.heap.size, 4, none⟩ = some (.int .i64 xD.2.2.2.2) := HBK7_aD.out.cell 4
  have kw0_0 : (w7).cell? ⟨w5.heap.size, 0, none⟩ = some (.slice cw0_0 r.1.1.length cw0_1) := HBK7_w0.out.cell 0
  have kw0_1 : (w7).cell? ⟨w5.heap.size, 1, none⟩ = some (.slice cw0_2 r.1.2.1.length cw0_3) := HBK7_w0.out.cell 1
  have kw0_2 : (w7).cell? ⟨w5.heap.size, 2, none⟩ = some (.slice cw0_4 r.1.2.2.1.length cw0_5) := HBK7_w0.out.cell 2
  have kw0_3 : (w7).cell? ⟨w5.heap.size, 3, none⟩ = some (.slice cw0_6 r.1.2.2.2.1.length cw0_7) := HBK7_w0.out.cell 3
  have kw0_4 : (w7).cell? ⟨w5.heap.size, 4, none⟩ = some (.int .i64 r.1.2.2.2.2) := HBK7_w0.out.cell 4
  have kw0_5 : (w7).cell? ⟨w5.heap.size, 5, none⟩ = some (.int .i64 r.2.1) := HBK7_w0.out.cell 5
  have kw0_6 : (w7).cell? ⟨w5.heap.size, 6, none⟩ = some (.int .i64 r.2.2) := HBK7_w0.out.cell 6
  have X0_7 := Sec.mk ho7
  clear ho7
  obtain ⟨cx0_0, cx0_1, cx0_2, cx0_3, cx0_4, cx0_5, cx0_6, cx0_7, rfl⟩ := cellsDisk X0_7.out.rd
  have hma7 := ((Mod.refl (fun _ => False) w7).alloc (.cells #[.slice cx0_0 xD.1.length cx0_1, .slice cx0_2 xD.2.1.length cx0_3, .slice cx0_4 xD.2.2.1.length cx0_5, .slice cx0_6 xD.2.2.2.1.length cx0_7, .int .i64 xD.2.2.2.2] 34))
  clear kaD_0 kaD_1 kaD_2 kaD_3 kaD_4
  clear kw0_0 kw0_1 kw0_2 kw0_3 kw0_4 kw0_5 kw0_6
  have HBK8_aD := Sec.mk (HBK7_aD.out.mod hma7 id)
  clear HBK7_aD
  have HBK8_w0 := Sec.mk (HBK7_w0.out.mod hma7 id)
  clear HBK7_w0
  have W0_8 := Sec.mk (W0_7.out.step hma7)
  clear W0_7
  have X0_8 := Sec.mk (X0_7.out.step hma7)
  clear X0_7
  have HM8 := Sec.mk (HM7.out.transN hma7)
  clear HM7
  have hs8 := hma7.size
  clear hma7
  have kaD_0 : (w7.alloc (.cells #[.slice cx0_0 xD.1.length cx0_1, .slice cx0_2 xD.2.1.length cx0_3, .slice cx0_4 xD.2.2.1.length cx0_5, .slice cx0_6 xD.2.2.2.1.length cx0_7, .int .i64 xD.2.2.2.2] 34)).cell? ⟨w.heap.size, 0, none⟩ = some (.slice caD_0 xD.1.length caD_1) := HBK8_aD.out.cell 0
  have kaD_1 : (w7.alloc (.cells #[.slice cx0_0 xD.1.length cx0_1, .slice cx0_2 xD.2.1.length cx0_3, .slice cx0_4 xD.2.2.1.length cx0_5, .slice cx0_6 xD.2.2.2.1.length cx0_7, .int .i64 xD.2.2.2.2] 34)).cell? ⟨w.heap.size, 1, none⟩ = some (.slice caD_2 xD.2.1.length caD_3) := HBK8_aD.out.cell 1
  have kaD_2 : (w7.alloc (.cells #[.slice cx0_0 xD.1.length cx0_1, .slice cx0_2 xD.2.1.length cx0_3, .slice cx0_4 xD.2.2.1.length cx0_5, .slice cx0_6 xD.2.2.2.1.length cx0_7, .int .i64 xD.2.2.2.2] 34)).cell? ⟨w.heap.size, 2, none⟩ = some (.slice caD_4 xD.2.2.1.length caD_5) := HBK8_aD.out.cell 2
  have kaD_3 : (w7.alloc (.cells #[.slice cx0_0 xD.1.length cx0_1, .slice cx0_2 xD.2.1.length cx0_3, .slice cx0_4 xD.2.2.1.length cx0_5, .slice cx0_6 xD.2.2.2.1.length cx0_7, .int .i64 xD.2.2.2.2] 34)).cell? ⟨w.heap.size, 3, none⟩ = some (.slice caD_6 xD.2.2.2.1.length caD_7) := HBK8_aD.out.cell 3
  have kaD_4 : (w7.alloc (.cells #[.slice cx0_0 xD.1.length cx0_1, .slice cx0_2 xD.2.1.length cx0_3, .slice cx0_4 xD.2.2.1.length cx0_5, .slice cx0_6 xD.2.2.2.1.length cx0_7, .int .i64 xD.2.2.2.2] 34)).cell? ⟨w.heap.size, 4, none⟩ = some (.int .i64 xD.2.2.2.2) := HBK8_aD.out.cell 4
  have kw0_0 : (w7.alloc (.cells #[.slice cx0_0 xD.1.length cx0_1, .slice cx0_2 xD.2.1.length cx0_3, .slice cx0_4 xD.2.2.1.length cx0_5, .slice cx0_6 xD.2.2.2.1.length cx0_7, .int .i64 xD.2.2.2.2] 34)).cell? ⟨w5.heap.size, 0, none⟩ = some (.slice cw0_0 r.1.1.length cw0_1) := HBK8_w0.out.cell 0
  have kw0_1 : (w7.alloc (.cells #[.slice cx0_0 xD.1.length cx0_1, .slice cx0_2 xD.2.1.length cx0_3, .slice cx0_4 xD.2.2.1.length cx0_5, .slice cx0_6 xD.2.2.2.1.length cx0_7, .int .i64 xD.2.2.2.2] 34)).cell? ⟨w5.heap.size, 1, none⟩ = some (.slice cw0_2 r.1.2.1.length cw0_3) := HBK8_w0.out.cell 1
  have kw0_2 : (w7.alloc (.cells #[.slice cx0_0 xD.1.length cx0_1, .slice cx0_2 xD.2.1.length cx0_3, .slice cx0_4 xD.2.2.1.length cx0_5, .slice cx0_6 xD.2.2.2.1.length cx0_7, .int .i64 xD.2.2.2.2] 34)).cell? ⟨w5.heap.size, 2, none⟩ = some (.slice cw0_4 r.1.2.2.1.length cw0_5) := HBK8_w0.out.cell 2
  have kw0_3 : (w7.alloc (.cells #[.slice cx0_0 xD.1.length cx0_1, .slice cx0_2 xD.2.1.length cx0_3, .slice cx0_4 xD.2.2.1.length cx0_5, .slice cx0_6 xD.2.2.2.1.length cx0_7, .int .i64 xD.2.2.2.2] 34)).cell? ⟨w5.heap.size, 3, none⟩ = some (.slice cw0_6 r.1.2.2.2.1.length cw0_7) := HBK8_w0.out.cell 3
  have kw0_4 : (w7.alloc (.cells #[.slice cx0_0 xD.1.length cx0_1, .slice cx0_2 xD.2.1.length cx0_3, .slice cx0_4 xD.2.2.1.length cx0_5, .slice cx0_6 xD.2.2.2.1.length cx0_7, .int .i64 xD.2.2.2.2] 34)).cell? ⟨w5.heap.size, 4, none⟩ = some (.int .i64 r.1.2.2.2.2) := HBK8_w0.out.cell 4
  have kw0_5 : (w7.alloc (.cells #[.slice cx0_0 xD.1.length cx0_1, .slice cx0_2 xD.2.1.length cx0_3, .slice cx0_4 xD.2.2.1.length cx0_5, .slice cx0_6 xD.2.2.2.1.length cx0_7, .int .i64 xD.2.2.2.2] 34)).cell? ⟨w5.heap.size, 5, none⟩ = some (.int .i64 r.2.1) := HBK8_w0.out.cell 5
  have kw0_6 : (w7.alloc (.cells #[.slice cx0_0 xD.1.length cx0_1, .slice cx0_2 xD.2.1.length cx0_3, .slice cx0_4 xD.2.2.1.length cx0_5, .slice cx0_6 xD.2.2.2.1.length cx0_7, .int .i64 xD.2.2.2.2] 34)).cell? ⟨w5.heap.size, 6, none⟩ = some (.int .i64 r.2.2) := HBK8_w0.out.cell 6
  have HBK_x0 := Sec.mk (Blk.new w7 34 [.slice cx0_0 xD.1.length cx0_1, .slice cx0_2 xD.2.1.length cx0_3, .slice cx0_4 xD.2.2.1.length cx0_5, .slice cx0_6 xD.2.2.2.1.length cx0_7, .int .i64 xD.2.2.2.2])
  have hz7 : (w7.alloc (.cells #[.slice cx0_0 xD.1.length cx0_1, .slice cx0_2 xD.2.1.length cx0_3, .slice cx0_4 xD.2.2.1.length cx0_5, .slice cx0_6 xD.2.2.2.1.length cx0_7, .int .i64 xD.2.2.2.2] 34)).heap.size = w7.heap.size + 1 := by simp
  clear kaD_0 kaD_1 kaD_2 kaD_3 kaD_4
  clear kw0_0 kw0_1 kw0_2 kw0_3 kw0_4 kw0_5 kw0_6
  have kaD_0 : (w7.alloc (.cells #[.slice cx0_0 xD.1.length cx0_1, .slice cx0_2 xD.2.1.length cx0_3, .slice cx0_4 xD.2.2.1.length cx0_5, .slice cx0_6 xD.2.2.2.1.length cx0_7, .int .i64 xD.2.2.2.2] 34)).cell? ⟨w.heap.size, 0, none⟩ = some (.slice caD_0 xD.1.length caD_1) := HBK8_aD.out.cell 0
  have kaD_1 : (w7.alloc (.cells #[.slice cx0_0 xD.1.length cx0_1, .slice cx0_2 xD.2.1.length cx0_3, .slice cx0_4 xD.2.2.1.length cx0_5, .slice cx0_6 xD.2.2.2.1.length cx0_7, .int .i64 xD.2.2.2.2] 34)).cell? ⟨w.heap.size, 1, none⟩ = some (.slice caD_2 xD.2.1.length caD_3) := HBK8_aD.out.cell 1
  have kaD_2 : (w7.alloc (.cells #[.slice cx0_0 xD.1.length cx0_1, .slice cx0_2 xD.2.1.length cx0_3, .slice cx0_4 xD.2.2.1.length cx0_5, .slice cx0_6 xD.2.2.2.1.length cx0_7, .int .i64 xD.2.2.2.2] 34)).cell? ⟨w.heap.size, 2, none⟩ = some (.slice caD_4 xD.2.2.1.length caD_5) := HBK8_aD.out.cell 2
  have kaD_3 : (w7.alloc (.cells #[.slice cx0_0 xD.1.length cx0_1, .slice cx0_2 xD.2.1.length cx0_3, .slice cx0_4 xD.2.2.1.length cx0_5, .slice cx0_6 xD.2.2.2.1.length cx0_7, .int .i64 xD.2.2.2.2] 34)).cell? ⟨w.heap.size, 3, none⟩ = some (.slice caD_6 xD.2.2.2.1.length caD_7) := HBK8_aD.out.cell 3
  have kaD_4 : (w7.alloc (.cells #[.slice cx0_0 xD.1.length cx0_1, .slice cx0_2 xD.2.1.length cx0_3, .slice cx0_4 xD.2.2.1.length cx0_5, .slice cx0_6 xD.2.2.2.1.length cx0_7, .int .i64 xD.2.2.2.2] 34)).cell? ⟨w.heap.size, 4, none⟩ = some (.int .i64 xD.2.2.2.2) := HBK8_aD.out.cell 4
  have kw0_0 : (w7.alloc (.cells #[.slice cx0_0 xD.1.length cx0_1, .slice cx0_2 xD.2.1.length cx0_3, .slice cx0_4 xD.2.2.1.length cx0_5, .slice cx0_6 xD.2.2.2.1.length cx0_7, .int .i64 xD.2.2.2.2] 34)).cell? ⟨w5.heap.size, 0, none⟩ = some (.slice cw0_0 r.1.1.length cw0_1) := HBK8_w0.out.cell 0
  have kw0_1 : (w7.alloc (.cells #[.slice cx0_0 xD.1.length cx0_1, .slice cx0_2 xD.2.1.length cx0_3, .slice cx0_4 xD.2.2.1.length cx0_5, .slice cx0_6 xD.2.2.2.1.length cx0_7, .int .i64 xD.2.2.2.2] 34)).cell? ⟨w5.heap.size, 1, none⟩ = some (.slice cw0_2 r.1.2.1.length cw0_3) := HBK8_w0.out.cell 1
  have kw0_2 : (w7.alloc (.cells #[.slice cx0_0 xD.1.length cx0_1, .slice cx0_2 xD.2.1.length cx0_3, .slice cx0_4 xD.2.2.1.length cx0_5, .slice cx0_6 xD.2.2.2.1.length cx0_7, .int .i64 xD.2.2.2.2] 34)).cell? ⟨w5.heap.size, 2, none⟩ = some (.slice cw0_4 r.1.2.2.1.length cw0_5) := HBK8_w0.out.cell 2
  have kw0_3 : (w7.alloc (.cells #[.slice cx0_0 xD.1.length cx0_1, .slice cx0_2 xD.2.1.length cx0_3, .slice cx0_4 xD.2.2.1.length cx0_5, .slice cx0_6 xD.2.2.2.1.length cx0_7, .int .i64 xD.2.2.2.2] 34)).cell? ⟨w5.heap.size, 3, none⟩ = some (.slice cw0_6 r.1.2.2.2.1.length cw0_7) := HBK8_w0.out.cell 3
  have kw0_4 : (w7.alloc (.cells #[.slice cx0_0 xD.1.length cx0_1, .slice cx0_2 xD.2.1.length cx0_3, .slice cx0_4 xD.2.2.1.length cx0_5, .slice cx0_6 xD.2.2.2.1.length cx0_7, .int .i64 xD.2.2.2.2] 34)).cell? ⟨w5.heap.size, 4, none⟩ = some (.int .i64 r.1.2.2.2.2) := HBK8_w0.out.cell 4
  have kw0_5 : (w7.alloc (.cells #[.slice cx0_0 xD.1.length cx0_1, .slice cx0_2 xD.2.1.length cx0_3, .slice cx0_4 xD.2.2.1.length cx0_5, .slice cx0_6 xD.2.2.2.1.length cx0_7, .int .i64 xD.2.2.2.2] 34)).cell? ⟨w5.heap.size, 5, none⟩ = some (.int .i64 r.2.1) := HBK8_w0.out.cell 5
  have kw0_6 : (w7.alloc (.cells #[.slice cx0_0 xD.1.length cx0_1, .slice cx0_2 xD.2.1.length cx0_3, .slice cx0_4 xD.2.2.1.length cx0_5, .slice cx0_6 xD.2.2.2.1.length cx0_7, .int .i64 xD.2.2.2.2] 34)).cell? ⟨w5.heap.size, 6, none⟩ = some (.int .i64 r.2.2) := HBK8_w0.out.cell 6
  have kx0_0 : (w7.alloc (.cells #[.slice cx0_0 xD.1.length cx0_1, .slice cx0_2 xD.2.1.length cx0_3, .slice cx0_4 xD.2.2.1.length cx0_5, .slice cx0_6 xD.2.2.2.1.length cx0_7, .int .i64 xD.2.2.2.2] 34)).cell? ⟨w7.heap.size, 0, none⟩ = some (.slice cx0_0 xD.1.length cx0_1) := HBK_x0.out.cell 0
  have kx0_1 : (w7.alloc (.cells #[.slice cx0_0 xD.1.length cx0_1, .slice cx0_2 xD.2.1.length cx0_3, .slice cx0_4 xD.2.2.1.length cx0_5, .slice cx0_6 xD.2.2.2.1.length cx0_7, .int .i64 xD.2.2.2.2] 34)).cell? ⟨w7.heap.size, 1, none⟩ = some (.slice cx0_2 xD.2.1.length cx0_3) := HBK_x0.out.cell 1
  have kx0_2 : (w7.alloc (.cells #[.slice cx0_0 xD.1.length cx0_1, .slice cx0_2 xD.2.1.length cx0_3, .slice cx0_4 xD.2.2.1.length cx0_5, .slice cx0_6 xD.2.2.2.1.length cx0_7, .int .i64 xD.2.2.2.2] 34)).cell? ⟨w7.heap.size, 2, none⟩ = some (.slice cx0_4 xD.2.2.1.length cx0_5) := HBK_x0.out.cell 2
  have kx0_3 : (w7.alloc (.cells #[.slice cx0_0 xD.1.length cx0_1, .slice cx0_2 xD.2.1.length cx0_3, .slice cx0_4 xD.2.2.1.length cx0_5, .slice cx0_6 xD.2.2.2.1.length cx0_7, .int .i64 xD.2.2.2.2] 34)).cell? ⟨w7.heap.size, 3, none⟩ = some (.slice cx0_6 xD.2.2.2.1.length cx0_7) := HBK_x0.out.cell 3
  have kx0_4 : (w7.alloc (.cells #[.slice cx0_0 xD.1.length cx0_1, .slice cx0_2 xD.2.1.length cx0_3, .slice cx0_4 xD.2.2.1.length cx0_5, .slice cx0_6 xD.2.2.2.1.length cx0_7, .int .i64 xD.2.2.2.2] 34)).cell? ⟨w7.heap.size, 4, none⟩ = some (.int .i64 xD.2.2.2.2) := HBK_x0.out.cell 4
  go_wp2_with fail
  refine (toOpS_v (HRaOps.out.step HM8.out) hb1).mono ?_
  rintro e w9 ⟨v9, rfl, ho9, hm9⟩
  clear kaD_0 kaD_1 kaD_2 kaD_3 kaD_4
  clear kw0_0 kw0_1 kw0_2 kw0_3 kw0_4 kw0_5 kw0_6
  clear kx0_0 kx0_1 kx0_2 kx0_3 kx0_4
  have HBK9_aD := Sec.mk (HBK8_aD.out.mod hm9 id)
  clear HBK8_aD
  have HBK9_w0 := Sec.mk (HBK8_w0.out.mod hm9 id)
  clear HBK8_w0
  have HBK9_x0 := Sec.mk (HBK_x0.out.mod hm9 id)
  clear HBK_x0
  have W0_9 := Sec.mk (W0_8.out.step hm9)
  clear W0_8
  have X0_9 := Sec.mk (X0_8.out.step hm9)
  clear X0_8
  have HM9 := Sec.mk (HM8.out.transN hm9)
  clear HM8
  have hs9 := hm9.size
  clear hm9
  have kaD_0 : (w9).cell? ⟨w.heap.size, 0, none⟩ = some (.slice caD_0 xD.1.length caD_1) := HBK9_aD.out.cell 0
  have kaD_1 : (w9).cell? ⟨w.heap.size, 1, none⟩ = some (.slice caD_2 xD.2.1.length caD_3) := HBK9_aD.out.cell 1
  have kaD_2 : (w9).cell? ⟨w.heap.size, 2, none⟩ = some (.slice caD_4 xD.2.2.1.length caD_5) := HBK9_aD.out.cell 2
  have kaD_3 : (w9).cell? ⟨w.heap.size, 3, none⟩ = some (.slice caD_6 xD.2.2.2.1.length caD_7) := HBK9_aD.out.cell 3
  have kaD_4 : (w9).cell? ⟨w.heap.size, 4, none⟩ = some (.int .i64 xD.2.2.2.2) := HBK9_aD.out.cell 4
  have kw0_0 : (w9).cell? ⟨w5.heap.size, 0, none⟩ = some (.slice cw0_0 r.1.1.length cw0_1) := HBK9_w0.out.cell 0
  have kw0_1 : (w9).cell? ⟨w5.heap.size, 1, none⟩ = some (.slice cw0_2 r.1.2.1.length cw0_3) := HBK9_w0.out.cell 1
  have kw0_2 : (w9).cell? ⟨w5.heap.size, 2, none⟩ = some (.slice cw0_4 r.1.2.2.1.length cw0_5) := HBK9_w0.out.cell 2
  have kw0_3 : (w9).cell? ⟨w5.heap.size, 3, none⟩ = some (.slice cw0_6 r.1.2.2.2.1.length cw0_7) := HBK9_w0.out.cell 3
  have kw0_4 : (w9).cell? ⟨w5.heap.size, 4, none⟩ = some (.int .i64 r.1.2.2.2.2) := HBK9_w0.out.cell 4
  have kw0_5 : (w9).cell? ⟨w5.heap.size, 5, none⟩ = some (.int .i64 r.2.1) := HBK9_w0.out.cell 5
  have kw0_6 : (w9).cell? ⟨w5.heap.size, 6, none⟩ = some (.int .i64 r.2.2) := HBK9_w0.out.cell 6
  have kx0_0 : (w9).cell? ⟨w7.heap.size, 0, none⟩ = some (.slice cx0_0 xD.1.length cx0_1) := HBK9_x0.out.cell 0
  have kx0_1 : (w9).cell? ⟨w7.heap.size, 1, none⟩ = some (.slice cx0_2 xD.2.1.length cx0_3) := HBK9_x0.out.cell 1
  have kx0_2 : (w9).cell? ⟨w7.heap.size, 2, none⟩ = some (.slice cx0_4 xD.2.2.1.length cx0_5) := HBK9_x0.out.cell 2
  have kx0_3 : (w9).cell? ⟨w7.heap.size, 3, none⟩ = some (.slice cx0_6 xD.2.2.2.1.length cx0_7) := HBK9_x0.out.cell 3
  have kx0_4 : (w9).cell? ⟨w7.heap.size, 4, none⟩ = some (.int .i64 xD.2.2.2.2) := HBK9_x0.out.cell 4
  have X1_9 := Sec.mk ho9
  clear ho9
  go_wp2_with fail
  refine (implDiskDo_v X0_9.out.rd X1_9.out.rd hb0 hb1 (HENV.out.new HM9.out)).mono ?_
  rw [HFN.out]
  rintro e w10 ⟨v10, rfl, ho10, hm10⟩
  clear kaD_0 kaD_1 kaD_2 kaD_3 kaD_4
  clear kw0_0 kw0_1 kw0_2 kw0_3 kw0_4 kw0_5 kw0_6
  clear kx0_0 kx0_1 kx0_2 kx0_3 kx0_4
  have HBK10_aD := Sec.mk (HBK9_aD.out.mod hm10 id)
  clear HBK9_aD
  have HBK10_w0 := Sec.mk (HBK9_w0.out.mod hm10 id)
  clear HBK9_w0
  have HBK10_x0 := Sec.mk (HBK9_x0.out.mod hm10 id)
  clear HBK9_x0
  have W0_10 := Sec.mk (W0_9.out.step hm10)
  clear W0_9
  have X0_10 := Sec.mk (X0_9.out.step hm10)
  clear X0_9
  have X1_10 := Sec.mk (X1_9.out.step hm10)
  clear X1_9
  have HM10 := Sec.mk (HM9.out.transN hm10)
  clear HM9
  have hs10 := hm10.size
  clear hm10
  have kaD_0 : (w10).cell? ⟨w.heap.size, 0, none⟩ = some (.slice caD_0 xD.1.length caD_1) := HBK10_aD.out.cell 0
  have kaD_1 : (w10).cell? ⟨w.heap.size, 1, none⟩ = some (.slice caD_2 xD.2.1.length caD_3) := HBK10_aD.out.cell 1
  have kaD_2 : (w10).cell? ⟨w.heap.size, 2, none⟩ = some (.slice caD_4 xD.2.2.1.length caD_5) := HBK10_aD.out.cell 2
  have kaD_3 : (w10).cell? ⟨w.heap.size, 3, none⟩ = some (.slice caD_6 xD.2.2.2.1.length caD_7) := HBK10_aD.out.cell 3
  have kaD_4 : (w10).cell? ⟨w.heap.size, 4, none⟩ = some (.int .i64 xD.2.2.2.2) := HBK10_aD.out.cell 4
  have kw0_0 : (w10).cell? ⟨w5.heap.size, 0, none⟩ = some (.slice cw0_0 r.1.1.length cw0_1) := HBK10_w0.out.cell 0
  have kw0_1 : (w10).cell? ⟨w5.heap.size, 1, none⟩ = some (.slice cw0_2 r.1.2.1.length cw0_3) := HBK10_w0.out.cell 1
  have kw0_2 : (w10).cell? ⟨w5.heap.size, 2, none⟩ = some (.slice cw0_4 r.1.2.2.1.length cw0_5) := HBK10_w0.out.cell 2
  have kw0_3 : (w10).cell? ⟨w5.heap.size, 3, none⟩ = some (.slice cw0_6 r.1.2.2.2.1.length cw0_7) := HBK10_w0.out.cell 3
  have kw0_4 : (w10).cell? ⟨w5.heap.size, 4, none⟩ = some (.int .i64 r.1.2.2.2.2) := HBK10_w0.out.cell 4
  have kw0_5 : (w10).cell? ⟨w5.heap.size, 5, none⟩ = some (.int .i64 r.2.1) := HBK10_w0.out.cell 5
  have kw0_6 : (w10).cell? ⟨w5.heap.size, 6, none⟩ = some (.int .i64 r.2.2) := HBK10_w0.out.cell 6
  have kx0_0 : (w10).cell? ⟨w7.heap.size, 0, none⟩ = some (.slice cx0_0 xD.1.length cx0_1) := HBK10_x0.out.cell 0
  have kx0_1 : (w10).cell? ⟨w7.heap.size, 1, none⟩ = some (.slice cx0_2 xD.2.1.length cx0_3) := HBK10_x0.out.cell 1
  have kx0_2 : (w10).cell? ⟨w7.heap.size, 2, none⟩ = some (.slice cx0_4 xD.2.2.1.length cx0_5) := HBK10_x0.out.cell 2
  have kx0_3 : (w10).cell? ⟨w7.heap.size, 3, none⟩ = some (.slice cx0_6 xD.2.2.2.1.length cx0_7) := HBK10_x0.out.cell 3
  have kx0_4 : (w10).cell? ⟨w7.heap.size, 4, none⟩ = some (.int .i64 xD.2.2.2.2) := HBK10_x0.out.cell 4
  have G0_10 := Sec.mk ho10
  clear ho10
  obtain ⟨cg0_0, cg0_1, cg0_2, cg0_3, cg0_4, cg0_5, cg0_6, cg0_7, rfl⟩ := cellsDone G0_10.out.rd
  have hma10 := ((Mod.refl (fun _ => False) w10).alloc (.cells #[.slice cg0_0 r.1.1.length cg0_1, .slice cg0_2 r.1.2.1.length cg0_3, .slice cg0_4 r.1.2.2.1.length cg0_5, .slice cg0_6 r.1.2.2.2.1.length cg0_7, .int .i64 r.1.2.2.2.2, .int .i64 r.2.1, .int .i64 r.2.2] 36))
  clear kaD_0 kaD_1 kaD_2 kaD_3 kaD_4
  clear kw0_0 kw0_1 kw0_2 kw0_3 kw0_4 kw0_5 kw0_6
  clear kx0_0 kx0_1 kx0_2 kx0_3 kx0_4
  have HBK11_aD := Sec.mk (HBK10_aD.out.mod hma10 id)
  clear HBK10_aD
  have HBK11_w0 := Sec.mk (HBK10_w0.out.mod hma10 id)
  clear HBK10_w0
  have HBK11_x0 := Sec.mk (HBK10_x0.out.mod hma10 id)
  clear HBK10_x0
  have W0_11 := Sec.mk (W0_10.out.step hma10)
  clear W0_10
  have X0_11 := Sec.mk (X0_10.out.step hma10)
  clear X0_10
  have X1_11 := Sec.mk (X1_10.out.step hma10)
  clear X1_10
  have G0_11 := Sec.mk (G0_10.out.step hma10)
  clear G0_10
  have HM11 := Sec.mk (HM10.out.transN hma10)
  clear HM10
  have hs11 := hma10.size
  clear hma10
  have kaD_0 : (w10.alloc (.cells #[.slice cg0_0 r.1.1.length cg0_1, .slice cg0_2 r.1.2.1.length cg0_3, .slice cg0_4 r.1.2.2.1.length cg0_5, .slice cg0_6 r.1.2.2.2.1.length cg0_7, .int .i64 r.1.2.2.2.2, .int .i64 r.2.1, .int .i64 r.2.2] 36)).cell? ⟨w.heap.size, 0, none⟩ = some (.slice caD_0 xD.1.length caD_1) := HBK11_aD.out.cell 0
  have kaD_1 : (w10.alloc (.cells #[.slice cg0_0 r.1.1.length cg0_1, .slice cg0_2 r.1.2.1.length cg0_3, .slice cg0_4 r.1.2.2.1.length cg0_5, .slice cg0_6 r.1.2.2.2.1.length cg0_7, .int .i64 r.1.2.2.2.2, .int .i64 r.2.1, .int .i64 r.2.2] 36)).cell? ⟨w.heap.size, 1, none⟩ = some (.slice caD_2 xD.2.1.length caD_3) := HBK11_aD.out.cell 1
  have kaD_2 : (w10.alloc (.cells #[.slice cg0_0 r.1.1.length cg0_1, .slice cg0_2 r.1.2.1.length cg0_3, .slice cg0_4 r.1.2.2.1.length cg0_5, .slice cg0_6 r.1.2.2.2.1.length cg0_7, .int .i64 r.1.2.2.2.2, .int .i64 r.2.1, .int .i64 r.2.2] 36)).cell? ⟨w.heap.size, 2, none⟩ = some (.slice caD_4 xD.2.2.1.length caD_5) := HBK11_aD.out.cell 2
  have kaD_3 : (w10.alloc (.cells #[.slice cg0_0 r.1.1.length cg0_1, .slice cg0_2 r.1.2.1.length cg0_3, .slice cg0_4 r.1.2.2.1.length cg0_5, .slice cg0_6 r.1.2.2.2.1.length cg0_7, .int .i64 r.1.2.2.2.2, .int .i64 r.2.1, .int .i64 r.2.2] 36)).cell? ⟨w.heap.size, 3, none⟩ = some (.slice caD_6 xD.2.2.2.1.length caD_7) := HBK11_aD.out.cell 3
  have kaD_4 : (w10.alloc (.cells #[.slice cg0_0 r.1.1.length cg0_1, .slice cg0_2 r.1.2.1.length cg0_3, .slice cg0_4 r.1.2.2.1.length cg0_5, .slice cg0_6 r.1.2.2.2.1.length cg0_7, .int .i64 r.1.2.2.2.2, .int .i64 r.2.1, .int .i64 r.2.2] 36)).cell? ⟨w.heap.size, 4, none⟩ = some (.int .i64 xD.2.2.2.2) := HBK11_aD.out.cell 4
  have kw0_0 : (w10.alloc (.cells #[.slice cg0_0 r.1.1.length cg0_1, .slice cg0_2 r.1.2.1.length cg0_3, .slice cg0_4 r.1.2.2.1.length cg0_5, .slice cg0_6 r.1.2.2.2.1.length cg0_7, .int .i64 r.1.2.2.2.2, .int .i64 r.2.1, .int .i64 r.2.2] 36)).cell? ⟨w5.heap.size, 0, none⟩ = some (.slice cw0_0 r.1.1.length cw0_1) := HBK11_w0.out.cell 0
  have kw0_1 : (w10.alloc (.cells #[.slice cg0_0 r.1.1.length cg0_1, .slice cg0_2 r.1.2.1.length cg0_3, .slice cg0_4 r.1.2.2.1.length cg0_5, .slice cg0_6 r.1.2.2.2.1.length cg0_7, .int .i64 r.1.2.2.2.2, .int .i64 r.2.1, .int .i64 r.2.2] 36)).cell? ⟨w5.heap.size, 1, none⟩ = some (.slice cw0_2 r.1.2.1.length cw0_3) := HBK11_w0.out.cell 1
  have kw0_2 : (w10.alloc (.cells #[.slice cg0_0 r.1.1.length cg0_1, .slice cg0_2 r.1.2.1.length cg0_3, .slice cg0_4 r.1.2.2.1.length cg0_5, .slice cg0_6 r.1.2.2.2.1.length cg0_7, .int .i64 r.1.2.2.2.2, .int .i64 r.2.1, .int .i64 r.2.2] 36)).cell? ⟨w5.heap.size, 2, none⟩ = some (.slice cw0_4 r.1.2.2.1.length cw0_5) := HBK11_w0.out.cell 2
  have kw0_3 : (w10.alloc (.cells #[.slice cg0_0 r.1.1.length cg0_1, .slice cg0_2 r.1.2.1.length cg0_3, .slice cg0_4 r.1.2.2.1.length cg0_5, .slice cg0_6 r.1.2.2.2.1.length cg0_7, .int .i64 r.1.2.2.2.2, .int .i64 r.2.1, .int .i64 r.2.2] 36)).cell? ⟨w5.heap.size, 3, none⟩ = some (.slice cw0_6 r.1.2.2.2.1.length cw0_7) := HBK11_w0.out.cell 3
  have kw0_4 : (w10.alloc (.cells #[.slice cg0_0 r.1.1.length cg0_1, .slice cg0_2 r.1.2.1.length cg0_3, .slice cg0_4 r.1.2.2.1.length cg0_5, .slice cg0_6 r.1.2.2.2.1.length cg0_7, .int .i64 r.1.2.2.2.2, .int .i64 r.2.1, .int .i64 r.2.2] 36)).cell? ⟨w5.heap.size, 4, none⟩ = some (.int .i64 r.1.2.2.2.2) := HBK11_w0.out.cell 4
  have kw0_5 : (w10.alloc (.cells #[.slice cg0_0 r.1.1.length cg0_1, .slice cg0_2 r.1.2.1.length cg0_3, .slice cg0_4 r.1.2.2.1.length cg0_5, .slice cg0_6 r.1.2.2.2.1.length cg0_7, .int .i64 r.1.2.2.2.2, .int .i64 r.2.1, .int .i64 r.2.2] 36)).cell? ⟨w5.heap.size, 5, none⟩ = some (.int .i64 r.2.1) := HBK11_w0.out.cell 5
  have kw0_6 : (w10.alloc (.cells #[.slice cg0_0 r.1.1.length cg0_1, .slice cg0_2 r.1.2.1.length cg0_3, .slice cg0_4 r.1.2.2.1.length cg0_5, .slice cg0_6 r.1.2.2.2.1.length cg0_7, .int .i64 r.1.2.2.2.2, .int .i64 r.2.1, .int .i64 r.2.2] 36)).cell? ⟨w5.heap.size, 6, none⟩ = some (.int .i64 r.2.2) := HBK11_w0.out.cell 6
  have kx0_0 : (w10.alloc (.cells #[.slice cg0_0 r.1.1.length cg0_1, .slice cg0_2 r.1.2.1.length cg0_3, .slice cg0_4 r.1.2.2.1.length cg0_5, .slice cg0_6 r.1.2.2.2.1.length cg0_7, .int .i64 r.1.2.2.2.2, .int .i64 r.2.1, .int .i64 r.2.2] 36)).cell? ⟨w7.heap.size, 0, none⟩ = some (.slice cx0_0 xD.1.length cx0_1) := HBK11_x0.out.cell 0
  have kx0_1 : (w10.alloc (.cells #[.slice cg0_0 r.1.1.length cg0_1, .slice cg0_2 r.1.2.1.length cg0_3, .slice cg0_4 r.1.2.2.1.length cg0_5, .slice cg0_6 r.1.2.2.2.1.length cg0_7, .int .i64 r.1.2.2.2.2, .int .i64 r.2.1, .int .i64 r.2.2] 36)).cell? ⟨w7.heap.size, 1, none⟩ = some (.slice cx0_2 xD.2.1.length cx0_3) := HBK11_x0.out.cell 1
  have kx0_2 : (w10.alloc (.cells #[.slice cg0_0 r.1.1.length cg0_1, .slice cg0_2 r.1.2.1.length cg0_3, .slice cg0_4 r.1.2.2.1.length cg0_5, .slice cg0_6 r.1.2.2.2.1.length cg0_7, .int .i64 r.1.2.2.2.2, .int .i64 r.2.1, .int .i64 r.2.2] 36)).cell? ⟨w7.heap.size, 2, none⟩ = some (.slice cx0_4 xD.2.2.1.length cx0_5) := HBK11_x0.out.cell 2
  have kx0_3 : (w10.alloc (.cells #[.slice cg0_0 r.1.1.length cg0_1, .slice cg0_2 r.1.2.1.length cg0_3, .slice cg0_4 r.1.2.2.1.length cg0_5, .slice cg0_6 r.1.2.2.2.1.length cg0_7, .int .i64 r.1.2.2.2.2, .int .i64 r.2.1, .int .i64 r.2.2] 36)).cell? ⟨w7.heap.size, 3, none⟩ = some (.slice cx0_6 xD.2.2.2.1.length cx0_7) := HBK11_x0.out.cell 3
  have kx0_4 : (w10.alloc (.cells #[.slice cg0_0 r.1.1.length cg0_1, .slice cg0_2 r.1.2.1.length cg0_3, .slice cg0_4 r.1.2.2.1.length cg0_5, .slice cg0_6 r.1.2.2.2.1.length cg0_7, .int .i64 r.1.2.2.2.2, .int .i64 r.2.1, .int .i64 r.2.2] 36)).cell? ⟨w7.heap.size, 4, none⟩ = some (.int .i64 xD.2.2.2.2) := HBK11_x0.out.cell 4
  have HBK_g0 := Sec.mk (Blk.new w10 36 [.slice cg0_0 r.1.1.length cg0_1, .slice cg0_2 r.1.2.1.length cg0_3, .slice cg0_4 r.1.2.2.1.length cg0_5, .slice cg0_6 r.1.2.2.2.1.length cg0_7, .int .i64 r.1.2.2.2.2, .int .i64 r.2.1, .int .i64 r.2.2])
  have hz10 : (w10.alloc (.cells #[.slice cg0_0 r.1.1.length cg0_1, .slice cg0_2 r.1.2.1.length cg0_3, .slice cg0_4 r.1.2.2.1.length cg0_5, .slice cg0_6 r.1.2.2.2.1.length cg0_7, .int .i64 r.1.2.2.2.2, .int .i64 r.2.1, .int .i64 r.2.2] 36)).heap.size = w10.heap.size + 1 := by simp
  clear kaD_0 kaD_1 kaD_2 kaD_3 kaD_4
  clear kw0_0 kw0_1 kw0_2 kw0_3 kw0_4 kw0_5 kw0_6
  clear kx0_0 kx0_1 kx0_2 kx0_3 kx0_4
  have kaD_0 : (w10.alloc (.cells #[.slice cg0_0 r.1.1.length cg0_1, .slice cg0_2 r.1.2.1.length cg0_3, .slice cg0_4 r.1.2.2.1.length cg0_5, .slice cg0_6 r.1.2.2.2.1.length cg0_7, .int .i64 r.1.2.2.2.2, .int .i64 r.2.1, .int .i64 r.2.2] 36)).cell? ⟨w.heap.size, 0, none⟩ = some (.slice caD_0 xD.1.length caD_1) := HBK11_aD.out.cell 0
  have kaD_1 : (w10.alloc (.cells #[.slice cg0_0 r.1.1.length cg0_1, .slice cg0_2 r.1.2.1.length cg0_3, .slice cg0_4 r.1.2.2.1.length cg0_5, .slice cg0_6 r.1.2.2.2.1.length cg0_7, .int .i64 r.1.2.2.2.2, .int .i64 r.2.1, .int .i64 r.2.2] 36)).cell? ⟨w.heap.size, 1, none⟩ = some (.slice caD_2 xD.2.1.length caD_3) := HBK11_aD.out.cell 1
  have kaD_2 : (w10.alloc (.cells #[.slice cg0_0 r.1.1.length cg0_1, .slice cg0_2 r.1.2.1.length cg0_3, .slice cg0_4 r.1.2.2.1.length cg0_5, .slice cg0_6 r.1.2.2.2.1.length cg0_7, .int .i64 r.1.2.2.2.2, .int .i64 r.2.1, .int .i64 r.2.2] 36)).cell? ⟨w.heap.size, 2, none⟩ = some (.slice caD_4 xD.2.2.1.length caD_5) := HBK11_aD.out.cell 2
  have kaD_3 : (w10.alloc (.cells #[.slice cg0_0 r.1.1.length cg0_1, .slice cg0_2 r.1.2.1.length cg0_3, .slice cg0_4 r.1.2.2.1.length cg0_5, .slice cg0_6 r.1.2.2.2.1.length cg0_7, .int .i64 r.1.2.2.2.2, .int .i64 r.2.1, .int .i64 r.2.2] 36)).cell? ⟨w.heap.size, 3, none⟩ = some (.slice caD_6 xD.2.2.2.1.length caD_7) := HBK11_aD.out.cell 3
  have kaD_4 : (w10.alloc (.cells #[.slice cg0_0 r.1.1.length cg0_1, .slice cg0_2 r.1.2.1.length cg0_3, .slice cg0_4 r.1.2.2.1.length cg0_5, .slice cg0_6 r.1.2.2.2.1.length cg0_7, .int .i64 r.1.2.2.2.2, .int .i64 r.2.1, .int .i64 r.2.2] 36)).cell? ⟨w.heap.size, 4, none⟩ = some (.int .i64 xD.2.2.2.2) := HBK11_aD.out.cell 4
  have kw0_0 : (w10.alloc (.cells #[.slice cg0_0 r.1.1.length cg0_1, .slice cg0_2 r.1.2.1.length cg0_3, .slice cg0_4 r.1.2.2.1.length cg0_5, .slice cg0_6 r.1.2.2.2.1.length cg0_7, .int .i64 r.1.2.2.2.2, .int .i64 r.2.1, .int .i64 r.2.2] 36)).cell? ⟨w5.heap.size, 0, none⟩ = some (.slice cw0_0 r.1.1.length cw0_1) := HBK11_w0.out.cell 0
  have kw0_1 : (w10.alloc (.cells #[.slice cg0_0 r.1.1.length cg0_1, .slice cg0_2 r.1.2.1.length cg0_3, .slice cg0_4 r.1.2.2.1.length cg0_5, .slice cg0_6 r.1.2.2.2.1.length cg0_7, .int .i64 r.1.2.2.2.2, .int .i64 r.2.1, .int .i64 r.2.2] 36)).cell? ⟨w5.heap.size, 1, none⟩ = some (.slice cw0_2 r.1.2.1.length cw0_3) := HBK11_w0.out.cell 1
  have kw0_2 : (w10.alloc (.cells #[.slice cg0_0 r.1.1.length cg0_1, .slice cg0_2 r.1.2.1.length cg0_3, .slice cg0_4 r.1.2.2.1.length cg0_5, .slice cg0_6 r.1.2.2.2.1.length cg0_7, .int .i64 r.1.2.2.2.2, .int .i64 r.2.1, .int .i64 r.2.2] 36)).cell? ⟨w5.heap.size, 2, none⟩ = some (.slice cw0_4 r.1.2.2.1.length cw0_5) := HBK11_w0.out.cell 2
  have kw0_3 : (w10.alloc (.cells #[.slice cg0_0 r.1.1.length cg0_1, .slice cg0_2 r.1.2.1.length cg0_3, .slice cg0_4 r.1.2.2.1.length cg0_5, .slice cg0_6 r.1.2.2.2.1.length cg0_7, .int .i64 r.1.2.2.2.2, .int .i64 r.2.1, .int .i64 r.2.2] 36)).cell? ⟨w5.heap.size, 3, none⟩ = some (.slice cw0_6 r.1.2.2.2.1.length cw0_7) := HBK11_w0.out.cell 3
  have kw0_4 : (w10.alloc (.cells #[.slice cg0_0 r.1.1.length cg0_1, .slice cg0_2 r.1.2.1.length cg0_3, .slice cg0_4 r.1.2.2.1.length cg0_5, .slice cg0_6 r.1.2.2.2.1.length cg0_7, .int .i64 r.1.2.2.2.2, .int .i64 r.2.1, .int .i64 r.2.2] 36)).cell? ⟨w5.heap.size, 4, none⟩ = some (.int .i64 r.1.2.2.2.2) := HBK11_w0.out.cell 4
  have kw0_5 : (w10.alloc (.cells #[.slice cg0_0 r.1.1.length cg0_1, .slice cg0_2 r.1.2.1.length cg0_3, .slice cg0_4 r.1.2.2.1.length cg0_5, .slice cg0_6 r.1.2.2.2.1.length cg0_7, .int .i64 r.1.2.2.2.2, .int .i64 r.2.1, .int .i64 r.2.2] 36)).cell? ⟨w5.heap.size, 5, none⟩ = some (.int .i64 r.2.1) := HBK11_w0.out.cell 5
  have kw0_6 : (w10.alloc (.cells #[.slice cg0_0 r.1.1.length cg0_1, .slice cg0_2 r.1.2.1.length cg0_3, .slice cg0_4 r.1.2.2.1.length cg0_5, .slice cg0_6 r.1.2.2.2.1.length cg0_7, .int .i64 r.1.2.2.2.2, .int .i64 r.2.1, .int .i64 r.2.2] 36)).cell? ⟨w5.heap.size, 6, none⟩ = some (.int .i64 r.2.2) := HBK11_w0.out.cell 6
  have kx0_0 : (w10.alloc (.cells #[.slice cg0_0 r.1.1.length cg0_1, .slice cg0_2 r.1.2.1.length cg0_3, .slice cg0_4 r.1.2.2.1.length cg0_5, .slice cg0_6 r.1.2.2.2.1.length cg0_7, .int .i64 r.1.2.2.2.2, .int .i64 r.2.1, .int .i64 r.2.2] 36)).cell? ⟨w7.heap.size, 0, none⟩ = some (.slice cx0_0 xD.1.length cx0_1) := HBK11_x0.out.cell 0
  have kx0_1 : (w10.alloc (.cells #[.slice cg0_0 r.1.1.length cg0_1, .slice cg0_2 r.1.2.1.length cg0_3, .slice cg0_4 r.1.2.2.1.length cg0_5, .slice cg0_6 r.1.2.2.2.1.length cg0_7, .int .i64 r.1.2.2.2.2, .int .i64 r.2.1, .int .i64 r.2.2] 36)).cell? ⟨w7.heap.size, 1, none⟩ = some (.slice cx0_2 xD.2.1.length cx0_3) := HBK11_x0.out.cell 1
  have kx0_2 : (w10.alloc (.cells #[.slice cg0_0 r.1.1.length cg0_1, .slice cg0_2 r.1.2.1.length cg0_3, .slice cg0_4 r.1.2.2.1.length cg0_5, .slice cg0_6 r.1.2.2.2.1.length cg0_7, .int .i64 r.1.2.2.2.2, .int .i64 r.2.1, .int .i64 r.2.2] 36)).cell? ⟨w7.heap.size, 2, none⟩ = some (.slice cx0_4 xD.2.2.1.length cx0_5) := HBK11_x0.out.cell 2
  have kx0_3 : (w10.alloc (.cells #[.slice cg0_0 r.1.1.length cg0_1, .slice cg0_2 r.1.2.1.length cg0_3, .slice cg0_4 r.1.2.2.1.length cg0_5, .slice cg0_6 r.1.2.2.2.1.length cg0_7, .int .i64 r.1.2.2.2.2, .int .i64 r.2.1, .int .i64 r.2.2] 36)).cell? ⟨w7.heap.size, 3, none⟩ = some (.slice cx0_6 xD.2.2.2.1.length cx0_7) := HBK11_x0.out.cell 3
  have kx0_4 : (w10.alloc (.cells #[.slice cg0_0 r.1.1.length cg0_1, .slice cg0_2 r.1.2.1.length cg0_3, .slice cg0_4 r.1.2.2.1.length cg0_5, .slice cg0_6 r.1.2.2.2.1.length cg0_7, .int .i64 r.1.2.2.2.2, .int .i64 r.2.1, .int .i64 r.2.2] 36)).cell? ⟨w7.heap.size, 4, none⟩ = some (.int .i64 xD.2.2.2.2) := HBK11_x0.out.cell 4
  have kg0_0 : (w10.alloc (.cells #[.slice cg0_0 r.1.1.length cg0_1, .slice cg0_2 r.1.2.1.length cg0_3, .slice cg0_4 r.1.2.2.1.length cg0_5, .slice cg0_6 r.1.2.2.2.1.length cg0_7, .int .i64 r.1.2.2.2.2, .int .i64 r.2.1, .int .i64 r.2.2] 36)).cell? ⟨w10.heap.size, 0, none⟩ = some (.slice cg0_0 r.1.1.length cg0_1) := HBK_g0.out.cell 0
  have kg0_1 : (w10.alloc (.cells #[.slice cg0_0 r.1.1.length cg0_1, .slice cg0_2 r.1.2.1.length cg0_3, .slice cg0_4 r.1.2.2.1.length cg0_5, .slice cg0_6 r.1.2.2.2.1.length cg0_7, .int .i64 r.1.2.2.2.2, .int .i64 r.2.1, .int .i64 r.2.2] 36)).cell? ⟨w10.heap.size, 1, none⟩ = some (.slice cg0_2 r.1.2.1.length cg0_3) := HBK_g0.out.cell 1
  have kg0_2 : (w10.alloc (.cells #[.slice cg0_0 r.1.1.length cg0_1, .slice cg0_2 r.1.2.1.length cg0_3, .slice cg0_4 r.1.2.2.1.length cg0_5, .slice cg0_6 r.1.2.2.2.1.length cg0_7, .int .i64 r.1.2.2.2.2, .int .i64 r.2.1, .int .i64 r.2.2] 36)).cell? ⟨w10.heap.size, 2, none⟩ = some (.slice cg0_4 r.1.2.2.1.length cg0_5) := HBK_g0.out.cell 2
  have kg0_3 : (w10.alloc (.cells #[.slice cg0_0 r.1.1.length cg0_1, .slice cg0_2 r.1.2.1.length cg0_3, .slice cg0_4 r.1.2.2.1.length cg0_5, .slice cg0_6 r.1.2.2.2.1.length cg0_7, .int .i64 r.1.2.2.2.2, .int .i64 r.2.1, .int .i64 r.2.2] 36)).cell? ⟨w10.heap.size, 3, none⟩ = some (.slice cg0_6 r.1.2.2.2.1.length cg0_7) := HBK_g0.out.cell 3
  have kg0_4 : (w10.alloc (.cells #[.slice cg0_0 r.1.1.length cg0_1, .slice cg0_2 r.1.2.1.length cg0_3, .slice cg0_4 r.1.2.2.1.length cg0_5, .slice cg0_6 r.1.2.2.2.1.length cg0_7, .int .i64 r.1.2.2.2.2, .int .i64 r.2.1, .int .i64 r.2.2] 36)).cell? ⟨w10.heap.size, 4, none⟩ = some (.int .i64 r.1.2.2.2.2) := HBK_g0.out.cell 4
  have kg0_5 : (w10.alloc (.cells #[.slice cg0_0 r.1.1.length cg0_1, .slice cg0_2 r.1.2.1.length cg0_3, .slice cg0_4 r.1.2.2.1.length cg0_5, .slice cg0_6 r.1.2.2.2.1.length cg0_7, .int .i64 r.1.2.2.2.2, .int .i64 r.2.1, .int .i64 r.2.2] 36)).cell? ⟨w10.heap.size, 5, none⟩ = some (.int .i64 r.2.1) := HBK_g0.out.cell 5
  have kg0_6 : (w10.alloc (.cells #[.slice cg0_0 r.1.1.length cg0_1, .slice cg0_2 r.1.2.1.length cg0_3, .slice cg0_4 r.1.2.2.1.length cg0_5, .slice cg0_6 r.1.2.2.2.1.length cg0_7, .int .i64 r.1.2.2.2.2, .int .i64 r.2.1, .int .i64 r.2.2] 36)).cell? ⟨w10.heap.size, 6, none⟩ = some (.int .i64 r.2.2) := HBK_g0.out.cell 6
  go_wp2_with fail
  refine (eqDone_v G0_11.out.rd W0_11.out.rd).mono ?_
  rintro e w12 ⟨rfl, hm12⟩
  clear kaD_0 kaD_1 kaD_2 kaD_3 kaD_4
  clear kw0_0 kw0_1 kw0_2 kw0_3 kw0_4 kw0_5 kw0_6
  clear kx0_0 kx0_1 kx0_2 kx0_3 kx0_4
  clear kg0_0 kg0_1 kg0_2 kg0_3 kg0_4 kg0_5 kg0_6
  have HBK12_aD := Sec.mk (HBK11_aD.out.mod hm12 id)
  clear HBK11_aD
  have HBK12_w0 := Sec.mk (HBK11_w0.out.mod hm12 id)
  clear HBK11_w0
  have HBK12_x0 := Sec.mk (HBK11_x0.out.mod hm12 id)
  clear HBK11_x0
  have HBK12_g0 := Sec.mk (HBK_g0.out.mod hm12 id)
  clear HBK_g0
  have W0_12 := Sec.mk (W0_11.out.step hm12)
  clear W0_11
  have X0_12 := Sec.mk (X0_11.out.step hm12)
  clear X0_11
  have X1_12 := Sec.mk (X1_11.out.step hm12)
  clear X1_11
  have G0_12 := Sec.mk (G0_11.out.step hm12)
  clear G0_11
  have HM12 := Sec.mk (HM11.out.transN hm12)
  clear HM11
  have hs12 := hm12.size
  clear hm12
  have kaD_0 : (w12).cell? ⟨w.heap.size, 0, none⟩ = some (.slice caD_0 xD.1.length caD_1) := HBK12_aD.out.cell 0
  have kaD_1 : (w12).cell? ⟨w.heap.size, 1, none⟩ = some (.slice caD_2 xD.2.1.length caD_3) := HBK12_aD.out.cell 1
  have kaD_2 : (w12).cell? ⟨w.heap.size, 2, none⟩ = some (.slice caD_4 xD.2.2.1.length caD_5) := HBK12_aD.out.cell 2
  have kaD_3 : (w12).cell? ⟨w.heap.size, 3, none⟩ = some (.slice caD_6 xD.2.2.2.1.length caD_7) := HBK12_aD.out.cell 3
  have kaD_4 : (w12).cell? ⟨w.heap.size, 4, none⟩ = some (.int .i64 xD.2.2.2.2) := HBK12_aD.out.cell 4
  have kw0_0 : (w12).cell? ⟨w5.heap.size, 0, none⟩ = some (.slice cw0_0 r.1.1.length cw0_1) := HBK12_w0.out.cell 0
  have kw0_1 : (w12).cell? ⟨w5.heap.size, 1, none⟩ = some (.slice cw0_2 r.1.2.1.length cw0_3) := HBK12_w0.out.cell 1
  have kw0_2 : (w12).cell? ⟨w5.heap.size, 2, none⟩ = some (.slice cw0_4 r.1.2.2.1.length cw0_5) := HBK12_w0.out.cell 2
  have kw0_3 : (w12).cell? ⟨w5.heap.size, 3, none⟩ = some (.slice cw0_6 r.1.2.2.2.1.length cw0_7) := HBK12_w0.out.cell 3
  have kw0_4 : (w12).cell? ⟨w5.heap.size, 4, none⟩ = some (.int .i64 r.1.2.2.2.2) := HBK12_w0.out.cell 4
  have kw0_5 : (w12).cell? ⟨w5.heap.size, 5, none⟩ = some (.int .i64 r.2.1) := HBK12_w0.out.cell 5
  have kw0_6 : (w12).cell? ⟨w5.heap.size, 6, none⟩ = some (.int .i64 r.2.2) := HBK12_w0.out.cell 6
  have kx0_0 : (w12).cell? ⟨w7.heap.size, 0, none⟩ = some (.slice cx0_0 xD.1.length cx0_1) := HBK12_x0.out.cell 0
  have kx0_1 : (w12).cell? ⟨w7.heap.size, 1, none⟩ = some (.slice cx0_2 xD.2.1.length cx0_3) := HBK12_x0.out.cell 1
  have kx0_2 : (w12).cell? ⟨w7.heap.size, 2, none⟩ = some (.slice cx0_4 xD.2.2.1.length cx0_5) := HBK12_x0.out.cell 2
  have kx0_3 : (w12).cell? ⟨w7.heap.size, 3, none⟩ = some (.slice cx0_6 xD.2.2.2.1.length cx0_7) := HBK12_x0.out.cell 3
  have kx0_4 : (w12).cell? ⟨w7.heap.size, 4, none⟩ = some (.int .i64 xD.2.2.2.2) := HBK12_x0.out.cell 4
  have kg0_0 : (w12).cell? ⟨w10.heap.size, 0, none⟩ = some (.slice cg0_0 r.1.1.length cg0_1) := HBK12_g0.out.cell 0
  have kg0_1 : (w12).cell? ⟨w10.heap.size, 1, none⟩ = some (.slice cg0_2 r.1.2.1.length cg0_3) := HBK12_g0.out.cell 1
  have kg0_2 : (w12).cell? ⟨w10.heap.size, 2, none⟩ = some (.slice cg0_4 r.1.2.2.1.length cg0_5) := HBK12_g0.out.cell 2
  have kg0_3 : (w12).cell? ⟨w10.heap.size, 3, none⟩ = some (.slice cg0_6 r.1.2.2.2.1.length cg0_7) := HBK12_g0.out.cell 3
  have kg0_4 : (w12).cell? ⟨w10.heap.size, 4, none⟩ = some (.int .i64 r.1.2.2.2.2) := HBK12_g0.out.cell 4
  have kg0_5 : (w12).cell? ⟨w10.heap.size, 5, none⟩ = some (.int .i64 r.2.1) := HBK12_g0.out.cell 5
  have kg0_6 : (w12).cell? ⟨w10.heap.size, 6, none⟩ = some (.int .i64 r.2.2) := HBK12_g0.out.cell 6
  rw [show decide (r = r) = true by simp]
  go_wp2
  refine reg_start [] (fun W => Sec (New (w12) W)) (by kernel_rfl) ?_
  have HSS : Sec (New (w12) (w12).drew) := ⟨(Mod.refl _ _).drew⟩
  refine reg_take (.agg #[.slice cx0_0 xD.1.length cx0_1, .slice cx0_2 xD.2.1.length cx0_3, .slice cx0_4 xD.2.2.1.length cx0_5, .slice cx0_6 xD.2.2.2.1.length cx0_7, .int .i64 xD.2.2.2.2]) (i := 0) (n := 40) HSS rfl (by kernel_rfl) (by kernel_rfl) (by kernel_rfl) (by kernel_rfl) (fun _ _ _ h => h) (fun W hW => exec_load rfl rfl (ldDiskI (HBK12_x0.out.mod hW.out id))) ?_
  simp only [Act.put, List.setIfInBounds_toArray, List.set_cons_zero, List.set_cons_succ]
  refine reg_take (.agg #[.slice caD_0 xD.1.length caD_1, .slice caD_2 xD.2.1.length caD_3, .slice caD_4 xD.2.2.1.length caD_5, .slice caD_6 xD.2.2.2.1.length caD_7, .int .i64 xD.2.2.2.2]) (i := 1) (n := 41) HSS rfl (by kernel_rfl) (by kernel_rfl) (by kernel_rfl) (by kernel_rfl) (fun _ _ _ h => h) (fun W hW => exec_load rfl rfl (ldDiskL (HBK12_aD.out.mod hW.out id))) ?_
  simp only [Act.put, List.setIfInBounds_toArray, List.set_cons_zero, List.set_cons_succ]
  refine reg_step (i := 2) rfl (by kernel_rfl) (fun K hK => ?_)
  refine wp_call (n := 42) (vals := [.agg #[.slice caD_0 xD.1.length caD_1, .slice caD_2 xD.2.1.length caD_3, .slice caD_4 xD.2.2.1.length caD_5, .slice caD_6 xD.2.2.2.1.length caD_7, .int .i64 xD.2.2.2.2]]) rfl rfl rfl (by kernel_rfl) (toDisk_v (HRaD.out.step (HM12.out.transN HSS.out)) hb0) ?_
  rintro e w13' ⟨v13, rfl, ho13, hm13⟩
  have HO13 := Sec.mk ho13
  have HSS : Sec (New (w12) w13') := ⟨HSS.out.transN hm13⟩
  refine ⟨_, rfl, hK.out _ _ (fun _ => HSS) ?_⟩
  clear hm13 ho13
  clear hK K
  simp only [Act.put, List.setIfInBounds_toArray, List.set_cons_zero, List.set_cons_succ]
  refine reg_step (i := 3) rfl (by kernel_rfl) (fun K hK => ?_)
  refine wp_call (n := 43) (vals := [.agg #[.slice cx0_0 xD.1.length cx0_1, .slice cx0_2 xD.2.1.length cx0_3, .slice cx0_4 xD.2.2.1.length cx0_5, .slice cx0_6 xD.2.2.2.1.length cx0_7, .int .i64 xD.2.2.2.2], v13]) rfl rfl rfl (by kernel_rfl) (eqDisk_same (X0_12.out.rd.step HSS.out) HO13.out.rd) ?_
  rintro e w13 ⟨rfl, hn13⟩
  have HSS : Sec (New (w12) w13) := ⟨HSS.out.transN hn13⟩
  refine ⟨_, rfl, hK.out _ _ (fun _ => HSS) ?_⟩
  clear hn13
  clear hK K
  simp only [Act.put, List.setIfInBounds_toArray, List.set_cons_zero, List.set_cons_succ]
  refine reg_take (.bool false) (i := 4) (n := 44) HSS rfl (by kernel_rfl) (by kernel_rfl) (by kernel_rfl) (by kernel_rfl) (fun _ _ _ h => h) (fun W hW => exec_un rfl rfl (by go_simp)) ?_
  simp only [Act.put, List.setIfInBounds_toArray, List.set_cons_zero, List.set_cons_succ]
  refine reg_done (by kernel_rfl) ?_ _
  clear HO13
  have hm13 := HSS.out
  clear kaD_0 kaD_1 kaD_2 kaD_3 kaD_4
  clear kw0_0 kw0_1 kw0_2 kw0_3 kw0_4 kw0_5 kw0_6
  clear kx0_0 kx0_1 kx0_2 kx0_3 kx0_4
  clear kg0_0 kg0_1 kg0_2 kg0_3 kg0_4 kg0_5 kg0_6
  have HBK13_aD := Sec.mk (HBK12_aD.out.mod hm13 id)
  clear HBK12_aD
  have HBK13_w0 := Sec.mk (HBK12_w0.out.mod hm13 id)
  clear HBK12_w0
  have HBK13_x0 := Sec.mk (HBK12_x0.out.mod hm13 id)
  clear HBK12_x0
  have HBK13_g0 := Sec.mk (HBK12_g0.out.mod hm13 id)
  clear HBK12_g0
  have W0_13 := Sec.mk (W0_12.out.step hm13)
  clear W0_12
  have X0_13 := Sec.mk (X0_12.out.step hm13)
  clear X0_12
  have X1_13 := Sec.mk (X1_12.out.step hm13)
  clear X1_12
  have G0_13 := Sec.mk (G0_12.out.step hm13)
  clear G0_12
  have HM13 := Sec.mk (HM12.out.transN hm13)
  clear HM12
  have hs13 := hm13.size
  clear hm13
  have kaD_0 : (w13).cell? ⟨w.heap.size, 0, none⟩ = some (.slice caD_0 xD.1.length caD_1) := HBK13_aD.out.cell 0
  have kaD_1 : (w13).cell? ⟨w.heap.size, 1, none⟩ = some (.slice caD_2 xD.2.1.length caD_3) := HBK13_aD.out.cell 1
  have kaD_2 : (w13).cell? ⟨w.heap.size, 2, none⟩ = some (.slice caD_4 xD.2.2.1.length caD_5) := HBK13_aD.out.cell 2
  have kaD_3 : (w13).cell? ⟨w.heap.size, 3, none⟩ = some (.slice caD_6 xD.2.2.2.1.length caD_7) := HBK13_aD.out.cell 3
  have kaD_4 : (w13).cell? ⟨w.heap.size, 4, none⟩ = some (.int .i64 xD.2.2.2.2) := HBK13_aD.out.cell 4
  have kw0_0 : (w13).cell? ⟨w5.heap.size, 0, none⟩ = some (.slice cw0_0 r.1.1.length cw0_1) := HBK13_w0.out.cell 0
  have kw0_1 : (w13).cell? ⟨w5.heap.size, 1, none⟩ = some (.slice cw0_2 r.1.2.1.length cw0_3) := HBK13_w0.out.cell 1
  have kw0_2 : (w13).cell? ⟨w5.heap.size, 2, none⟩ = some (.slice cw0_4 r.1.2.2.1.length cw0_5) := HBK13_w0.out.cell 2
  have kw0_3 : (w13).cell? ⟨w5.heap.size, 3, none⟩ = some (.slice cw0_6 r.1.2.2.2.1.length cw0_7) := HBK13_w0.out.cell 3
  have kw0_4 : (w13).cell? ⟨w5.heap.size, 4, none⟩ = some (.int .i64 r.1.2.2.2.2) := HBK13_w0.out.cell 4
  have kw0_5 : (w13).cell? ⟨w5.heap.size, 5, none⟩ = some (.int .i64 r.2.1) := HBK13_w0.out.cell 5
  have kw0_6 : (w13).cell? ⟨w5.heap.size, 6, none⟩ = some (.int .i64 r.2.2) := HBK13_w0.out.cell 6
  have kx0_0 : (w13).cell? ⟨w7.heap.size, 0, none⟩ = some (.slice cx0_0 xD.1.length cx0_1) := HBK13_x0.out.cell 0
  have kx0_1 : (w13).cell? ⟨w7.heap.size, 1, none⟩ = some (.slice cx0_2 xD.2.1.length cx0_3) := HBK13_x0.out.cell 1
  have kx0_2 : (w13).cell? ⟨w7.heap.size, 2, none⟩ = some (.slice cx0_4 xD.2.2.1.length cx0_5) := HBK13_x0.out.cell 2
  have kx0_3 : (w13).cell? ⟨w7.heap.size, 3, none⟩ = some (.slice cx0_6 xD.2.2.2.1.length cx0_7) := HBK13_x0.out.cell 3
  have kx0_4 : (w13).cell? ⟨w7.heap.size, 4, none⟩ = some (.int .i64 xD.2.2.2.2) := HBK13_x0.out.cell 4
  have kg0_0 : (w13).cell? ⟨w10.heap.size, 0, none⟩ = some (.slice cg0_0 r.1.1.length cg0_1) := HBK13_g0.out.cell 0
  have kg0_1 : (w13).cell? ⟨w10.heap.size, 1, none⟩ = some (.slice cg0_2 r.1.2.1.length cg0_3) := HBK13_g0.out.cell 1
  have kg0_2 : (w13).cell? ⟨w10.heap.size, 2, none⟩ = some (.slice cg0_4 r.1.2.2.1.length cg0_5) := HBK13_g0.out.cell 2
  have kg0_3 : (w13).cell? ⟨w10.heap.size, 3, none⟩ = some (.slice cg0_6 r.1.2.2.2.1.length cg0_7) := HBK13_g0.out.cell 3
  have kg0_4 : (w13).cell? ⟨w10.heap.size, 4, none⟩ = some (.int .i64 r.1.2.2.2.2) := HBK13_g0.out.cell 4
  have kg0_5 : (w13).cell? ⟨w10.heap.size, 5, none⟩ = some (.int .i64 r.2.1) := HBK13_g0.out.cell 5
  have kg0_6 : (w13).cell? ⟨w10.heap.size, 6, none⟩ = some (.int .i64 r.2.2) := HBK13_g0.out.cell 6
  clear HSS
  go_wp2_with fail
  refine (toOpS_v (HRaOps.out.step HM13.out) hb1).mono ?_
  rintro e w14 ⟨v14, rfl, ho14, hm14⟩
  clear kaD_0 kaD_1 kaD_2 kaD_3 kaD_4
  clear kw0_0 kw0_1 kw0_2 kw0_3 kw0_4 kw0_5 kw0_6
  clear kx0_0 kx0_1 kx0_2 kx0_3 kx0_4
  clear kg0_0 kg0_1 kg0_2 kg0_3 kg0_4 kg0_5 kg0_6
  have HBK14_aD := Sec.mk (HBK13_aD.out.mod hm14 id)
  clear HBK13_aD
  have HBK14_w0 := Sec.mk (HBK13_w0.out.mod hm14 id)
  clear HBK13_w0
  have HBK14_x0 := Sec.mk (HBK13_x0.out.mod hm14 id)
  clear HBK13_x0
  have HBK14_g0 := Sec.mk (HBK13_g0.out.mod hm14 id)
  clear HBK13_g0
  have W0_14 := Sec.mk (W0_13.out.step hm14)
  clear W0_13
  have X0_14 := Sec.mk (X0_13.out.step hm14)
  clear X0_13
  have X1_14 := Sec.mk (X1_13.out.step hm14)
  clear X1_13
  have G0_14 := Sec.mk (G0_13.out.step hm14)
  clear G0_13
  have HM14 := Sec.mk (HM13.out.transN hm14)
  clear HM13
  have hs14 := hm14.size
  clear hm14
  have kaD_0 : (w14).cell? ⟨w.heap.size, 0, none⟩ = some (.slice caD_0 xD.1.length caD_1) := HBK14_aD.out.cell 0
  have kaD_1 : (w14).cell? ⟨w.heap.size, 1, none⟩ = some (.slice caD_2 xD.2.1.length caD_3) := HBK14_aD.out.cell 1
  have kaD_2 : (w14).cell? ⟨w.heap.size, 2, none⟩ = some (.slice caD_4 xD.2.2.1.length caD_5) := HBK14_aD.out.cell 2
  have kaD_3 : (w14).cell? ⟨w.heap.size, 3, none⟩ = some (.slice caD_6 xD.2.2.2.1.length caD_7) := HBK14_aD.out.cell 3
  have kaD_4 : (w14).cell? ⟨w.heap.size, 4, none⟩ = some (.int .i64 xD.2.2.2.2) := HBK14_aD.out.cell 4
  have kw0_0 : (w14).cell? ⟨w5.heap.size, 0, none⟩ = some (.slice cw0_0 r.1.1.length cw0_1) := HBK14_w0.out.cell 0
  have kw0_1 : (w14).cell? ⟨w5.heap.size, 1, none⟩ = some (.slice cw0_2 r.1.2.1.length cw0_3) := HBK14_w0.out.cell 1
  have kw0_2 : (w14).cell? ⟨w5.heap.size, 2, none⟩ = some (.slice cw0_4 r.1.2.2.1.length cw0_5) := HBK14_w0.out.cell 2
  have kw0_3 : (w14).cell? ⟨w5.heap.size, 3, none⟩ = some (.slice cw0_6 r.1.2.2.2.1.length cw0_7) := HBK14_w0.out.cell 3
  have kw0_4 : (w14).cell? ⟨w5.heap.size, 4, none⟩ = some (.int .i64 r.1.2.2.2.2) := HBK14_w0.out.cell 4
  have kw0_5 : (w14).cell? ⟨w5.heap.size, 5, none⟩ = some (.int .i64 r.2.1) := HBK14_w0.out.cell 5
  have kw0_6 : (w14).cell? ⟨w5.heap.size, 6, none⟩ = some (.int .i64 r.2.2) := HBK14_w0.out.cell 6
  have kx0_0 : (w14).cell? ⟨w7.heap.size, 0, none⟩ = some (.slice cx0_0 xD.1.length cx0_1) := HBK14_x0.out.cell 0
  have kx0_1 : (w14).cell? ⟨w7.heap.size, 1, none⟩ = some (.slice cx0_2 xD.2.1.length cx0_3) := HBK14_x0.out.cell 1
  have kx0_2 : (w14).cell? ⟨w7.heap.size, 2, none⟩ = some (.slice cx0_4 xD.2.2.1.length cx0_5) := HBK14_x0.out.cell 2
  have kx0_3 : (w14).cell? ⟨w7.heap.size, 3, none⟩ = some (.slice cx0_6 xD.2.2.2.1.length cx0_7) := HBK14_x0.out.cell 3
  have kx0_4 : (w14).cell? ⟨w7.heap.size, 4, none⟩ = some (.int .i64 xD.2.2.2.2) := HBK14_x0.out.cell 4
  have kg0_0 : (w14).cell? ⟨w10.heap.size, 0, none⟩ = some (.slice cg0_0 r.1.1.length cg0_1) := HBK14_g0.out.cell 0
  have kg0_1 : (w14).cell? ⟨w10.heap.size, 1, none⟩ = some (.slice cg0_2 r.1.2.1.length cg0_3) := HBK14_g0.out.cell 1
  have kg0_2 : (w14).cell? ⟨w10.heap.size, 2, none⟩ = some (.slice cg0_4 r.1.2.2.1.length cg0_5) := HBK14_g0.out.cell 2
  have kg0_3 : (w14).cell? ⟨w10.heap.size, 3, none⟩ = some (.slice cg0_6 r.1.2.2.2.1.length cg0_7) := HBK14_g0.out.cell 3
  have kg0_4 : (w14).cell? ⟨w10.heap.size, 4, none⟩ = some (.int .i64 r.1.2.2.2.2) := HBK14_g0.out.cell 4
  have kg0_5 : (w14).cell? ⟨w10.heap.size, 5, none⟩ = some (.int .i64 r.2.1) := HBK14_g0.out.cell 5
  have kg0_6 : (w14).cell? ⟨w10.heap.size, 6, none⟩ = some (.int .i64 r.2.2) := HBK14_g0.out.cell 6
  have TCMP_14 := Sec.mk ho14
  clear ho14
  go_wp2_with fail
  refine (eqOpS_v X1_14.out.rd TCMP_14.out.rd).mono ?_
  rintro e w15 ⟨rfl, hm15⟩
  clear kaD_0 kaD_1 kaD_2 kaD_3 kaD_4
  clear kw0_0 kw0_1 kw0_2 kw0_3 kw0_4 kw0_5 kw0_6
  clear kx0_0 kx0_1 kx0_2 kx0_3 kx0_4
  clear kg0_0 kg0_1 kg0_2 kg0_3 kg0_4 kg0_5 kg0_6
  have HBK15_aD := Sec.mk (HBK14_aD.out.mod hm15 id)
  clear HBK14_aD
  have HBK15_w0 := Sec.mk (HBK14_w0.out.mod hm15 id)
  clear HBK14_w0
  have HBK15_x0 := Sec.mk (HBK14_x0.out.mod hm15 id)
  clear HBK14_x0
  have HBK15_g0 := Sec.mk (HBK14_g0.out.mod hm15 id)
  clear HBK14_g0
  have W0_15 := Sec.mk (W0_14.out.step hm15)
  clear W0_14
  have X0_15 := Sec.mk (X0_14.out.step hm15)
  clear X0_14
  have X1_15 := Sec.mk (X1_14.out.step hm15)
  clear X1_14
  have G0_15 := Sec.mk (G0_14.out.step hm15)
  clear G0_14
  have TCMP_15 := Sec.mk (TCMP_14.out.step hm15)
  clear TCMP_14
  have HM15 := Sec.mk (HM14.out.transN hm15)
  clear HM14
  have hs15 := hm15.size
  clear hm15
  have kaD_0 : (w15).cell? ⟨w.heap.size, 0, none⟩ = some (.slice caD_0 xD.1.length caD_1) := HBK15_aD.out.cell 0
  have kaD_1 : (w15).cell? ⟨w.heap.size, 1, none⟩ = some (.slice caD_2 xD.2.1.length caD_3) := HBK15_aD.out.cell 1
  have kaD_2 : (w15).cell? ⟨w.heap.size, 2, none⟩ = some (.slice caD_4 xD.2.2.1.length caD_5) := HBK15_aD.out.cell 2
  have kaD_3 : (w15).cell? ⟨w.heap.size, 3, none⟩ = some (.slice caD_6 xD.2.2.2.1.length caD_7) := HBK15_aD.out.cell 3
  have kaD_4 : (w15).cell? ⟨w.heap.size, 4, none⟩ = some (.int .i64 xD.2.2.2.2) := HBK15_aD.out.cell 4
  have kw0_0 : (w15).cell? ⟨w5.heap.size, 0, none⟩ = some (.slice cw0_0 r.1.1.length cw0_1) := HBK15_w0.out.cell 0
  have kw0_1 : (w15).cell? ⟨w5.heap.size, 1, none⟩ = some (.slice cw0_2 r.1.2.1.length cw0_3) := HBK15_w0.out.cell 1
  have kw0_2 : (w15).cell? ⟨w5.heap.size, 2, none⟩ = some (.slice cw0_4 r.1.2.2.1.length cw0_5) := HBK15_w0.out.cell 2
  have kw0_3 : (w15).cell? ⟨w5.heap.size, 3, none⟩ = some (.slice cw0_6 r.1.2.2.2.1.length cw0_7) := HBK15_w0.out.cell 3
  have kw0_4 : (w15).cell? ⟨w5.heap.size, 4, none⟩ = some (.int .i64 r.1.2.2.2.2) := HBK15_w0.out.cell 4
  have kw0_5 : (w15).cell? ⟨w5.heap.size, 5, none⟩ = some (.int .i64 r.2.1) := HBK15_w0.out.cell 5
  have kw0_6 : (w15).cell? ⟨w5.heap.size, 6, none⟩ = some (.int .i64 r.2.2) := HBK15_w0.out.cell 6
  have kx0_0 : (w15).cell? ⟨w7.heap.size, 0, none⟩ = some (.slice cx0_0 xD.1.length cx0_1) := HBK15_x0.out.cell 0
  have kx0_1 : (w15).cell? ⟨w7.heap.size, 1, none⟩ = some (.slice cx0_2 xD.2.1.length cx0_3) := HBK15_x0.out.cell 1
  have kx0_2 : (w15).cell? ⟨w7.heap.size, 2, none⟩ = some (.slice cx0_4 xD.2.2.1.length cx0_5) := HBK15_x0.out.cell 2
  have kx0_3 : (w15).cell? ⟨w7.heap.size, 3, none⟩ = some (.slice cx0_6 xD.2.2.2.1.length cx0_7) := HBK15_x0.out.cell 3
  have kx0_4 : (w15).cell? ⟨w7.heap.size, 4, none⟩ = some (.int .i64 xD.2.2.2.2) := HBK15_x0.out.cell 4
  have kg0_0 : (w15).cell? ⟨w10.heap.size, 0, none⟩ = some (.slice cg0_0 r.1.1.length cg0_1) := HBK15_g0.out.cell 0
  have kg0_1 : (w15).cell? ⟨w10.heap.size, 1, none⟩ = some (.slice cg0_2 r.1.2.1.length cg0_3) := HBK15_g0.out.cell 1
  have kg0_2 : (w15).cell? ⟨w10.heap.size, 2, none⟩ = some (.slice cg0_4 r.1.2.2.1.length cg0_5) := HBK15_g0.out.cell 2
  have kg0_3 : (w15).cell? ⟨w10.heap.size, 3, none⟩ = some (.slice cg0_6 r.1.2.2.2.1.length cg0_7) := HBK15_g0.out.cell 3
  have kg0_4 : (w15).cell? ⟨w10.heap.size, 4, none⟩ = some (.int .i64 r.1.2.2.2.2) := HBK15_g0.out.cell 4
  have kg0_5 : (w15).cell? ⟨w10.heap.size, 5, none⟩ = some (.int .i64 r.2.1) := HBK15_g0.out.cell 5
  have kg0_6 : (w15).cell? ⟨w10.heap.size, 6, none⟩ = some (.int .i64 r.2.2) := HBK15_g0.out.cell 6
  rw [show decide (xOps = xOps) = true by simp]
  clear TCMP_15
  go_wp2_with fail
  refine (markDisk_v X0_15.out (1) (by omega)).mono ?_
  rintro e w16 ⟨rfl, ho16, hm16⟩
  clear X0_15
  clear kaD_0 kaD_1 kaD_2 kaD_3 kaD_4
  clear kw0_0 kw0_1 kw0_2 kw0_3 kw0_4 kw0_5 kw0_6
  clear kx0_0 kx0_1 kx0_2 kx0_3 kx0_4
  clear kg0_0 kg0_1 kg0_2 kg0_3 kg0_4 kg0_5 kg0_6
  have HBK16_aD := Sec.mk (HBK15_aD.out.mod hm16 (by omega))
  clear HBK15_aD
  have HBK16_w0 := Sec.mk (HBK15_w0.out.mod hm16 (by omega))
  clear HBK15_w0
  have HBK16_x0 := Sec.mk (HBK15_x0.out.mod hm16 (by omega))
  clear HBK15_x0
  have HBK16_g0 := Sec.mk (HBK15_g0.out.mod hm16 (by omega))
  clear HBK15_g0
  have W0_16 := Sec.mk (W0_15.out.keep hm16 (fun k h1 h2 h3 => by omega))
  clear W0_15
  have X1_16 := Sec.mk (X1_15.out.keep hm16 (fun k h1 h2 h3 => by omega))
  clear X1_15
  have G0_16 := Sec.mk (G0_15.out.keep hm16 (fun k h1 h2 h3 => by omega))
  clear G0_15
  have HM16 := Sec.mk (HM15.out.trans hm16 (fun i hi hlt => by omega))
  clear HM15
  have hs16 := hm16.size
  clear hm16
  have kaD_0 : (w16).cell? ⟨w.heap.size, 0, none⟩ = some (.slice caD_0 xD.1.length caD_1) := HBK16_aD.out.cell 0
  have kaD_1 : (w16).cell? ⟨w.heap.size, 1, none⟩ = some (.slice caD_2 xD.2.1.length caD_3) := HBK16_aD.out.cell 1
  have kaD_2 : (w16).cell? ⟨w.heap.size, 2, none⟩ = some (.slice caD_4 xD.2.2.1.length caD_5) := HBK16_aD.out.cell 2
  have kaD_3 : (w16).cell? ⟨w.heap.size, 3, none⟩ = some (.slice caD_6 xD.2.2.2.1.length caD_7) := HBK16_aD.out.cell 3
  have kaD_4 : (w16).cell? ⟨w.heap.size, 4, none⟩ = some (.int .i64 xD.2.2.2.2) := HBK16_aD.out.cell 4
  have kw0_0 : (w16).cell? ⟨w5.heap.size, 0, none⟩ = some (.slice cw0_0 r.1.1.length cw0_1) := HBK16_w0.out.cell 0
  have kw0_1 : (w16).cell? ⟨w5.heap.size, 1, none⟩ = some (.slice cw0_2 r.1.2.1.length cw0_3) := HBK16_w0.out.cell 1
  have kw0_2 : (w16).cell? ⟨w5.heap.size, 2, none⟩ = some (.slice cw0_4 r.1.2.2.1.length cw0_5) := HBK16_w0.out.cell 2
  have kw0_3 : (w16).cell? ⟨w5.heap.size, 3, none⟩ = some (.slice cw0_6 r.1.2.2.2.1.length cw0_7) := HBK16_w0.out.cell 3
  have kw0_4 : (w16).cell? ⟨w5.heap.size, 4, none⟩ = some (.int .i64 r.1.2.2.2.2) := HBK16_w0.out.cell 4
  have kw0_5 : (w16).cell? ⟨w5.heap.size, 5, none⟩ = some (.int .i64 r.2.1) := HBK16_w0.out.cell 5
  have kw0_6 : (w16).cell? ⟨w5.heap.size, 6, none⟩ = some (.int .i64 r.2.2) := HBK16_w0.out.cell 6
  have kx0_0 : (w16).cell? ⟨w7.heap.size, 0, none⟩ = some (.slice cx0_0 xD.1.length cx0_1) := HBK16_x0.out.cell 0
  have kx0_1 : (w16).cell? ⟨w7.heap.size, 1, none⟩ = some (.slice cx0_2 xD.2.1.length cx0_3) := HBK16_x0.out.cell 1
  have kx0_2 : (w16).cell? ⟨w7.heap.size, 2, none⟩ = some (.slice cx0_4 xD.2.2.1.length cx0_5) := HBK16_x0.out.cell 2
  have kx0_3 : (w16).cell? ⟨w7.heap.size, 3, none⟩ = some (.slice cx0_6 xD.2.2.2.1.length cx0_7) := HBK16_x0.out.cell 3
  have kx0_4 : (w16).cell? ⟨w7.heap.size, 4, none⟩ = some (.int .i64 xD.2.2.2.2) := HBK16_x0.out.cell 4
  have kg0_0 : (w16).cell? ⟨w10.heap.size, 0, none⟩ = some (.slice cg0_0 r.1.1.length cg0_1) := HBK16_g0.out.cell 0
  have kg0_1 : (w16).cell? ⟨w10.heap.size, 1, none⟩ = some (.slice cg0_2 r.1.2.1.length cg0_3) := HBK16_g0.out.cell 1
  have kg0_2 : (w16).cell? ⟨w10.heap.size, 2, none⟩ = some (.slice cg0_4 r.1.2.2.1.length cg0_5) := HBK16_g0.out.cell 2
  have kg0_3 : (w16).cell? ⟨w10.heap.size, 3, none⟩ = some (.slice cg0_6 r.1.2.2.2.1.length cg0_7) := HBK16_g0.out.cell 3
  have kg0_4 : (w16).cell? ⟨w10.heap.size, 4, none⟩ = some (.int .i64 r.1.2.2.2.2) := HBK16_g0.out.cell 4
  have kg0_5 : (w16).cell? ⟨w10.heap.size, 5, none⟩ = some (.int .i64 r.2.1) := HBK16_g0.out.cell 5
  have kg0_6 : (w16).cell? ⟨w10.heap.size, 6, none⟩ = some (.int .i64 r.2.2) := HBK16_g0.out.cell 6
  have X0_16 := Sec.mk ho16
  clear ho16
  go_wp2_with fail
  refine (markOpS_v X1_16.out (1 + cntDisk xD) (by omega)).mono ?_
  rintro e w17 ⟨rfl, ho17, hm17⟩
  clear X1_16
  clear kaD_0 kaD_1 kaD_2 kaD_3 kaD_4
  clear kw0_0 kw0_1 kw0_2 kw0_3 kw0_4 kw0_5 kw0_6
  clear kx0_0 kx0_1 kx0_2 kx0_3 kx0_4
  clear kg0_0 kg0_1 kg0_2 kg0_3 kg0_4 kg0_5 kg0_6
  have HBK17_aD := Sec.mk (HBK16_aD.out.mod hm17 (by omega))
  clear HBK16_aD
  have HBK17_w0 := Sec.mk (HBK16_w0.out.mod hm17 (by omega))
  clear HBK16_w0
  have HBK17_x0 := Sec.mk (HBK16_x0.out.mod hm17 (by omega))
  clear HBK16_x0
  have HBK17_g0 := Sec.mk (HBK16_g0.out.mod hm17 (by omega))
  clear HBK16_g0
  have W0_17 := Sec.mk (W0_16.out.keep hm17 (fun k h1 h2 h3 => by omega))
  clear W0_16
  have X0_17 := Sec.mk (X0_16.out.keep hm17 (fun k h1 h2 h3 => by omega))
  clear X0_16
  have G0_17 := Sec.mk (G0_16.out.keep hm17 (fun k h1 h2 h3 => by omega))
  clear G0_16
  have HM17 := Sec.mk (HM16.out.trans hm17 (fun i hi hlt => by omega))
  clear HM16
  have hs17 := hm17.size
  clear hm17
  have kaD_0 : (w17).cell? ⟨w.heap.size, 0, none⟩ = some (.slice caD_0 xD.1.length caD_1) := HBK17_aD.out.cell 0
  have kaD_1 : (w17).cell? ⟨w.heap.size, 1, none⟩ = some (.slice caD_2 xD.2.1.length caD_3) := HBK17_aD.out.cell 1
  have kaD_2 : (w17).cell? ⟨w.heap.size, 2, none⟩ = some (.slice caD_4 xD.2.2.1.length caD_5) := HBK17_aD.out.cell 2
  have kaD_3 : (w17).cell? ⟨w.heap.size, 3, none⟩ = some (.slice caD_6 xD.2.2.2.1.length caD_7) := HBK17_aD.out.cell 3
  have kaD_4 : (w17).cell? ⟨w.heap.size, 4, none⟩ = some (.int .i64 xD.2.2.2.2) := HBK17_aD.out.cell 4
  have kw0_0 : (w17).cell? ⟨w5.heap.size, 0, none⟩ = some (.slice cw0_0 r.1.1.length cw0_1) := HBK17_w0.out.cell 0
  have kw0_1 : (w17).cell? ⟨w5.heap.size, 1, none⟩ = some (.slice cw0_2 r.1.2.1.length cw0_3) := HBK17_w0.out.cell 1
  have kw0_2 : (w17).cell? ⟨w5.heap.size, 2, none⟩ = some (.slice cw0_4 r.1.2.2.1.length cw0_5) := HBK17_w0.out.cell 2
  have kw0_3 : (w17).cell? ⟨w5.heap.size, 3, none⟩ = some (.slice cw0_6 r.1.2.2.2.1.length cw0_7) := HBK17_w0.out.cell 3
  have kw0_4 : (w17).cell? ⟨w5.heap.size, 4, none⟩ = some (.int .i64 r.1.2.2.2.2) := HBK17_w0.out.cell 4
  have kw0_5 : (w17).cell? ⟨w5.heap.size, 5, none⟩ = some (.int .i64 r.2.1) := HBK17_w0.out.cell 5
  have kw0_6 : (w17).cell? ⟨w5.heap.size, 6, none⟩ = some (.int .i64 r.2.2) := HBK17_w0.out.cell 6
  have kx0_0 : (w17).cell? ⟨w7.heap.size, 0, none⟩ = some (.slice cx0_0 xD.1.length cx0_1) := HBK17_x0.out.cell 0
  have kx0_1 : (w17).cell? ⟨w7.heap.size, 1, none⟩ = some (.slice cx0_2 xD.2.1.length cx0_3) := HBK17_x0.out.cell 1
  have kx0_2 : (w17).cell? ⟨w7.heap.size, 2, none⟩ = some (.slice cx0_4 xD.2.2.1.length cx0_5) := HBK17_x0.out.cell 2
  have kx0_3 : (w17).cell? ⟨w7.heap.size, 3, none⟩ = some (.slice cx0_6 xD.2.2.2.1.length cx0_7) := HBK17_x0.out.cell 3
  have kx0_4 : (w17).cell? ⟨w7.heap.size, 4, none⟩ = some (.int .i64 xD.2.2.2.2) := HBK17_x0.out.cell 4
  have kg0_0 : (w17).cell? ⟨w10.heap.size, 0, none⟩ = some (.slice cg0_0 r.1.1.length cg0_1) := HBK17_g0.out.cell 0
  have kg0_1 : (w17).cell? ⟨w10.heap.size, 1, none⟩ = some (.slice cg0_2 r.1.2.1.length cg0_3) := HBK17_g0.out.cell 1
  have kg0_2 : (w17).cell? ⟨w10.heap.size, 2, none⟩ = some (.slice cg0_4 r.1.2.2.1.length cg0_5) := HBK17_g0.out.cell 2
  have kg0_3 : (w17).cell? ⟨w10.heap.size, 3, none⟩ = some (.slice cg0_6 r.1.2.2.2.1.length cg0_7) := HBK17_g0.out.cell 3
  have kg0_4 : (w17).cell? ⟨w10.heap.size, 4, none⟩ = some (.int .i64 r.1.2.2.2.2) := HBK17_g0.out.cell 4
  have kg0_5 : (w17).cell? ⟨w10.heap.size, 5, none⟩ = some (.int .i64 r.2.1) := HBK17_g0.out.cell 5
  have kg0_6 : (w17).cell? ⟨w10.heap.size, 6, none⟩ = some (.int .i64 r.2.2) := HBK17_g0.out.cell 6
  have X1_17 := Sec.mk ho17
  clear ho17
  go_wp2_with fail
  refine (eqDone_v G0_17.out.rd W0_17.out.rd).mono ?_
  rintro e w18 ⟨rfl, hm18⟩
  clear kaD_0 kaD_1 kaD_2 kaD_3 kaD_4
  clear kw0_0 kw0_1 kw0_2 kw0_3 kw0_4 kw0_5 kw0_6
  clear kx0_0 kx0_1 kx0_2 kx0_3 kx0_4
  clear kg0_0 kg0_1 kg0_2 kg0_3 kg0_4 kg0_5 kg0_6
  have HBK18_aD := Sec.mk (HBK17_aD.out.mod hm18 id)
  clear HBK17_aD
  have HBK18_w0 := Sec.mk (HBK17_w0.out.mod hm18 id)
  clear HBK17_w0
  have HBK18_x0 := Sec.mk (HBK17_x0.out.mod hm18 id)
  clear HBK17_x0
  have HBK18_g0 := Sec.mk (HBK17_g0.out.mod hm18 id)
  clear HBK17_g0
  have W0_18 := Sec.mk (W0_17.out.step hm18)
  clear W0_17
  have X0_18 := Sec.mk (X0_17.out.step hm18)
  clear X0_17
  have X1_18 := Sec.mk (X1_17.out.step hm18)
  clear X1_17
  have G0_18 := Sec.mk (G0_17.out.step hm18)
  clear G0_17
  have HM18 := Sec.mk (HM17.out.transN hm18)
  clear HM17
  have hs18 := hm18.size
  clear hm18
  have kaD_0 : (w18).cell? ⟨w.heap.size, 0, none⟩ = some (.slice caD_0 xD.1.length caD_1) := HBK18_aD.out.cell 0
  have kaD_1 : (w18).cell? ⟨w.heap.size, 1, none⟩ = some (.slice caD_2 xD.2.1.length caD_3) := HBK18_aD.out.cell 1
  have kaD_2 : (w18).cell? ⟨w.heap.size, 2, none⟩ = some (.slice caD_4 xD.2.2.1.length caD_5) := HBK18_aD.out.cell 2
  have kaD_3 : (w18).cell? ⟨w.heap.size, 3, none⟩ = some (.slice caD_6 xD.2.2.2.1.length caD_7) := HBK18_aD.out.cell 3
  have kaD_4 : (w18).cell? ⟨w.heap.size, 4, none⟩ = some (.int .i64 xD.2.2.2.2) := HBK18_aD.out.cell 4
  have kw0_0 : (w18).cell? ⟨w5.heap.size, 0, none⟩ = some (.slice cw0_0 r.1.1.length cw0_1) := HBK18_w0.out.cell 0
  have kw0_1 : (w18).cell? ⟨w5.heap.size, 1, none⟩ = some (.slice cw0_2 r.1.2.1.length cw0_3) := HBK18_w0.out.cell 1
  have kw0_2 : (w18).cell? ⟨w5.heap.size, 2, none⟩ = some (.slice cw0_4 r.1.2.2.1.length cw0_5) := HBK18_w0.out.cell 2
  have kw0_3 : (w18).cell? ⟨w5.heap.size, 3, none⟩ = some (.slice cw0_6 r.1.2.2.2.1.length cw0_7) := HBK18_w0.out.cell 3
  have kw0_4 : (w18).cell? ⟨w5.heap.size, 4, none⟩ = some (.int .i64 r.1.2.2.2.2) := HBK18_w0.out.cell 4
  have kw0_5 : (w18).cell? ⟨w5.heap.size, 5, none⟩ = some (.int .i64 r.2.1) := HBK18_w0.out.cell 5
  have kw0_6 : (w18).cell? ⟨w5.heap.size, 6, none⟩ = some (.int .i64 r.2.2) := HBK18_w0.out.cell 6
  have kx0_0 : (w18).cell? ⟨w7.heap.size, 0, none⟩ = some (.slice cx0_0 xD.1.length cx0_1) := HBK18_x0.out.cell 0
  have kx0_1 : (w18).cell? ⟨w7.heap.size, 1, none⟩ = some (.slice cx0_2 xD.2.1.length cx0_3) := HBK18_x0.out.cell 1
  have kx0_2 : (w18).cell? ⟨w7.heap.size, 2, none⟩ = some (.slice cx0_4 xD.2.2.1.length cx0_5) := HBK18_x0.out.cell 2
  have kx0_3 : (w18).cell? ⟨w7.heap.size, 3, none⟩ = some (.slice cx0_6 xD.2.2.2.1.length cx0_7) := HBK18_x0.out.cell 3
  have kx0_4 : (w18).cell? ⟨w7.heap.size, 4, none⟩ = some (.int .i64 xD.2.2.2.2) := HBK18_x0.out.cell 4
  have kg0_0 : (w18).cell? ⟨w10.heap.size, 0, none⟩ = some (.slice cg0_0 r.1.1.length cg0_1) := HBK18_g0.out.cell 0
  have kg0_1 : (w18).cell? ⟨w10.heap.size, 1, none⟩ = some (.slice cg0_2 r.1.2.1.length cg0_3) := HBK18_g0.out.cell 1
  have kg0_2 : (w18).cell? ⟨w10.heap.size, 2, none⟩ = some (.slice cg0_4 r.1.2.2.1.length cg0_5) := HBK18_g0.out.cell 2
  have kg0_3 : (w18).cell? ⟨w10.heap.size, 3, none⟩ = some (.slice cg0_6 r.1.2.2.2.1.length cg0_7) := HBK18_g0.out.cell 3
  have kg0_4 : (w18).cell? ⟨w10.heap.size, 4, none⟩ = some (.int .i64 r.1.2.2.2.2) := HBK18_g0.out.cell 4
  have kg0_5 : (w18).cell? ⟨w10.heap.size, 5, none⟩ = some (.int .i64 r.2.1) := HBK18_g0.out.cell 5
  have kg0_6 : (w18).cell? ⟨w10.heap.size, 6, none⟩ = some (.int .i64 r.2.2) := HBK18_g0.out.cell 6
  rw [show decide (r = r) = true by simp]
  go_wp2_with fail
  refine (markDone_v G0_18.out (1) (by omega)).mono ?_
  rintro e w19 ⟨rfl, ho19, hm19⟩
  clear G0_18
  clear kaD_0 kaD_1 kaD_2 kaD_3 kaD_4
  clear kw0_0 kw0_1 kw0_2 kw0_3 kw0_4 kw0_5 kw0_6
  clear kx0_0 kx0_1 kx0_2 kx0_3 kx0_4
  clear kg0_0 kg0_1 kg0_2 kg0_3 kg0_4 kg0_5 kg0_6
  have HBK19_aD := Sec.mk (HBK18_aD.out.mod hm19 (by omega))
  clear HBK18_aD
  have HBK19_w0 := Sec.mk (HBK18_w0.out.mod hm19 (by omega))
  clear HBK18_w0
  have HBK19_x0 := Sec.mk (HBK18_x0.out.mod hm19 (by omega))
  clear HBK18_x0
  have HBK19_g0 := Sec.mk (HBK18_g0.out.mod hm19 (by omega))
  clear HBK18_g0
  have W0_19 := Sec.mk (W0_18.out.keep hm19 (fun k h1 h2 h3 => by omega))
  clear W0_18
  have X0_19 := Sec.mk (X0_18.out.keep hm19 (fun k h1 h2 h3 => by omega))
  clear X0_18
  have X1_19 := Sec.mk (X1_18.out.keep hm19 (fun k h1 h2 h3 => by omega))
  clear X1_18
  have HM19 := Sec.mk (HM18.out.trans hm19 (fun i hi hlt => by omega))
  clear HM18
  have hs19 := hm19.size
  clear hm19
  have kaD_0 : (w19).cell? ⟨w.heap.size, 0, none⟩ = some (.slice caD_0 xD.1.length caD_1) := HBK19_aD.out.cell 0
  have kaD_1 : (w19).cell? ⟨w.heap.size, 1, none⟩ = some (.slice caD_2 xD.2.1.length caD_3) := HBK19_aD.out.cell 1
  have kaD_2 : (w19).cell? ⟨w.heap.size, 2, none⟩ = some (.slice caD_4 xD.2.2.1.length caD_5) := HBK19_aD.out.cell 2
  have kaD_3 : (w19).cell? ⟨w.heap.size, 3, none⟩ = some (.slice caD_6 xD.2.2.2.1.length caD_7) := HBK19_aD.out.cell 3
  have kaD_4 : (w19).cell? ⟨w.heap.size, 4, none⟩ = some (.int .i64 xD.2.2.2.2) := HBK19_aD.out.cell 4
  have kw0_0 : (w19).cell? ⟨w5.heap.size, 0, none⟩ = some (.slice cw0_0 r.1.1.length cw0_1) := HBK19_w0.out.cell 0
  have kw0_1 : (w19).cell? ⟨w5.heap.size, 1, none⟩ = some (.slice cw0_2 r.1.2.1.length cw0_3) := HBK19_w0.out.cell 1
  have kw0_2 : (w19).cell? ⟨w5.heap.size, 2, none⟩ = some (.slice cw0_4 r.1.2.2.1.length cw0_5) := HBK19_w0.out.cell 2
  have kw0_3 : (w19).cell? ⟨w5.heap.size, 3, none⟩ = some (.slice cw0_6 r.1.2.2.2.1.length cw0_7) := HBK19_w0.out.cell 3
  have kw0_4 : (w19).cell? ⟨w5.heap.size, 4, none⟩ = some (.int .i64 r.1.2.2.2.2) := HBK19_w0.out.cell 4
  have kw0_5 : (w19).cell? ⟨w5.heap.size, 5, none⟩ = some (.int .i64 r.2.1) := HBK19_w0.out.cell 5
  have kw0_6 : (w19).cell? ⟨w5.heap.size, 6, none⟩ = some (.int .i64 r.2.2) := HBK19_w0.out.cell 6
  have kx0_0 : (w19).cell? ⟨w7.heap.size, 0, none⟩ = some (.slice cx0_0 xD.1.length cx0_1) := HBK19_x0.out.cell 0
  have kx0_1 : (w19).cell? ⟨w7.heap.size, 1, none⟩ = some (.slice cx0_2 xD.2.1.length cx0_3) := HBK19_x0.out.cell 1
  have kx0_2 : (w19).cell? ⟨w7.heap.size, 2, none⟩ = some (.slice cx0_4 xD.2.2.1.length cx0_5) := HBK19_x0.out.cell 2
  have kx0_3 : (w19).cell? ⟨w7.heap.size, 3, none⟩ = some (.slice cx0_6 xD.2.2.2.1.length cx0_7) := HBK19_x0.out.cell 3
  have kx0_4 : (w19).cell? ⟨w7.heap.size, 4, none⟩ = some (.int .i64 xD.2.2.2.2) := HBK19_x0.out.cell 4
  have kg0_0 : (w19).cell? ⟨w10.heap.size, 0, none⟩ = some (.slice cg0_0 r.1.1.length cg0_1) := HBK19_g0.out.cell 0
  have kg0_1 : (w19).cell? ⟨w10.heap.size, 1, none⟩ = some (.slice cg0_2 r.1.2.1.length cg0_3) := HBK19_g0.out.cell 1
  have kg0_2 : (w19).cell? ⟨w10.heap.size, 2, none⟩ = some (.slice cg0_4 r.1.2.2.1.length cg0_5) := HBK19_g0.out.cell 2
  have kg0_3 : (w19).cell? ⟨w10.heap.size, 3, none⟩ = some (.slice cg0_6 r.1.2.2.2.1.length cg0_7) := HBK19_g0.out.cell 3
  have kg0_4 : (w19).cell? ⟨w10.heap.size, 4, none⟩ = some (.int .i64 r.1.2.2.2.2) := HBK19_g0.out.cell 4
  have kg0_5 : (w19).cell? ⟨w10.heap.size, 5, none⟩ = some (.int .i64 r.2.1) := HBK19_g0.out.cell 5
  have kg0_6 : (w19).cell? ⟨w10.heap.size, 6, none⟩ = some (.int .i64 r.2.2) := HBK19_g0.out.cell 6
  have G0_19 := Sec.mk ho19
  clear ho19
  have HX := Sec.mk (mkDone1_idem 1 1 r).symm
  have HK := Sec.mk (cntDone_mk 1 r)
  go_wp2_with fail
  refine (heldDone_v G0_19.out.rd 1 HX.out (by rw [HK.out]; omega)).mono ?_
  rintro e w20 ⟨rfl, hm20⟩
  rw [HK.out]
  clear kaD_0 kaD_1 kaD_2 kaD_3 kaD_4
  clear kw0_0 kw0_1 kw0_2 kw0_3 kw0_4 kw0_5 kw0_6
  clear kx0_0 kx0_1 kx0_2 kx0_3 kx0_4
  clear kg0_0 kg0_1 kg0_2 kg0_3 kg0_4 kg0_5 kg0_6
  have HBK20_aD := Sec.mk (HBK19_aD.out.mod hm20 id)
  clear HBK19_aD
  have HBK20_w0 := Sec.mk (HBK19_w0.out.mod hm20 id)
  clear HBK19_w0
  have HBK20_x0 := Sec.mk (HBK19_x0.out.mod hm20 id)
  clear HBK19_x0
  have HBK20_g0 := Sec.mk (HBK19_g0.out.mod hm20 id)
  clear HBK19_g0
  have W0_20 := Sec.mk (W0_19.out.step hm20)
  clear W0_19
  have X0_20 := Sec.mk (X0_19.out.step hm20)
  clear X0_19
  have X1_20 := Sec.mk (X1_19.out.step hm20)
  clear X1_19
  have G0_20 := Sec.mk (G0_19.out.step hm20)
  clear G0_19
  have HM20 := Sec.mk (HM19.out.transN hm20)
  clear HM19
  have hs20 := hm20.size
  clear hm20
  have kaD_0 : (w20).cell? ⟨w.heap.size, 0, none⟩ = some (.slice caD_0 xD.1.length caD_1) := HBK20_aD.out.cell 0
  have kaD_1 : (w20).cell? ⟨w.heap.size, 1, none⟩ = some (.slice caD_2 xD.2.1.length caD_3) := HBK20_aD.out.cell 1
  have kaD_2 : (w20).cell? ⟨w.heap.size, 2, none⟩ = some (.slice caD_4 xD.2.2.1.length caD_5) := HBK20_aD.out.cell 2
  have kaD_3 : (w20).cell? ⟨w.heap.size, 3, none⟩ = some (.slice caD_6 xD.2.2.2.1.length caD_7) := HBK20_aD.out.cell 3
  have kaD_4 : (w20).cell? ⟨w.heap.size, 4, none⟩ = some (.int .i64 xD.2.2.2.2) := HBK20_aD.out.cell 4
  have kw0_0 : (w20).cell? ⟨w5.heap.size, 0, none⟩ = some (.slice cw0_0 r.1.1.length cw0_1) := HBK20_w0.out.cell 0
  have kw0_1 : (w20).cell? ⟨w5.heap.size, 1, none⟩ = some (.slice cw0_2 r.1.2.1.length cw0_3) := HBK20_w0.out.cell 1
  have kw0_2 : (w20).cell? ⟨w5.heap.size, 2, none⟩ = some (.slice cw0_4 r.1.2.2.1.length cw0_5) := HBK20_w0.out.cell 2
  have kw0_3 : (w20).cell? ⟨w5.heap.size, 3, none⟩ = some (.slice cw0_6 r.1.2.2.2.1.length cw0_7) := HBK20_w0.out.cell 3
  have kw0_4 : (w20).cell? ⟨w5.heap.size, 4, none⟩ = some (.int .i64 r.1.2.2.2.2) := HBK20_w0.out.cell 4
  have kw0_5 : (w20).cell? ⟨w5.heap.size, 5, none⟩ = some (.int .i64 r.2.1) := HBK20_w0.out.cell 5
  have kw0_6 : (w20).cell? ⟨w5.heap.size, 6, none⟩ = some (.int .i64 r.2.2) := HBK20_w0.out.cell 6
  have kx0_0 : (w20).cell? ⟨w7.heap.size, 0, none⟩ = some (.slice cx0_0 xD.1.length cx0_1) := HBK20_x0.out.cell 0
  have kx0_1 : (w20).cell? ⟨w7.heap.size, 1, none⟩ = some (.slice cx0_2 xD.2.1.length cx0_3) := HBK20_x0.out.cell 1
  have kx0_2 : (w20).cell? ⟨w7.heap.size, 2, none⟩ = some (.slice cx0_4 xD.2.2.1.length cx0_5) := HBK20_x0.out.cell 2
  have kx0_3 : (w20).cell? ⟨w7.heap.size, 3, none⟩ = some (.slice cx0_6 xD.2.2.2.1.length cx0_7) := HBK20_x0.out.cell 3
  have kx0_4 : (w20).cell? ⟨w7.heap.size, 4, none⟩ = some (.int .i64 xD.2.2.2.2) := HBK20_x0.out.cell 4
  have kg0_0 : (w20).cell? ⟨w10.heap.size, 0, none⟩ = some (.slice cg0_0 r.1.1.length cg0_1) := HBK20_g0.out.cell 0
  have kg0_1 : (w20).cell? ⟨w10.heap.size, 1, none⟩ = some (.slice cg0_2 r.1.2.1.length cg0_3) := HBK20_g0.out.cell 1
  have kg0_2 : (w20).cell? ⟨w10.heap.size, 2, none⟩ = some (.slice cg0_4 r.1.2.2.1.length cg0_5) := HBK20_g0.out.cell 2
  have kg0_3 : (w20).cell? ⟨w10.heap.size, 3, none⟩ = some (.slice cg0_6 r.1.2.2.2.1.length cg0_7) := HBK20_g0.out.cell 3
  have kg0_4 : (w20).cell? ⟨w10.heap.size, 4, none⟩ = some (.int .i64 r.1.2.2.2.2) := HBK20_g0.out.cell 4
  have kg0_5 : (w20).cell? ⟨w10.heap.size, 5, none⟩ = some (.int .i64 r.2.1) := HBK20_g0.out.cell 5
  have kg0_6 : (w20).cell? ⟨w10.heap.size, 6, none⟩ = some (.int .i64 r.2.2) := HBK20_g0.out.cell 6
  go_wp2_with fail
  refine (toDisk_v (HRaD.out.step HM20.out) hb0).mono ?_
  rintro e w21 ⟨v21, rfl, ho21, hm21⟩
  clear kaD_0 kaD_1 kaD_2 kaD_3 kaD_4
  clear kw0_0 kw0_1 kw0_2 kw0_3 kw0_4 kw0_5 kw0_6
  clear kx0_0 kx0_1 kx0_2 kx0_3 kx0_4
  clear kg0_0 kg0_1 kg0_2 kg0_3 kg0_4 kg0_5 kg0_6
  have HBK21_aD := Sec.mk (HBK20_aD.out.mod hm21 id)
  clear HBK20_aD
  have HBK21_w0 := Sec.mk (HBK20_w0.out.mod hm21 id)
  clear HBK20_w0
  have HBK21_x0 := Sec.mk (HBK20_x0.out.mod hm21 id)
  clear HBK20_x0
  have HBK21_g0 := Sec.mk (HBK20_g0.out.mod hm21 id)
  clear HBK20_g0
  have W0_21 := Sec.mk (W0_20.out.step hm21)
  clear W0_20
  have X0_21 := Sec.mk (X0_20.out.step hm21)
  clear X0_20
  have X1_21 := Sec.mk (X1_20.out.step hm21)
  clear X1_20
  have G0_21 := Sec.mk (G0_20.out.step hm21)
  clear G0_20
  have HM21 := Sec.mk (HM20.out.transN hm21)
  clear HM20
  have hs21 := hm21.size
  clear hm21
  have kaD_0 : (w21).cell? ⟨w.heap.size, 0, none⟩ = some (.slice caD_0 xD.1.length caD_1) := HBK21_aD.out.cell 0
  have kaD_1 : (w21).cell? ⟨w.heap.size, 1, none⟩ = some (.slice caD_2 xD.2.1.length caD_3) := HBK21_aD.out.cell 1
  have kaD_2 : (w21).cell? ⟨w.heap.size, 2, none⟩ = some (.slice caD_4 xD.2.2.1.length caD_5) := HBK21_aD.out.cell 2
  have kaD_3 : (w21).cell? ⟨w.heap.size, 3, none⟩ = some (.slice caD_6 xD.2.2.2.1.length caD_7) := HBK21_aD.out.cell 3
  have kaD_4 : (w21).cell? ⟨w.heap.size, 4, none⟩ = some (.int .i64 xD.2.2.2.2) := HBK21_aD.out.cell 4
  have kw0_0 : (w21).cell? ⟨w5.heap.size, 0, none⟩ = some (.slice cw0_0 r.1.1.length cw0_1) := HBK21_w0.out.cell 0
  have kw0_1 : (w21).cell? ⟨w5.heap.size, 1, none⟩ = some (.slice cw0_2 r.1.2.1.length cw0_3) := HBK21_w0.out.cell 1
  have kw0_2 : (w21).cell? ⟨w5.heap.size, 2, none⟩ = some (.slice cw0_4 r.1.2.2.1.length cw0_5) := HBK21_w0.out.cell 2
  have kw0_3 : (w21).cell? ⟨w5.heap.size, 3, none⟩ = some (.slice cw0_6 r.1.2.2.2.1.length cw0_7) := HBK21_w0.out.cell 3
  have kw0_4 : (w21).cell? ⟨w5.heap.size, 4, none⟩ = some (.int .i64 r.1.2.2.2.2) := HBK21_w0.out.cell 4
  have kw0_5 : (w21).cell? ⟨w5.heap.size, 5, none⟩ = some (.int .i64 r.2.1) := HBK21_w0.out.cell 5
  have kw0_6 : (w21).cell? ⟨w5.heap.size, 6, none⟩ = some (.int .i64 r.2.2) := HBK21_w0.out.cell 6
  have kx0_0 : (w21).cell? ⟨w7.heap.size, 0, none⟩ = some (.slice cx0_0 xD.1.length cx0_1) := HBK21_x0.out.cell 0
  have kx0_1 : (w21).cell? ⟨w7.heap.size, 1, none⟩ = some (.slice cx0_2 xD.2.1.length cx0_3) := HBK21_x0.out.cell 1
  have kx0_2 : (w21).cell? ⟨w7.heap.size, 2, none⟩ = some (.slice cx0_4 xD.2.2.1.length cx0_5) := HBK21_x0.out.cell 2
  have kx0_3 : (w21).cell? ⟨w7.heap.size, 3, none⟩ = some (.slice cx0_6 xD.2.2.2.1.length cx0_7) := HBK21_x0.out.cell 3
  have kx0_4 : (w21).cell? ⟨w7.heap.size, 4, none⟩ = some (.int .i64 xD.2.2.2.2) := HBK21_x0.out.cell 4
  have kg0_0 : (w21).cell? ⟨w10.heap.size, 0, none⟩ = some (.slice cg0_0 r.1.1.length cg0_1) := HBK21_g0.out.cell 0
  have kg0_1 : (w21).cell? ⟨w10.heap.size, 1, none⟩ = some (.slice cg0_2 r.1.2.1.length cg0_3) := HBK21_g0.out.cell 1
  have kg0_2 : (w21).cell? ⟨w10.heap.size, 2, none⟩ = some (.slice cg0_4 r.1.2.2.1.length cg0_5) := HBK21_g0.out.cell 2
  have kg0_3 : (w21).cell? ⟨w10.heap.size, 3, none⟩ = some (.slice cg0_6 r.1.2.2.2.1.length cg0_7) := HBK21_g0.out.cell 3
  have kg0_4 : (w21).cell? ⟨w10.heap.size, 4, none⟩ = some (.int .i64 r.1.2.2.2.2) := HBK21_g0.out.cell 4
  have kg0_5 : (w21).cell? ⟨w10.heap.size, 5, none⟩ = some (.int .i64 r.2.1) := HBK21_g0.out.cell 5
  have kg0_6 : (w21).cell? ⟨w10.heap.size, 6, none⟩ = some (.int .i64 r.2.2) := HBK21_g0.out.cell 6
  have TDH0_21 := Sec.mk ho21
  clear ho21
  go_wp2_with fail
  refine (toOpS_v (HRaOps.out.step HM21.out) hb1).mono ?_
  rintro e w22 ⟨v22, rfl, ho22, hm22⟩
  clear kaD_0 kaD_1 kaD_2 kaD_3 kaD_4
  clear kw0_0 kw0_1 kw0_2 kw0_3 kw0_4 kw0_5 kw0_6
  clear kx0_0 kx0_1 kx0_2 kx0_3 kx0_4
  clear kg0_0 kg0_1 kg0_2 kg0_3 kg0_4 kg0_5 kg0_6
  have HBK22_aD := Sec.mk (HBK21_aD.out.mod hm22 id)
  clear HBK21_aD
  have HBK22_w0 := Sec.mk (HBK21_w0.out.mod hm22 id)
  clear HBK21_w0
  have HBK22_x0 := Sec.mk (HBK21_x0.out.mod hm22 id)
  clear HBK21_x0
  have HBK22_g0 := Sec.mk (HBK21_g0.out.mod hm22 id)
  clear HBK21_g0
  have W0_22 := Sec.mk (W0_21.out.step hm22)
  clear W0_21
  have X0_22 := Sec.mk (X0_21.out.step hm22)
  clear X0_21
  have X1_22 := Sec.mk (X1_21.out.step hm22)
  clear X1_21
  have G0_22 := Sec.mk (G0_21.out.step hm22)
  clear G0_21
  have TDH0_22 := Sec.mk (TDH0_21.out.step hm22)
  clear TDH0_21
  have HM22 := Sec.mk (HM21.out.transN hm22)
  clear HM21
  have hs22 := hm22.size
  clear hm22
  have kaD_0 : (w22).cell? ⟨w.heap.size, 0, none⟩ = some (.slice caD_0 xD.1.length caD_1) := HBK22_aD.out.cell 0
  have kaD_1 : (w22).cell? ⟨w.heap.size, 1, none⟩ = some (.slice caD_2 xD.2.1.length caD_3) := HBK22_aD.out.cell 1
  have kaD_2 : (w22).cell? ⟨w.heap.size, 2, none⟩ = some (.slice caD_4 xD.2.2.1.length caD_5) := HBK22_aD.out.cell 2
  have kaD_3 : (w22).cell? ⟨w.heap.size, 3, none⟩ = some (.slice caD_6 xD.2.2.2.1.length caD_7) := HBK22_aD.out.cell 3
  have kaD_4 : (w22).cell? ⟨w.heap.size, 4, none⟩ = some (.int .i64 xD.2.2.2.2) := HBK22_aD.out.cell 4
  have kw0_0 : (w22).cell? ⟨w5.heap.size, 0, none⟩ = some (.slice cw0_0 r.1.1.length cw0_1) := HBK22_w0.out.cell 0
  have kw0_1 : (w22).cell? ⟨w5.heap.size, 1, none⟩ = some (.slice cw0_2 r.1.2.1.length cw0_3) := HBK22_w0.out.cell 1
  have kw0_2 : (w22).cell? ⟨w5.heap.size, 2, none⟩ = some (.slice cw0_4 r.1.2.2.1.length cw0_5) := HBK22_w0.out.cell 2
  have kw0_3 : (w22).cell? ⟨w5.heap.size, 3, none⟩ = some (.slice cw0_6 r.1.2.2.2.1.length cw0_7) := HBK22_w0.out.cell 3
  have kw0_4 : (w22).cell? ⟨w5.heap.size, 4, none⟩ = some (.int .i64 r.1.2.2.2.2) := HBK22_w0.out.cell 4
  have kw0_5 : (w22).cell? ⟨w5.heap.size, 5, none⟩ = some (.int .i64 r.2.1) := HBK22_w0.out.cell 5
  have kw0_6 : (w22).cell? ⟨w5.heap.size, 6, none⟩ = some (.int .i64 r.2.2) := HBK22_w0.out.cell 6
  have kx0_0 : (w22).cell? ⟨w7.heap.size, 0, none⟩ = some (.slice cx0_0 xD.1.length cx0_1) := HBK22_x0.out.cell 0
  have kx0_1 : (w22).cell? ⟨w7.heap.size, 1, none⟩ = some (.slice cx0_2 xD.2.1.length cx0_3) := HBK22_x0.out.cell 1
  have kx0_2 : (w22).cell? ⟨w7.heap.size, 2, none⟩ = some (.slice cx0_4 xD.2.2.1.length cx0_5) := HBK22_x0.out.cell 2
  have kx0_3 : (w22).cell? ⟨w7.heap.size, 3, none⟩ = some (.slice cx0_6 xD.2.2.2.1.length cx0_7) := HBK22_x0.out.cell 3
  have kx0_4 : (w22).cell? ⟨w7.heap.size, 4, none⟩ = some (.int .i64 xD.2.2.2.2) := HBK22_x0.out.cell 4
  have kg0_0 : (w22).cell? ⟨w10.heap.size, 0, none⟩ = some (.slice cg0_0 r.1.1.length cg0_1) := HBK22_g0.out.cell 0
  have kg0_1 : (w22).cell? ⟨w10.heap.size, 1, none⟩ = some (.slice cg0_2 r.1.2.1.length cg0_3) := HBK22_g0.out.cell 1
  have kg0_2 : (w22).cell? ⟨w10.heap.size, 2, none⟩ = some (.slice cg0_4 r.1.2.2.1.length cg0_5) := HBK22_g0.out.cell 2
  have kg0_3 : (w22).cell? ⟨w10.heap.size, 3, none⟩ = some (.slice cg0_6 r.1.2.2.2.1.length cg0_7) := HBK22_g0.out.cell 3
  have kg0_4 : (w22).cell? ⟨w10.heap.size, 4, none⟩ = some (.int .i64 r.1.2.2.2.2) := HBK22_g0.out.cell 4
  have kg0_5 : (w22).cell? ⟨w10.heap.size, 5, none⟩ = some (.int .i64 r.2.1) := HBK22_g0.out.cell 5
  have kg0_6 : (w22).cell? ⟨w10.heap.size, 6, none⟩ = some (.int .i64 r.2.2) := HBK22_g0.out.cell 6
  have TOPSH0_22 := Sec.mk ho22
  clear ho22
  go_wp2_with fail
  refine (implDiskDo_v TDH0_22.out.rd TOPSH0_22.out.rd hb0 hb1 (HENV.out.new HM22.out)).mono ?_
  rw [HFN.out]
  rintro e w23 ⟨v23, rfl, ho23, hm23⟩
  clear kaD_0 kaD_1 kaD_2 kaD_3 kaD_4
  clear kw0_0 kw0_1 kw0_2 kw0_3 kw0_4 kw0_5 kw0_6
  clear kx0_0 kx0_1 kx0_2 kx0_3 kx0_4
  clear kg0_0 kg0_1 kg0_2 kg0_3 kg0_4 kg0_5 kg0_6
  have HBK23_aD := Sec.mk (HBK22_aD.out.mod hm23 id)
  clear HBK22_aD
  have HBK23_w0 := Sec.mk (HBK22_w0.out.mod hm23 id)
  clear HBK22_w0
  have HBK23_x0 := Sec.mk (HBK22_x0.out.mod hm23 id)
  clear HBK22_x0
  have HBK23_g0 := Sec.mk (HBK22_g0.out.mod hm23 id)
  clear HBK22_g0
  have W0_23 := Sec.mk (W0_22.out.step hm23)
  clear W0_22
  have X0_23 := Sec.mk (X0_22.out.step hm23)
  clear X0_22
  have X1_23 := Sec.mk (X1_22.out.step hm23)
  clear X1_22
  have G0_23 := Sec.mk (G0_22.out.step hm23)
  clear G0_22
  have TDH0_23 := Sec.mk (TDH0_22.out.step hm23)
  clear TDH0_22
  have TOPSH0_23 := Sec.mk (TOPSH0_22.out.step hm23)
  clear TOPSH0_22
  have HM23 := Sec.mk (HM22.out.transN hm23)
  clear HM22
  have hs23 := hm23.size
  clear hm23
  have kaD_0 : (w23).cell? ⟨w.heap.size, 0, none⟩ = some (.slice caD_0 xD.1.length caD_1) := HBK23_aD.out.cell 0
  have kaD_1 : (w23).cell? ⟨w.heap.size, 1, none⟩ = some (.slice caD_2 xD.2.1.length caD_3) := HBK23_aD.out.cell 1
  have kaD_2 : (w23).cell? ⟨w.heap.size, 2, none⟩ = some (.slice caD_4 xD.2.2.1.length caD_5) := HBK23_aD.out.cell 2
  have kaD_3 : (w23).cell? ⟨w.heap.size, 3, none⟩ = some (.slice caD_6 xD.2.2.2.1.length caD_7) := HBK23_aD.out.cell 3
  have kaD_4 : (w23).cell? ⟨w.heap.size, 4, none⟩ = some (.int .i64 xD.2.2.2.2) := HBK23_aD.out.cell 4
  have kw0_0 : (w23).cell? ⟨w5.heap.size, 0, none⟩ = some (.slice cw0_0 r.1.1.length cw0_1) := HBK23_w0.out.cell 0
  have kw0_1 : (w23).cell? ⟨w5.heap.size, 1, none⟩ = some (.slice cw0_2 r.1.2.1.length cw0_3) := HBK23_w0.out.cell 1
  have kw0_2 : (w23).cell? ⟨w5.heap.size, 2, none⟩ = some (.slice cw0_4 r.1.2.2.1.length cw0_5) := HBK23_w0.out.cell 2
  have kw0_3 : (w23).cell? ⟨w5.heap.size, 3, none⟩ = some (.slice cw0_6 r.1.2.2.2.1.length cw0_7) := HBK23_w0.out.cell 3
  have kw0_4 : (w23).cell? ⟨w5.heap.size, 4, none⟩ = some (.int .i64 r.1.2.2.2.2) := HBK23_w0.out.cell 4
  have kw0_5 : (w23).cell? ⟨w5.heap.size, 5, none⟩ = some (.int .i64 r.2.1) := HBK23_w0.out.cell 5
  have kw0_6 : (w23).cell? ⟨w5.heap.size, 6, none⟩ = some (.int .i64 r.2.2) := HBK23_w0.out.cell 6
  have kx0_0 : (w23).cell? ⟨w7.heap.size, 0, none⟩ = some (.slice cx0_0 xD.1.length cx0_1) := HBK23_x0.out.cell 0
  have kx0_1 : (w23).cell? ⟨w7.heap.size, 1, none⟩ = some (.slice cx0_2 xD.2.1.length cx0_3) := HBK23_x0.out.cell 1
  have kx0_2 : (w23).cell? ⟨w7.heap.size, 2, none⟩ = some (.slice cx0_4 xD.2.2.1.length cx0_5) := HBK23_x0.out.cell 2
  have kx0_3 : (w23).cell? ⟨w7.heap.size, 3, none⟩ = some (.slice cx0_6 xD.2.2.2.1.length cx0_7) := HBK23_x0.out.cell 3
  have kx0_4 : (w23).cell? ⟨w7.heap.size, 4, none⟩ = some (.int .i64 xD.2.2.2.2) := HBK23_x0.out.cell 4
  have kg0_0 : (w23).cell? ⟨w10.heap.size, 0, none⟩ = some (.slice cg0_0 r.1.1.length cg0_1) := HBK23_g0.out.cell 0
  have kg0_1 : (w23).cell? ⟨w10.heap.size, 1, none⟩ = some (.slice cg0_2 r.1.2.1.length cg0_3) := HBK23_g0.out.cell 1
  have kg0_2 : (w23).cell? ⟨w10.heap.size, 2, none⟩ = some (.slice cg0_4 r.1.2.2.1.length cg0_5) := HBK23_g0.out.cell 2
  have kg0_3 : (w23).cell? ⟨w10.heap.size, 3, none⟩ = some (.slice cg0_6 r.1.2.2.2.1.length cg0_7) := HBK23_g0.out.cell 3
  have kg0_4 : (w23).cell? ⟨w10.heap.size, 4, none⟩ = some (.int .i64 r.1.2.2.2.2) := HBK23_g0.out.cell 4
  have kg0_5 : (w23).cell? ⟨w10.heap.size, 5, none⟩ = some (.int .i64 r.2.1) := HBK23_g0.out.cell 5
  have kg0_6 : (w23).cell? ⟨w10.heap.size, 6, none⟩ = some (.int .i64 r.2.2) := HBK23_g0.out.cell 6
  have H0_23 := Sec.mk ho23
  clear ho23
  obtain ⟨ch0_0, ch0_1, ch0_2, ch0_3, ch0_4, ch0_5, ch0_6, ch0_7, rfl⟩ := cellsDone H0_23.out.rd
  have hma23 := ((Mod.refl (fun _ => False) w23).alloc (.cells #[.slice ch0_0 r.1.1.length ch0_1, .slice ch0_2 r.1.2.1.length ch0_3, .slice ch0_4 r.1.2.2.1.length ch0_5, .slice ch0_6 r.1.2.2.2.1.length ch0_7, .int .i64 r.1.2.2.2.2, .int .i64 r.2.1, .int .i64 r.2.2] 36))
  clear kaD_0 kaD_1 kaD_2 kaD_3 kaD_4
  clear kw0_0 kw0_1 kw0_2 kw0_3 kw0_4 kw0_5 kw0_6
  clear kx0_0 kx0_1 kx0_2 kx0_3 kx0_4
  clear kg0_0 kg0_1 kg0_2 kg0_3 kg0_4 kg0_5 kg0_6
  have HBK24_aD := Sec.mk (HBK23_aD.out.mod hma23 id)
  clear HBK23_aD
  have HBK24_w0 := Sec.mk (HBK23_w0.out.mod hma23 id)
  clear HBK23_w0
  have HBK24_x0 := Sec.mk (HBK23_x0.out.mod hma23 id)
  clear HBK23_x0
  have HBK24_g0 := Sec.mk (HBK23_g0.out.mod hma23 id)
  clear HBK23_g0
  have W0_24 := Sec.mk (W0_23.out.step hma23)
  clear W0_23
  have X0_24 := Sec.mk (X0_23.out.step hma23)
  clear X0_23
  have X1_24 := Sec.mk (X1_23.out.step hma23)
  clear X1_23
  have G0_24 := Sec.mk (G0_23.out.step hma23)
  clear G0_23
  have TDH0_24 := Sec.mk (TDH0_23.out.step hma23)
  clear TDH0_23
  have TOPSH0_24 := Sec.mk (TOPSH0_23.out.step hma23)
  clear TOPSH0_23
  have H0_24 := Sec.mk (H0_23.out.step hma23)
  clear H0_23
  have HM24 := Sec.mk (HM23.out.transN hma23)
  clear HM23
  have hs24 := hma23.size
  clear hma23
  have kaD_0 : (w23.alloc (.cells #[.slice ch0_0 r.1.1.length ch0_1, .slice ch0_2 r.1.2.1.length ch0_3, .slice ch0_4 r.1.2.2.1.length ch0_5, .slice ch0_6 r.1.2.2.2.1.length ch0_7, .int .i64 r.1.2.2.2.2, .int .i64 r.2.1, .int .i64 r.2.2] 36)).cell? ⟨w.heap.size, 0, none⟩ = some (.slice caD_0 xD.1.length caD_1) := HBK24_aD.out.cell 0
  have kaD_1 : (w23.alloc (.cells #[.slice ch0_0 r.1.1.length ch0_1, .slice ch0_2 r.1.2.1.length ch0_3, .slice ch0_4 r.1.2.2.1.length ch0_5, .slice ch0_6 r.1.2.2.2.1.length ch0_7, .int .i64 r.1.2.2.2.2, .int .i64 r.2.1, .int .i64 r.2.2] 36)).cell? ⟨w.heap.size, 1, none⟩ = some (.slice caD_2 xD.2.1.length caD_3) := HBK24_aD.out.cell 1
  have kaD_2 : (w23.alloc (.cells #[.slice ch0_0 r.1.1.length ch0_1, .slice ch0_2 r.1.2.1.length ch0_3, .slice ch0_4 r.1.2.2.1.length ch0_5, .slice ch0_6 r.1.2.2.2.1.length ch0_7, .int .i64 r.1.2.2.2.2, .int .i64 r.2.1, .int .i64 r.2.2] 36)).cell? ⟨w.heap.size, 2, none⟩ = some (.slice caD_4 xD.2.2.1.length caD_5) := HBK24_aD.out.cell 2
  have kaD_3 : (w23.alloc (.cells #[.slice ch0_0 r.1.1.length ch0_1, .slice ch0_2 r.1.2.1.length ch0_3, .slice ch0_4 r.1.2.2.1.length ch0_5, .slice ch0_6 r.1.2.2.2.1.length ch0_7, .int .i64 r.1.2.2.2.2, .int .i64 r.2.1, .int .i64 r.2.2] 36)).cell? ⟨w.heap.size, 3, none⟩ = some (.slice caD_6 xD.2.2.2.1.length caD_7) := HBK24_aD.out.cell 3
  have kaD_4 : (w23.alloc (.cells #[.slice ch0_0 r.1.1.length ch0_1, .slice ch0_2 r.1.2.1.length ch0_3, .slice ch0_4 r.1.2.2.1.length ch0_5, .slice ch0_6 r.1.2.2.2.1.length ch0_7, .int .i64 r.1.2.2.2.2, .int .i64 r.2.1, .int .i64 r.2.2] 36)).cell? ⟨w.heap.size, 4, none⟩ = some (.int .i64 xD.2.2.2.2) := HBK24_aD.out.cell 4
  have kw0_0 : (w23.alloc (.cells #[.slice ch0_0 r.1.1.length ch0_1, .slice ch0_2 r.1.2.1.length ch0_3, .slice ch0_4 r.1.2.2.1.length ch0_5, .slice ch0_6 r.1.2.2.2.1.length ch0_7, .int .i64 r.1.2.2.2.2, .int .i64 r.2.1, .int .i64 r.2.2] 36)).cell? ⟨w5.heap.size, 0, none⟩ = some (.slice cw0_0 r.1.1.length cw0_1) := HBK24_w0.out.cell 0
  have kw0_1 : (w23.alloc (.cells #[.slice ch0_0 r.1.1.length ch0_1, .slice ch0_2 r.1.2.1.length ch0_3, .slice ch0_4 r.1.2.2.1.length ch0_5, .slice ch0_6 r.1.2.2.2.1.length ch0_7, .int .i64 r.1.2.2.2.2, .int .i64 r.2.1, .int .i64 r.2.2] 36)).cell? ⟨w5.heap.size, 1, none⟩ = some (.slice cw0_2 r.1.2.1.length cw0_3) := HBK24_w0.out.cell 1
  have kw0_2 : (w23.alloc (.cells #[.slice ch0_0 r.1.1.length ch0_1, .slice ch0_2 r.1.2.1.length ch0_3, .slice ch0_4 r.1.2.2.1.length ch0_5, .slice ch0_6 r.1.2.2.2.1.length ch0_7, .int .i64 r.1.2.2.2.2, .int .i64 r.2.1, .int .i64 r.2.2] 36)).cell? ⟨w5.heap.size, 2, none⟩ = some (.slice cw0_4 r.1.2.2.1.length cw0_5) := HBK24_w0.out.cell 2
  have kw0_3 : (w23.alloc (.cells #[.slice ch0_0 r.1.1.length ch0_1, .slice ch0_2 r.1.2.1.length ch0_3, .slice ch0_4 r.1.2.2.1.length ch0_5, .slice ch0_6 r.1.2.2.2.1.length ch0_7, .int .i64 r.1.2.2.2.2, .int .i64 r.2.1, .int .i64 r.2.2] 36)).cell? ⟨w5.heap.size, 3, none⟩ = some (.slice cw0_6 r.1.2.2.2.1.length cw0_7) := HBK24_w0.out.cell 3
  have kw0_4 : (w23.alloc (.cells #[.slice ch0_0 r.1.1.length ch0_1, .slice ch0_2 r.1.2.1.length ch0_3, .slice ch0_4 r.1.2.2.1.length ch0_5, .slice ch0_6 r.1.2.2.2.1.length ch0_7, .int .i64 r.1.2.2.2.2, .int .i64 r.2.1, .int .i64 r.2.2] 36)).cell? ⟨w5.heap.size, 4, none⟩ = some (.int .i64 r.1.2.2.2.2) := HBK24_w0.out.cell 4
  have kw0_5 : (w23.alloc (.cells #[.slice ch0_0 r.1.1.length ch0_1, .slice ch0_2 r.1.2.1.length ch0_3, .slice ch0_4 r.1.2.2.1.length ch0_5, .slice ch0_6 r.1.2.2.2.1.length ch0_7, .int .i64 r.1.2.2.2.2, .int .i64 r.2.1, .int .i64 r.2.2] 36)).cell? ⟨w5.heap.size, 5, none⟩ = some (.int .i64 r.2.1) := HBK24_w0.out.cell 5
  have kw0_6 : (w23.alloc (.cells #[.slice ch0_0 r.1.1.length ch0_1, .slice ch0_2 r.1.2.1.length ch0_3, .slice ch0_4 r.1.2.2.1.length ch0_5, .slice ch0_6 r.1.2.2.2.1.length ch0_7, .int .i64 r.1.2.2.2.2, .int .i64 r.2.1, .int .i64 r.2.2] 36)).cell? ⟨w5.heap.size, 6, none⟩ = some (.int .i64 r.2.2) := HBK24_w0.out.cell 6
  have kx0_0 : (w23.alloc (.cells #[.slice ch0_0 r.1.1.length ch0_1, .slice ch0_2 r.1.2.1.length ch0_3, .slice ch0_4 r.1.2.2.1.length ch0_5, .slice ch0_6 r.1.2.2.2.1.length ch0_7, .int .i64 r.1.2.2.2.2, .int .i64 r.2.1, .int .i64 r.2.2] 36)).cell? ⟨w7.heap.size, 0, none⟩ = some (.slice cx0_0 xD.1.length cx0_1) := HBK24_x0.out.cell 0
  have kx0_1 : (w23.alloc (.cells #[.slice ch0_0 r.1.1.length ch0_1, .slice ch0_2 r.1.2.1.length ch0_3, .slice ch0_4 r.1.2.2.1.length ch0_5, .slice ch0_6 r.1.2.2.2.1.length ch0_7, .int .i64 r.1.2.2.2.2, .int .i64 r.2.1, .int .i64 r.2.2] 36)).cell? ⟨w7.heap.size, 1, none⟩ = some (.slice cx0_2 xD.2.1.length cx0_3) := HBK24_x0.out.cell 1
  have kx0_2 : (w23.alloc (.cells #[.slice ch0_0 r.1.1.length ch0_1, .slice ch0_2 r.1.2.1.length ch0_3, .slice ch0_4 r.1.2.2.1.length ch0_5, .slice ch0_6 r.1.2.2.2.1.length ch0_7, .int .i64 r.1.2.2.2.2, .int .i64 r.2.1, .int .i64 r.2.2] 36)).cell? ⟨w7.heap.size, 2, none⟩ = some (.slice cx0_4 xD.2.2.1.length cx0_5) := HBK24_x0.out.cell 2
  have kx0_3 : (w23.alloc (.cells #[.slice ch0_0 r.1.1.length ch0_1, .slice ch0_2 r.1.2.1.length ch0_3, .slice ch0_4 r.1.2.2.1.length ch0_5, .slice ch0_6 r.1.2.2.2.1.length ch0_7, .int .i64 r.1.2.2.2.2, .int .i64 r.2.1, .int .i64 r.2.2] 36)).cell? ⟨w7.heap.size, 3, none⟩ = some (.slice cx0_6 xD.2.2.2.1.length cx0_7) := HBK24_x0.out.cell 3
  have kx0_4 : (w23.alloc (.cells #[.slice ch0_0 r.1.1.length ch0_1, .slice ch0_2 r.1.2.1.length ch0_3, .slice ch0_4 r.1.2.2.1.length ch0_5, .slice ch0_6 r.1.2.2.2.1.length ch0_7, .int .i64 r.1.2.2.2.2, .int .i64 r.2.1, .int .i64 r.2.2] 36)).cell? ⟨w7.heap.size, 4, none⟩ = some (.int .i64 xD.2.2.2.2) := HBK24_x0.out.cell 4
  have kg0_0 : (w23.alloc (.cells #[.slice ch0_0 r.1.1.length ch0_1, .slice ch0_2 r.1.2.1.length ch0_3, .slice ch0_4 r.1.2.2.1.length ch0_5, .slice ch0_6 r.1.2.2.2.1.length ch0_7, .int .i64 r.1.2.2.2.2, .int .i64 r.2.1, .int .i64 r.2.2] 36)).cell? ⟨w10.heap.size, 0, none⟩ = some (.slice cg0_0 r.1.1.length cg0_1) := HBK24_g0.out.cell 0
  have kg0_1 : (w23.alloc (.cells #[.slice ch0_0 r.1.1.length ch0_1, .slice ch0_2 r.1.2.1.length ch0_3, .slice ch0_4 r.1.2.2.1.length ch0_5, .slice ch0_6 r.1.2.2.2.1.length ch0_7, .int .i64 r.1.2.2.2.2, .int .i64 r.2.1, .int .i64 r.2.2] 36)).cell? ⟨w10.heap.size, 1, none⟩ = some (.slice cg0_2 r.1.2.1.length cg0_3) := HBK24_g0.out.cell 1
  have kg0_2 : (w23.alloc (.cells #[.slice ch0_0 r.1.1.length ch0_1, .slice ch0_2 r.1.2.1.length ch0_3, .slice ch0_4 r.1.2.2.1.length ch0_5, .slice ch0_6 r.1.2.2.2.1.length ch0_7, .int .i64 r.1.2.2.2.2, .int .i64 r.2.1, .int .i64 r.2.2] 36)).cell? ⟨w10.heap.size, 2, none⟩ = some (.slice cg0_4 r.1.2.2.1.length cg0_5) := HBK24_g0.out.cell 2
  have kg0_3 : (w23.alloc (.cells #[.slice ch0_0 r.1.1.length ch0_1, .slice ch0_2 r.1.2.1.length ch0_3, .slice ch0_4 r.1.2.2.1.length ch0_5, .slice ch0_6 r.1.2.2.2.1.length ch0_7, .int .i64 r.1.2.2.2.2, .int .i64 r.2.1, .int .i64 r.2.2] 36)).cell? ⟨w10.heap.size, 3, none⟩ = some (.slice cg0_6 r.1.2.2.2.1.length cg0_7) := HBK24_g0.out.cell 3
  have kg0_4 : (w23.alloc (.cells #[.slice ch0_0 r.1.1.length ch0_1, .slice ch0_2 r.1.2.1.length ch0_3, .slice ch0_4 r.1.2.2.1.length ch0_5, .slice ch0_6 r.1.2.2.2.1.length ch0_7, .int .i64 r.1.2.2.2.2, .int .i64 r.2.1, .int .i64 r.2.2] 36)).cell? ⟨w10.heap.size, 4, none⟩ = some (.int .i64 r.1.2.2.2.2) := HBK24_g0.out.cell 4
  have kg0_5 : (w23.alloc (.cells #[.slice ch0_0 r.1.1.length ch0_1, .slice ch0_2 r.1.2.1.length ch0_3, .slice ch0_4 r.1.2.2.1.length ch0_5, .slice ch0_6 r.1.2.2.2.1.length ch0_7, .int .i64 r.1.2.2.2.2, .int .i64 r.2.1, .int .i64 r.2.2] 36)).cell? ⟨w10.heap.size, 5, none⟩ = some (.int .i64 r.2.1) := HBK24_g0.out.cell 5
  have kg0_6 : (w23.alloc (.cells #[.slice ch0_0 r.1.1.length ch0_1, .slice ch0_2 r.1.2.1.length ch0_3, .slice ch0_4 r.1.2.2.1.length ch0_5, .slice ch0_6 r.1.2.2.2.1.length ch0_7, .int .i64 r.1.2.2.2.2, .int .i64 r.2.1, .int .i64 r.2.2] 36)).cell? ⟨w10.heap.size, 6, none⟩ = some (.int .i64 r.2.2) := HBK24_g0.out.cell 6
  have HBK_h0 := Sec.mk (Blk.new w23 36 [.slice ch0_0 r.1.1.length ch0_1, .slice ch0_2 r.1.2.1.length ch0_3, .slice ch0_4 r.1.2.2.1.length ch0_5, .slice ch0_6 r.1.2.2.2.1.length ch0_7, .int .i64 r.1.2.2.2.2, .int .i64 r.2.1, .int .i64 r.2.2])
  have hz23 : (w23.alloc (.cells #[.slice ch0_0 r.1.1.length ch0_1, .slice ch0_2 r.1.2.1.length ch0_3, .slice ch0_4 r.1.2.2.1.length ch0_5, .slice ch0_6 r.1.2.2.2.1.length ch0_7, .int .i64 r.1.2.2.2.2, .int .i64 r.2.1, .int .i64 r.2.2] 36)).heap.size = w23.heap.size + 1 := by simp
  clear kaD_0 kaD_1 kaD_2 kaD_3 kaD_4
  clear kw0_0 kw0_1 kw0_2 kw0_3 kw0_4 kw0_5 kw0_6
  clear kx0_0 kx0_1 kx0_2 kx0_3 kx0_4
  clear kg0_0 kg0_1 kg0_2 kg0_3 kg0_4 kg0_5 kg0_6
  have kaD_0 : (w23.alloc (.cells #[.slice ch0_0 r.1.1.length ch0_1, .slice ch0_2 r.1.2.1.length ch0_3, .slice ch0_4 r.1.2.2.1.length ch0_5, .slice ch0_6 r.1.2.2.2.1.length ch0_7, .int .i64 r.1.2.2.2.2, .int .i64 r.2.1, .int .i64 r.2.2] 36)).cell? ⟨w.heap.size, 0, none⟩ = some (.slice caD_0 xD.1.length caD_1) := HBK24_aD.out.cell 0
  have kaD_1 : (w23.alloc (.cells #[.slice ch0_0 r.1.1.length ch0_1, .slice ch0_2 r.1.2.1.length ch0_3, .slice ch0_4 r.1.2.2.1.length ch0_5, .slice ch0_6 r.1.2.2.2.1.length ch0_7, .int .i64 r.1.2.2.2.2, .int .i64 r.2.1, .int .i64 r.2.2] 36)).cell? ⟨w.heap.size, 1, none⟩ = some (.slice caD_2 xD.2.1.length caD_3) := HBK24_aD.out.cell 1
  have kaD_2 : (w23.alloc (.cells #[.slice ch0_0 r.1.1.length ch0_1, .slice ch0_2 r.1.2.1.length ch0_3, .slice ch0_4 r.1.2.2.1.length ch0_5, .slice ch0_6 r.1.2.2.2.1.length ch0_7, .int .i64 r.1.2.2.2.2, .int .i64 r.2.1, .int .i64 r.2.2] 36)).cell? ⟨w.heap.size, 2, none⟩ = some (.slice caD_4 xD.2.2.1.length caD_5) := HBK24_aD.out.cell 2
  have kaD_3 : (w23.alloc (.cells #[.slice ch0_0 r.1.1.length ch0_1, .slice ch0_2 r.1.2.1.length ch0_3, .slice ch0_4 r.1.2.2.1.length ch0_5, .slice ch0_6 r.1.2.2.2.1.length ch0_7, .int .i64 r.1.2.2.2.2, .int .i64 r.2.1, .int .i64 r.2.2] 36)).cell? ⟨w.heap.size, 3, none⟩ = some (.slice caD_6 xD.2.2.2.1.length caD_7) := HBK24_aD.out.cell 3
  have kaD_4 : (w23.alloc (.cells #[.slice ch0_0 r.1.1.length ch0_1, .slice ch0_2 r.1.2.1.length ch0_3, .slice ch0_4 r.1.2.2.1.length ch0_5, .slice ch0_6 r.1.2.2.2.1.length ch0_7, .int .i64 r.1.2.2.2.2, .int .i64 r.2.1, .int .i64 r.2.2] 36)).cell? ⟨w.heap.size, 4, none⟩ = some (.int .i64 xD.2.2.2.2) := HBK24_aD.out.cell 4
  have kw0_0 : (w23.alloc (.cells #[.slice ch0_0 r.1.1.length ch0_1, .slice ch0_2 r.1.2.1.length ch0_3, .slice ch0_4 r.1.2.2.1.length ch0_5, .slice ch0_6 r.1.2.2.2.1.length ch0_7, .int .i64 r.1.2.2.2.2, .int .i64 r.2.1, .int .i64 r.2.2] 36)).cell? ⟨w5.heap.size, 0, none⟩ = some (.slice cw0_0 r.1.1.length cw0_1) := HBK24_w0.out.cell 0
  have kw0_1 : (w23.alloc (.cells #[.slice ch0_0 r.1.1.length ch0_1, .slice ch0_2 r.1.2.1.length ch0_3, .slice ch0_4 r.1.2.2.1.length ch0_5, .slice ch0_6 r.1.2.2.2.1.length ch0_7, .int .i64 r.1.2.2.2.2, .int .i64 r.2.1, .int .i64 r.2.2] 36)).cell? ⟨w5.heap.size, 1, none⟩ = some (.slice cw0_2 r.1.2.1.length cw0_3) := HBK24_w0.out.cell 1
  have kw0_2 : (w23.alloc (.cells #[.slice ch0_0 r.1.1.length ch0_1, .slice ch0_2 r.1.2.1.length ch0_3, .slice ch0_4 r.1.2.2.1.length ch0_5, .slice ch0_6 r.1.2.2.2.1.length ch0_7, .int .i64 r.1.2.2.2.2, .int .i64 r.2.1, .int .i64 r.2.2] 36)).cell? ⟨w5.heap.size, 2, none⟩ = some (.slice cw0_4 r.1.2.2.1.length cw0_5) := HBK24_w0.out.cell 2
  have kw0_3 : (w23.alloc (.cells #[.slice ch0_0 r.1.1.length ch0_1, .slice ch0_2 r.1.2.1.length ch0_3, .slice ch0_4 r.1.2.2.1.length ch0_5, .slice ch0_6 r.1.2.2.2.1.length ch0_7, .int .i64 r.1.2.2.2.2, .int .i64 r.2.1, .int .i64 r.2.2] 36)).cell? ⟨w5.heap.size, 3, none⟩ = some (.slice cw0_6 r.1.2.2.2.1.length cw0_7) := HBK24_w0.out.cell 3
  have kw0_4 : (w23.alloc (.cells #[.slice ch0_0 r.1.1.length ch0_1, .slice ch0_2 r.1.2.1.length ch0_3, .slice ch0_4 r.1.2.2.1.length ch0_5, .slice ch0_6 r.1.2.2.2.1.length ch0_7, .int .i64 r.1.2.2.2.2, .int .i64 r.2.1, .int .i64 r.2.2] 36)).cell? ⟨w5.heap.size, 4, none⟩ = some (.int .i64 r.1.2.2.2.2) := HBK24_w0.out.cell 4
  have kw0_5 : (w23.alloc (.cells #[.slice ch0_0 r.1.1.length ch0_1, .slice ch0_2 r.1.2.1.length ch0_3, .slice ch0_4 r.1.2.2.1.length ch0_5, .slice ch0_6 r.1.2.2.2.1.length ch0_7, .int .i64 r.1.2.2.2.2, .int .i64 r.2.1, .int .i64 r.2.2] 36)).cell? ⟨w5.heap.size, 5, none⟩ = some (.int .i64 r.2.1) := HBK24_w0.out.cell 5
  have kw0_6 : (w23.alloc (.cells #[.slice ch0_0 r.1.1.length ch0_1, .slice ch0_2 r.1.2.1.length ch0_3, .slice ch0_4 r.1.2.2.1.length ch0_5, .slice ch0_6 r.1.2.2.2.1.length ch0_7, .int .i64 r.1.2.2.2.2, .int .i64 r.2.1, .int .i64 r.2.2] 36)).cell? ⟨w5.heap.size, 6, none⟩ = some (.int .i64 r.2.2) := HBK24_w0.out.cell 6
  have kx0_0 : (w23.alloc (.cells #[.slice ch0_0 r.1.1.length ch0_1, .slice ch0_2 r.1.2.1.length ch0_3, .slice ch0_4 r.1.2.2.1.length ch0_5, .slice ch0_6 r.1.2.2.2.1.length ch0_7, .int .i64 r.1.2.2.2.2, .int .i64 r.2.1, .int .i64 r.2.2] 36)).cell? ⟨w7.heap.size, 0, none⟩ = some (.slice cx0_0 xD.1.length cx0_1) := HBK24_x0.out.cell 0
  have kx0_1 : (w23.alloc (.cells #[.slice ch0_0 r.1.1.length ch0_1, .slice ch0_2 r.1.2.1.length ch0_3, .slice ch0_4 r.1.2.2.1.length ch0_5, .slice ch0_6 r.1.2.2.2.1.length ch0_7, .int .i64 r.1.2.2.2.2, .int .i64 r.2.1, .int .i64 r.2.2] 36)).cell? ⟨w7.heap.size, 1, none⟩ = some (.slice cx0_2 xD.2.1.length cx0_3) := HBK24_x0.out.cell 1
  have kx0_2 : (w23.alloc (.cells #[.slice ch0_0 r.1.1.length ch0_1, .slice ch0_2 r.1.2.1.length ch0_3, .slice ch0_4 r.1.2.2.1.length ch0_5, .slice ch0_6 r.1.2.2.2.1.length ch0_7, .int .i64 r.1.2.2.2.2, .int .i64 r.2.1, .int .i64 r.2.2] 36)).cell? ⟨w7.heap.size, 2, none⟩ = some (.slice cx0_4 xD.2.2.1.length cx0_5) := HBK24_x0.out.cell 2
  have kx0_3 : (w23.alloc (.cells #[.slice ch0_0 r.1.1.length ch0_1, .slice ch0_2 r.1.2.1.length ch0_3, .slice ch0_4 r.1.2.2.1.length ch0_5, .slice ch0_6 r.1.2.2.2.1.length ch0_7, .int .i64 r.1.2.2.2.2, .int .i64 r.2.1, .int .i64 r.2.2] 36)).cell? ⟨w7.heap.size, 3, none⟩ = some (.slice cx0_6 xD.2.2.2.1.length cx0_7) := HBK24_x0.out.cell 3
  have kx0_4 : (w23.alloc (.cells #[.slice ch0_0 r.1.1.length ch0_1, .slice ch0_2 r.1.2.1.length ch0_3, .slice ch0_4 r.1.2.2.1.length ch0_5, .slice ch0_6 r.1.2.2.2.1.length ch0_7, .int .i64 r.1.2.2.2.2, .int .i64 r.2.1, .int .i64 r.2.2] 36)).cell? ⟨w7.heap.size, 4, none⟩ = some (.int .i64 xD.2.2.2.2) := HBK24_x0.out.cell 4
  have kg0_0 : (w23.alloc (.cells #[.slice ch0_0 r.1.1.length ch0_1, .slice ch0_2 r.1.2.1.length ch0_3, .slice ch0_4 r.1.2.2.1.length ch0_5, .slice ch0_6 r.1.2.2.2.1.length ch0_7, .int .i64 r.1.2.2.2.2, .int .i64 r.2.1, .int .i64 r.2.2] 36)).cell? ⟨w10.heap.size, 0, none⟩ = some (.slice cg0_0 r.1.1.length cg0_1) := HBK24_g0.out.cell 0
  have kg0_1 : (w23.alloc (.cells #[.slice ch0_0 r.1.1.length ch0_1, .slice ch0_2 r.1.2.1.length ch0_3, .slice ch0_4 r.1.2.2.1.length ch0_5, .slice ch0_6 r.1.2.2.2.1.length ch0_7, .int .i64 r.1.2.2.2.2, .int .i64 r.2.1, .int .i64 r.2.2] 36)).cell? ⟨w10.heap.size, 1, none⟩ = some (.slice cg0_2 r.1.2.1.length cg0_3) := HBK24_g0.out.cell 1
  have kg0_2 : (w23.alloc (.cells #[.slice ch0_0 r.1.1.length ch0_1, .slice ch0_2 r.1.2.1.length ch0_3, .slice ch0_4 r.1.2.2.1.length ch0_5, .slice ch0_6 r.1.2.2.2.1.length ch0_7, .int .i64 r.1.2.2.2.2, .int .i64 r.2.1, .int .i64 r.2.2] 36)).cell? ⟨w10.heap.size, 2, none⟩ = some (.slice cg0_4 r.1.2.2.1.length cg0_5) := HBK24_g0.out.cell 2
  have kg0_3 : (w23.alloc (.cells #[.slice ch0_0 r.1.1.length ch0_1, .slice ch0_2 r.1.2.1.length ch0_3, .slice ch0_4 r.1.2.2.1.length ch0_5, .slice ch0_6 r.1.2.2.2.1.length ch0_7, .int .i64 r.1.2.2.2.2, .int .i64 r.2.1, .int .i64 r.2.2] 36)).cell? ⟨w10.heap.size, 3, none⟩ = some (.slice cg0_6 r.1.2.2.2.1.length cg0_7) := HBK24_g0.out.cell 3
  have kg0_4 : (w23.alloc (.cells #[.slice ch0_0 r.1.1.length ch0_1, .slice ch0_2 r.1.2.1.length ch0_3, .slice ch0_4 r.1.2.2.1.length ch0_5, .slice ch0_6 r.1.2.2.2.1.length ch0_7, .int .i64 r.1.2.2.2.2, .int .i64 r.2.1, .int .i64 r.2.2] 36)).cell? ⟨w10.heap.size, 4, none⟩ = some (.int .i64 r.1.2.2.2.2) := HBK24_g0.out.cell 4
  have kg0_5 : (w23.alloc (.cells #[.slice ch0_0 r.1.1.length ch0_1, .slice ch0_2 r.1.2.1.length ch0_3, .slice ch0_4 r.1.2.2.1.length ch0_5, .slice ch0_6 r.1.2.2.2.1.length ch0_7, .int .i64 r.1.2.2.2.2, .int .i64 r.2.1, .int .i64 r.2.2] 36)).cell? ⟨w10.heap.size, 5, none⟩ = some (.int .i64 r.2.1) := HBK24_g0.out.cell 5
  have kg0_6 : (w23.alloc (.cells #[.slice ch0_0 r.1.1.length ch0_1, .slice ch0_2 r.1.2.1.length ch0_3, .slice ch0_4 r.1.2.2.1.length ch0_5, .slice ch0_6 r.1.2.2.2.1.length ch0_7, .int .i64 r.1.2.2.2.2, .int .i64 r.2.1, .int .i64 r.2.2] 36)).cell? ⟨w10.heap.size, 6, none⟩ = some (.int .i64 r.2.2) := HBK24_g0.out.cell 6
  have kh0_0 : (w23.alloc (.cells #[.slice ch0_0 r.1.1.length ch0_1, .slice ch0_2 r.1.2.1.length ch0_3, .slice ch0_4 r.1.2.2.1.length ch0_5, .slice ch0_6 r.1.2.2.2.1.length ch0_7, .int .i64 r.1.2.2.2.2, .int .i64 r.2.1, .int .i64 r.2.2] 36)).cell? ⟨w23.heap.size, 0, none⟩ = some (.slice ch0_0 r.1.1.length ch0_1) := HBK_h0.out.cell 0
  have kh0_1 : (w23.alloc (.cells #[.slice ch0_0 r.1.1.length ch0_1, .slice ch0_2 r.1.2.1.length ch0_3, .slice ch0_4 r.1.2.2.1.length ch0_5, .slice ch0_6 r.1.2.2.2.1.length ch0_7, .int .i64 r.1.2.2.2.2, .int .i64 r.2.1, .int .i64 r.2.2] 36)).cell? ⟨w23.heap.size, 1, none⟩ = some (.slice ch0_2 r.1.2.1.length ch0_3) := HBK_h0.out.cell 1
  have kh0_2 : (w23.alloc (.cells #[.slice ch0_0 r.1.1.length ch0_1, .slice ch0_2 r.1.2.1.length ch0_3, .slice ch0_4 r.1.2.2.1.length ch0_5, .slice ch0_6 r.1.2.2.2.1.length ch0_7, .int .i64 r.1.2.2.2.2, .int .i64 r.2.1, .int .i64 r.2.2] 36)).cell? ⟨w23.heap.size, 2, none⟩ = some (.slice ch0_4 r.1.2.2.1.length ch0_5) := HBK_h0.out.cell 2
  have kh0_3 : (w23.alloc (.cells #[.slice ch0_0 r.1.1.length ch0_1, .slice ch0_2 r.1.2.1.length ch0_3, .slice ch0_4 r.1.2.2.1.length ch0_5, .slice ch0_6 r.1.2.2.2.1.length ch0_7, .int .i64 r.1.2.2.2.2, .int .i64 r.2.1, .int .i64 r.2.2] 36)).cell? ⟨w23.heap.size, 3, none⟩ = some (.slice ch0_6 r.1.2.2.2.1.length ch0_7) := HBK_h0.out.cell 3
  have kh0_4 : (w23.alloc (.cells #[.slice ch0_0 r.1.1.length ch0_1, .slice ch0_2 r.1.2.1.length ch0_3, .slice ch0_4 r.1.2.2.1.length ch0_5, .slice ch0_6 r.1.2.2.2.1.length ch0_7, .int .i64 r.1.2.2.2.2, .int .i64 r.2.1, .int .i64 r.2.2] 36)).cell? ⟨w23.heap.size, 4, none⟩ = some (.int .i64 r.1.2.2.2.2) := HBK_h0.out.cell 4
  have kh0_5 : (w23.alloc (.cells #[.slice ch0_0 r.1.1.length ch0_1, .slice ch0_2 r.1.2.1.length ch0_3, .slice ch0_4 r.1.2.2.1.length ch0_5, .slice ch0_6 r.1.2.2.2.1.length ch0_7, .int .i64 r.1.2.2.2.2, .int .i64 r.2.1, .int .i64 r.2.2] 36)).cell? ⟨w23.heap.size, 5, none⟩ = some (.int .i64 r.2.1) := HBK_h0.out.cell 5
  have kh0_6 : (w23.alloc (.cells #[.slice ch0_0 r.1.1.length ch0_1, .slice ch0_2 r.1.2.1.length ch0_3, .slice ch0_4 r.1.2.2.1.length ch0_5, .slice ch0_6 r.1.2.2.2.1.length ch0_7, .int .i64 r.1.2.2.2.2, .int .i64 r.2.1, .int .i64 r.2.2] 36)).cell? ⟨w23.heap.size, 6, none⟩ = some (.int .i64 r.2.2) := HBK_h0.out.cell 6
  clear TDH0_24
  clear TOPSH0_24
  go_wp2_with fail
  refine (eqDone_v H0_24.out.rd W0_24.out.rd).mono ?_
  rintro e w25 ⟨rfl, hm25⟩
  clear kaD_0 kaD_1 kaD_2 kaD_3 kaD_4
  clear kw0_0 kw0_1 kw0_2 kw0_3 kw0_4 kw0_5 kw0_6
  clear kx0_0 kx0_1 kx0_2 kx0_3 kx0_4
  clear kg0_0 kg0_1 kg0_2 kg0_3 kg0_4 kg0_5 kg0_6
  clear kh0_0 kh0_1 kh0_2 kh0_3 kh0_4 kh0_5 kh0_6
  have HBK25_aD := Sec.mk (HBK24_aD.out.mod hm25 id)
  clear HBK24_aD
  have HBK25_w0 := Sec.mk (HBK24_w0.out.mod hm25 id)
  clear HBK24_w0
  have HBK25_x0 := Sec.mk (HBK24_x0.out.mod hm25 id)
  clear HBK24_x0
  have HBK25_g0 := Sec.mk (HBK24_g0.out.mod hm25 id)
  clear HBK24_g0
  have HBK25_h0 := Sec.mk (HBK_h0.out.mod hm25 id)
  clear HBK_h0
  have W0_25 := Sec.mk (W0_24.out.step hm25)
  clear W0_24
  have X0_25 := Sec.mk (X0_24.out.step hm25)
  clear X0_24
  have X1_25 := Sec.mk (X1_24.out.step hm25)
  clear X1_24
  have G0_25 := Sec.mk (G0_24.out.step hm25)
  clear G0_24
  have H0_25 := Sec.mk (H0_24.out.step hm25)
  clear H0_24
  have HM25 := Sec.mk (HM24.out.transN hm25)
  clear HM24
  have hs25 := hm25.size
  clear hm25
  have kaD_0 : (w25).cell? ⟨w.heap.size, 0, none⟩ = some (.slice caD_0 xD.1.length caD_1) := HBK25_aD.out.cell 0
  have kaD_1 : (w25).cell? ⟨w.heap.size, 1, none⟩ = some (.slice caD_2 xD.2.1.length caD_3) := HBK25_aD.out.cell 1
  have kaD_2 : (w25).cell? ⟨w.heap.size, 2, none⟩ = some (.slice caD_4 xD.2.2.1.length caD_5) := HBK25_aD.out.cell 2
  have kaD_3 : (w25).cell? ⟨w.heap.size, 3, none⟩ = some (.slice caD_6 xD.2.2.2.1.length caD_7) := HBK25_aD.out.cell 3
  have kaD_4 : (w25).cell? ⟨w.heap.size, 4, none⟩ = some (.int .i64 xD.2.2.2.2) := HBK25_aD.out.cell 4
  have kw0_0 : (w25).cell? ⟨w5.heap.size, 0, none⟩ = some (.slice cw0_0 r.1.1.length cw0_1) := HBK25_w0.out.cell 0
  have kw0_1 : (w25).cell? ⟨w5.heap.size, 1, none⟩ = some (.slice cw0_2 r.1.2.1.length cw0_3) := HBK25_w0.out.cell 1
  have kw0_2 : (w25).cell? ⟨w5.heap.size, 2, none⟩ = some (.slice cw0_4 r.1.2.2.1.length cw0_5) := HBK25_w0.out.cell 2
  have kw0_3 : (w25).cell? ⟨w5.heap.size, 3, none⟩ = some (.slice cw0_6 r.1.2.2.2.1.length cw0_7) := HBK25_w0.out.cell 3
  have kw0_4 : (w25).cell? ⟨w5.heap.size, 4, none⟩ = some (.int .i64 r.1.2.2.2.2) := HBK25_w0.out.cell 4
  have kw0_5 : (w25).cell? ⟨w5.heap.size, 5, none⟩ = some (.int .i64 r.2.1) := HBK25_w0.out.cell 5
  have kw0_6 : (w25).cell? ⟨w5.heap.size, 6, none⟩ = some (.int .i64 r.2.2) := HBK25_w0.out.cell 6
  have kx0_0 : (w25).cell? ⟨w7.heap.size, 0, none⟩ = some (.slice cx0_0 xD.1.length cx0_1) := HBK25_x0.out.cell 0
  have kx0_1 : (w25).cell? ⟨w7.heap.size, 1, none⟩ = some (.slice cx0_2 xD.2.1.length cx0_3) := HBK25_x0.out.cell 1
  have kx0_2 : (w25).cell? ⟨w7.heap.size, 2, none⟩ = some (.slice cx0_4 xD.2.2.1.length cx0_5) := HBK25_x0.out.cell 2
  have kx0_3 : (w25).cell? ⟨w7.heap.size, 3, none⟩ = some (.slice cx0_6 xD.2.2.2.1.length cx0_7) := HBK25_x0.out.cell 3
  have kx0_4 : (w25).cell? ⟨w7.heap.size, 4, none⟩ = some (.int .i64 xD.2.2.2.2) := HBK25_x0.out.cell 4
  have kg0_0 : (w25).cell? ⟨w10.heap.size, 0, none⟩ = some (.slice cg0_0 r.1.1.length cg0_1) := HBK25_g0.out.cell 0
  have kg0_1 : (w25).cell? ⟨w10.heap.size, 1, none⟩ = some (.slice cg0_2 r.1.2.1.length cg0_3) := HBK25_g0.out.cell 1
  have kg0_2 : (w25).cell? ⟨w10.heap.size, 2, none⟩ = some (.slice cg0_4 r.1.2.2.1.length cg0_5) := HBK25_g0.out.cell 2
  have kg0_3 : (w25).cell? ⟨w10.heap.size, 3, none⟩ = some (.slice cg0_6 r.1.2.2.2.1.length cg0_7) := HBK25_g0.out.cell 3
  have kg0_4 : (w25).cell? ⟨w10.heap.size, 4, none⟩ = some (.int .i64 r.1.2.2.2.2) := HBK25_g0.out.cell 4
  have kg0_5 : (w25).cell? ⟨w10.heap.size, 5, none⟩ = some (.int .i64 r.2.1) := HBK25_g0.out.cell 5
  have kg0_6 : (w25).cell? ⟨w10.heap.size, 6, none⟩ = some (.int .i64 r.2.2) := HBK25_g0.out.cell 6
  have kh0_0 : (w25).cell? ⟨w23.heap.size, 0, none⟩ = some (.slice ch0_0 r.1.1.length ch0_1) := HBK25_h0.out.cell 0
  have kh0_1 : (w25).cell? ⟨w23.heap.size, 1, none⟩ = some (.slice ch0_2 r.1.2.1.length ch0_3) := HBK25_h0.out.cell 1
  have kh0_2 : (w25).cell? ⟨w23.heap.size, 2, none⟩ = some (.slice ch0_4 r.1.2.2.1.length ch0_5) := HBK25_h0.out.cell 2
  have kh0_3 : (w25).cell? ⟨w23.heap.size, 3, none⟩ = some (.slice ch0_6 r.1.2.2.2.1.length ch0_7) := HBK25_h0.out.cell 3
  have kh0_4 : (w25).cell? ⟨w23.heap.size, 4, none⟩ = some (.int .i64 r.1.2.2.2.2) := HBK25_h0.out.cell 4
  have kh0_5 : (w25).cell? ⟨w23.heap.size, 5, none⟩ = some (.int .i64 r.2.1) := HBK25_h0.out.cell 5
  have kh0_6 : (w25).cell? ⟨w23.heap.size, 6, none⟩ = some (.int .i64 r.2.2) := HBK25_h0.out.cell 6
  rw [show decide (r = r) = true by simp]
  go_wp2_with fail
  refine (heldDone_v G0_25.out.rd 1 HX.out (by rw [HK.out]; omega)).mono ?_
  rintro e w26 ⟨rfl, hm26⟩
  rw [HK.out]
  clear kaD_0 kaD_1 kaD_2 kaD_3 kaD_4
  clear kw0_0 kw0_1 kw0_2 kw0_3 kw0_4 kw0_5 kw0_6
  clear kx0_0 kx0_1 kx0_2 kx0_3 kx0_4
  clear kg0_0 kg0_1 kg0_2 kg0_3 kg0_4 kg0_5 kg0_6
  clear kh0_0 kh0_1 kh0_2 kh0_3 kh0_4 kh0_5 kh0_6
  have HBK26_aD := Sec.mk (HBK25_aD.out.mod hm26 id)
  clear HBK25_aD
  have HBK26_w0 := Sec.mk (HBK25_w0.out.mod hm26 id)
  clear HBK25_w0
  have HBK26_x0 := Sec.mk (HBK25_x0.out.mod hm26 id)
  clear HBK25_x0
  have HBK26_g0 := Sec.mk (HBK25_g0.out.mod hm26 id)
  clear HBK25_g0
  have HBK26_h0 := Sec.mk (HBK25_h0.out.mod hm26 id)
  clear HBK25_h0
  have W0_26 := Sec.mk (W0_25.out.step hm26)
  clear W0_25
  have X0_26 := Sec.mk (X0_25.out.step hm26)
  clear X0_25
  have X1_26 := Sec.mk (X1_25.out.step hm26)
  clear X1_25
  have G0_26 := Sec.mk (G0_25.out.step hm26)
  clear G0_25
  have H0_26 := Sec.mk (H0_25.out.step hm26)
  clear H0_25
  have HM26 := Sec.mk (HM25.out.transN hm26)
  clear HM25
  have hs26 := hm26.size
  clear hm26
  have kaD_0 : (w26).cell? ⟨w.heap.size, 0, none⟩ = some (.slice caD_0 xD.1.length caD_1) := HBK26_aD.out.cell 0
  have kaD_1 : (w26).cell? ⟨w.heap.size, 1, none⟩ = some (.slice caD_2 xD.2.1.length caD_3) := HBK26_aD.out.cell 1
  have kaD_2 : (w26).cell? ⟨w.heap.size, 2, none⟩ = some (.slice caD_4 xD.2.2.1.length caD_5) := HBK26_aD.out.cell 2
  have kaD_3 : (w26).cell? ⟨w.heap.size, 3, none⟩ = some (.slice caD_6 xD.2.2.2.1.length caD_7) := HBK26_aD.out.cell 3
  have kaD_4 : (w26).cell? ⟨w.heap.size, 4, none⟩ = some (.int .i64 xD.2.2.2.2) := HBK26_aD.out.cell 4
  have kw0_0 : (w26).cell? ⟨w5.heap.size, 0, none⟩ = some (.slice cw0_0 r.1.1.length cw0_1) := HBK26_w0.out.cell 0
  have kw0_1 : (w26).cell? ⟨w5.heap.size, 1, none⟩ = some (.slice cw0_2 r.1.2.1.length cw0_3) := HBK26_w0.out.cell 1
  have kw0_2 : (w26).cell? ⟨w5.heap.size, 2, none⟩ = some (.slice cw0_4 r.1.2.2.1.length cw0_5) := HBK26_w0.out.cell 2
  have kw0_3 : (w26).cell? ⟨w5.heap.size, 3, none⟩ = some (.slice cw0_6 r.1.2.2.2.1.length cw0_7) := HBK26_w0.out.cell 3
  have kw0_4 : (w26).cell? ⟨w5.heap.size, 4, none⟩ = some (.int .i64 r.1.2.2.2.2) := HBK26_w0.out.cell 4
  have kw0_5 : (w26).cell? ⟨w5.heap.size, 5, none⟩ = some (.int .i64 r.2.1) := HBK26_w0.out.cell 5
  have kw0_6 : (w26).cell? ⟨w5.heap.size, 6, none⟩ = some (.int .i64 r.2.2) := HBK26_w0.out.cell 6
  have kx0_0 : (w26).cell? ⟨w7.heap.size, 0, none⟩ = some (.slice cx0_0 xD.1.length cx0_1) := HBK26_x0.out.cell 0
  have kx0_1 : (w26).cell? ⟨w7.heap.size, 1, none⟩ = some (.slice cx0_2 xD.2.1.length cx0_3) := HBK26_x0.out.cell 1
  have kx0_2 : (w26).cell? ⟨w7.heap.size, 2, none⟩ = some (.slice cx0_4 xD.2.2.1.length cx0_5) := HBK26_x0.out.cell 2
  have kx0_3 : (w26).cell? ⟨w7.heap.size, 3, none⟩ = some (.slice cx0_6 xD.2.2.2.1.length cx0_7) := HBK26_x0.out.cell 3
  have kx0_4 : (w26).cell? ⟨w7.heap.size, 4, none⟩ = some (.int .i64 xD.2.2.2.2) := HBK26_x0.out.cell 4
  have kg0_0 : (w26).cell? ⟨w10.heap.size, 0, none⟩ = some (.slice cg0_0 r.1.1.length cg0_1) := HBK26_g0.out.cell 0
  have kg0_1 : (w26).cell? ⟨w10.heap.size, 1, none⟩ = some (.slice cg0_2 r.1.2.1.length cg0_3) := HBK26_g0.out.cell 1
  have kg0_2 : (w26).cell? ⟨w10.heap.size, 2, none⟩ = some (.slice cg0_4 r.1.2.2.1.length cg0_5) := HBK26_g0.out.cell 2
  have kg0_3 : (w26).cell? ⟨w10.heap.size, 3, none⟩ = some (.slice cg0_6 r.1.2.2.2.1.length cg0_7) := HBK26_g0.out.cell 3
  have kg0_4 : (w26).cell? ⟨w10.heap.size, 4, none⟩ = some (.int .i64 r.1.2.2.2.2) := HBK26_g0.out.cell 4
  have kg0_5 : (w26).cell? ⟨w10.heap.size, 5, none⟩ = some (.int .i64 r.2.1) := HBK26_g0.out.cell 5
  have kg0_6 : (w26).cell? ⟨w10.heap.size, 6, none⟩ = some (.int .i64 r.2.2) := HBK26_g0.out.cell 6
  have kh0_0 : (w26).cell? ⟨w23.heap.size, 0, none⟩ = some (.slice ch0_0 r.1.1.length ch0_1) := HBK26_h0.out.cell 0
  have kh0_1 : (w26).cell? ⟨w23.heap.size, 1, none⟩ = some (.slice ch0_2 r.1.2.1.length ch0_3) := HBK26_h0.out.cell 1
  have kh0_2 : (w26).cell? ⟨w23.heap.size, 2, none⟩ = some (.slice ch0_4 r.1.2.2.1.length ch0_5) := HBK26_h0.out.cell 2
  have kh0_3 : (w26).cell? ⟨w23.heap.size, 3, none⟩ = some (.slice ch0_6 r.1.2.2.2.1.length ch0_7) := HBK26_h0.out.cell 3
  have kh0_4 : (w26).cell? ⟨w23.heap.size, 4, none⟩ = some (.int .i64 r.1.2.2.2.2) := HBK26_h0.out.cell 4
  have kh0_5 : (w26).cell? ⟨w23.heap.size, 5, none⟩ = some (.int .i64 r.2.1) := HBK26_h0.out.cell 5
  have kh0_6 : (w26).cell? ⟨w23.heap.size, 6, none⟩ = some (.int .i64 r.2.2) := HBK26_h0.out.cell 6
  go_wp2
  go_ret
  exact ⟨by simp, HM26.out⟩
end Go.Proofs.YtkkgighgnbbgiaaGreatDoor
