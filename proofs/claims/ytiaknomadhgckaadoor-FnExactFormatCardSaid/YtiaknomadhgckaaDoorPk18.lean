/- A new mailbox, by value. What the row over a new mailbox lists, read off the memory. The walk of the law FnExactFormat. -/
import Derived.Test.YtiaknomadhgckaaDoorPk17
import Derived.Test.YtiaknomadhgckaaDoorRows
import Derived.Lib.LaidTab
namespace Go.Proofs.YtiaknomadhgckaaDoor
open Go.RowKit Mem
set_option linter.unusedVariables false
def FormatL (k v q : Int) : DiskT := formatL k v.toNat q
theorem u32_nat {v : Int} (h : IntKind.u32.wrap v = v) : ∃ n : Nat, v = (n : Int) ∧ n < 4294967296 := by
  have h1 : 0 ≤ v ∧ v < 4294967296 := by
    have := h
    simp [IntKind.wrap, IntKind.bits, IntKind.signed] at this
    omega
  exact ⟨v.toNat, by omega, by omega⟩
theorem specFormat_v {w : World} (k : Int) (hk : IntKind.i64.wrap k = k) (v : Int) (hv : IntKind.u32.wrap v = v) (q : Int) (hq : IntKind.i64.wrap q = q) : Calls Tryd.prog 5 #[.int .i64 k, .int .u32 v, .int .i64 q] w (RetV true dDisk w (FormatL k v q)) := by
  obtain ⟨n, rfl, hn⟩ := u32_nat hv
  exact formatS_v k n q hk hn hq
theorem implFormat_v {w : World} (k : Int) (hk : IntKind.i64.wrap k = k) (v : Int) (hv : IntKind.u32.wrap v = v) (q : Int) (hq : IntKind.i64.wrap q = q) (ht : TabAt w) : Calls Tryd.prog 6 #[.int .i64 k, .int .u32 v, .int .i64 q] w (RetV true dDisk w (FormatL k v q)) := by
  obtain ⟨n, rfl, hn⟩ := u32_nat hv
  exact formatI_v k n q hk hn hq ht
theorem Format_cnt (k v q : Int) : cntDisk (FormatL k v q) ≤ 1000000 := by
  unfold FormatL formatL
  have h1 := frame_len [recM v.toNat]
  have h2 := frame_len [recD v.toNat]
  repeat' split
  · decide
  · simp [mboxD, cntDisk, cntNodeS, cntEntryS, cntDirOpS, preS, cntNode, cntEntry, cntBS]; omega
  · decide
  · simp [uidD, cntDisk, cntNodeS, cntEntryS, cntDirOpS, preS, cntNode, cntEntry, cntBS]; omega
  · decide
end Go.Proofs.YtiaknomadhgckaaDoor

namespace Go.Proofs.YtiaknomadhgckaaDoor
open Go.RowKit Mem Go.ChangeShapes
set_option linter.unusedVariables false
theorem pow10_is : (Rows.laid_internal_strconv_uint64pow10 : DataW Unit) = Lib.tabData .u64 Lib.pow10Tab := rfl
theorem tabAt_of_vars {W : World} {rest : List (String × DataW Unit)} {ps : List MemPlace} (h : DataW.LaidVars Tryd.prog W (("internal/strconv.uint64pow10", Rows.laid_internal_strconv_uint64pow10) :: rest) ps) : TabAt W := by
  obtain ⟨g, t, cs, fuel, p, q, hg, ht, hv, hd, _, _⟩ := h
  obtain rfl := Option.some.inj ((show Tryd.prog.globalNamed "internal/strconv.uint64pow10" = some 2 by kernel_rfl).symm.trans hg)
  obtain rfl := Option.some.inj ((show (Tryd.prog.globals[2]?).map (·.type) = some 157 by kernel_rfl).symm.trans ht)
  rw [pow10_is] at hd
  unfold TabAt Lib.TabIs
  rw [hv, ← Lib.cells_of_tab Tryd.underlying157 Tryd.underlying145 (by kernel_rfl) (by kernel_rfl) hd]
theorem laid_tail {P : Program} {W : World} {x : String × DataW Unit} {rest : List (String × DataW Unit)} {ps : List MemPlace} (h : DataW.LaidVars P W (x :: rest) ps) : ∃ q, DataW.LaidVars P W rest q := by
  obtain ⟨g, t, cs, fuel, p, q, hg, ht, hv, hd, hr, _⟩ := h
  exact ⟨q, hr⟩
theorem tab_of_laid {W : World} {x y : String × DataW Unit} {rest : List (String × DataW Unit)} (h : laidMet Tryd.prog (x :: y :: ("internal/strconv.uint64pow10", Rows.laid_internal_strconv_uint64pow10) :: rest) W) : TabAt W := by
  obtain ⟨ps, h, _⟩ := h
  obtain ⟨q1, h1⟩ := laid_tail h
  obtain ⟨q2, h2⟩ := laid_tail h1
  exact tabAt_of_vars h2
end Go.Proofs.YtiaknomadhgckaaDoor

namespace Go.Proofs.YtiaknomadhgckaaDoor
open Go.RowKit Mem
set_option linter.unusedVariables false
set_option synthInstance.maxSize 2000

set_option maxHeartbeats 2000000 in
set_option maxRecDepth 100000 in
theorem lawFnExactFormat_walk {w : World} (hE : TabAt w) (aKind : Int) (hwaKind : IntKind.i64.wrap aKind = aKind) (aValidity : Int) (hwaValidity : IntKind.u32.wrap aValidity = aValidity) (aQuota : Int) (hwaQuota : IntKind.i64.wrap aQuota = aQuota) :
    Calls Tryd.prog 3 #[.int .i64 aKind, .int .u32 aValidity, .int .i64 aQuota] w (Ret (.bool true) w) := by
  have HENV := Sec.mk hE
  clear hE
  have hcr := Format_cnt aKind aValidity aQuota 
  generalize hFN : FormatL aKind aValidity aQuota = r at *
  have HFN := Sec.mk hFN
  clear hFN
  go_enter Tryd.func3, Tryd.ntmps3
  have HM0 := Sec.mk (Mod.refl (fun _ => False) w)
  go_wp2_with fail
  refine (specFormat_v aKind hwaKind aValidity hwaValidity aQuota hwaQuota ).mono ?_
  rw [HFN.out]
  rintro e w1 ⟨v1, rfl, ho1, hm1⟩
  have HM1 := Sec.mk (HM0.out.transN hm1)
  clear HM0
  have hs1 := hm1.size
  clear hm1
  have W0_1 := Sec.mk ho1
  clear ho1
  obtain ⟨cw0_0, cw0_1, cw0_2, cw0_3, cw0_4, cw0_5, cw0_6, cw0_7, rfl⟩ := cellsDisk W0_1.out.rd
  have hma1 := ((Mod.refl (fun _ => False) w1).alloc (.cells #[.slice cw0_0 r.1.length cw0_1, .slice cw0_2 r.2.1.length cw0_3, .slice cw0_4 r.2.2.1.length cw0_5, .slice cw0_6 r.2.2.2.1.length cw0_7, .int .i64 r.2.2.2.2] 27))
  have W0_2 := Sec.mk (W0_1.out.step hma1)
  clear W0_1
  have HM2 := Sec.mk (HM1.out.transN hma1)
  clear HM1
  have hs2 := hma1.size
  clear hma1
  have HBK_w0 := Sec.mk (Blk.new w1 27 [.slice cw0_0 r.1.length cw0_1, .slice cw0_2 r.2.1.length cw0_3, .slice cw0_4 r.2.2.1.length cw0_5, .slice cw0_6 r.2.2.2.1.length cw0_7, .int .i64 r.2.2.2.2])
  have hz1 : (w1.alloc (.cells #[.slice cw0_0 r.1.length cw0_1, .slice cw0_2 r.2.1.length cw0_3, .slice cw0_4 r.2.2.1.length cw0_5, .slice cw0_6 r.2.2.2.1.length cw0_7, .int .i64 r.2.2.2.2] 27)).heap.size = w1.heap.size + 1 := by simp
  have kw0_0 : (w1.alloc (.cells #[.slice cw0_0 r.1.length cw0_1, .slice cw0_2 r.2.1.length cw0_3, .slice cw0_4 r.2.2.1.length cw0_5, .slice cw0_6 r.2.2.2.1.length cw0_7, .int .i64 r.2.2.2.2] 27)).cell? ⟨w1.heap.size, 0, none⟩ = some (.slice cw0_0 r.1.length cw0_1) := HBK_w0.out.cell 0
  have kw0_1 : (w1.alloc (.cells #[.slice cw0_0 r.1.length cw0_1, .slice cw0_2 r.2.1.length cw0_3, .slice cw0_4 r.2.2.1.length cw0_5, .slice cw0_6 r.2.2.2.1.length cw0_7, .int .i64 r.2.2.2.2] 27)).cell? ⟨w1.heap.size, 1, none⟩ = some (.slice cw0_2 r.2.1.length cw0_3) := HBK_w0.out.cell 1
  have kw0_2 : (w1.alloc (.cells #[.slice cw0_0 r.1.length cw0_1, .slice cw0_2 r.2.1.length cw0_3, .slice cw0_4 r.2.2.1.length cw0_5, .slice cw0_6 r.2.2.2.1.length cw0_7, .int .i64 r.2.2.2.2] 27)).cell? ⟨w1.heap.size, 2, none⟩ = some (.slice cw0_4 r.2.2.1.length cw0_5) := HBK_w0.out.cell 2
  have kw0_3 : (w1.alloc (.cells #[.slice cw0_0 r.1.length cw0_1, .slice cw0_2 r.2.1.length cw0_3, .slice cw0_4 r.2.2.1.length cw0_5, .slice cw0_6 r.2.2.2.1.length cw0_7, .int .i64 r.2.2.2.2] 27)).cell? ⟨w1.heap.size, 3, none⟩ = some (.slice cw0_6 r.2.2.2.1.length cw0_7) := HBK_w0.out.cell 3
  have kw0_4 : (w1.alloc (.cells #[.slice cw0_0 r.1.length cw0_1, .slice cw0_2 r.2.1.length cw0_3, .slice cw0_4 r.2.2.1.length cw0_5, .slice cw0_6 r.2.2.2.1.length cw0_7, .int .i64 r.2.2.2.2] 27)).cell? ⟨w1.heap.size, 4, none⟩ = some (.int .i64 r.2.2.2.2) := HBK_w0.out.cell 4
  go_wp2_with fail
  refine (implFormat_v aKind hwaKind aValidity hwaValidity aQuota hwaQuota  (HENV.out.new HM2.out)).mono ?_
  rw [HFN.out]
  rintro e w3 ⟨v3, rfl, ho3, hm3⟩
  clear kw0_0 kw0_1 kw0_2 kw0_3 kw0_4
  have HBK3_w0 := Sec.mk (HBK_w0.out.mod hm3 id)
  clear HBK_w0
  have W0_3 := Sec.mk (W0_2.out.step hm3)
  clear W0_2
  have HM3 := Sec.mk (HM2.out.transN hm3)
  clear HM2
  have hs3 := hm3.size
  clear hm3
  have kw0_0 : (w3).cell? ⟨w1.heap.size, 0, none⟩ = some (.slice cw0_0 r.1.length cw0_1) := HBK3_w0.out.cell 0
  have kw0_1 : (w3).cell? ⟨w1.heap.size, 1, none⟩ = some (.slice cw0_2 r.2.1.length cw0_3) := HBK3_w0.out.cell 1
  have kw0_2 : (w3).cell? ⟨w1.heap.size, 2, none⟩ = some (.slice cw0_4 r.2.2.1.length cw0_5) := HBK3_w0.out.cell 2
  have kw0_3 : (w3).cell? ⟨w1.heap.size, 3, none⟩ = some (.slice cw0_6 r.2.2.2.1.length cw0_7) := HBK3_w0.out.cell 3
  have kw0_4 : (w3).cell? ⟨w1.heap.size, 4, none⟩ = some (.int .i64 r.2.2.2.2) := HBK3_w0.out.cell 4
  have G0_3 := Sec.mk ho3
  clear ho3
  obtain ⟨cg0_0, cg0_1, cg0_2, cg0_3, cg0_4, cg0_5, cg0_6, cg0_7, rfl⟩ := cellsDisk G0_3.out.rd
  have hma3 := ((Mod.refl (fun _ => False) w3).alloc (.cells #[.slice cg0_0 r.1.length cg0_1, .slice cg0_2 r.2.1.length cg0_3, .slice cg0_4 r.2.2.1.length cg0_5, .slice cg0_6 r.2.2.2.1.length cg0_7, .int .i64 r.2.2.2.2] 27))
  clear kw0_0 kw0_1 kw0_2 kw0_3 kw0_4
  have HBK4_w0 := Sec.mk (HBK3_w0.out.mod hma3 id)
  clear HBK3_w0
  have W0_4 := Sec.mk (W0_3.out.step hma3)
  clear W0_3
  have G0_4 := Sec.mk (G0_3.out.step hma3)
  clear G0_3
  have HM4 := Sec.mk (HM3.out.transN hma3)
  clear HM3
  have hs4 := hma3.size
  clear hma3
  have kw0_0 : (w3.alloc (.cells #[.slice cg0_0 r.1.length cg0_1, .slice cg0_2 r.2.1.length cg0_3, .slice cg0_4 r.2.2.1.length cg0_5, .slice cg0_6 r.2.2.2.1.length cg0_7, .int .i64 r.2.2.2.2] 27)).cell? ⟨w1.heap.size, 0, none⟩ = some (.slice cw0_0 r.1.length cw0_1) := HBK4_w0.out.cell 0
  have kw0_1 : (w3.alloc (.cells #[.slice cg0_0 r.1.length cg0_1, .slice cg0_2 r.2.1.length cg0_3, .slice cg0_4 r.2.2.1.length cg0_5, .slice cg0_6 r.2.2.2.1.length cg0_7, .int .i64 r.2.2.2.2] 27)).cell? ⟨w1.heap.size, 1, none⟩ = some (.slice cw0_2 r.2.1.length cw0_3) := HBK4_w0.out.cell 1
  have kw0_2 : (w3.alloc (.cells #[.slice cg0_0 r.1.length cg0_1, .slice cg0_2 r.2.1.length cg0_3, .slice cg0_4 r.2.2.1.length cg0_5, .slice cg0_6 r.2.2.2.1.length cg0_7, .int .i64 r.2.2.2.2] 27)).cell? ⟨w1.heap.size, 2, none⟩ = some (.slice cw0_4 r.2.2.1.length cw0_5) := HBK4_w0.out.cell 2
  have kw0_3 : (w3.alloc (.cells #[.slice cg0_0 r.1.length cg0_1, .slice cg0_2 r.2.1.length cg0_3, .slice cg0_4 r.2.2.1.length cg0_5, .slice cg0_6 r.2.2.2.1.length cg0_7, .int .i64 r.2.2.2.2] 27)).cell? ⟨w1.heap.size, 3, none⟩ = some (.slice cw0_6 r.2.2.2.1.length cw0_7) := HBK4_w0.out.cell 3
  have kw0_4 : (w3.alloc (.cells #[.slice cg0_0 r.1.length cg0_1, .slice cg0_2 r.2.1.length cg0_3, .slice cg0_4 r.2.2.1.length cg0_5, .slice cg0_6 r.2.2.2.1.length cg0_7, .int .i64 r.2.2.2.2] 27)).cell? ⟨w1.heap.size, 4, none⟩ = some (.int .i64 r.2.2.2.2) := HBK4_w0.out.cell 4
  have HBK_g0 := Sec.mk (Blk.new w3 27 [.slice cg0_0 r.1.length cg0_1, .slice cg0_2 r.2.1.length cg0_3, .slice cg0_4 r.2.2.1.length cg0_5, .slice cg0_6 r.2.2.2.1.length cg0_7, .int .i64 r.2.2.2.2])
  have hz3 : (w3.alloc (.cells #[.slice cg0_0 r.1.length cg0_1, .slice cg0_2 r.2.1.length cg0_3, .slice cg0_4 r.2.2.1.length cg0_5, .slice cg0_6 r.2.2.2.1.length cg0_7, .int .i64 r.2.2.2.2] 27)).heap.size = w3.heap.size + 1 := by simp
  clear kw0_0 kw0_1 kw0_2 kw0_3 kw0_4
  have kw0_0 : (w3.alloc (.cells #[.slice cg0_0 r.1.length cg0_1, .slice cg0_2 r.2.1.length cg0_3, .slice cg0_4 r.2.2.1.length cg0_5, .slice cg0_6 r.2.2.2.1.length cg0_7, .int .i64 r.2.2.2.2] 27)).cell? ⟨w1.heap.size, 0, none⟩ = some (.slice cw0_0 r.1.length cw0_1) := HBK4_w0.out.cell 0
  have kw0_1 : (w3.alloc (.cells #[.slice cg0_0 r.1.length cg0_1, .slice cg0_2 r.2.1.length cg0_3, .slice cg0_4 r.2.2.1.length cg0_5, .slice cg0_6 r.2.2.2.1.length cg0_7, .int .i64 r.2.2.2.2] 27)).cell? ⟨w1.heap.size, 1, none⟩ = some (.slice cw0_2 r.2.1.length cw0_3) := HBK4_w0.out.cell 1
  have kw0_2 : (w3.alloc (.cells #[.slice cg0_0 r.1.length cg0_1, .slice cg0_2 r.2.1.length cg0_3, .slice cg0_4 r.2.2.1.length cg0_5, .slice cg0_6 r.2.2.2.1.length cg0_7, .int .i64 r.2.2.2.2] 27)).cell? ⟨w1.heap.size, 2, none⟩ = some (.slice cw0_4 r.2.2.1.length cw0_5) := HBK4_w0.out.cell 2
  have kw0_3 : (w3.alloc (.cells #[.slice cg0_0 r.1.length cg0_1, .slice cg0_2 r.2.1.length cg0_3, .slice cg0_4 r.2.2.1.length cg0_5, .slice cg0_6 r.2.2.2.1.length cg0_7, .int .i64 r.2.2.2.2] 27)).cell? ⟨w1.heap.size, 3, none⟩ = some (.slice cw0_6 r.2.2.2.1.length cw0_7) := HBK4_w0.out.cell 3
  have kw0_4 : (w3.alloc (.cells #[.slice cg0_0 r.1.length cg0_1, .slice cg0_2 r.2.1.length cg0_3, .slice cg0_4 r.2.2.1.length cg0_5, .slice cg0_6 r.2.2.2.1.length cg0_7, .int .i64 r.2.2.2.2] 27)).cell? ⟨w1.heap.size, 4, none⟩ = some (.int .i64 r.2.2.2.2) := HBK4_w0.out.cell 4
  have kg0_0 : (w3.alloc (.cells #[.slice cg0_0 r.1.length cg0_1, .slice cg0_2 r.2.1.length cg0_3, .slice cg0_4 r.2.2.1.length cg0_5, .slice cg0_6 r.2.2.2.1.length cg0_7, .int .i64 r.2.2.2.2] 27)).cell? ⟨w3.heap.size, 0, none⟩ = some (.slice cg0_0 r.1.length cg0_1) := HBK_g0.out.cell 0
  have kg0_1 : (w3.alloc (.cells #[.slice cg0_0 r.1.length cg0_1, .slice cg0_2 r.2.1.length cg0_3, .slice cg0_4 r.2.2.1.length cg0_5, .slice cg0_6 r.2.2.2.1.length cg0_7, .int .i64 r.2.2.2.2] 27)).cell? ⟨w3.heap.size, 1, none⟩ = some (.slice cg0_2 r.2.1.length cg0_3) := HBK_g0.out.cell 1
  have kg0_2 : (w3.alloc (.cells #[.slice cg0_0 r.1.length cg0_1, .slice cg0_2 r.2.1.length cg0_3, .slice cg0_4 r.2.2.1.length cg0_5, .slice cg0_6 r.2.2.2.1.length cg0_7, .int .i64 r.2.2.2.2] 27)).cell? ⟨w3.heap.size, 2, none⟩ = some (.slice cg0_4 r.2.2.1.length cg0_5) := HBK_g0.out.cell 2
  have kg0_3 : (w3.alloc (.cells #[.slice cg0_0 r.1.length cg0_1, .slice cg0_2 r.2.1.length cg0_3, .slice cg0_4 r.2.2.1.length cg0_5, .slice cg0_6 r.2.2.2.1.length cg0_7, .int .i64 r.2.2.2.2] 27)).cell? ⟨w3.heap.size, 3, none⟩ = some (.slice cg0_6 r.2.2.2.1.length cg0_7) := HBK_g0.out.cell 3
  have kg0_4 : (w3.alloc (.cells #[.slice cg0_0 r.1.length cg0_1, .slice cg0_2 r.2.1.length cg0_3, .slice cg0_4 r.2.2.1.length cg0_5, .slice cg0_6 r.2.2.2.1.length cg0_7, .int .i64 r.2.2.2.2] 27)).cell? ⟨w3.heap.size, 4, none⟩ = some (.int .i64 r.2.2.2.2) := HBK_g0.out.cell 4
  go_wp2_with fail
  refine (eqDisk_v G0_4.out.rd W0_4.out.rd).mono ?_
  rintro e w5 ⟨rfl, hm5⟩
  clear kw0_0 kw0_1 kw0_2 kw0_3 kw0_4
  clear kg0_0 kg0_1 kg0_2 kg0_3 kg0_4
  have HBK5_w0 := Sec.mk (HBK4_w0.out.mod hm5 id)
  clear HBK4_w0
  have HBK5_g0 := Sec.mk (HBK_g0.out.mod hm5 id)
  clear HBK_g0
  have W0_5 := Sec.mk (W0_4.out.step hm5)
  clear W0_4
  have G0_5 := Sec.mk (G0_4.out.step hm5)
  clear G0_4
  have HM5 := Sec.mk (HM4.out.transN hm5)
  clear HM4
  have hs5 := hm5.size
  clear hm5
  have kw0_0 : (w5).cell? ⟨w1.heap.size, 0, none⟩ = some (.slice cw0_0 r.1.length cw0_1) := HBK5_w0.out.cell 0
  have kw0_1 : (w5).cell? ⟨w1.heap.size, 1, none⟩ = some (.slice cw0_2 r.2.1.length cw0_3) := HBK5_w0.out.cell 1
  have kw0_2 : (w5).cell? ⟨w1.heap.size, 2, none⟩ = some (.slice cw0_4 r.2.2.1.length cw0_5) := HBK5_w0.out.cell 2
  have kw0_3 : (w5).cell? ⟨w1.heap.size, 3, none⟩ = some (.slice cw0_6 r.2.2.2.1.length cw0_7) := HBK5_w0.out.cell 3
  have kw0_4 : (w5).cell? ⟨w1.heap.size, 4, none⟩ = some (.int .i64 r.2.2.2.2) := HBK5_w0.out.cell 4
  have kg0_0 : (w5).cell? ⟨w3.heap.size, 0, none⟩ = some (.slice cg0_0 r.1.length cg0_1) := HBK5_g0.out.cell 0
  have kg0_1 : (w5).cell? ⟨w3.heap.size, 1, none⟩ = some (.slice cg0_2 r.2.1.length cg0_3) := HBK5_g0.out.cell 1
  have kg0_2 : (w5).cell? ⟨w3.heap.size, 2, none⟩ = some (.slice cg0_4 r.2.2.1.length cg0_5) := HBK5_g0.out.cell 2
  have kg0_3 : (w5).cell? ⟨w3.heap.size, 3, none⟩ = some (.slice cg0_6 r.2.2.2.1.length cg0_7) := HBK5_g0.out.cell 3
  have kg0_4 : (w5).cell? ⟨w3.heap.size, 4, none⟩ = some (.int .i64 r.2.2.2.2) := HBK5_g0.out.cell 4
  rw [show decide (r = r) = true by simp]
  go_wp2_with fail
  refine (markDisk_v G0_5.out (1) (by omega)).mono ?_
  rintro e w6 ⟨rfl, ho6, hm6⟩
  clear G0_5
  clear kw0_0 kw0_1 kw0_2 kw0_3 kw0_4
  clear kg0_0 kg0_1 kg0_2 kg0_3 kg0_4
  have HBK6_w0 := Sec.mk (HBK5_w0.out.mod hm6 (by omega))
  clear HBK5_w0
  have HBK6_g0 := Sec.mk (HBK5_g0.out.mod hm6 (by omega))
  clear HBK5_g0
  have W0_6 := Sec.mk (W0_5.out.keep hm6 (fun k h1 h2 h3 => by omega))
  clear W0_5
  have HM6 := Sec.mk (HM5.out.trans hm6 (fun i hi hlt => by omega))
  clear HM5
  have hs6 := hm6.size
  clear hm6
  have kw0_0 : (w6).cell? ⟨w1.heap.size, 0, none⟩ = some (.slice cw0_0 r.1.length cw0_1) := HBK6_w0.out.cell 0
  have kw0_1 : (w6).cell? ⟨w1.heap.size, 1, none⟩ = some (.slice cw0_2 r.2.1.length cw0_3) := HBK6_w0.out.cell 1
  have kw0_2 : (w6).cell? ⟨w1.heap.size, 2, none⟩ = some (.slice cw0_4 r.2.2.1.length cw0_5) := HBK6_w0.out.cell 2
  have kw0_3 : (w6).cell? ⟨w1.heap.size, 3, none⟩ = some (.slice cw0_6 r.2.2.2.1.length cw0_7) := HBK6_w0.out.cell 3
  have kw0_4 : (w6).cell? ⟨w1.heap.size, 4, none⟩ = some (.int .i64 r.2.2.2.2) := HBK6_w0.out.cell 4
  have kg0_0 : (w6).cell? ⟨w3.heap.size, 0, none⟩ = some (.slice cg0_0 r.1.length cg0_1) := HBK6_g0.out.cell 0
  have kg0_1 : (w6).cell? ⟨w3.heap.size, 1, none⟩ = some (.slice cg0_2 r.2.1.length cg0_3) := HBK6_g0.out.cell 1
  have kg0_2 : (w6).cell? ⟨w3.heap.size, 2, none⟩ = some (.slice cg0_4 r.2.2.1.length cg0_5) := HBK6_g0.out.cell 2
  have kg0_3 : (w6).cell? ⟨w3.heap.size, 3, none⟩ = some (.slice cg0_6 r.2.2.2.1.length cg0_7) := HBK6_g0.out.cell 3
  have kg0_4 : (w6).cell? ⟨w3.heap.size, 4, none⟩ = some (.int .i64 r.2.2.2.2) := HBK6_g0.out.cell 4
  have G0_6 := Sec.mk ho6
  clear ho6
  have HX := Sec.mk (mkDisk1_idem 1 1 r).symm
  have HK := Sec.mk (cntDisk_mk 1 r)
  go_wp2_with fail
  refine (heldDisk_v G0_6.out.rd 1 HX.out (by rw [HK.out]; omega)).mono ?_
  rintro e w7 ⟨rfl, hm7⟩
  rw [HK.out]
  clear kw0_0 kw0_1 kw0_2 kw0_3 kw0_4
  clear kg0_0 kg0_1 kg0_2 kg0_3 kg0_4
  have HBK7_w0 := Sec.mk (HBK6_w0.out.mod hm7 id)
  clear HBK6_w0
  have HBK7_g0 := Sec.mk (HBK6_g0.out.mod hm7 id)
  clear HBK6_g0
  have W0_7 := Sec.mk (W0_6.out.step hm7)
  clear W0_6
  have G0_7 := Sec.mk (G0_6.out.step hm7)
  clear G0_6
  have HM7 := Sec.mk (HM6.out.transN hm7)
  clear HM6
  have hs7 := hm7.size
  clear hm7
  have kw0_0 : (w7).cell? ⟨w1.heap.size, 0, none⟩ = some (.slice cw0_0 r.1.length cw0_1) := HBK7_w0.out.cell 0
  have kw0_1 : (w7).cell? ⟨w1.heap.size, 1, none⟩ = some (.slice cw0_2 r.2.1.length cw0_3) := HBK7_w0.out.cell 1
  have kw0_2 : (w7).cell? ⟨w1.heap.size, 2, none⟩ = some (.slice cw0_4 r.2.2.1.length cw0_5) := HBK7_w0.out.cell 2
  have kw0_3 : (w7).cell? ⟨w1.heap.size, 3, none⟩ = some (.slice cw0_6 r.2.2.2.1.length cw0_7) := HBK7_w0.out.cell 3
  have kw0_4 : (w7).cell? ⟨w1.heap.size, 4, none⟩ = some (.int .i64 r.2.2.2.2) := HBK7_w0.out.cell 4
  have kg0_0 : (w7).cell? ⟨w3.heap.size, 0, none⟩ = some (.slice cg0_0 r.1.length cg0_1) := HBK7_g0.out.cell 0
  have kg0_1 : (w7).cell? ⟨w3.heap.size, 1, none⟩ = some (.slice cg0_2 r.2.1.length cg0_3) := HBK7_g0.out.cell 1
  have kg0_2 : (w7).cell? ⟨w3.heap.size, 2, none⟩ = some (.slice cg0_4 r.2.2.1.length cg0_5) := HBK7_g0.out.cell 2
  have kg0_3 : (w7).cell? ⟨w3.heap.size, 3, none⟩ = some (.slice cg0_6 r.2.2.2.1.length cg0_7) := HBK7_g0.out.cell 3
  have kg0_4 : (w7).cell? ⟨w3.heap.size, 4, none⟩ = some (.int .i64 r.2.2.2.2) := HBK7_g0.out.cell 4
  go_wp2_with fail
  refine (implFormat_v aKind hwaKind aValidity hwaValidity aQuota hwaQuota  (HENV.out.new HM7.out)).mono ?_
  rw [HFN.out]
  rintro e w8 ⟨v8, rfl, ho8, hm8⟩
  clear kw0_0 kw0_1 kw0_2 kw0_3 kw0_4
  clear kg0_0 kg0_1 kg0_2 kg0_3 kg0_4
  have HBK8_w0 := Sec.mk (HBK7_w0.out.mod hm8 id)
  clear HBK7_w0
  have HBK8_g0 := Sec.mk (HBK7_g0.out.mod hm8 id)
  clear HBK7_g0
  have W0_8 := Sec.mk (W0_7.out.step hm8)
  clear W0_7
  have G0_8 := Sec.mk (G0_7.out.step hm8)
  clear G0_7
  have HM8 := Sec.mk (HM7.out.transN hm8)
  clear HM7
  have hs8 := hm8.size
  clear hm8
  have kw0_0 : (w8).cell? ⟨w1.heap.size, 0, none⟩ = some (.slice cw0_0 r.1.length cw0_1) := HBK8_w0.out.cell 0
  have kw0_1 : (w8).cell? ⟨w1.heap.size, 1, none⟩ = some (.slice cw0_2 r.2.1.length cw0_3) := HBK8_w0.out.cell 1
  have kw0_2 : (w8).cell? ⟨w1.heap.size, 2, none⟩ = some (.slice cw0_4 r.2.2.1.length cw0_5) := HBK8_w0.out.cell 2
  have kw0_3 : (w8).cell? ⟨w1.heap.size, 3, none⟩ = some (.slice cw0_6 r.2.2.2.1.length cw0_7) := HBK8_w0.out.cell 3
  have kw0_4 : (w8).cell? ⟨w1.heap.size, 4, none⟩ = some (.int .i64 r.2.2.2.2) := HBK8_w0.out.cell 4
  have kg0_0 : (w8).cell? ⟨w3.heap.size, 0, none⟩ = some (.slice cg0_0 r.1.length cg0_1) := HBK8_g0.out.cell 0
  have kg0_1 : (w8).cell? ⟨w3.heap.size, 1, none⟩ = some (.slice cg0_2 r.2.1.length cg0_3) := HBK8_g0.out.cell 1
  have kg0_2 : (w8).cell? ⟨w3.heap.size, 2, none⟩ = some (.slice cg0_4 r.2.2.1.length cg0_5) := HBK8_g0.out.cell 2
  have kg0_3 : (w8).cell? ⟨w3.heap.size, 3, none⟩ = some (.slice cg0_6 r.2.2.2.1.length cg0_7) := HBK8_g0.out.cell 3
  have kg0_4 : (w8).cell? ⟨w3.heap.size, 4, none⟩ = some (.int .i64 r.2.2.2.2) := HBK8_g0.out.cell 4
  have H0_8 := Sec.mk ho8
  clear ho8
  obtain ⟨ch0_0, ch0_1, ch0_2, ch0_3, ch0_4, ch0_5, ch0_6, ch0_7, rfl⟩ := cellsDisk H0_8.out.rd
  have hma8 := ((Mod.refl (fun _ => False) w8).alloc (.cells #[.slice ch0_0 r.1.length ch0_1, .slice ch0_2 r.2.1.length ch0_3, .slice ch0_4 r.2.2.1.length ch0_5, .slice ch0_6 r.2.2.2.1.length ch0_7, .int .i64 r.2.2.2.2] 27))
  clear kw0_0 kw0_1 kw0_2 kw0_3 kw0_4
  clear kg0_0 kg0_1 kg0_2 kg0_3 kg0_4
  have HBK9_w0 := Sec.mk (HBK8_w0.out.mod hma8 id)
  clear HBK8_w0
  have HBK9_g0 := Sec.mk (HBK8_g0.out.mod hma8 id)
  clear HBK8_g0
  have W0_9 := Sec.mk (W0_8.out.step hma8)
  clear W0_8
  have G0_9 := Sec.mk (G0_8.out.step hma8)
  clear G0_8
  have H0_9 := Sec.mk (H0_8.out.step hma8)
  clear H0_8
  have HM9 := Sec.mk (HM8.out.transN hma8)
  clear HM8
  have hs9 := hma8.size
  clear hma8
  have kw0_0 : (w8.alloc (.cells #[.slice ch0_0 r.1.length ch0_1, .slice ch0_2 r.2.1.length ch0_3, .slice ch0_4 r.2.2.1.length ch0_5, .slice ch0_6 r.2.2.2.1.length ch0_7, .int .i64 r.2.2.2.2] 27)).cell? ⟨w1.heap.size, 0, none⟩ = some (.slice cw0_0 r.1.length cw0_1) := HBK9_w0.out.cell 0
  have kw0_1 : (w8.alloc (.cells #[.slice ch0_0 r.1.length ch0_1, .slice ch0_2 r.2.1.length ch0_3, .slice ch0_4 r.2.2.1.length ch0_5, .slice ch0_6 r.2.2.2.1.length ch0_7, .int .i64 r.2.2.2.2] 27)).cell? ⟨w1.heap.size, 1, none⟩ = some (.slice cw0_2 r.2.1.length cw0_3) := HBK9_w0.out.cell 1
  have kw0_2 : (w8.alloc (.cells #[.slice ch0_0 r.1.length ch0_1, .slice ch0_2 r.2.1.length ch0_3, .slice ch0_4 r.2.2.1.length ch0_5, .slice ch0_6 r.2.2.2.1.length ch0_7, .int .i64 r.2.2.2.2] 27)).cell? ⟨w1.heap.size, 2, none⟩ = some (.slice cw0_4 r.2.2.1.length cw0_5) := HBK9_w0.out.cell 2
  have kw0_3 : (w8.alloc (.cells #[.slice ch0_0 r.1.length ch0_1, .slice ch0_2 r.2.1.length ch0_3, .slice ch0_4 r.2.2.1.length ch0_5, .slice ch0_6 r.2.2.2.1.length ch0_7, .int .i64 r.2.2.2.2] 27)).cell? ⟨w1.heap.size, 3, none⟩ = some (.slice cw0_6 r.2.2.2.1.length cw0_7) := HBK9_w0.out.cell 3
  have kw0_4 : (w8.alloc (.cells #[.slice ch0_0 r.1.length ch0_1, .slice ch0_2 r.2.1.length ch0_3, .slice ch0_4 r.2.2.1.length ch0_5, .slice ch0_6 r.2.2.2.1.length ch0_7, .int .i64 r.2.2.2.2] 27)).cell? ⟨w1.heap.size, 4, none⟩ = some (.int .i64 r.2.2.2.2) := HBK9_w0.out.cell 4
  have kg0_0 : (w8.alloc (.cells #[.slice ch0_0 r.1.length ch0_1, .slice ch0_2 r.2.1.length ch0_3, .slice ch0_4 r.2.2.1.length ch0_5, .slice ch0_6 r.2.2.2.1.length ch0_7, .int .i64 r.2.2.2.2] 27)).cell? ⟨w3.heap.size, 0, none⟩ = some (.slice cg0_0 r.1.length cg0_1) := HBK9_g0.out.cell 0
  have kg0_1 : (w8.alloc (.cells #[.slice ch0_0 r.1.length ch0_1, .slice ch0_2 r.2.1.length ch0_3, .slice ch0_4 r.2.2.1.length ch0_5, .slice ch0_6 r.2.2.2.1.length ch0_7, .int .i64 r.2.2.2.2] 27)).cell? ⟨w3.heap.size, 1, none⟩ = some (.slice cg0_2 r.2.1.length cg0_3) := HBK9_g0.out.cell 1
  have kg0_2 : (w8.alloc (.cells #[.slice ch0_0 r.1.length ch0_1, .slice ch0_2 r.2.1.length ch0_3, .slice ch0_4 r.2.2.1.length ch0_5, .slice ch0_6 r.2.2.2.1.length ch0_7, .int .i64 r.2.2.2.2] 27)).cell? ⟨w3.heap.size, 2, none⟩ = some (.slice cg0_4 r.2.2.1.length cg0_5) := HBK9_g0.out.cell 2
  have kg0_3 : (w8.alloc (.cells #[.slice ch0_0 r.1.length ch0_1, .slice ch0_2 r.2.1.length ch0_3, .slice ch0_4 r.2.2.1.length ch0_5, .slice ch0_6 r.2.2.2.1.length ch0_7, .int .i64 r.2.2.2.2] 27)).cell? ⟨w3.heap.size, 3, none⟩ = some (.slice cg0_6 r.2.2.2.1.length cg0_7) := HBK9_g0.out.cell 3
  have kg0_4 : (w8.alloc (.cells #[.slice ch0_0 r.1.length ch0_1, .slice ch0_2 r.2.1.length ch0_3, .slice ch0_4 r.2.2.1.length ch0_5, .slice ch0_6 r.2.2.2.1.length ch0_7, .int .i64 r.2.2.2.2] 27)).cell? ⟨w3.heap.size, 4, none⟩ = some (.int .i64 r.2.2.2.2) := HBK9_g0.out.cell 4
  have HBK_h0 := Sec.mk (Blk.new w8 27 [.slice ch0_0 r.1.length ch0_1, .slice ch0_2 r.2.1.length ch0_3, .slice ch0_4 r.2.2.1.length ch0_5, .slice ch0_6 r.2.2.2.1.length ch0_7, .int .i64 r.2.2.2.2])
  have hz8 : (w8.alloc (.cells #[.slice ch0_0 r.1.length ch0_1, .slice ch0_2 r.2.1.length ch0_3, .slice ch0_4 r.2.2.1.length ch0_5, .slice ch0_6 r.2.2.2.1.length ch0_7, .int .i64 r.2.2.2.2] 27)).heap.size = w8.heap.size + 1 := by simp
  clear kw0_0 kw0_1 kw0_2 kw0_3 kw0_4
  clear kg0_0 kg0_1 kg0_2 kg0_3 kg0_4
  have kw0_0 : (w8.alloc (.cells #[.slice ch0_0 r.1.length ch0_1, .slice ch0_2 r.2.1.length ch0_3, .slice ch0_4 r.2.2.1.length ch0_5, .slice ch0_6 r.2.2.2.1.length ch0_7, .int .i64 r.2.2.2.2] 27)).cell? ⟨w1.heap.size, 0, none⟩ = some (.slice cw0_0 r.1.length cw0_1) := HBK9_w0.out.cell 0
  have kw0_1 : (w8.alloc (.cells #[.slice ch0_0 r.1.length ch0_1, .slice ch0_2 r.2.1.length ch0_3, .slice ch0_4 r.2.2.1.length ch0_5, .slice ch0_6 r.2.2.2.1.length ch0_7, .int .i64 r.2.2.2.2] 27)).cell? ⟨w1.heap.size, 1, none⟩ = some (.slice cw0_2 r.2.1.length cw0_3) := HBK9_w0.out.cell 1
  have kw0_2 : (w8.alloc (.cells #[.slice ch0_0 r.1.length ch0_1, .slice ch0_2 r.2.1.length ch0_3, .slice ch0_4 r.2.2.1.length ch0_5, .slice ch0_6 r.2.2.2.1.length ch0_7, .int .i64 r.2.2.2.2] 27)).cell? ⟨w1.heap.size, 2, none⟩ = some (.slice cw0_4 r.2.2.1.length cw0_5) := HBK9_w0.out.cell 2
  have kw0_3 : (w8.alloc (.cells #[.slice ch0_0 r.1.length ch0_1, .slice ch0_2 r.2.1.length ch0_3, .slice ch0_4 r.2.2.1.length ch0_5, .slice ch0_6 r.2.2.2.1.length ch0_7, .int .i64 r.2.2.2.2] 27)).cell? ⟨w1.heap.size, 3, none⟩ = some (.slice cw0_6 r.2.2.2.1.length cw0_7) := HBK9_w0.out.cell 3
  have kw0_4 : (w8.alloc (.cells #[.slice ch0_0 r.1.length ch0_1, .slice ch0_2 r.2.1.length ch0_3, .slice ch0_4 r.2.2.1.length ch0_5, .slice ch0_6 r.2.2.2.1.length ch0_7, .int .i64 r.2.2.2.2] 27)).cell? ⟨w1.heap.size, 4, none⟩ = some (.int .i64 r.2.2.2.2) := HBK9_w0.out.cell 4
  have kg0_0 : (w8.alloc (.cells #[.slice ch0_0 r.1.length ch0_1, .slice ch0_2 r.2.1.length ch0_3, .slice ch0_4 r.2.2.1.length ch0_5, .slice ch0_6 r.2.2.2.1.length ch0_7, .int .i64 r.2.2.2.2] 27)).cell? ⟨w3.heap.size, 0, none⟩ = some (.slice cg0_0 r.1.length cg0_1) := HBK9_g0.out.cell 0
  have kg0_1 : (w8.alloc (.cells #[.slice ch0_0 r.1.length ch0_1, .slice ch0_2 r.2.1.length ch0_3, .slice ch0_4 r.2.2.1.length ch0_5, .slice ch0_6 r.2.2.2.1.length ch0_7, .int .i64 r.2.2.2.2] 27)).cell? ⟨w3.heap.size, 1, none⟩ = some (.slice cg0_2 r.2.1.length cg0_3) := HBK9_g0.out.cell 1
  have kg0_2 : (w8.alloc (.cells #[.slice ch0_0 r.1.length ch0_1, .slice ch0_2 r.2.1.length ch0_3, .slice ch0_4 r.2.2.1.length ch0_5, .slice ch0_6 r.2.2.2.1.length ch0_7, .int .i64 r.2.2.2.2] 27)).cell? ⟨w3.heap.size, 2, none⟩ = some (.slice cg0_4 r.2.2.1.length cg0_5) := HBK9_g0.out.cell 2
  have kg0_3 : (w8.alloc (.cells #[.slice ch0_0 r.1.length ch0_1, .slice ch0_2 r.2.1.length ch0_3, .slice ch0_4 r.2.2.1.length ch0_5, .slice ch0_6 r.2.2.2.1.length ch0_7, .int .i64 r.2.2.2.2] 27)).cell? ⟨w3.heap.size, 3, none⟩ = some (.slice cg0_6 r.2.2.2.1.length cg0_7) := HBK9_g0.out.cell 3
  have kg0_4 : (w8.alloc (.cells #[.slice ch0_0 r.1.length ch0_1, .slice ch0_2 r.2.1.length ch0_3, .slice ch0_4 r.2.2.1.length ch0_5, .slice ch0_6 r.2.2.2.1.length ch0_7, .int .i64 r.2.2.2.2] 27)).cell? ⟨w3.heap.size, 4, none⟩ = some (.int .i64 r.2.2.2.2) := HBK9_g0.out.cell 4
  have kh0_0 : (w8.alloc (.cells #[.slice ch0_0 r.1.length ch0_1, .slice ch0_2 r.2.1.length ch0_3, .slice ch0_4 r.2.2.1.length ch0_5, .slice ch0_6 r.2.2.2.1.length ch0_7, .int .i64 r.2.2.2.2] 27)).cell? ⟨w8.heap.size, 0, none⟩ = some (.slice ch0_0 r.1.length ch0_1) := HBK_h0.out.cell 0
  have kh0_1 : (w8.alloc (.cells #[.slice ch0_0 r.1.length ch0_1, .slice ch0_2 r.2.1.length ch0_3, .slice ch0_4 r.2.2.1.length ch0_5, .slice ch0_6 r.2.2.2.1.length ch0_7, .int .i64 r.2.2.2.2] 27)).cell? ⟨w8.heap.size, 1, none⟩ = some (.slice ch0_2 r.2.1.length ch0_3) := HBK_h0.out.cell 1
  have kh0_2 : (w8.alloc (.cells #[.slice ch0_0 r.1.length ch0_1, .slice ch0_2 r.2.1.length ch0_3, .slice ch0_4 r.2.2.1.length ch0_5, .slice ch0_6 r.2.2.2.1.length ch0_7, .int .i64 r.2.2.2.2] 27)).cell? ⟨w8.heap.size, 2, none⟩ = some (.slice ch0_4 r.2.2.1.length ch0_5) := HBK_h0.out.cell 2
  have kh0_3 : (w8.alloc (.cells #[.slice ch0_0 r.1.length ch0_1, .slice ch0_2 r.2.1.length ch0_3, .slice ch0_4 r.2.2.1.length ch0_5, .slice ch0_6 r.2.2.2.1.length ch0_7, .int .i64 r.2.2.2.2] 27)).cell? ⟨w8.heap.size, 3, none⟩ = some (.slice ch0_6 r.2.2.2.1.length ch0_7) := HBK_h0.out.cell 3
  have kh0_4 : (w8.alloc (.cells #[.slice ch0_0 r.1.length ch0_1, .slice ch0_2 r.2.1.length ch0_3, .slice ch0_4 r.2.2.1.length ch0_5, .slice ch0_6 r.2.2.2.1.length ch0_7, .int .i64 r.2.2.2.2] 27)).cell? ⟨w8.heap.size, 4, none⟩ = some (.int .i64 r.2.2.2.2) := HBK_h0.out.cell 4
  go_wp2_with fail
  refine (eqDisk_v H0_9.out.rd W0_9.out.rd).mono ?_
  rintro e w10 ⟨rfl, hm10⟩
  clear kw0_0 kw0_1 kw0_2 kw0_3 kw0_4
  clear kg0_0 kg0_1 kg0_2 kg0_3 kg0_4
  clear kh0_0 kh0_1 kh0_2 kh0_3 kh0_4
  have HBK10_w0 := Sec.mk (HBK9_w0.out.mod hm10 id)
  clear HBK9_w0
  have HBK10_g0 := Sec.mk (HBK9_g0.out.mod hm10 id)
  clear HBK9_g0
  have HBK10_h0 := Sec.mk (HBK_h0.out.mod hm10 id)
  clear HBK_h0
  have W0_10 := Sec.mk (W0_9.out.step hm10)
  clear W0_9
  have G0_10 := Sec.mk (G0_9.out.step hm10)
  clear G0_9
  have H0_10 := Sec.mk (H0_9.out.step hm10)
  clear H0_9
  have HM10 := Sec.mk (HM9.out.transN hm10)
  clear HM9
  have hs10 := hm10.size
  clear hm10
  have kw0_0 : (w10).cell? ⟨w1.heap.size, 0, none⟩ = some (.slice cw0_0 r.1.length cw0_1) := HBK10_w0.out.cell 0
  have kw0_1 : (w10).cell? ⟨w1.heap.size, 1, none⟩ = some (.slice cw0_2 r.2.1.length cw0_3) := HBK10_w0.out.cell 1
  have kw0_2 : (w10).cell? ⟨w1.heap.size, 2, none⟩ = some (.slice cw0_4 r.2.2.1.length cw0_5) := HBK10_w0.out.cell 2
  have kw0_3 : (w10).cell? ⟨w1.heap.size, 3, none⟩ = some (.slice cw0_6 r.2.2.2.1.length cw0_7) := HBK10_w0.out.cell 3
  have kw0_4 : (w10).cell? ⟨w1.heap.size, 4, none⟩ = some (.int .i64 r.2.2.2.2) := HBK10_w0.out.cell 4
  have kg0_0 : (w10).cell? ⟨w3.heap.size, 0, none⟩ = some (.slice cg0_0 r.1.length cg0_1) := HBK10_g0.out.cell 0
  have kg0_1 : (w10).cell? ⟨w3.heap.size, 1, none⟩ = some (.slice cg0_2 r.2.1.length cg0_3) := HBK10_g0.out.cell 1
  have kg0_2 : (w10).cell? ⟨w3.heap.size, 2, none⟩ = some (.slice cg0_4 r.2.2.1.length cg0_5) := HBK10_g0.out.cell 2
  have kg0_3 : (w10).cell? ⟨w3.heap.size, 3, none⟩ = some (.slice cg0_6 r.2.2.2.1.length cg0_7) := HBK10_g0.out.cell 3
  have kg0_4 : (w10).cell? ⟨w3.heap.size, 4, none⟩ = some (.int .i64 r.2.2.2.2) := HBK10_g0.out.cell 4
  have kh0_0 : (w10).cell? ⟨w8.heap.size, 0, none⟩ = some (.slice ch0_0 r.1.length ch0_1) := HBK10_h0.out.cell 0
  have kh0_1 : (w10).cell? ⟨w8.heap.size, 1, none⟩ = some (.slice ch0_2 r.2.1.length ch0_3) := HBK10_h0.out.cell 1
  have kh0_2 : (w10).cell? ⟨w8.heap.size, 2, none⟩ = some (.slice ch0_4 r.2.2.1.length ch0_5) := HBK10_h0.out.cell 2
  have kh0_3 : (w10).cell? ⟨w8.heap.size, 3, none⟩ = some (.slice ch0_6 r.2.2.2.1.length ch0_7) := HBK10_h0.out.cell 3
  have kh0_4 : (w10).cell? ⟨w8.heap.size, 4, none⟩ = some (.int .i64 r.2.2.2.2) := HBK10_h0.out.cell 4
  rw [show decide (r = r) = true by simp]
  go_wp2_with fail
  refine (heldDisk_v G0_10.out.rd 1 HX.out (by rw [HK.out]; omega)).mono ?_
  rintro e w11 ⟨rfl, hm11⟩
  rw [HK.out]
  clear kw0_0 kw0_1 kw0_2 kw0_3 kw0_4
  clear kg0_0 kg0_1 kg0_2 kg0_3 kg0_4
  clear kh0_0 kh0_1 kh0_2 kh0_3 kh0_4
  have HBK11_w0 := Sec.mk (HBK10_w0.out.mod hm11 id)
  clear HBK10_w0
  have HBK11_g0 := Sec.mk (HBK10_g0.out.mod hm11 id)
  clear HBK10_g0
  have HBK11_h0 := Sec.mk (HBK10_h0.out.mod hm11 id)
  clear HBK10_h0
  have W0_11 := Sec.mk (W0_10.out.step hm11)
  clear W0_10
  have G0_11 := Sec.mk (G0_10.out.step hm11)
  clear G0_10
  have H0_11 := Sec.mk (H0_10.out.step hm11)
  clear H0_10
  have HM11 := Sec.mk (HM10.out.transN hm11)
  clear HM10
  have hs11 := hm11.size
  clear hm11
  have kw0_0 : (w11).cell? ⟨w1.heap.size, 0, none⟩ = some (.slice cw0_0 r.1.length cw0_1) := HBK11_w0.out.cell 0
  have kw0_1 : (w11).cell? ⟨w1.heap.size, 1, none⟩ = some (.slice cw0_2 r.2.1.length cw0_3) := HBK11_w0.out.cell 1
  have kw0_2 : (w11).cell? ⟨w1.heap.size, 2, none⟩ = some (.slice cw0_4 r.2.2.1.length cw0_5) := HBK11_w0.out.cell 2
  have kw0_3 : (w11).cell? ⟨w1.heap.size, 3, none⟩ = some (.slice cw0_6 r.2.2.2.1.length cw0_7) := HBK11_w0.out.cell 3
  have kw0_4 : (w11).cell? ⟨w1.heap.size, 4, none⟩ = some (.int .i64 r.2.2.2.2) := HBK11_w0.out.cell 4
  have kg0_0 : (w11).cell? ⟨w3.heap.size, 0, none⟩ = some (.slice cg0_0 r.1.length cg0_1) := HBK11_g0.out.cell 0
  have kg0_1 : (w11).cell? ⟨w3.heap.size, 1, none⟩ = some (.slice cg0_2 r.2.1.length cg0_3) := HBK11_g0.out.cell 1
  have kg0_2 : (w11).cell? ⟨w3.heap.size, 2, none⟩ = some (.slice cg0_4 r.2.2.1.length cg0_5) := HBK11_g0.out.cell 2
  have kg0_3 : (w11).cell? ⟨w3.heap.size, 3, none⟩ = some (.slice cg0_6 r.2.2.2.1.length cg0_7) := HBK11_g0.out.cell 3
  have kg0_4 : (w11).cell? ⟨w3.heap.size, 4, none⟩ = some (.int .i64 r.2.2.2.2) := HBK11_g0.out.cell 4
  have kh0_0 : (w11).cell? ⟨w8.heap.size, 0, none⟩ = some (.slice ch0_0 r.1.length ch0_1) := HBK11_h0.out.cell 0
  have kh0_1 : (w11).cell? ⟨w8.heap.size, 1, none⟩ = some (.slice ch0_2 r.2.1.length ch0_3) := HBK11_h0.out.cell 1
  have kh0_2 : (w11).cell? ⟨w8.heap.size, 2, none⟩ = some (.slice ch0_4 r.2.2.1.length ch0_5) := HBK11_h0.out.cell 2
  have kh0_3 : (w11).cell? ⟨w8.heap.size, 3, none⟩ = some (.slice ch0_6 r.2.2.2.1.length ch0_7) := HBK11_h0.out.cell 3
  have kh0_4 : (w11).cell? ⟨w8.heap.size, 4, none⟩ = some (.int .i64 r.2.2.2.2) := HBK11_h0.out.cell 4
  go_wp2
  go_ret
  exact ⟨by simp, HM11.out⟩
end Go.Proofs.YtiaknomadhgckaaDoor
