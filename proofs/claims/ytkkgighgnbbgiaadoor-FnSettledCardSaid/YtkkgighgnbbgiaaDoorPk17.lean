/- One operation of the program on a disk that lies in a cell. -/
import Derived.Test.YtkkgighgnbbgiaaDoorPk14
import Derived.Test.YtkkgighgnbbgiaaDoorPk2
namespace Go.Proofs.YtkkgighgnbbgiaaDoor
open Go.RowKit Mem
set_option linter.unusedVariables false
set_option linter.unusedSimpArgs false
theorem RetDo.after {lo g : Nat} {tl : List Value} {ea : Nat → Addr} {w w2 w3 : World} {r : DiskT × Int} {e : Ending} (h : RetDo lo g tl ea w2 r e w3) (hm : Mod (fun k => lo ≤ k) w w2) : RetDo lo g tl ea w r e w3 := ⟨h.1, h.2.1, hm.trans h.2.2 (fun _ h _ => h)⟩
theorem i64_k5 : IntKind.i64.wrap 5 = 5 := by decide
theorem i64_k4 : IntKind.i64.wrap 4 = 4 := by decide
theorem i64_k0 : IntKind.i64.wrap 0 = 0 := by decide
set_option maxHeartbeats 8000000 in
set_option maxRecDepth 100000 in
theorem doI_low {lo g : Nat} {tl : List Value} {w : World} {d : DiskT} {ea : Nat → Addr} {N : Nat} (h : DSt lo g tl w d) (hE : ErrEnv lo w ea) (hI : DInv N d) (hU : NodU d.2.1) (hN : N ≤ 5000) {kd : Int} {nm tn dat : Bytes} {Ad : Option Addr} {cd : Nat} {B : Nat → Prop} (hnm : nm.length ≤ 9223372036854775807) (htn : tn.length ≤ 9223372036854775807) (hr : Row Ty.byte w B Ad dat.length dat) (hB : ∀ k, B k → k < w.heap.size) (hdl : dat.length ≤ 1048576) (hk : kd < 1) :
    Calls Tryd.prog 20 #[.pointer (some ⟨g, 0, none⟩), .agg #[.int .i64 kd, .string ⟨nm.toArray⟩, .string ⟨tn.toArray⟩, .slice Ad dat.length cd]] w (RetDo lo g tl ea w (d, 2)) := by
  obtain ⟨res, hres⟩ : ∃ r : DiskT × Int, r = (d, 2) := ⟨_, rfl⟩
  rw [← hres]
  have HRES := Sec.mk hres
  have hma := (Mod.refl (fun _ => False) w).alloc (.cells #[.int .i64 kd, .string ⟨nm.toArray⟩, .string ⟨tn.toArray⟩, .slice Ad dat.length cd] 39)
  have HN1 := Sec.mk hma
  have HD1 := Sec.mk (h.new hma)
  have HBQ := Sec.mk (Blk.new w 39 [.int .i64 kd, .string ⟨nm.toArray⟩, .string ⟨tn.toArray⟩, .slice Ad dat.length cd])
  have hgw : g < w.heap.size := by obtain ⟨t', v0', v1', v2', v3', hb', -, hg'⟩ := h; exact hb'.lt
  have hlg : lo ≤ g := by obtain ⟨t', v0', v1', v2', v3', hb', -, hg'⟩ := h; exact hg'
  have HM1 := Sec.mk (hma.mono (T := fun k => lo ≤ k) (fun i hi h => h.elim))
  have HE1 := Sec.mk (hE.mod HM1.out)
  have HI := Sec.mk hI
  have HU := Sec.mk hU
  have HRD := Sec.mk (hr.mod (w' := (w.alloc (.cells #[.int .i64 kd, .string ⟨nm.toArray⟩, .string ⟨tn.toArray⟩, .slice Ad dat.length cd] 39))) (B' := B) (fun _ h => h) (fun k hk => hma.block k (hB k hk) id))
  have HBD : Sec (∀ k, B k → k < (w.alloc (.cells #[.int .i64 kd, .string ⟨nm.toArray⟩, .string ⟨tn.toArray⟩, .slice Ad dat.length cd] 39)).heap.size) := ⟨fun k hk => Nat.lt_of_lt_of_le (hB k hk) hma.size⟩
  have hsz : (w.alloc (.cells #[.int .i64 kd, .string ⟨nm.toArray⟩, .string ⟨tn.toArray⟩, .slice Ad dat.length cd] 39)).heap.size = w.heap.size + 1 := by simp
  clear h hE hI hU hma hr hB hres
  go_enter Tryd.func20, Tryd.ntmps20
  go_upto_region 1 with (fail)
  generalize (w.alloc (.cells #[.int .i64 kd, .string ⟨nm.toArray⟩, .string ⟨tn.toArray⟩, .slice Ad dat.length cd] 39)) = w1 at *
  have o0 : w1.cell? ⟨w.heap.size, 0, none⟩ = some (.int .i64 kd) := HBQ.out.cell 0
  have o1 : w1.cell? ⟨w.heap.size, 1, none⟩ = some (.string ⟨nm.toArray⟩) := HBQ.out.cell 1
  have o2 : w1.cell? ⟨w.heap.size, 2, none⟩ = some (.string ⟨tn.toArray⟩) := HBQ.out.cell 2
  have o3 : w1.cell? ⟨w.heap.size, 3, none⟩ = some (.slice Ad dat.length cd) := HBQ.out.cell 3
  have hw1 : w.heap.size < w1.heap.size := by omega
  have e2 := HE1.out.c2
  go_wp2
  go_ret
  rw [HRES.out]
  exact ⟨rfl, HD1.out, HM1.out⟩
set_option maxHeartbeats 8000000 in
set_option maxRecDepth 100000 in
theorem doI_high {lo g : Nat} {tl : List Value} {w : World} {d : DiskT} {ea : Nat → Addr} {N : Nat} (h : DSt lo g tl w d) (hE : ErrEnv lo w ea) (hI : DInv N d) (hU : NodU d.2.1) (hN : N ≤ 5000) {kd : Int} {nm tn dat : Bytes} {Ad : Option Addr} {cd : Nat} {B : Nat → Prop} (hnm : nm.length ≤ 9223372036854775807) (htn : tn.length ≤ 9223372036854775807) (hr : Row Ty.byte w B Ad dat.length dat) (hB : ∀ k, B k → k < w.heap.size) (hdl : dat.length ≤ 1048576) (hk : 6 < kd) :
    Calls Tryd.prog 20 #[.pointer (some ⟨g, 0, none⟩), .agg #[.int .i64 kd, .string ⟨nm.toArray⟩, .string ⟨tn.toArray⟩, .slice Ad dat.length cd]] w (RetDo lo g tl ea w (d, 2)) := by
  obtain ⟨res, hres⟩ : ∃ r : DiskT × Int, r = (d, 2) := ⟨_, rfl⟩
  rw [← hres]
  have HRES := Sec.mk hres
  have hma := (Mod.refl (fun _ => False) w).alloc (.cells #[.int .i64 kd, .string ⟨nm.toArray⟩, .string ⟨tn.toArray⟩, .slice Ad dat.length cd] 39)
  have HN1 := Sec.mk hma
  have HD1 := Sec.mk (h.new hma)
  have HBQ := Sec.mk (Blk.new w 39 [.int .i64 kd, .string ⟨nm.toArray⟩, .string ⟨tn.toArray⟩, .slice Ad dat.length cd])
  have hgw : g < w.heap.size := by obtain ⟨t', v0', v1', v2', v3', hb', -, hg'⟩ := h; exact hb'.lt
  have hlg : lo ≤ g := by obtain ⟨t', v0', v1', v2', v3', hb', -, hg'⟩ := h; exact hg'
  have HM1 := Sec.mk (hma.mono (T := fun k => lo ≤ k) (fun i hi h => h.elim))
  have HE1 := Sec.mk (hE.mod HM1.out)
  have HI := Sec.mk hI
  have HU := Sec.mk hU
  have HRD := Sec.mk (hr.mod (w' := (w.alloc (.cells #[.int .i64 kd, .string ⟨nm.toArray⟩, .string ⟨tn.toArray⟩, .slice Ad dat.length cd] 39))) (B' := B) (fun _ h => h) (fun k hk => hma.block k (hB k hk) id))
  have HBD : Sec (∀ k, B k → k < (w.alloc (.cells #[.int .i64 kd, .string ⟨nm.toArray⟩, .string ⟨tn.toArray⟩, .slice Ad dat.length cd] 39)).heap.size) := ⟨fun k hk => Nat.lt_of_lt_of_le (hB k hk) hma.size⟩
  have hsz : (w.alloc (.cells #[.int .i64 kd, .string ⟨nm.toArray⟩, .string ⟨tn.toArray⟩, .slice Ad dat.length cd] 39)).heap.size = w.heap.size + 1 := by simp
  clear h hE hI hU hma hr hB hres
  go_enter Tryd.func20, Tryd.ntmps20
  go_upto_region 1 with (fail)
  generalize (w.alloc (.cells #[.int .i64 kd, .string ⟨nm.toArray⟩, .string ⟨tn.toArray⟩, .slice Ad dat.length cd] 39)) = w1 at *
  have o0 : w1.cell? ⟨w.heap.size, 0, none⟩ = some (.int .i64 kd) := HBQ.out.cell 0
  have o1 : w1.cell? ⟨w.heap.size, 1, none⟩ = some (.string ⟨nm.toArray⟩) := HBQ.out.cell 1
  have o2 : w1.cell? ⟨w.heap.size, 2, none⟩ = some (.string ⟨tn.toArray⟩) := HBQ.out.cell 2
  have o3 : w1.cell? ⟨w.heap.size, 3, none⟩ = some (.slice Ad dat.length cd) := HBQ.out.cell 3
  have hw1 : w.heap.size < w1.heap.size := by omega
  have e2 := HE1.out.c2
  go_wp2
  go_ret
  rw [HRES.out]
  exact ⟨rfl, HD1.out, HM1.out⟩
set_option maxHeartbeats 8000000 in
set_option maxRecDepth 100000 in
theorem doI_dir {lo g : Nat} {tl : List Value} {w : World} {d : DiskT} {ea : Nat → Addr} {N : Nat} (h : DSt lo g tl w d) (hE : ErrEnv lo w ea) (hI : DInv N d) (hU : NodU d.2.1) (hN : N ≤ 5000) {kd : Int} {nm tn dat : Bytes} {Ad : Option Addr} {cd : Nat} {B : Nat → Prop} (hnm : nm.length ≤ 9223372036854775807) (htn : tn.length ≤ 9223372036854775807) (hr : Row Ty.byte w B Ad dat.length dat) (hB : ∀ k, B k → k < w.heap.size) (hdl : dat.length ≤ 1048576)  :
    Calls Tryd.prog 20 #[.pointer (some ⟨g, 0, none⟩), .agg #[.int .i64 (6 : Int), .string ⟨nm.toArray⟩, .string ⟨tn.toArray⟩, .slice Ad dat.length cd]] w (RetDo lo g tl ea w (settleL d, 0)) := by
  obtain ⟨res, hres⟩ : ∃ r : DiskT × Int, r = (settleL d, 0) := ⟨_, rfl⟩
  rw [← hres]
  have HRES := Sec.mk hres
  have hma := (Mod.refl (fun _ => False) w).alloc (.cells #[.int .i64 (6 : Int), .string ⟨nm.toArray⟩, .string ⟨tn.toArray⟩, .slice Ad dat.length cd] 39)
  have HN1 := Sec.mk hma
  have HD1 := Sec.mk (h.new hma)
  have HBQ := Sec.mk (Blk.new w 39 [.int .i64 (6 : Int), .string ⟨nm.toArray⟩, .string ⟨tn.toArray⟩, .slice Ad dat.length cd])
  have hgw : g < w.heap.size := by obtain ⟨t', v0', v1', v2', v3', hb', -, hg'⟩ := h; exact hb'.lt
  have hlg : lo ≤ g := by obtain ⟨t', v0', v1', v2', v3', hb', -, hg'⟩ := h; exact hg'
  have HM1 := Sec.mk (hma.mono (T := fun k => lo ≤ k) (fun i hi h => h.elim))
  have HE1 := Sec.mk (hE.mod HM1.out)
  have HI := Sec.mk hI
  have HU := Sec.mk hU
  have HRD := Sec.mk (hr.mod (w' := (w.alloc (.cells #[.int .i64 (6 : Int), .string ⟨nm.toArray⟩, .string ⟨tn.toArray⟩, .slice Ad dat.length cd] 39))) (B' := B) (fun _ h => h) (fun k hk => hma.block k (hB k hk) id))
  have HBD : Sec (∀ k, B k → k < (w.alloc (.cells #[.int .i64 (6 : Int), .string ⟨nm.toArray⟩, .string ⟨tn.toArray⟩, .slice Ad dat.length cd] 39)).heap.size) := ⟨fun k hk => Nat.lt_of_lt_of_le (hB k hk) hma.size⟩
  have hsz : (w.alloc (.cells #[.int .i64 (6 : Int), .string ⟨nm.toArray⟩, .string ⟨tn.toArray⟩, .slice Ad dat.length cd] 39)).heap.size = w.heap.size + 1 := by simp
  clear h hE hI hU hma hr hB hres
  go_enter Tryd.func20, Tryd.ntmps20
  go_upto_region 1 with (fail)
  generalize (w.alloc (.cells #[.int .i64 (6 : Int), .string ⟨nm.toArray⟩, .string ⟨tn.toArray⟩, .slice Ad dat.length cd] 39)) = w1 at *
  have o0 : w1.cell? ⟨w.heap.size, 0, none⟩ = some (.int .i64 (6 : Int)) := HBQ.out.cell 0
  have o1 : w1.cell? ⟨w.heap.size, 1, none⟩ = some (.string ⟨nm.toArray⟩) := HBQ.out.cell 1
  have o2 : w1.cell? ⟨w.heap.size, 2, none⟩ = some (.string ⟨tn.toArray⟩) := HBQ.out.cell 2
  have o3 : w1.cell? ⟨w.heap.size, 3, none⟩ = some (.slice Ad dat.length cd) := HBQ.out.cell 3
  have hw1 : w.heap.size < w1.heap.size := by omega
  go_wp2_with fail
  refine (settleI_calls HD1.out HI.out HU.out hN).mono ?_
  rintro e w2 ⟨rfl, hd2, hm2⟩
  have HD2 := Sec.mk hd2
  have HM2 := Sec.mk (HM1.out.trans hm2 (fun _ h _ => h))
  clear hd2 hm2
  go_wp2
  go_ret
  rw [HRES.out]
  exact ⟨rfl, HD2.out, HM2.out⟩
set_option maxHeartbeats 8000000 in
set_option maxRecDepth 100000 in
theorem doI_name {lo g : Nat} {tl : List Value} {w : World} {d : DiskT} {ea : Nat → Addr} {N : Nat} (h : DSt lo g tl w d) (hE : ErrEnv lo w ea) (hI : DInv N d) (hU : NodU d.2.1) (hN : N ≤ 5000) {kd : Int} {nm tn dat : Bytes} {Ad : Option Addr} {cd : Nat} {B : Nat → Prop} (hnm : nm.length ≤ 9223372036854775807) (htn : tn.length ≤ 9223372036854775807) (hr : Row Ty.byte w B Ad dat.length dat) (hB : ∀ k, B k → k < w.heap.size) (hdl : dat.length ≤ 1048576) (hk1 : 1 ≤ kd) (hk6 : kd < 6) (hg : goodL nm = false) :
    Calls Tryd.prog 20 #[.pointer (some ⟨g, 0, none⟩), .agg #[.int .i64 kd, .string ⟨nm.toArray⟩, .string ⟨tn.toArray⟩, .slice Ad dat.length cd]] w (RetDo lo g tl ea w (d, 3)) := by
  obtain ⟨res, hres⟩ : ∃ r : DiskT × Int, r = (d, 3) := ⟨_, rfl⟩
  rw [← hres]
  have HRES := Sec.mk hres
  have hma := (Mod.refl (fun _ => False) w).alloc (.cells #[.int .i64 kd, .string ⟨nm.toArray⟩, .string ⟨tn.toArray⟩, .slice Ad dat.length cd] 39)
  have HN1 := Sec.mk hma
  have HD1 := Sec.mk (h.new hma)
  have HBQ := Sec.mk (Blk.new w 39 [.int .i64 kd, .string ⟨nm.toArray⟩, .string ⟨tn.toArray⟩, .slice Ad dat.length cd])
  have hgw : g < w.heap.size := by obtain ⟨t', v0', v1', v2', v3', hb', -, hg'⟩ := h; exact hb'.lt
  have hlg : lo ≤ g := by obtain ⟨t', v0', v1', v2', v3', hb', -, hg'⟩ := h; exact hg'
  have HM1 := Sec.mk (hma.mono (T := fun k => lo ≤ k) (fun i hi h => h.elim))
  have HE1 := Sec.mk (hE.mod HM1.out)
  have HI := Sec.mk hI
  have HU := Sec.mk hU
  have HRD := Sec.mk (hr.mod (w' := (w.alloc (.cells #[.int .i64 kd, .string ⟨nm.toArray⟩, .string ⟨tn.toArray⟩, .slice Ad dat.length cd] 39))) (B' := B) (fun _ h => h) (fun k hk => hma.block k (hB k hk) id))
  have HBD : Sec (∀ k, B k → k < (w.alloc (.cells #[.int .i64 kd, .string ⟨nm.toArray⟩, .string ⟨tn.toArray⟩, .slice Ad dat.length cd] 39)).heap.size) := ⟨fun k hk => Nat.lt_of_lt_of_le (hB k hk) hma.size⟩
  have hsz : (w.alloc (.cells #[.int .i64 kd, .string ⟨nm.toArray⟩, .string ⟨tn.toArray⟩, .slice Ad dat.length cd] 39)).heap.size = w.heap.size + 1 := by simp
  clear h hE hI hU hma hr hB hres
  go_enter Tryd.func20, Tryd.ntmps20
  go_upto_region 1 with (fail)
  generalize (w.alloc (.cells #[.int .i64 kd, .string ⟨nm.toArray⟩, .string ⟨tn.toArray⟩, .slice Ad dat.length cd] 39)) = w1 at *
  have o0 : w1.cell? ⟨w.heap.size, 0, none⟩ = some (.int .i64 kd) := HBQ.out.cell 0
  have o1 : w1.cell? ⟨w.heap.size, 1, none⟩ = some (.string ⟨nm.toArray⟩) := HBQ.out.cell 1
  have o2 : w1.cell? ⟨w.heap.size, 2, none⟩ = some (.string ⟨tn.toArray⟩) := HBQ.out.cell 2
  have o3 : w1.cell? ⟨w.heap.size, 3, none⟩ = some (.slice Ad dat.length cd) := HBQ.out.cell 3
  have hw1 : w.heap.size < w1.heap.size := by omega
  have hk0 : ¬ kd < 1 := by omega
  have hk7 : ¬ 6 < kd := by omega
  have hk8 : ¬ kd = 6 := by omega
  go_wp2_with fail
  refine (goodI_calls nm hnm _).mono ?_
  rintro e wq ⟨rfl, hwq⟩
  obtain rfl := hwq.symm
  rw [hg]
  clear hg
  have e3 := HE1.out.c3
  go_wp2
  go_ret
  rw [HRES.out]
  exact ⟨rfl, HD1.out, HM1.out⟩
set_option maxHeartbeats 8000000 in
set_option maxRecDepth 100000 in
theorem doI_name4 {lo g : Nat} {tl : List Value} {w : World} {d : DiskT} {ea : Nat → Addr} {N : Nat} (h : DSt lo g tl w d) (hE : ErrEnv lo w ea) (hI : DInv N d) (hU : NodU d.2.1) (hN : N ≤ 5000) {kd : Int} {nm tn dat : Bytes} {Ad : Option Addr} {cd : Nat} {B : Nat → Prop} (hnm : nm.length ≤ 9223372036854775807) (htn : tn.length ≤ 9223372036854775807) (hr : Row Ty.byte w B Ad dat.length dat) (hB : ∀ k, B k → k < w.heap.size) (hdl : dat.length ≤ 1048576) (hg : goodL nm = true) (hg2 : goodL tn = false) :
    Calls Tryd.prog 20 #[.pointer (some ⟨g, 0, none⟩), .agg #[.int .i64 (4 : Int), .string ⟨nm.toArray⟩, .string ⟨tn.toArray⟩, .slice Ad dat.length cd]] w (RetDo lo g tl ea w (d, 3)) := by
  obtain ⟨res, hres⟩ : ∃ r : DiskT × Int, r = (d, 3) := ⟨_, rfl⟩
  rw [← hres]
  have HRES := Sec.mk hres
  have hma := (Mod.refl (fun _ => False) w).alloc (.cells #[.int .i64 (4 : Int), .string ⟨nm.toArray⟩, .string ⟨tn.toArray⟩, .slice Ad dat.length cd] 39)
  have HN1 := Sec.mk hma
  have HD1 := Sec.mk (h.new hma)
  have HBQ := Sec.mk (Blk.new w 39 [.int .i64 (4 : Int), .string ⟨nm.toArray⟩, .string ⟨tn.toArray⟩, .slice Ad dat.length cd])
  have hgw : g < w.heap.size := by obtain ⟨t', v0', v1', v2', v3', hb', -, hg'⟩ := h; exact hb'.lt
  have hlg : lo ≤ g := by obtain ⟨t', v0', v1', v2', v3', hb', -, hg'⟩ := h; exact hg'
  have HM1 := Sec.mk (hma.mono (T := fun k => lo ≤ k) (fun i hi h => h.elim))
  have HE1 := Sec.mk (hE.mod HM1.out)
  have HI := Sec.mk hI
  have HU := Sec.mk hU
  have HRD := Sec.mk (hr.mod (w' := (w.alloc (.cells #[.int .i64 (4 : Int), .string ⟨nm.toArray⟩, .string ⟨tn.toArray⟩, .slice Ad dat.length cd] 39))) (B' := B) (fun _ h => h) (fun k hk => hma.block k (hB k hk) id))
  have HBD : Sec (∀ k, B k → k < (w.alloc (.cells #[.int .i64 (4 : Int), .string ⟨nm.toArray⟩, .string ⟨tn.toArray⟩, .slice Ad dat.length cd] 39)).heap.size) := ⟨fun k hk => Nat.lt_of_lt_of_le (hB k hk) hma.size⟩
  have hsz : (w.alloc (.cells #[.int .i64 (4 : Int), .string ⟨nm.toArray⟩, .string ⟨tn.toArray⟩, .slice Ad dat.length cd] 39)).heap.size = w.heap.size + 1 := by simp
  clear h hE hI hU hma hr hB hres
  go_enter Tryd.func20, Tryd.ntmps20
  go_upto_region 1 with (fail)
  generalize (w.alloc (.cells #[.int .i64 (4 : Int), .string ⟨nm.toArray⟩, .string ⟨tn.toArray⟩, .slice Ad dat.length cd] 39)) = w1 at *
  have o0 : w1.cell? ⟨w.heap.size, 0, none⟩ = some (.int .i64 (4 : Int)) := HBQ.out.cell 0
  have o1 : w1.cell? ⟨w.heap.size, 1, none⟩ = some (.string ⟨nm.toArray⟩) := HBQ.out.cell 1
  have o2 : w1.cell? ⟨w.heap.size, 2, none⟩ = some (.string ⟨tn.toArray⟩) := HBQ.out.cell 2
  have o3 : w1.cell? ⟨w.heap.size, 3, none⟩ = some (.slice Ad dat.length cd) := HBQ.out.cell 3
  have hw1 : w.heap.size < w1.heap.size := by omega
  go_wp2_with fail
  refine (goodI_calls nm hnm _).mono ?_
  rintro e wq ⟨rfl, hwq⟩
  obtain rfl := hwq.symm
  rw [hg]
  clear hg
  go_wp2_with fail
  refine (goodI_calls tn htn _).mono ?_
  rintro e wq ⟨rfl, hwq⟩
  obtain rfl := hwq.symm
  rw [hg2]
  clear hg2
  have e3 := HE1.out.c3
  go_wp2
  go_ret
  rw [HRES.out]
  exact ⟨rfl, HD1.out, HM1.out⟩
set_option maxHeartbeats 8000000 in
set_option maxRecDepth 100000 in
theorem doI_create {lo g : Nat} {tl : List Value} {w : World} {d : DiskT} {ea : Nat → Addr} {N : Nat} (h : DSt lo g tl w d) (hE : ErrEnv lo w ea) (hI : DInv N d) (hU : NodU d.2.1) (hN : N ≤ 5000) {kd : Int} {nm tn dat : Bytes} {Ad : Option Addr} {cd : Nat} {B : Nat → Prop} (hnm : nm.length ≤ 9223372036854775807) (htn : tn.length ≤ 9223372036854775807) (hr : Row Ty.byte w B Ad dat.length dat) (hB : ∀ k, B k → k < w.heap.size) (hdl : dat.length ≤ 1048576) (hg : goodL nm = true) :
    Calls Tryd.prog 20 #[.pointer (some ⟨g, 0, none⟩), .agg #[.int .i64 (1 : Int), .string ⟨nm.toArray⟩, .string ⟨tn.toArray⟩, .slice Ad dat.length cd]] w (RetDo lo g tl ea w (if 600 ≤ d.1.length ∨ 1000 ≤ d.2.2.2.1.length ∨ (hasE d.2.1 nm = false ∧ 300 ≤ d.2.1.length) then (d, 6) else (dirL (d.1 ++ [([], 0)], d.2) (1, nm, [], (d.1.length : Int)), 0))) := by
  obtain ⟨res, hres⟩ : ∃ r : DiskT × Int, r = (if 600 ≤ d.1.length ∨ 1000 ≤ d.2.2.2.1.length ∨ (hasE d.2.1 nm = false ∧ 300 ≤ d.2.1.length) then (d, 6) else (dirL (d.1 ++ [([], 0)], d.2) (1, nm, [], (d.1.length : Int)), 0)) := ⟨_, rfl⟩
  rw [← hres]
  have HRES := Sec.mk hres
  have hma := (Mod.refl (fun _ => False) w).alloc (.cells #[.int .i64 (1 : Int), .string ⟨nm.toArray⟩, .string ⟨tn.toArray⟩, .slice Ad dat.length cd] 39)
  have HN1 := Sec.mk hma
  have HD1 := Sec.mk (h.new hma)
  have HBQ := Sec.mk (Blk.new w 39 [.int .i64 (1 : Int), .string ⟨nm.toArray⟩, .string ⟨tn.toArray⟩, .slice Ad dat.length cd])
  have hgw : g < w.heap.size := by obtain ⟨t', v0', v1', v2', v3', hb', -, hg'⟩ := h; exact hb'.lt
  have hlg : lo ≤ g := by obtain ⟨t', v0', v1', v2', v3', hb', -, hg'⟩ := h; exact hg'
  have HM1 := Sec.mk (hma.mono (T := fun k => lo ≤ k) (fun i hi h => h.elim))
  have HE1 := Sec.mk (hE.mod HM1.out)
  have HI := Sec.mk hI
  have HU := Sec.mk hU
  have HRD := Sec.mk (hr.mod (w' := (w.alloc (.cells #[.int .i64 (1 : Int), .string ⟨nm.toArray⟩, .string ⟨tn.toArray⟩, .slice Ad dat.length cd] 39))) (B' := B) (fun _ h => h) (fun k hk => hma.block k (hB k hk) id))
  have HBD : Sec (∀ k, B k → k < (w.alloc (.cells #[.int .i64 (1 : Int), .string ⟨nm.toArray⟩, .string ⟨tn.toArray⟩, .slice Ad dat.length cd] 39)).heap.size) := ⟨fun k hk => Nat.lt_of_lt_of_le (hB k hk) hma.size⟩
  have hsz : (w.alloc (.cells #[.int .i64 (1 : Int), .string ⟨nm.toArray⟩, .string ⟨tn.toArray⟩, .slice Ad dat.length cd] 39)).heap.size = w.heap.size + 1 := by simp
  clear h hE hI hU hma hr hB hres
  go_enter Tryd.func20, Tryd.ntmps20
  go_upto_region 1 with (fail)
  generalize (w.alloc (.cells #[.int .i64 (1 : Int), .string ⟨nm.toArray⟩, .string ⟨tn.toArray⟩, .slice Ad dat.length cd] 39)) = w1 at *
  have o0 : w1.cell? ⟨w.heap.size, 0, none⟩ = some (.int .i64 (1 : Int)) := HBQ.out.cell 0
  have o1 : w1.cell? ⟨w.heap.size, 1, none⟩ = some (.string ⟨nm.toArray⟩) := HBQ.out.cell 1
  have o2 : w1.cell? ⟨w.heap.size, 2, none⟩ = some (.string ⟨tn.toArray⟩) := HBQ.out.cell 2
  have o3 : w1.cell? ⟨w.heap.size, 3, none⟩ = some (.slice Ad dat.length cd) := HBQ.out.cell 3
  have hw1 : w.heap.size < w1.heap.size := by omega
  go_wp2_with fail
  refine (goodI_calls nm hnm _).mono ?_
  rintro e wq ⟨rfl, hwq⟩
  obtain rfl := hwq.symm
  rw [hg]
  clear hg
  go_wp2_with fail
  refine (createI_calls HD1.out HE1.out HI.out (by omega) nm hnm).mono ?_
  rw [← HRES.out]
  intro e w2 hr2
  have HR2 := Sec.mk (hr2.after HM1.out)
  obtain ⟨rfl, -, -⟩ := hr2
  go_wp2
  go_ret
  exact HR2.out
set_option maxHeartbeats 8000000 in
set_option maxRecDepth 100000 in
theorem doI_missing2 {lo g : Nat} {tl : List Value} {w : World} {d : DiskT} {ea : Nat → Addr} {N : Nat} (h : DSt lo g tl w d) (hE : ErrEnv lo w ea) (hI : DInv N d) (hU : NodU d.2.1) (hN : N ≤ 5000) {kd : Int} {nm tn dat : Bytes} {Ad : Option Addr} {cd : Nat} {B : Nat → Prop} (hnm : nm.length ≤ 9223372036854775807) (htn : tn.length ≤ 9223372036854775807) (hr : Row Ty.byte w B Ad dat.length dat) (hB : ∀ k, B k → k < w.heap.size) (hdl : dat.length ≤ 1048576) (hg : goodL nm = true) (hh : hasE d.2.1 nm = false) :
    Calls Tryd.prog 20 #[.pointer (some ⟨g, 0, none⟩), .agg #[.int .i64 (2 : Int), .string ⟨nm.toArray⟩, .string ⟨tn.toArray⟩, .slice Ad dat.length cd]] w (RetDo lo g tl ea w (d, 4)) := by
  obtain ⟨res, hres⟩ : ∃ r : DiskT × Int, r = (d, 4) := ⟨_, rfl⟩
  rw [← hres]
  have HRES := Sec.mk hres
  have hma := (Mod.refl (fun _ => False) w).alloc (.cells #[.int .i64 (2 : Int), .string ⟨nm.toArray⟩, .string ⟨tn.toArray⟩, .slice Ad dat.length cd] 39)
  have HN1 := Sec.mk hma
  have HD1 := Sec.mk (h.new hma)
  have HBQ := Sec.mk (Blk.new w 39 [.int .i64 (2 : Int), .string ⟨nm.toArray⟩, .string ⟨tn.toArray⟩, .slice Ad dat.length cd])
  have hgw : g < w.heap.size := by obtain ⟨t', v0', v1', v2', v3', hb', -, hg'⟩ := h; exact hb'.lt
  have hlg : lo ≤ g := by obtain ⟨t', v0', v1', v2', v3', hb', -, hg'⟩ := h; exact hg'
  have HM1 := Sec.mk (hma.mono (T := fun k => lo ≤ k) (fun i hi h => h.elim))
  have HE1 := Sec.mk (hE.mod HM1.out)
  have HI := Sec.mk hI
  have HU := Sec.mk hU
  have HRD := Sec.mk (hr.mod (w' := (w.alloc (.cells #[.int .i64 (2 : Int), .string ⟨nm.toArray⟩, .string ⟨tn.toArray⟩, .slice Ad dat.length cd] 39))) (B' := B) (fun _ h => h) (fun k hk => hma.block k (hB k hk) id))
  have HBD : Sec (∀ k, B k → k < (w.alloc (.cells #[.int .i64 (2 : Int), .string ⟨nm.toArray⟩, .string ⟨tn.toArray⟩, .slice Ad dat.length cd] 39)).heap.size) := ⟨fun k hk => Nat.lt_of_lt_of_le (hB k hk) hma.size⟩
  have hsz : (w.alloc (.cells #[.int .i64 (2 : Int), .string ⟨nm.toArray⟩, .string ⟨tn.toArray⟩, .slice Ad dat.length cd] 39)).heap.size = w.heap.size + 1 := by simp
  clear h hE hI hU hma hr hB hres
  go_enter Tryd.func20, Tryd.ntmps20
  go_upto_region 1 with (fail)
  generalize (w.alloc (.cells #[.int .i64 (2 : Int), .string ⟨nm.toArray⟩, .string ⟨tn.toArray⟩, .slice Ad dat.length cd] 39)) = w1 at *
  have o0 : w1.cell? ⟨w.heap.size, 0, none⟩ = some (.int .i64 (2 : Int)) := HBQ.out.cell 0
  have o1 : w1.cell? ⟨w.heap.size, 1, none⟩ = some (.string ⟨nm.toArray⟩) := HBQ.out.cell 1
  have o2 : w1.cell? ⟨w.heap.size, 2, none⟩ = some (.string ⟨tn.toArray⟩) := HBQ.out.cell 2
  have o3 : w1.cell? ⟨w.heap.size, 3, none⟩ = some (.slice Ad dat.length cd) := HBQ.out.cell 3
  have hw1 : w.heap.size < w1.heap.size := by omega
  go_wp2_with fail
  refine (goodI_calls nm hnm _).mono ?_
  rintro e wq ⟨rfl, hwq⟩
  obtain rfl := hwq.symm
  rw [hg]
  clear hg
  obtain ⟨t, A0, c0, A1, c1, A2, c2, A3, c3, hb, ho, -, hr0, hr1, b0, b1, b2, b3⟩ := HD1.out.rows
  have hnl := HI.out.names
  have HF := Sec.mk (findG_no hb hr1 (fun k h => h) (by omega) HI.out.ord nm hh)
  clear hb ho hr0 hr1
  go_wp2_with fail
  refine HF.out.mono ?_
  rintro e w2 ⟨rfl, hm2⟩
  have HD2 := Sec.mk (HD1.out.new hm2)
  have HM2 := Sec.mk (HM1.out.transN hm2)
  have e4 := (HE1.out.mod (hm2.mono (T := fun k => lo ≤ k) (fun i hi h => h.elim))).c4
  clear hm2 HF
  go_wp2
  go_ret
  rw [HRES.out]
  exact ⟨rfl, HD2.out, HM2.out⟩
set_option maxHeartbeats 8000000 in
set_option maxRecDepth 100000 in
theorem doI_missing3 {lo g : Nat} {tl : List Value} {w : World} {d : DiskT} {ea : Nat → Addr} {N : Nat} (h : DSt lo g tl w d) (hE : ErrEnv lo w ea) (hI : DInv N d) (hU : NodU d.2.1) (hN : N ≤ 5000) {kd : Int} {nm tn dat : Bytes} {Ad : Option Addr} {cd : Nat} {B : Nat → Prop} (hnm : nm.length ≤ 9223372036854775807) (htn : tn.length ≤ 9223372036854775807) (hr : Row Ty.byte w B Ad dat.length dat) (hB : ∀ k, B k → k < w.heap.size) (hdl : dat.length ≤ 1048576) (hg : goodL nm = true) (hh : hasE d.2.1 nm = false) :
    Calls Tryd.prog 20 #[.pointer (some ⟨g, 0, none⟩), .agg #[.int .i64 (3 : Int), .string ⟨nm.toArray⟩, .string ⟨tn.toArray⟩, .slice Ad dat.length cd]] w (RetDo lo g tl ea w (d, 4)) := by
  obtain ⟨res, hres⟩ : ∃ r : DiskT × Int, r = (d, 4) := ⟨_, rfl⟩
  rw [← hres]
  have HRES := Sec.mk hres
  have hma := (Mod.refl (fun _ => False) w).alloc (.cells #[.int .i64 (3 : Int), .string ⟨nm.toArray⟩, .string ⟨tn.toArray⟩, .slice Ad dat.length cd] 39)
  have HN1 := Sec.mk hma
  have HD1 := Sec.mk (h.new hma)
  have HBQ := Sec.mk (Blk.new w 39 [.int .i64 (3 : Int), .string ⟨nm.toArray⟩, .string ⟨tn.toArray⟩, .slice Ad dat.length cd])
  have hgw : g < w.heap.size := by obtain ⟨t', v0', v1', v2', v3', hb', -, hg'⟩ := h; exact hb'.lt
  have hlg : lo ≤ g := by obtain ⟨t', v0', v1', v2', v3', hb', -, hg'⟩ := h; exact hg'
  have HM1 := Sec.mk (hma.mono (T := fun k => lo ≤ k) (fun i hi h => h.elim))
  have HE1 := Sec.mk (hE.mod HM1.out)
  have HI := Sec.mk hI
  have HU := Sec.mk hU
  have HRD := Sec.mk (hr.mod (w' := (w.alloc (.cells #[.int .i64 (3 : Int), .string ⟨nm.toArray⟩, .string ⟨tn.toArray⟩, .slice Ad dat.length cd] 39))) (B' := B) (fun _ h => h) (fun k hk => hma.block k (hB k hk) id))
  have HBD : Sec (∀ k, B k → k < (w.alloc (.cells #[.int .i64 (3 : Int), .string ⟨nm.toArray⟩, .string ⟨tn.toArray⟩, .slice Ad dat.length cd] 39)).heap.size) := ⟨fun k hk => Nat.lt_of_lt_of_le (hB k hk) hma.size⟩
  have hsz : (w.alloc (.cells #[.int .i64 (3 : Int), .string ⟨nm.toArray⟩, .string ⟨tn.toArray⟩, .slice Ad dat.length cd] 39)).heap.size = w.heap.size + 1 := by simp
  clear h hE hI hU hma hr hB hres
  go_enter Tryd.func20, Tryd.ntmps20
  go_upto_region 1 with (fail)
  generalize (w.alloc (.cells #[.int .i64 (3 : Int), .string ⟨nm.toArray⟩, .string ⟨tn.toArray⟩, .slice Ad dat.length cd] 39)) = w1 at *
  have o0 : w1.cell? ⟨w.heap.size, 0, none⟩ = some (.int .i64 (3 : Int)) := HBQ.out.cell 0
  have o1 : w1.cell? ⟨w.heap.size, 1, none⟩ = some (.string ⟨nm.toArray⟩) := HBQ.out.cell 1
  have o2 : w1.cell? ⟨w.heap.size, 2, none⟩ = some (.string ⟨tn.toArray⟩) := HBQ.out.cell 2
  have o3 : w1.cell? ⟨w.heap.size, 3, none⟩ = some (.slice Ad dat.length cd) := HBQ.out.cell 3
  have hw1 : w.heap.size < w1.heap.size := by omega
  go_wp2_with fail
  refine (goodI_calls nm hnm _).mono ?_
  rintro e wq ⟨rfl, hwq⟩
  obtain rfl := hwq.symm
  rw [hg]
  clear hg
  obtain ⟨t, A0, c0, A1, c1, A2, c2, A3, c3, hb, ho, -, hr0, hr1, b0, b1, b2, b3⟩ := HD1.out.rows
  have hnl := HI.out.names
  have HF := Sec.mk (findG_no hb hr1 (fun k h => h) (by omega) HI.out.ord nm hh)
  clear hb ho hr0 hr1
  go_wp2_with fail
  refine HF.out.mono ?_
  rintro e w2 ⟨rfl, hm2⟩
  have HD2 := Sec.mk (HD1.out.new hm2)
  have HM2 := Sec.mk (HM1.out.transN hm2)
  have e4 := (HE1.out.mod (hm2.mono (T := fun k => lo ≤ k) (fun i hi h => h.elim))).c4
  clear hm2 HF
  go_wp2
  go_ret
  rw [HRES.out]
  exact ⟨rfl, HD2.out, HM2.out⟩
set_option maxHeartbeats 8000000 in
set_option maxRecDepth 100000 in
theorem doI_missing5 {lo g : Nat} {tl : List Value} {w : World} {d : DiskT} {ea : Nat → Addr} {N : Nat} (h : DSt lo g tl w d) (hE : ErrEnv lo w ea) (hI : DInv N d) (hU : NodU d.2.1) (hN : N ≤ 5000) {kd : Int} {nm tn dat : Bytes} {Ad : Option Addr} {cd : Nat} {B : Nat → Prop} (hnm : nm.length ≤ 9223372036854775807) (htn : tn.length ≤ 9223372036854775807) (hr : Row Ty.byte w B Ad dat.length dat) (hB : ∀ k, B k → k < w.heap.size) (hdl : dat.length ≤ 1048576) (hg : goodL nm = true) (hh : hasE d.2.1 nm = false) :
    Calls Tryd.prog 20 #[.pointer (some ⟨g, 0, none⟩), .agg #[.int .i64 (5 : Int), .string ⟨nm.toArray⟩, .string ⟨tn.toArray⟩, .slice Ad dat.length cd]] w (RetDo lo g tl ea w (d, 4)) := by
  obtain ⟨res, hres⟩ : ∃ r : DiskT × Int, r = (d, 4) := ⟨_, rfl⟩
  rw [← hres]
  have HRES := Sec.mk hres
  have hma := (Mod.refl (fun _ => False) w).alloc (.cells #[.int .i64 (5 : Int), .string ⟨nm.toArray⟩, .string ⟨tn.toArray⟩, .slice Ad dat.length cd] 39)
  have HN1 := Sec.mk hma
  have HD1 := Sec.mk (h.new hma)
  have HBQ := Sec.mk (Blk.new w 39 [.int .i64 (5 : Int), .string ⟨nm.toArray⟩, .string ⟨tn.toArray⟩, .slice Ad dat.length cd])
  have hgw : g < w.heap.size := by obtain ⟨t', v0', v1', v2', v3', hb', -, hg'⟩ := h; exact hb'.lt
  have hlg : lo ≤ g := by obtain ⟨t', v0', v1', v2', v3', hb', -, hg'⟩ := h; exact hg'
  have HM1 := Sec.mk (hma.mono (T := fun k => lo ≤ k) (fun i hi h => h.elim))
  have HE1 := Sec.mk (hE.mod HM1.out)
  have HI := Sec.mk hI
  have HU := Sec.mk hU
  have HRD := Sec.mk (hr.mod (w' := (w.alloc (.cells #[.int .i64 (5 : Int), .string ⟨nm.toArray⟩, .string ⟨tn.toArray⟩, .slice Ad dat.length cd] 39))) (B' := B) (fun _ h => h) (fun k hk => hma.block k (hB k hk) id))
  have HBD : Sec (∀ k, B k → k < (w.alloc (.cells #[.int .i64 (5 : Int), .string ⟨nm.toArray⟩, .string ⟨tn.toArray⟩, .slice Ad dat.length cd] 39)).heap.size) := ⟨fun k hk => Nat.lt_of_lt_of_le (hB k hk) hma.size⟩
  have hsz : (w.alloc (.cells #[.int .i64 (5 : Int), .string ⟨nm.toArray⟩, .string ⟨tn.toArray⟩, .slice Ad dat.length cd] 39)).heap.size = w.heap.size + 1 := by simp
  clear h hE hI hU hma hr hB hres
  go_enter Tryd.func20, Tryd.ntmps20
  go_upto_region 1 with (fail)
  generalize (w.alloc (.cells #[.int .i64 (5 : Int), .string ⟨nm.toArray⟩, .string ⟨tn.toArray⟩, .slice Ad dat.length cd] 39)) = w1 at *
  have o0 : w1.cell? ⟨w.heap.size, 0, none⟩ = some (.int .i64 (5 : Int)) := HBQ.out.cell 0
  have o1 : w1.cell? ⟨w.heap.size, 1, none⟩ = some (.string ⟨nm.toArray⟩) := HBQ.out.cell 1
  have o2 : w1.cell? ⟨w.heap.size, 2, none⟩ = some (.string ⟨tn.toArray⟩) := HBQ.out.cell 2
  have o3 : w1.cell? ⟨w.heap.size, 3, none⟩ = some (.slice Ad dat.length cd) := HBQ.out.cell 3
  have hw1 : w.heap.size < w1.heap.size := by omega
  go_wp2_with fail
  refine (goodI_calls nm hnm _).mono ?_
  rintro e wq ⟨rfl, hwq⟩
  obtain rfl := hwq.symm
  rw [hg]
  clear hg
  obtain ⟨t, A0, c0, A1, c1, A2, c2, A3, c3, hb, ho, -, hr0, hr1, b0, b1, b2, b3⟩ := HD1.out.rows
  have hnl := HI.out.names
  have HF := Sec.mk (findG_no hb hr1 (fun k h => h) (by omega) HI.out.ord nm hh)
  clear hb ho hr0 hr1
  go_wp2_with fail
  refine HF.out.mono ?_
  rintro e w2 ⟨rfl, hm2⟩
  have HD2 := Sec.mk (HD1.out.new hm2)
  have HM2 := Sec.mk (HM1.out.transN hm2)
  have e4 := (HE1.out.mod (hm2.mono (T := fun k => lo ≤ k) (fun i hi h => h.elim))).c4
  clear hm2 HF
  go_wp2
  go_ret
  rw [HRES.out]
  exact ⟨rfl, HD2.out, HM2.out⟩
set_option maxHeartbeats 8000000 in
set_option maxRecDepth 100000 in
theorem doI_missing4 {lo g : Nat} {tl : List Value} {w : World} {d : DiskT} {ea : Nat → Addr} {N : Nat} (h : DSt lo g tl w d) (hE : ErrEnv lo w ea) (hI : DInv N d) (hU : NodU d.2.1) (hN : N ≤ 5000) {kd : Int} {nm tn dat : Bytes} {Ad : Option Addr} {cd : Nat} {B : Nat → Prop} (hnm : nm.length ≤ 9223372036854775807) (htn : tn.length ≤ 9223372036854775807) (hr : Row Ty.byte w B Ad dat.length dat) (hB : ∀ k, B k → k < w.heap.size) (hdl : dat.length ≤ 1048576) (hg : goodL nm = true) (hg2 : goodL tn = true) (hh : hasE d.2.1 nm = false) :
    Calls Tryd.prog 20 #[.pointer (some ⟨g, 0, none⟩), .agg #[.int .i64 (4 : Int), .string ⟨nm.toArray⟩, .string ⟨tn.toArray⟩, .slice Ad dat.length cd]] w (RetDo lo g tl ea w (d, 4)) := by
  obtain ⟨res, hres⟩ : ∃ r : DiskT × Int, r = (d, 4) := ⟨_, rfl⟩
  rw [← hres]
  have HRES := Sec.mk hres
  have hma := (Mod.refl (fun _ => False) w).alloc (.cells #[.int .i64 (4 : Int), .string ⟨nm.toArray⟩, .string ⟨tn.toArray⟩, .slice Ad dat.length cd] 39)
  have HN1 := Sec.mk hma
  have HD1 := Sec.mk (h.new hma)
  have HBQ := Sec.mk (Blk.new w 39 [.int .i64 (4 : Int), .string ⟨nm.toArray⟩, .string ⟨tn.toArray⟩, .slice Ad dat.length cd])
  have hgw : g < w.heap.size := by obtain ⟨t', v0', v1', v2', v3', hb', -, hg'⟩ := h; exact hb'.lt
  have hlg : lo ≤ g := by obtain ⟨t', v0', v1', v2', v3', hb', -, hg'⟩ := h; exact hg'
  have HM1 := Sec.mk (hma.mono (T := fun k => lo ≤ k) (fun i hi h => h.elim))
  have HE1 := Sec.mk (hE.mod HM1.out)
  have HI := Sec.mk hI
  have HU := Sec.mk hU
  have HRD := Sec.mk (hr.mod (w' := (w.alloc (.cells #[.int .i64 (4 : Int), .string ⟨nm.toArray⟩, .string ⟨tn.toArray⟩, .slice Ad dat.length cd] 39))) (B' := B) (fun _ h => h) (fun k hk => hma.block k (hB k hk) id))
  have HBD : Sec (∀ k, B k → k < (w.alloc (.cells #[.int .i64 (4 : Int), .string ⟨nm.toArray⟩, .string ⟨tn.toArray⟩, .slice Ad dat.length cd] 39)).heap.size) := ⟨fun k hk => Nat.lt_of_lt_of_le (hB k hk) hma.size⟩
  have hsz : (w.alloc (.cells #[.int .i64 (4 : Int), .string ⟨nm.toArray⟩, .string ⟨tn.toArray⟩, .slice Ad dat.length cd] 39)).heap.size = w.heap.size + 1 := by simp
  clear h hE hI hU hma hr hB hres
  go_enter Tryd.func20, Tryd.ntmps20
  go_upto_region 1 with (fail)
  generalize (w.alloc (.cells #[.int .i64 (4 : Int), .string ⟨nm.toArray⟩, .string ⟨tn.toArray⟩, .slice Ad dat.length cd] 39)) = w1 at *
  have o0 : w1.cell? ⟨w.heap.size, 0, none⟩ = some (.int .i64 (4 : Int)) := HBQ.out.cell 0
  have o1 : w1.cell? ⟨w.heap.size, 1, none⟩ = some (.string ⟨nm.toArray⟩) := HBQ.out.cell 1
  have o2 : w1.cell? ⟨w.heap.size, 2, none⟩ = some (.string ⟨tn.toArray⟩) := HBQ.out.cell 2
  have o3 : w1.cell? ⟨w.heap.size, 3, none⟩ = some (.slice Ad dat.length cd) := HBQ.out.cell 3
  have hw1 : w.heap.size < w1.heap.size := by omega
  go_wp2_with fail
  refine (goodI_calls nm hnm _).mono ?_
  rintro e wq ⟨rfl, hwq⟩
  obtain rfl := hwq.symm
  rw [hg]
  clear hg
  go_wp2_with fail
  refine (goodI_calls tn htn _).mono ?_
  rintro e wq ⟨rfl, hwq⟩
  obtain rfl := hwq.symm
  rw [hg2]
  clear hg2
  obtain ⟨t, A0, c0, A1, c1, A2, c2, A3, c3, hb, ho, -, hr0, hr1, b0, b1, b2, b3⟩ := HD1.out.rows
  have hnl := HI.out.names
  have HF := Sec.mk (findG_no hb hr1 (fun k h => h) (by omega) HI.out.ord nm hh)
  clear hb ho hr0 hr1
  go_wp2_with fail
  refine HF.out.mono ?_
  rintro e w2 ⟨rfl, hm2⟩
  have HD2 := Sec.mk (HD1.out.new hm2)
  have HM2 := Sec.mk (HM1.out.transN hm2)
  have e4 := (HE1.out.mod (hm2.mono (T := fun k => lo ≤ k) (fun i hi h => h.elim))).c4
  clear hm2 HF
  go_wp2
  go_ret
  rw [HRES.out]
  exact ⟨rfl, HD2.out, HM2.out⟩
set_option maxHeartbeats 8000000 in
set_option maxRecDepth 100000 in
theorem doI_append {lo g : Nat} {tl : List Value} {w : World} {d : DiskT} {ea : Nat → Addr} {N : Nat} (h : DSt lo g tl w d) (hE : ErrEnv lo w ea) (hI : DInv N d) (hU : NodU d.2.1) (hN : N ≤ 5000) {kd : Int} {nm tn dat : Bytes} {Ad : Option Addr} {cd : Nat} {B : Nat → Prop} (hnm : nm.length ≤ 9223372036854775807) (htn : tn.length ≤ 9223372036854775807) (hr : Row Ty.byte w B Ad dat.length dat) (hB : ∀ k, B k → k < w.heap.size) (hdl : dat.length ≤ 1048576) (hg : goodL nm = true) (hh : hasE d.2.1 nm = true) {nd : Nat} (hnd : (d.2.1[placeE d.2.1 nm]?.getD ([], 0)).2 = (nd : Int)) (hndl : nd < d.1.length) :
    Calls Tryd.prog 20 #[.pointer (some ⟨g, 0, none⟩), .agg #[.int .i64 (2 : Int), .string ⟨nm.toArray⟩, .string ⟨tn.toArray⟩, .slice Ad dat.length cd]] w (RetDo lo g tl ea w (if d.2.2.2.2 < (usedL d : Int) + (dat.length : Int) then (d, 5) else if 40000 < d.1[nd].1.length + dat.length ∨ 200000 < sumD d.1 + dat.length then (d, 6) else ((d.1.set nd (d.1[nd].1 ++ dat, d.1[nd].2), d.2), 0))) := by
  obtain ⟨res, hres⟩ : ∃ r : DiskT × Int, r = (if d.2.2.2.2 < (usedL d : Int) + (dat.length : Int) then (d, 5) else if 40000 < d.1[nd].1.length + dat.length ∨ 200000 < sumD d.1 + dat.length then (d, 6) else ((d.1.set nd (d.1[nd].1 ++ dat, d.1[nd].2), d.2), 0)) := ⟨_, rfl⟩
  rw [← hres]
  have HRES := Sec.mk hres
  have hma := (Mod.refl (fun _ => False) w).alloc (.cells #[.int .i64 (2 : Int), .string ⟨nm.toArray⟩, .string ⟨tn.toArray⟩, .slice Ad dat.length cd] 39)
  have HN1 := Sec.mk hma
  have HD1 := Sec.mk (h.new hma)
  have HBQ := Sec.mk (Blk.new w 39 [.int .i64 (2 : Int), .string ⟨nm.toArray⟩, .string ⟨tn.toArray⟩, .slice Ad dat.length cd])
  have hgw : g < w.heap.size := by obtain ⟨t', v0', v1', v2', v3', hb', -, hg'⟩ := h; exact hb'.lt
  have hlg : lo ≤ g := by obtain ⟨t', v0', v1', v2', v3', hb', -, hg'⟩ := h; exact hg'
  have HM1 := Sec.mk (hma.mono (T := fun k => lo ≤ k) (fun i hi h => h.elim))
  have HE1 := Sec.mk (hE.mod HM1.out)
  have HI := Sec.mk hI
  have HU := Sec.mk hU
  have HRD := Sec.mk (hr.mod (w' := (w.alloc (.cells #[.int .i64 (2 : Int), .string ⟨nm.toArray⟩, .string ⟨tn.toArray⟩, .slice Ad dat.length cd] 39))) (B' := B) (fun _ h => h) (fun k hk => hma.block k (hB k hk) id))
  have HBD : Sec (∀ k, B k → k < (w.alloc (.cells #[.int .i64 (2 : Int), .string ⟨nm.toArray⟩, .string ⟨tn.toArray⟩, .slice Ad dat.length cd] 39)).heap.size) := ⟨fun k hk => Nat.lt_of_lt_of_le (hB k hk) hma.size⟩
  have hsz : (w.alloc (.cells #[.int .i64 (2 : Int), .string ⟨nm.toArray⟩, .string ⟨tn.toArray⟩, .slice Ad dat.length cd] 39)).heap.size = w.heap.size + 1 := by simp
  clear h hE hI hU hma hr hB hres
  go_enter Tryd.func20, Tryd.ntmps20
  go_upto_region 1 with (fail)
  generalize (w.alloc (.cells #[.int .i64 (2 : Int), .string ⟨nm.toArray⟩, .string ⟨tn.toArray⟩, .slice Ad dat.length cd] 39)) = w1 at *
  have o0 : w1.cell? ⟨w.heap.size, 0, none⟩ = some (.int .i64 (2 : Int)) := HBQ.out.cell 0
  have o1 : w1.cell? ⟨w.heap.size, 1, none⟩ = some (.string ⟨nm.toArray⟩) := HBQ.out.cell 1
  have o2 : w1.cell? ⟨w.heap.size, 2, none⟩ = some (.string ⟨tn.toArray⟩) := HBQ.out.cell 2
  have o3 : w1.cell? ⟨w.heap.size, 3, none⟩ = some (.slice Ad dat.length cd) := HBQ.out.cell 3
  have hw1 : w.heap.size < w1.heap.size := by omega
  go_wp2_with fail
  refine (goodI_calls nm hnm _).mono ?_
  rintro e wq ⟨rfl, hwq⟩
  obtain rfl := hwq.symm
  rw [hg]
  clear hg
  obtain ⟨t, A0, c0, A1, c1, A2, c2, A3, c3, hb, ho, -, hr0, hr1, b0, b1, b2, b3⟩ := HD1.out.rows
  have hnl := HI.out.names
  have HF := Sec.mk (findG_yes hb hr0 (fun k h => h) hr1 (fun k h => h) (by omega) HI.out.ord nm hh hnd hndl)
  have HB1 := Sec.mk hb
  have HO1 := Sec.mk ho
  have HRN := Sec.mk hr0
  clear hb ho hr0 hr1
  go_wp2_with fail
  refine HF.out.mono ?_
  rintro e w2 ⟨bd, hA0, rfl, hm2⟩
  subst hA0
  have hs2 := hm2.size
  have HN2 := Sec.mk hm2
  have HD2 := Sec.mk (HD1.out.new hm2)
  have HM2 := Sec.mk (HM1.out.transN hm2)
  have HE2 := Sec.mk (HE1.out.mod (hm2.mono (T := fun k => lo ≤ k) (fun i hi h => h.elim)))
  have HBQ2 := Sec.mk (HBQ.out.mod hm2 id)
  clear hm2 HF o0 o1 o2 o3
  have o0 : w2.cell? ⟨w.heap.size, 0, none⟩ = some (.int .i64 (2 : Int)) := HBQ2.out.cell 0
  have o1 : w2.cell? ⟨w.heap.size, 1, none⟩ = some (.string ⟨nm.toArray⟩) := HBQ2.out.cell 1
  have o2 : w2.cell? ⟨w.heap.size, 2, none⟩ = some (.string ⟨tn.toArray⟩) := HBQ2.out.cell 2
  have o3 : w2.cell? ⟨w.heap.size, 3, none⟩ = some (.slice Ad dat.length cd) := HBQ2.out.cell 3
  have hw2 : w.heap.size < w2.heap.size := by omega
  have x0 : w2.cell? ⟨g, 0, none⟩ = some (.slice (some bd) d.1.length c0) := (HB1.out.mod HN2.out id).cell 0
  go_wp2_with fail
  refine (appendI_calls HD2.out HE2.out HI.out hN x0 hndl (HRD.out.mod (w' := w2) (B' := B) (fun _ h => h) (fun k hk => HN2.out.block k (HBD.out k hk) id)) (fun k hk => Nat.lt_of_lt_of_le (HBD.out k hk) hs2) hdl).mono ?_
  rw [← HRES.out]
  intro e w3 hr2
  have HR2 := Sec.mk (hr2.after HM2.out)
  obtain ⟨rfl, -, -⟩ := hr2
  go_wp2
  go_ret
  exact HR2.out
set_option maxHeartbeats 8000000 in
set_option maxRecDepth 100000 in
theorem doI_sync {lo g : Nat} {tl : List Value} {w : World} {d : DiskT} {ea : Nat → Addr} {N : Nat} (h : DSt lo g tl w d) (hE : ErrEnv lo w ea) (hI : DInv N d) (hU : NodU d.2.1) (hN : N ≤ 5000) {kd : Int} {nm tn dat : Bytes} {Ad : Option Addr} {cd : Nat} {B : Nat → Prop} (hnm : nm.length ≤ 9223372036854775807) (htn : tn.length ≤ 9223372036854775807) (hr : Row Ty.byte w B Ad dat.length dat) (hB : ∀ k, B k → k < w.heap.size) (hdl : dat.length ≤ 1048576) (hg : goodL nm = true) (hh : hasE d.2.1 nm = true) {nd : Nat} (hnd : (d.2.1[placeE d.2.1 nm]?.getD ([], 0)).2 = (nd : Int)) (hndl : nd < d.1.length) :
    Calls Tryd.prog 20 #[.pointer (some ⟨g, 0, none⟩), .agg #[.int .i64 (3 : Int), .string ⟨nm.toArray⟩, .string ⟨tn.toArray⟩, .slice Ad dat.length cd]] w (RetDo lo g tl ea w ((d.1.set nd (d.1[nd].1, (d.1[nd].1.length : Int)), d.2), 0)) := by
  obtain ⟨res, hres⟩ : ∃ r : DiskT × Int, r = ((d.1.set nd (d.1[nd].1, (d.1[nd].1.length : Int)), d.2), 0) := ⟨_, rfl⟩
  rw [← hres]
  have HRES := Sec.mk hres
  have hma := (Mod.refl (fun _ => False) w).alloc (.cells #[.int .i64 (3 : Int), .string ⟨nm.toArray⟩, .string ⟨tn.toArray⟩, .slice Ad dat.length cd] 39)
  have HN1 := Sec.mk hma
  have HD1 := Sec.mk (h.new hma)
  have HBQ := Sec.mk (Blk.new w 39 [.int .i64 (3 : Int), .string ⟨nm.toArray⟩, .string ⟨tn.toArray⟩, .slice Ad dat.length cd])
  have hgw : g < w.heap.size := by obtain ⟨t', v0', v1', v2', v3', hb', -, hg'⟩ := h; exact hb'.lt
  have hlg : lo ≤ g := by obtain ⟨t', v0', v1', v2', v3', hb', -, hg'⟩ := h; exact hg'
  have HM1 := Sec.mk (hma.mono (T := fun k => lo ≤ k) (fun i hi h => h.elim))
  have HE1 := Sec.mk (hE.mod HM1.out)
  have HI := Sec.mk hI
  have HU := Sec.mk hU
  have HRD := Sec.mk (hr.mod (w' := (w.alloc (.cells #[.int .i64 (3 : Int), .string ⟨nm.toArray⟩, .string ⟨tn.toArray⟩, .slice Ad dat.length cd] 39))) (B' := B) (fun _ h => h) (fun k hk => hma.block k (hB k hk) id))
  have HBD : Sec (∀ k, B k → k < (w.alloc (.cells #[.int .i64 (3 : Int), .string ⟨nm.toArray⟩, .string ⟨tn.toArray⟩, .slice Ad dat.length cd] 39)).heap.size) := ⟨fun k hk => Nat.lt_of_lt_of_le (hB k hk) hma.size⟩
  have hsz : (w.alloc (.cells #[.int .i64 (3 : Int), .string ⟨nm.toArray⟩, .string ⟨tn.toArray⟩, .slice Ad dat.length cd] 39)).heap.size = w.heap.size + 1 := by simp
  clear h hE hI hU hma hr hB hres
  go_enter Tryd.func20, Tryd.ntmps20
  go_upto_region 1 with (fail)
  generalize (w.alloc (.cells #[.int .i64 (3 : Int), .string ⟨nm.toArray⟩, .string ⟨tn.toArray⟩, .slice Ad dat.length cd] 39)) = w1 at *
  have o0 : w1.cell? ⟨w.heap.size, 0, none⟩ = some (.int .i64 (3 : Int)) := HBQ.out.cell 0
  have o1 : w1.cell? ⟨w.heap.size, 1, none⟩ = some (.string ⟨nm.toArray⟩) := HBQ.out.cell 1
  have o2 : w1.cell? ⟨w.heap.size, 2, none⟩ = some (.string ⟨tn.toArray⟩) := HBQ.out.cell 2
  have o3 : w1.cell? ⟨w.heap.size, 3, none⟩ = some (.slice Ad dat.length cd) := HBQ.out.cell 3
  have hw1 : w.heap.size < w1.heap.size := by omega
  go_wp2_with fail
  refine (goodI_calls nm hnm _).mono ?_
  rintro e wq ⟨rfl, hwq⟩
  obtain rfl := hwq.symm
  rw [hg]
  clear hg
  obtain ⟨t, A0, c0, A1, c1, A2, c2, A3, c3, hb, ho, -, hr0, hr1, b0, b1, b2, b3⟩ := HD1.out.rows
  have hnl := HI.out.names
  have HF := Sec.mk (findG_yes hb hr0 (fun k h => h) hr1 (fun k h => h) (by omega) HI.out.ord nm hh hnd hndl)
  have HB1 := Sec.mk hb
  have HO1 := Sec.mk ho
  have HRN := Sec.mk hr0
  clear hb ho hr0 hr1
  go_wp2_with fail
  refine HF.out.mono ?_
  rintro e w2 ⟨bd, hA0, rfl, hm2⟩
  subst hA0
  have hs2 := hm2.size
  have HN2 := Sec.mk hm2
  have HD2 := Sec.mk (HD1.out.new hm2)
  have HM2 := Sec.mk (HM1.out.transN hm2)
  have HE2 := Sec.mk (HE1.out.mod (hm2.mono (T := fun k => lo ≤ k) (fun i hi h => h.elim)))
  have HBQ2 := Sec.mk (HBQ.out.mod hm2 id)
  clear hm2 HF o0 o1 o2 o3
  have o0 : w2.cell? ⟨w.heap.size, 0, none⟩ = some (.int .i64 (3 : Int)) := HBQ2.out.cell 0
  have o1 : w2.cell? ⟨w.heap.size, 1, none⟩ = some (.string ⟨nm.toArray⟩) := HBQ2.out.cell 1
  have o2 : w2.cell? ⟨w.heap.size, 2, none⟩ = some (.string ⟨tn.toArray⟩) := HBQ2.out.cell 2
  have o3 : w2.cell? ⟨w.heap.size, 3, none⟩ = some (.slice Ad dat.length cd) := HBQ2.out.cell 3
  have hw2 : w.heap.size < w2.heap.size := by omega
  have hlen := HI.out.len _ (List.getElem_mem hndl)
  have hso : IntKind.i64.wrap (d.1[nd].1.length : Int) = (d.1[nd].1.length : Int) := i64_nat _ (by omega)
  have hO2 := HO1.out.new HN2.out
  obtain ⟨gb, hbd, hXb, ⟨u, hu⟩, hfz, hset⟩ := hO2.setSafe hndl hso
  obtain rfl : bd = ⟨gb, 0, none⟩ := Option.some.inj hbd
  obtain ⟨bd', An, cn, hbd', n0, n1, -, -, -, -⟩ := node_at (HRN.out.mod (w' := w2) (fun _ h => h) (fun k hk => HN2.out.block k hk id)) (w' := w2) (fun _ _ => rfl) hndl
  obtain rfl : (⟨gb, 0, none⟩ : Addr) = bd' := Option.some.inj hbd'
  rw [add_own] at n0 n1 ⊢
  have hgb : gb < w2.heap.size := World.block_lt_of_cell? _ _ n0
  have hf0 : w2.frozen? ⟨gb, nd * 2, none⟩ = false := by
    obtain ⟨gb', v', f', e1, -, -, -, -, -, -, hfz', -⟩ := hO2.appData hndl (fun k hk => by omega)
    obtain rfl : gb = gb' := by have := Option.some.inj e1; injection this
    exact hfz' _
  have HSET := Sec.mk hset
  have HB2 := Sec.mk (HB1.out.mod HN2.out id)
  clear hset hu hO2 hbd hbd'
  go_wp2
  go_ret
  have hmc : Mod (fun k => k = gb) w2 (w2.setCell ⟨gb, nd * 2 + 1, none⟩ (.int .i64 (d.1[nd].1.length : Int))) := (Mod.refl (fun k => k = gb) w2).setCell (p := ⟨gb, nd * 2 + 1, none⟩) (fun _ => rfl) _
  rw [HRES.out]
  exact ⟨rfl, ⟨t, _, _, _, _, HB2.out.mod hmc (fun e => hXb.2 e.symm), HSET.out, hlg⟩, HM2.out.trans hmc (fun i hi _ => by rw [hi]; exact hXb.1)⟩
set_option maxHeartbeats 8000000 in
set_option maxRecDepth 100000 in
theorem doI_remove {lo g : Nat} {tl : List Value} {w : World} {d : DiskT} {ea : Nat → Addr} {N : Nat} (h : DSt lo g tl w d) (hE : ErrEnv lo w ea) (hI : DInv N d) (hU : NodU d.2.1) (hN : N ≤ 5000) {kd : Int} {nm tn dat : Bytes} {Ad : Option Addr} {cd : Nat} {B : Nat → Prop} (hnm : nm.length ≤ 9223372036854775807) (htn : tn.length ≤ 9223372036854775807) (hr : Row Ty.byte w B Ad dat.length dat) (hB : ∀ k, B k → k < w.heap.size) (hdl : dat.length ≤ 1048576) (hg : goodL nm = true) (hh : hasE d.2.1 nm = true) {nd : Nat} (hnd : (d.2.1[placeE d.2.1 nm]?.getD ([], 0)).2 = (nd : Int)) (hndl : nd < d.1.length) :
    Calls Tryd.prog 20 #[.pointer (some ⟨g, 0, none⟩), .agg #[.int .i64 (5 : Int), .string ⟨nm.toArray⟩, .string ⟨tn.toArray⟩, .slice Ad dat.length cd]] w (RetDo lo g tl ea w (if 1000 ≤ d.2.2.2.1.length then (d, 6) else (dirL d (5, nm, [], 0), 0))) := by
  obtain ⟨res, hres⟩ : ∃ r : DiskT × Int, r = (if 1000 ≤ d.2.2.2.1.length then (d, 6) else (dirL d (5, nm, [], 0), 0)) := ⟨_, rfl⟩
  rw [← hres]
  have HRES := Sec.mk hres
  have hma := (Mod.refl (fun _ => False) w).alloc (.cells #[.int .i64 (5 : Int), .string ⟨nm.toArray⟩, .string ⟨tn.toArray⟩, .slice Ad dat.length cd] 39)
  have HN1 := Sec.mk hma
  have HD1 := Sec.mk (h.new hma)
  have HBQ := Sec.mk (Blk.new w 39 [.int .i64 (5 : Int), .string ⟨nm.toArray⟩, .string ⟨tn.toArray⟩, .slice Ad dat.length cd])
  have hgw : g < w.heap.size := by obtain ⟨t', v0', v1', v2', v3', hb', -, hg'⟩ := h; exact hb'.lt
  have hlg : lo ≤ g := by obtain ⟨t', v0', v1', v2', v3', hb', -, hg'⟩ := h; exact hg'
  have HM1 := Sec.mk (hma.mono (T := fun k => lo ≤ k) (fun i hi h => h.elim))
  have HE1 := Sec.mk (hE.mod HM1.out)
  have HI := Sec.mk hI
  have HU := Sec.mk hU
  have HRD := Sec.mk (hr.mod (w' := (w.alloc (.cells #[.int .i64 (5 : Int), .string ⟨nm.toArray⟩, .string ⟨tn.toArray⟩, .slice Ad dat.length cd] 39))) (B' := B) (fun _ h => h) (fun k hk => hma.block k (hB k hk) id))
  have HBD : Sec (∀ k, B k → k < (w.alloc (.cells #[.int .i64 (5 : Int), .string ⟨nm.toArray⟩, .string ⟨tn.toArray⟩, .slice Ad dat.length cd] 39)).heap.size) := ⟨fun k hk => Nat.lt_of_lt_of_le (hB k hk) hma.size⟩
  have hsz : (w.alloc (.cells #[.int .i64 (5 : Int), .string ⟨nm.toArray⟩, .string ⟨tn.toArray⟩, .slice Ad dat.length cd] 39)).heap.size = w.heap.size + 1 := by simp
  clear h hE hI hU hma hr hB hres
  go_enter Tryd.func20, Tryd.ntmps20
  go_upto_region 1 with (fail)
  generalize (w.alloc (.cells #[.int .i64 (5 : Int), .string ⟨nm.toArray⟩, .string ⟨tn.toArray⟩, .slice Ad dat.length cd] 39)) = w1 at *
  have o0 : w1.cell? ⟨w.heap.size, 0, none⟩ = some (.int .i64 (5 : Int)) := HBQ.out.cell 0
  have o1 : w1.cell? ⟨w.heap.size, 1, none⟩ = some (.string ⟨nm.toArray⟩) := HBQ.out.cell 1
  have o2 : w1.cell? ⟨w.heap.size, 2, none⟩ = some (.string ⟨tn.toArray⟩) := HBQ.out.cell 2
  have o3 : w1.cell? ⟨w.heap.size, 3, none⟩ = some (.slice Ad dat.length cd) := HBQ.out.cell 3
  have hw1 : w.heap.size < w1.heap.size := by omega
  go_wp2_with fail
  refine (goodI_calls nm hnm _).mono ?_
  rintro e wq ⟨rfl, hwq⟩
  obtain rfl := hwq.symm
  rw [hg]
  clear hg
  obtain ⟨t, A0, c0, A1, c1, A2, c2, A3, c3, hb, ho, -, hr0, hr1, b0, b1, b2, b3⟩ := HD1.out.rows
  have hnl := HI.out.names
  have HF := Sec.mk (findG_yes hb hr0 (fun k h => h) hr1 (fun k h => h) (by omega) HI.out.ord nm hh hnd hndl)
  have HB1 := Sec.mk hb
  have HO1 := Sec.mk ho
  have HRN := Sec.mk hr0
  clear hb ho hr0 hr1
  go_wp2_with fail
  refine HF.out.mono ?_
  rintro e w2 ⟨bd, hA0, rfl, hm2⟩
  subst hA0
  have hs2 := hm2.size
  have HN2 := Sec.mk hm2
  have HD2 := Sec.mk (HD1.out.new hm2)
  have HM2 := Sec.mk (HM1.out.transN hm2)
  have HE2 := Sec.mk (HE1.out.mod (hm2.mono (T := fun k => lo ≤ k) (fun i hi h => h.elim)))
  have HBQ2 := Sec.mk (HBQ.out.mod hm2 id)
  clear hm2 HF o0 o1 o2 o3
  have o0 : w2.cell? ⟨w.heap.size, 0, none⟩ = some (.int .i64 (5 : Int)) := HBQ2.out.cell 0
  have o1 : w2.cell? ⟨w.heap.size, 1, none⟩ = some (.string ⟨nm.toArray⟩) := HBQ2.out.cell 1
  have o2 : w2.cell? ⟨w.heap.size, 2, none⟩ = some (.string ⟨tn.toArray⟩) := HBQ2.out.cell 2
  have o3 : w2.cell? ⟨w.heap.size, 3, none⟩ = some (.slice Ad dat.length cd) := HBQ2.out.cell 3
  have hw2 : w.heap.size < w2.heap.size := by omega
  go_wp2_with fail
  refine (pendI_calls HD2.out HE2.out HI.out (by omega) (5, nm, [], 0) i64_k5 hnm (Nat.zero_le _) i64_k0).mono ?_
  rw [← HRES.out]
  intro e w3 hr2
  have HR2 := Sec.mk (hr2.after HM2.out)
  obtain ⟨rfl, -, -⟩ := hr2
  go_wp2
  go_ret
  exact HR2.out
set_option maxHeartbeats 8000000 in
set_option maxRecDepth 100000 in
theorem doI_same {lo g : Nat} {tl : List Value} {w : World} {d : DiskT} {ea : Nat → Addr} {N : Nat} (h : DSt lo g tl w d) (hE : ErrEnv lo w ea) (hI : DInv N d) (hU : NodU d.2.1) (hN : N ≤ 5000) {kd : Int} {nm tn dat : Bytes} {Ad : Option Addr} {cd : Nat} {B : Nat → Prop} (hnm : nm.length ≤ 9223372036854775807) (htn : tn.length ≤ 9223372036854775807) (hr : Row Ty.byte w B Ad dat.length dat) (hB : ∀ k, B k → k < w.heap.size) (hdl : dat.length ≤ 1048576) (hg : goodL nm = true) (hg2 : goodL tn = true) (he : Sec (tn = nm)) (hh : hasE d.2.1 nm = true) {nd : Nat} (hnd : (d.2.1[placeE d.2.1 nm]?.getD ([], 0)).2 = (nd : Int)) (hndl : nd < d.1.length) :
    Calls Tryd.prog 20 #[.pointer (some ⟨g, 0, none⟩), .agg #[.int .i64 (4 : Int), .string ⟨nm.toArray⟩, .string ⟨tn.toArray⟩, .slice Ad dat.length cd]] w (RetDo lo g tl ea w (d, 0)) := by
  obtain ⟨res, hres⟩ : ∃ r : DiskT × Int, r = (d, 0) := ⟨_, rfl⟩
  rw [← hres]
  have HRES := Sec.mk hres
  have hma := (Mod.refl (fun _ => False) w).alloc (.cells #[.int .i64 (4 : Int), .string ⟨nm.toArray⟩, .string ⟨tn.toArray⟩, .slice Ad dat.length cd] 39)
  have HN1 := Sec.mk hma
  have HD1 := Sec.mk (h.new hma)
  have HBQ := Sec.mk (Blk.new w 39 [.int .i64 (4 : Int), .string ⟨nm.toArray⟩, .string ⟨tn.toArray⟩, .slice Ad dat.length cd])
  have hgw : g < w.heap.size := by obtain ⟨t', v0', v1', v2', v3', hb', -, hg'⟩ := h; exact hb'.lt
  have hlg : lo ≤ g := by obtain ⟨t', v0', v1', v2', v3', hb', -, hg'⟩ := h; exact hg'
  have HM1 := Sec.mk (hma.mono (T := fun k => lo ≤ k) (fun i hi h => h.elim))
  have HE1 := Sec.mk (hE.mod HM1.out)
  have HI := Sec.mk hI
  have HU := Sec.mk hU
  have HRD := Sec.mk (hr.mod (w' := (w.alloc (.cells #[.int .i64 (4 : Int), .string ⟨nm.toArray⟩, .string ⟨tn.toArray⟩, .slice Ad dat.length cd] 39))) (B' := B) (fun _ h => h) (fun k hk => hma.block k (hB k hk) id))
  have HBD : Sec (∀ k, B k → k < (w.alloc (.cells #[.int .i64 (4 : Int), .string ⟨nm.toArray⟩, .string ⟨tn.toArray⟩, .slice Ad dat.length cd] 39)).heap.size) := ⟨fun k hk => Nat.lt_of_lt_of_le (hB k hk) hma.size⟩
  have hsz : (w.alloc (.cells #[.int .i64 (4 : Int), .string ⟨nm.toArray⟩, .string ⟨tn.toArray⟩, .slice Ad dat.length cd] 39)).heap.size = w.heap.size + 1 := by simp
  clear h hE hI hU hma hr hB hres
  go_enter Tryd.func20, Tryd.ntmps20
  go_upto_region 1 with (fail)
  generalize (w.alloc (.cells #[.int .i64 (4 : Int), .string ⟨nm.toArray⟩, .string ⟨tn.toArray⟩, .slice Ad dat.length cd] 39)) = w1 at *
  have o0 : w1.cell? ⟨w.heap.size, 0, none⟩ = some (.int .i64 (4 : Int)) := HBQ.out.cell 0
  have o1 : w1.cell? ⟨w.heap.size, 1, none⟩ = some (.string ⟨nm.toArray⟩) := HBQ.out.cell 1
  have o2 : w1.cell? ⟨w.heap.size, 2, none⟩ = some (.string ⟨tn.toArray⟩) := HBQ.out.cell 2
  have o3 : w1.cell? ⟨w.heap.size, 3, none⟩ = some (.slice Ad dat.length cd) := HBQ.out.cell 3
  have hw1 : w.heap.size < w1.heap.size := by omega
  go_wp2_with fail
  refine (goodI_calls nm hnm _).mono ?_
  rintro e wq ⟨rfl, hwq⟩
  obtain rfl := hwq.symm
  rw [hg]
  clear hg
  go_wp2_with fail
  refine (goodI_calls tn htn _).mono ?_
  rintro e wq ⟨rfl, hwq⟩
  obtain rfl := hwq.symm
  rw [hg2]
  clear hg2
  obtain ⟨t, A0, c0, A1, c1, A2, c2, A3, c3, hb, ho, -, hr0, hr1, b0, b1, b2, b3⟩ := HD1.out.rows
  have hnl := HI.out.names
  have HF := Sec.mk (findG_yes hb hr0 (fun k h => h) hr1 (fun k h => h) (by omega) HI.out.ord nm hh hnd hndl)
  have HB1 := Sec.mk hb
  have HO1 := Sec.mk ho
  have HRN := Sec.mk hr0
  clear hb ho hr0 hr1
  go_wp2_with fail
  refine HF.out.mono ?_
  rintro e w2 ⟨bd, hA0, rfl, hm2⟩
  subst hA0
  have hs2 := hm2.size
  have HN2 := Sec.mk hm2
  have HD2 := Sec.mk (HD1.out.new hm2)
  have HM2 := Sec.mk (HM1.out.transN hm2)
  have HE2 := Sec.mk (HE1.out.mod (hm2.mono (T := fun k => lo ≤ k) (fun i hi h => h.elim)))
  have HBQ2 := Sec.mk (HBQ.out.mod hm2 id)
  clear hm2 HF o0 o1 o2 o3
  have o0 : w2.cell? ⟨w.heap.size, 0, none⟩ = some (.int .i64 (4 : Int)) := HBQ2.out.cell 0
  have o1 : w2.cell? ⟨w.heap.size, 1, none⟩ = some (.string ⟨nm.toArray⟩) := HBQ2.out.cell 1
  have o2 : w2.cell? ⟨w.heap.size, 2, none⟩ = some (.string ⟨tn.toArray⟩) := HBQ2.out.cell 2
  have o3 : w2.cell? ⟨w.heap.size, 3, none⟩ = some (.slice Ad dat.length cd) := HBQ2.out.cell 3
  have hw2 : w.heap.size < w2.heap.size := by omega
  have htb : (tn == nm) = true := by simpa using he.out
  go_wp2
  go_ret
  rw [HRES.out]
  exact ⟨rfl, HD2.out, HM2.out⟩
set_option maxHeartbeats 8000000 in
set_option maxRecDepth 100000 in
theorem doI_rename {lo g : Nat} {tl : List Value} {w : World} {d : DiskT} {ea : Nat → Addr} {N : Nat} (h : DSt lo g tl w d) (hE : ErrEnv lo w ea) (hI : DInv N d) (hU : NodU d.2.1) (hN : N ≤ 5000) {kd : Int} {nm tn dat : Bytes} {Ad : Option Addr} {cd : Nat} {B : Nat → Prop} (hnm : nm.length ≤ 9223372036854775807) (htn : tn.length ≤ 9223372036854775807) (hr : Row Ty.byte w B Ad dat.length dat) (hB : ∀ k, B k → k < w.heap.size) (hdl : dat.length ≤ 1048576) (hg : goodL nm = true) (hg2 : goodL tn = true) (he : tn ≠ nm) (hh : hasE d.2.1 nm = true) {nd : Nat} (hnd : (d.2.1[placeE d.2.1 nm]?.getD ([], 0)).2 = (nd : Int)) (hndl : nd < d.1.length) :
    Calls Tryd.prog 20 #[.pointer (some ⟨g, 0, none⟩), .agg #[.int .i64 (4 : Int), .string ⟨nm.toArray⟩, .string ⟨tn.toArray⟩, .slice Ad dat.length cd]] w (RetDo lo g tl ea w (if 1000 ≤ d.2.2.2.1.length then (d, 6) else (dirL d (4, nm, tn, 0), 0))) := by
  obtain ⟨res, hres⟩ : ∃ r : DiskT × Int, r = (if 1000 ≤ d.2.2.2.1.length then (d, 6) else (dirL d (4, nm, tn, 0), 0)) := ⟨_, rfl⟩
  rw [← hres]
  have HRES := Sec.mk hres
  have hma := (Mod.refl (fun _ => False) w).alloc (.cells #[.int .i64 (4 : Int), .string ⟨nm.toArray⟩, .string ⟨tn.toArray⟩, .slice Ad dat.length cd] 39)
  have HN1 := Sec.mk hma
  have HD1 := Sec.mk (h.new hma)
  have HBQ := Sec.mk (Blk.new w 39 [.int .i64 (4 : Int), .string ⟨nm.toArray⟩, .string ⟨tn.toArray⟩, .slice Ad dat.length cd])
  have hgw : g < w.heap.size := by obtain ⟨t', v0', v1', v2', v3', hb', -, hg'⟩ := h; exact hb'.lt
  have hlg : lo ≤ g := by obtain ⟨t', v0', v1', v2', v3', hb', -, hg'⟩ := h; exact hg'
  have HM1 := Sec.mk (hma.mono (T := fun k => lo ≤ k) (fun i hi h => h.elim))
  have HE1 := Sec.mk (hE.mod HM1.out)
  have HI := Sec.mk hI
  have HU := Sec.mk hU
  have HRD := Sec.mk (hr.mod (w' := (w.alloc (.cells #[.int .i64 (4 : Int), .string ⟨nm.toArray⟩, .string ⟨tn.toArray⟩, .slice Ad dat.length cd] 39))) (B' := B) (fun _ h => h) (fun k hk => hma.block k (hB k hk) id))
  have HBD : Sec (∀ k, B k → k < (w.alloc (.cells #[.int .i64 (4 : Int), .string ⟨nm.toArray⟩, .string ⟨tn.toArray⟩, .slice Ad dat.length cd] 39)).heap.size) := ⟨fun k hk => Nat.lt_of_lt_of_le (hB k hk) hma.size⟩
  have hsz : (w.alloc (.cells #[.int .i64 (4 : Int), .string ⟨nm.toArray⟩, .string ⟨tn.toArray⟩, .slice Ad dat.length cd] 39)).heap.size = w.heap.size + 1 := by simp
  clear h hE hI hU hma hr hB hres
  go_enter Tryd.func20, Tryd.ntmps20
  go_upto_region 1 with (fail)
  generalize (w.alloc (.cells #[.int .i64 (4 : Int), .string ⟨nm.toArray⟩, .string ⟨tn.toArray⟩, .slice Ad dat.length cd] 39)) = w1 at *
  have o0 : w1.cell? ⟨w.heap.size, 0, none⟩ = some (.int .i64 (4 : Int)) := HBQ.out.cell 0
  have o1 : w1.cell? ⟨w.heap.size, 1, none⟩ = some (.string ⟨nm.toArray⟩) := HBQ.out.cell 1
  have o2 : w1.cell? ⟨w.heap.size, 2, none⟩ = some (.string ⟨tn.toArray⟩) := HBQ.out.cell 2
  have o3 : w1.cell? ⟨w.heap.size, 3, none⟩ = some (.slice Ad dat.length cd) := HBQ.out.cell 3
  have hw1 : w.heap.size < w1.heap.size := by omega
  go_wp2_with fail
  refine (goodI_calls nm hnm _).mono ?_
  rintro e wq ⟨rfl, hwq⟩
  obtain rfl := hwq.symm
  rw [hg]
  clear hg
  go_wp2_with fail
  refine (goodI_calls tn htn _).mono ?_
  rintro e wq ⟨rfl, hwq⟩
  obtain rfl := hwq.symm
  rw [hg2]
  clear hg2
  obtain ⟨t, A0, c0, A1, c1, A2, c2, A3, c3, hb, ho, -, hr0, hr1, b0, b1, b2, b3⟩ := HD1.out.rows
  have hnl := HI.out.names
  have HF := Sec.mk (findG_yes hb hr0 (fun k h => h) hr1 (fun k h => h) (by omega) HI.out.ord nm hh hnd hndl)
  have HB1 := Sec.mk hb
  have HO1 := Sec.mk ho
  have HRN := Sec.mk hr0
  clear hb ho hr0 hr1
  go_wp2_with fail
  refine HF.out.mono ?_
  rintro e w2 ⟨bd, hA0, rfl, hm2⟩
  subst hA0
  have hs2 := hm2.size
  have HN2 := Sec.mk hm2
  have HD2 := Sec.mk (HD1.out.new hm2)
  have HM2 := Sec.mk (HM1.out.transN hm2)
  have HE2 := Sec.mk (HE1.out.mod (hm2.mono (T := fun k => lo ≤ k) (fun i hi h => h.elim)))
  have HBQ2 := Sec.mk (HBQ.out.mod hm2 id)
  clear hm2 HF o0 o1 o2 o3
  have o0 : w2.cell? ⟨w.heap.size, 0, none⟩ = some (.int .i64 (4 : Int)) := HBQ2.out.cell 0
  have o1 : w2.cell? ⟨w.heap.size, 1, none⟩ = some (.string ⟨nm.toArray⟩) := HBQ2.out.cell 1
  have o2 : w2.cell? ⟨w.heap.size, 2, none⟩ = some (.string ⟨tn.toArray⟩) := HBQ2.out.cell 2
  have o3 : w2.cell? ⟨w.heap.size, 3, none⟩ = some (.slice Ad dat.length cd) := HBQ2.out.cell 3
  have hw2 : w.heap.size < w2.heap.size := by omega
  have htb : (tn == nm) = false := by simpa using he
  clear he
  go_wp2_with fail
  refine (pendI_calls HD2.out HE2.out HI.out (by omega) (4, nm, tn, 0) i64_k4 hnm htn i64_k0).mono ?_
  rw [← HRES.out]
  intro e w3 hr2
  have HR2 := Sec.mk (hr2.after HM2.out)
  obtain ⟨rfl, -, -⟩ := hr2
  go_wp2
  go_ret
  exact HR2.out
theorem doI_calls {lo g : Nat} {tl : List Value} {w : World} {d : DiskT} {ea : Nat → Addr} {N : Nat} (h : DSt lo g tl w d) (hE : ErrEnv lo w ea) (hI : DInv N d) (hU : NodU d.2.1) (hN : N ≤ 5000) (kd : Int) {nm tn dat : Bytes} {Ad : Option Addr} {cd : Nat} {B : Nat → Prop} (hnm : nm.length ≤ 9223372036854775807) (htn : tn.length ≤ 9223372036854775807) (hr : Row Ty.byte w B Ad dat.length dat) (hB : ∀ k, B k → k < w.heap.size) (hdl : dat.length ≤ 1048576) :
    Calls Tryd.prog 20 #[.pointer (some ⟨g, 0, none⟩), .agg #[.int .i64 kd, .string ⟨nm.toArray⟩, .string ⟨tn.toArray⟩, .slice Ad dat.length cd]] w (RetDo lo g tl ea w (oneL d (kd, nm, tn, dat))) := by
  rw [oneL_eq]
  by_cases h1 : kd < 1
  · rw [if_pos (Or.inl h1)]; exact doI_low h hE hI hU hN hnm htn hr hB hdl h1
  by_cases h6 : 6 < kd
  · rw [if_pos (Or.inr h6)]; exact doI_high h hE hI hU hN hnm htn hr hB hdl h6
  rw [if_neg (by omega)]
  by_cases e6 : kd = 6
  · subst e6; rw [if_pos rfl]; exact doI_dir (kd := 6) h hE hI hU hN hnm htn hr hB hdl
  rw [if_neg e6]
  by_cases hbad : goodL nm = false ∨ (kd = 4 ∧ goodL tn = false)
  · rw [if_pos hbad]
    cases hg : goodL nm
    · exact doI_name h hE hI hU hN hnm htn hr hB hdl (by omega) (by omega) hg
    · rcases hbad with hb | ⟨rfl, hg2⟩
      · rw [hg] at hb; cases hb
      · exact doI_name4 (kd := 4) h hE hI hU hN hnm htn hr hB hdl hg hg2
  rw [if_neg hbad]
  have hg : goodL nm = true := by
    cases hg : goodL nm
    · exact absurd (Or.inl hg) hbad
    · rfl
  have hg2 : kd = 4 → goodL tn = true := fun e => by
    cases hg2 : goodL tn
    · exact absurd (Or.inr ⟨e, hg2⟩) hbad
    · rfl
  by_cases e1 : kd = 1
  · subst e1; rw [if_pos rfl]; exact doI_create (kd := 1) h hE hI hU hN hnm htn hr hB hdl hg
  rw [if_neg e1]
  have hcase : kd = 2 ∨ kd = 3 ∨ kd = 4 ∨ kd = 5 := by omega
  by_cases hh : hasE d.2.1 nm = false
  · rw [if_pos hh]
    rcases hcase with rfl | rfl | rfl | rfl
    · exact doI_missing2 (kd := 2) h hE hI hU hN hnm htn hr hB hdl hg hh
    · exact doI_missing3 (kd := 3) h hE hI hU hN hnm htn hr hB hdl hg hh
    · exact doI_missing4 (kd := 4) h hE hI hU hN hnm htn hr hB hdl hg (hg2 rfl) hh
    · exact doI_missing5 (kd := 5) h hE hI hU hN hnm htn hr hB hdl hg hh
  rw [if_neg hh]
  have hh : hasE d.2.1 nm = true := by simpa using hh
  obtain ⟨nd, hnd, hndl⟩ := node_of hI nm hh
  have hno : nodeOf d nm = (nd : Int) := hnd
  have hna : nodeAt d (nd : Int) = d.1[nd] := by unfold nodeAt; rw [Int.toNat_natCast, List.getElem?_eq_getElem hndl]; rfl
  have hwn : ∀ n : NodL, withNode d (nd : Int) n = (d.1.set nd n, d.2) := fun n => by unfold withNode; rw [Int.toNat_natCast]
  rw [hno, hna, hwn, hwn]
  rcases hcase with rfl | rfl | rfl | rfl
  · rw [if_pos rfl]; exact doI_append (kd := 2) h hE hI hU hN hnm htn hr hB hdl hg hh hnd hndl
  · rw [if_neg (by decide), if_pos rfl]; exact doI_sync (kd := 3) h hE hI hU hN hnm htn hr hB hdl hg hh hnd hndl
  · rw [if_neg (by decide), if_neg (by decide)]
    by_cases he : tn = nm
    · rw [if_pos ⟨rfl, he⟩]; exact doI_same (kd := 4) h hE hI hU hN hnm htn hr hB hdl hg (hg2 rfl) ⟨he⟩ hh hnd hndl
    · rw [if_neg (fun h => he h.2), if_pos rfl]; exact doI_rename (kd := 4) h hE hI hU hN hnm htn hr hB hdl hg (hg2 rfl) he hh hnd hndl
  · rw [if_neg (by decide), if_neg (by decide), if_neg (fun h => absurd h.1 (by decide)), if_neg (show ¬ (5 : Int) = 4 by decide)]; exact doI_remove (kd := 5) h hE hI hU hN hnm htn hr hB hdl hg hh hnd hndl
end Go.Proofs.YtkkgighgnbbgiaaDoor
