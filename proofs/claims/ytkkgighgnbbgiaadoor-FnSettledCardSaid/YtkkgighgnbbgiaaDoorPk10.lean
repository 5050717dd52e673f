/- The laws' own comparisons. The laws' comparison of two disks that read alike. The names of a disk lead to nodes of their own. Operations keep a disk valid, in plain lists. Operations keep a disk valid, in plain lists: settling, and any operation. When all is synced and the names came last, a crash changes nothing: in plain lists. The specification's reading of a file. The program's place of a name: nameOf, the closure, sort.Search, place. -/
import Derived.Test.YtkkgighgnbbgiaaDoorPk1
import Derived.Test.YtkkgighgnbbgiaaDoorPk5
import Derived.Test.YtkkgighgnbbgiaaDoorPk7
import Derived.Deep.DeepCutAuto
import Derived.Deep.Cut
import Derived.Test.YtkkgighgnbbgiaaDoorPk4
namespace Go.Proofs.YtkkgighgnbbgiaaDoor
open Go.RowKit Mem
set_option linter.unusedVariables false
set_option maxHeartbeats 400000 in
theorem sameBytes_calls {A A' : Option Addr} {n m c c' : Nat} {xs ys : Bytes} {B B' : Nat → Prop} {w : World} (h : Row Ty.byte w B A n xs) (h' : Row Ty.byte w B' A' m ys) :
    Calls Tryd.prog 12 #[.slice A n c, .slice A' m c'] w fun e w' => e = .returned (.bool (decide (xs = ys))) ∧ w' = w := by
  have h1 := h.conv (P := Tryd.prog) Tryd.underlying22 Tryd.underlying5 Tryd.underlying9 c
  have h2 := h'.conv (P := Tryd.prog) Tryd.underlying22 Tryd.underlying5 Tryd.underlying9 c'
  clear h h'
  by_cases he : xs = ys
  · subst he
    go_enter Tryd.func12, Tryd.ntmps12
    go_wp2
    go_ret
    exact ⟨by simp, rfl⟩
  · have hz : (xs == ys) = false := by simpa using he
    have HE := Sec.mk he
    clear he
    go_enter Tryd.func12, Tryd.ntmps12
    go_wp2
    go_ret
    exact ⟨by simp [HE.out], rfl⟩
end Go.Proofs.YtkkgighgnbbgiaaDoor

namespace Go.Proofs.YtkkgighgnbbgiaaDoor
open Go.RowKit Mem
set_option linter.unusedVariables false
set_option linter.unusedSimpArgs false
set_option maxHeartbeats 8000000 in
set_option maxRecDepth 100000 in
theorem sameEntries_same {A A' : Option Addr} {c c' : Nat} {xs : List EntryT} {w : World} (h : Row dEntry w (· < w.heap.size) A xs.length xs) (h' : Row dEntry w (· < w.heap.size) A' xs.length xs) :
    Calls Tryd.prog 22 #[.slice A xs.length c, .slice A' xs.length c'] w (Ret (.bool true) w) := by
  have hmx := h.2.1
  have HR := Sec.mk h
  have HR' := Sec.mk h'
  clear h h'
  go_enter Tryd.func22, Tryd.ntmps22
  go_wp2
  go_loopw [13] (fun i wr => ∃ k : Nat, k ≤ xs.length ∧ i = .int .i64 (k : Int) ∧ Sec (New w wr)) (fun i _ => xs.length - (intOf i).toNat)
  case atStart => exact ⟨0, Nat.zero_le _, rfl, ⟨Mod.refl _ _⟩⟩
  case round =>
    obtain ⟨k, hk, rfl, HM⟩ := hrel
    by_cases hlt : k < xs.length
    · obtain ⟨ad, rfl, h0, h1, -⟩ := ent_at HR.out (fun i hi => HM.out.block i hi id) hlt
      obtain ⟨ad', rfl, h0', h1', -⟩ := ent_at HR'.out (fun i hi => HM.out.block i hi id) hlt
      have hi1 : (k : Int) < (xs.length : Int) := by omega
      generalize xs[k].1 = X at *
      generalize xs[k].2 = Y at *
      go_wp2
      refine wp_region_quiet_lit (by kernel_rfl) (by kernel_rfl) ?_
      repeat ((with_reducible refine wpQuiet_step (fun K hK => ?_)); go_simp; first | (refine hK _ ?_; clear hK K) | (apply Exists.intro; refine ⟨fun _ => ?_, hK _ ?_⟩; (fail); clear hK K))
      refine wpQuiet_nil ?_
      intro _ hwq
      obtain ⟨nq, hwqq⟩ := hwq
      subst hwqq
      go_wp2
      go_roundw
      case rel => exact ⟨k + 1, by omega, by go_num, ⟨HM.out.drewN _⟩⟩
      case measure => simp [intOf]; omega
    · obtain rfl : k = xs.length := by omega
      go_wp2
      go_ret
      exact ⟨rfl, HM.out⟩
set_option maxHeartbeats 20000000 in
set_option maxRecDepth 100000 in
theorem sameDisk_same {w : World} {v v' : Value} {d : DiskT} (h : RdV true dDisk w v d) (h' : RdV true dDisk w v' d) : Calls Tryd.prog 7 #[v, v'] w (Ret (.bool true) w) := by
  obtain ⟨v0, v1, v2, v3, rfl, k0, k1, k2, k3⟩ := rdDisk h
  obtain ⟨u0, u1, u2, u3, rfl, l0, l1, l2, l3⟩ := rdDisk h'
  obtain ⟨a0, a0', rfl, -, r0⟩ := k0.slice
  obtain ⟨a1, a1', rfl, -, r1⟩ := k1.slice
  obtain ⟨a2, a2', rfl, -, r2⟩ := k2.slice
  obtain ⟨a3, a3', rfl, -, r3⟩ := k3.slice
  obtain ⟨b0, b0', rfl, -, s0⟩ := l0.slice
  obtain ⟨b1, b1', rfl, -, s1⟩ := l1.slice
  obtain ⟨b2, b2', rfl, -, s2⟩ := l2.slice
  obtain ⟨b3, b3', rfl, -, s3⟩ := l3.slice
  have m0 := r0.2.1
  have m3 := r3.2.1
  have HBX := Sec.mk ((Blk.new w 27 [.slice a0 d.1.length a0', .slice a1 d.2.1.length a1', .slice a2 d.2.2.1.length a2', .slice a3 d.2.2.2.1.length a3', .int .i64 d.2.2.2.2]).alloc (.cells #[.slice b0 d.1.length b0', .slice b1 d.2.1.length b1', .slice b2 d.2.2.1.length b2', .slice b3 d.2.2.2.1.length b3', .int .i64 d.2.2.2.2] 27))
  have HBY : Sec (Blk ((w.alloc (.cells #[.slice a0 d.1.length a0', .slice a1 d.2.1.length a1', .slice a2 d.2.2.1.length a2', .slice a3 d.2.2.2.1.length a3', .int .i64 d.2.2.2.2] 27)).alloc (.cells #[.slice b0 d.1.length b0', .slice b1 d.2.1.length b1', .slice b2 d.2.2.1.length b2', .slice b3 d.2.2.2.1.length b3', .int .i64 d.2.2.2.2] 27)) (w.heap.size + 1) 27 [.slice b0 d.1.length b0', .slice b1 d.2.1.length b1', .slice b2 d.2.2.1.length b2', .slice b3 d.2.2.2.1.length b3', .int .i64 d.2.2.2.2]) := ⟨by have := Blk.new (w.alloc (.cells #[.slice a0 d.1.length a0', .slice a1 d.2.1.length a1', .slice a2 d.2.2.1.length a2', .slice a3 d.2.2.2.1.length a3', .int .i64 d.2.2.2.2] 27)) 27 [.slice b0 d.1.length b0', .slice b1 d.2.1.length b1', .slice b2 d.2.2.1.length b2', .slice b3 d.2.2.2.1.length b3', .int .i64 d.2.2.2.2]; simpa using this⟩
  have hnz : New w ((w.alloc (.cells #[.slice a0 d.1.length a0', .slice a1 d.2.1.length a1', .slice a2 d.2.2.1.length a2', .slice a3 d.2.2.2.1.length a3', .int .i64 d.2.2.2.2] 27)).alloc (.cells #[.slice b0 d.1.length b0', .slice b1 d.2.1.length b1', .slice b2 d.2.2.1.length b2', .slice b3 d.2.2.2.1.length b3', .int .i64 d.2.2.2.2] 27)) := ((Mod.refl _ _).alloc _).alloc _
  have HNZ := Sec.mk hnz
  have lift : ∀ {α : Type} {t : Ty α} {A : Option Addr} {n : Nat} {xs : List α}, Row t w (· < w.heap.size) A n xs → Sec (Row t ((w.alloc (.cells #[.slice a0 d.1.length a0', .slice a1 d.2.1.length a1', .slice a2 d.2.2.1.length a2', .slice a3 d.2.2.2.1.length a3', .int .i64 d.2.2.2.2] 27)).alloc (.cells #[.slice b0 d.1.length b0', .slice b1 d.2.1.length b1', .slice b2 d.2.2.1.length b2', .slice b3 d.2.2.2.1.length b3', .int .i64 d.2.2.2.2] 27)) (· < ((w.alloc (.cells #[.slice a0 d.1.length a0', .slice a1 d.2.1.length a1', .slice a2 d.2.2.1.length a2', .slice a3 d.2.2.2.1.length a3', .int .i64 d.2.2.2.2] 27)).alloc (.cells #[.slice b0 d.1.length b0', .slice b1 d.2.1.length b1', .slice b2 d.2.2.1.length b2', .slice b3 d.2.2.2.1.length b3', .int .i64 d.2.2.2.2] 27)).heap.size) A n xs) := fun hr => ⟨hr.mod (fun k hk => Nat.lt_of_lt_of_le hk hnz.size) (fun k hk => hnz.block k hk id)⟩
  have R0 := lift r0
  have R1 := lift r1
  have R2 := lift r2
  have R3 := lift r3
  have S0 := lift s0
  have S1 := lift s1
  have S2 := lift s2
  have S3 := lift s3
  clear h h' k0 k1 k2 k3 l0 l1 l2 l3 r0 r1 r2 r3 s0 s1 s2 s3 hnz lift
  go_enter Tryd.func7, Tryd.ntmps7
  go_upto_region 1 with (fail)
  generalize ((w.alloc (.cells #[.slice a0 d.1.length a0', .slice a1 d.2.1.length a1', .slice a2 d.2.2.1.length a2', .slice a3 d.2.2.2.1.length a3', .int .i64 d.2.2.2.2] 27)).alloc (.cells #[.slice b0 d.1.length b0', .slice b1 d.2.1.length b1', .slice b2 d.2.2.1.length b2', .slice b3 d.2.2.2.1.length b3', .int .i64 d.2.2.2.2] 27)) = wz at *
  have ax0 : wz.cell? ⟨w.heap.size, 0, none⟩ = some (.slice a0 d.1.length a0') := HBX.out.cell 0
  have ax1 : wz.cell? ⟨w.heap.size, 1, none⟩ = some (.slice a1 d.2.1.length a1') := HBX.out.cell 1
  have ax2 : wz.cell? ⟨w.heap.size, 2, none⟩ = some (.slice a2 d.2.2.1.length a2') := HBX.out.cell 2
  have ax3 : wz.cell? ⟨w.heap.size, 3, none⟩ = some (.slice a3 d.2.2.2.1.length a3') := HBX.out.cell 3
  have ax4 : wz.cell? ⟨w.heap.size, 4, none⟩ = some (.int .i64 d.2.2.2.2) := HBX.out.cell 4
  have bx0 : wz.cell? ⟨w.heap.size + 1, 0, none⟩ = some (.slice b0 d.1.length b0') := HBY.out.cell 0
  have bx1 : wz.cell? ⟨w.heap.size + 1, 1, none⟩ = some (.slice b1 d.2.1.length b1') := HBY.out.cell 1
  have bx2 : wz.cell? ⟨w.heap.size + 1, 2, none⟩ = some (.slice b2 d.2.2.1.length b2') := HBY.out.cell 2
  have bx3 : wz.cell? ⟨w.heap.size + 1, 3, none⟩ = some (.slice b3 d.2.2.2.1.length b3') := HBY.out.cell 3
  have bx4 : wz.cell? ⟨w.heap.size + 1, 4, none⟩ = some (.int .i64 d.2.2.2.2) := HBY.out.cell 4
  go_wp2
  go_loopw [33] (fun i wr => ∃ k : Nat, k ≤ d.1.length ∧ i = .int .i64 (k : Int) ∧ Sec (New wz wr)) (fun i _ => d.1.length - (intOf i).toNat)
  case atStart => exact ⟨0, Nat.zero_le _, rfl, ⟨Mod.refl _ _⟩⟩
  case round =>
    obtain ⟨k, hk, rfl, HM⟩ := hrel
    clear ax0 ax1 ax2 ax3 ax4 bx0 bx1 bx2 bx3 bx4
    by_cases hlt : k < d.1.length
    · obtain ⟨ad, A, cA, rfl, h0, h1, -, -, hrA, -⟩ := node_at R0.out (fun i hi => HM.out.block i hi id) hlt
      obtain ⟨ad', A', cA', rfl, h0', h1', -, -, hrA', -⟩ := node_at S0.out (fun i hi => HM.out.block i hi id) hlt
      have hi1 : (k : Int) < (d.1.length : Int) := by omega
      have hgc : ∀ n, Calls Tryd.prog 12 #[.slice A d.1[k].1.length cA, .slice A' d.1[k].1.length cA'] (wr.drewN n) (fun e w' => e = .returned (.bool true) ∧ w' = wr.drewN n) := fun n => (sameBytes_calls (w := wr.drewN n) (hrA.mod (fun _ h => h) (fun _ _ => rfl)) (hrA'.mod (fun _ h => h) (fun _ _ => rfl))).mono fun e w' hh => ⟨by simpa using hh.1, hh.2⟩
      generalize d.1[k].1.length = L at *
      generalize d.1[k].2 = Y at *
      have ax0 : wr.cell? ⟨w.heap.size, 0, none⟩ = some (.slice _ d.1.length a0') := (HBX.out.mod HM.out id).cell 0
      have bx0 : wr.cell? ⟨w.heap.size + 1, 0, none⟩ = some (.slice _ d.1.length b0') := (HBY.out.mod HM.out id).cell 0
      clear hrA hrA'
      go_wp2
      refine wp_region_quiet_lit (by kernel_rfl) (by kernel_rfl) ?_
      repeat ((with_reducible refine wpQuiet_step (fun K hK => ?_)); go_simp; first | (refine hK _ ?_; clear hK K) | (apply Exists.intro; refine ⟨fun _ => ?_, hK _ ?_⟩; (first | (go_at_call 12; refine Calls.quiet_of_same (hgc _))); clear hK K))
      refine wpQuiet_nil ?_
      intro _ hwq
      obtain ⟨nq, hwqq⟩ := hwq
      subst hwqq
      go_wp2
      go_roundw
      case rel => exact ⟨k + 1, by omega, by go_num, ⟨HM.out.drewN _⟩⟩
      case measure => simp [intOf]; omega
    obtain rfl : k = d.1.length := by omega
    have ax1 : wr.cell? ⟨w.heap.size, 1, none⟩ = some (.slice a1 d.2.1.length a1') := (HBX.out.mod HM.out id).cell 1
    have ax2 : wr.cell? ⟨w.heap.size, 2, none⟩ = some (.slice a2 d.2.2.1.length a2') := (HBX.out.mod HM.out id).cell 2
    have ax3 : wr.cell? ⟨w.heap.size, 3, none⟩ = some (.slice a3 d.2.2.2.1.length a3') := (HBX.out.mod HM.out id).cell 3
    have bx1 : wr.cell? ⟨w.heap.size + 1, 1, none⟩ = some (.slice b1 d.2.1.length b1') := (HBY.out.mod HM.out id).cell 1
    have bx2 : wr.cell? ⟨w.heap.size + 1, 2, none⟩ = some (.slice b2 d.2.2.1.length b2') := (HBY.out.mod HM.out id).cell 2
    have bx3 : wr.cell? ⟨w.heap.size + 1, 3, none⟩ = some (.slice b3 d.2.2.2.1.length b3') := (HBY.out.mod HM.out id).cell 3
    go_wp2
    clear ax1 ax2 ax3 bx1 bx2 bx3
    rename World => wq
    go_loopw [69] (fun i wr => ∃ k : Nat, k ≤ d.2.2.2.1.length ∧ i = .int .i64 (k : Int) ∧ Sec (New wz wr)) (fun i _ => d.2.2.2.1.length - (intOf i).toNat)
    case atStart => exact ⟨0, Nat.zero_le _, rfl, HM⟩
    case round =>
      clear HM
      obtain ⟨k, hk, rfl, HM⟩ := hrel
      by_cases hlt : k < d.2.2.2.1.length
      · obtain ⟨ad, rfl, h0, h1, h2, h3, -⟩ := dop_at R3.out (fun i hi => HM.out.block i hi id) hlt
        obtain ⟨ad', rfl, h0', h1', h2', h3', -⟩ := dop_at S3.out (fun i hi => HM.out.block i hi id) hlt
        have hi1 : (k : Int) < (d.2.2.2.1.length : Int) := by omega
        generalize d.2.2.2.1[k].1 = X0 at *
        generalize d.2.2.2.1[k].2.1 = X1 at *
        generalize d.2.2.2.1[k].2.2.1 = X2 at *
        generalize d.2.2.2.1[k].2.2.2 = X3 at *
        have ax3 : wr.cell? ⟨w.heap.size, 3, none⟩ = some (.slice _ d.2.2.2.1.length a3') := (HBX.out.mod HM.out id).cell 3
        have bx3 : wr.cell? ⟨w.heap.size + 1, 3, none⟩ = some (.slice _ d.2.2.2.1.length b3') := (HBY.out.mod HM.out id).cell 3
        go_wp2
        refine wp_region_quiet_lit (by kernel_rfl) (by kernel_rfl) ?_
        repeat ((with_reducible refine wpQuiet_step (fun K hK => ?_)); go_simp; first | (refine hK _ ?_; clear hK K) | (apply Exists.intro; refine ⟨fun _ => ?_, hK _ ?_⟩; (fail); clear hK K))
        refine wpQuiet_nil ?_
        intro _ hwq
        obtain ⟨nq, hwqq⟩ := hwq
        subst hwqq
        go_wp2
        go_roundw
        case rel => exact ⟨k + 1, by omega, by go_num, ⟨HM.out.drewN _⟩⟩
        case measure => simp [intOf]; omega
      obtain rfl : k = d.2.2.2.1.length := by omega
      have ax1 : wr.cell? ⟨w.heap.size, 1, none⟩ = some (.slice a1 d.2.1.length a1') := (HBX.out.mod HM.out id).cell 1
      have ax2 : wr.cell? ⟨w.heap.size, 2, none⟩ = some (.slice a2 d.2.2.1.length a2') := (HBX.out.mod HM.out id).cell 2
      have bx1 : wr.cell? ⟨w.heap.size + 1, 1, none⟩ = some (.slice b1 d.2.1.length b1') := (HBY.out.mod HM.out id).cell 1
      have bx2 : wr.cell? ⟨w.heap.size + 1, 2, none⟩ = some (.slice b2 d.2.2.1.length b2') := (HBY.out.mod HM.out id).cell 2
      go_wp2_with fail
      refine (sameEntries_same (R1.out.mod (fun k hk => Nat.lt_of_lt_of_le hk HM.out.size) (fun k hk => HM.out.block k hk id)) (S1.out.mod (fun k hk => Nat.lt_of_lt_of_le hk HM.out.size) (fun k hk => HM.out.block k hk id))).mono ?_
      rintro e w2 ⟨rfl, hm2⟩
      have HM2 := Sec.mk (HM.out.transN hm2)
      clear ax1 ax2 bx1 bx2 hm2
      have ax1 : w2.cell? ⟨w.heap.size, 1, none⟩ = some (.slice a1 d.2.1.length a1') := (HBX.out.mod HM2.out id).cell 1
      have ax2 : w2.cell? ⟨w.heap.size, 2, none⟩ = some (.slice a2 d.2.2.1.length a2') := (HBX.out.mod HM2.out id).cell 2
      have bx1 : w2.cell? ⟨w.heap.size + 1, 1, none⟩ = some (.slice b1 d.2.1.length b1') := (HBY.out.mod HM2.out id).cell 1
      have bx2 : w2.cell? ⟨w.heap.size + 1, 2, none⟩ = some (.slice b2 d.2.2.1.length b2') := (HBY.out.mod HM2.out id).cell 2
      go_wp2_with fail
      refine (sameEntries_same (R2.out.mod (fun k hk => Nat.lt_of_lt_of_le hk HM2.out.size) (fun k hk => HM2.out.block k hk id)) (S2.out.mod (fun k hk => Nat.lt_of_lt_of_le hk HM2.out.size) (fun k hk => HM2.out.block k hk id))).mono ?_
      rintro e w3 ⟨rfl, hm3⟩
      have HM3 := Sec.mk (HNZ.out.transN (HM2.out.transN hm3))
      clear hm3
      go_wp2
      go_ret
      exact ⟨rfl, HM3.out⟩
end Go.Proofs.YtkkgighgnbbgiaaDoor

namespace Go.Proofs.YtkkgighgnbbgiaaDoor
set_option linter.unusedVariables false
def NodU (l : List EntL) : Prop := l.Pairwise (fun a b => a.2 ≠ b.2)
theorem nodU_of {l : List EntL} {nodes : Int} (h : inOrdL l nodes = true) : NodU l := by
  unfold inOrdL at h
  simp only [Bool.and_eq_true, decide_eq_true_eq] at h
  exact h.2.imp fun h => h.2
theorem nodU_out {l : List EntL} (h : NodU l) (n : LB) : NodU (outE l n) := List.Pairwise.filter _ h
theorem nodU_with {l : List EntL} (ho : Ord l) (h : NodU l) (n : LB) {k : Int} (hk : ∀ e, e ∈ outE l n → e.2 ≠ k) : NodU (withE l n k) := by
  have h1 := nodU_out h n
  rw [outE_split ho n] at h1 hk
  unfold NodU at h1 ⊢
  unfold withE
  obtain ⟨p1, p2, p3⟩ := List.pairwise_append.1 h1
  refine List.pairwise_append.2 ⟨p1, List.pairwise_cons.2 ⟨fun b hb => (hk b (List.mem_append_right _ hb)).symm, p2⟩, fun a ha b hb => ?_⟩
  rcases List.mem_cons.1 hb with rfl | hb
  · exact hk a (List.mem_append_left _ ha)
  · exact p3 a ha b hb
theorem nodU_ne {l : List EntL} (h : NodU l) {i j : Nat} (hi : i < l.length) (hj : j < l.length) (hij : i ≠ j) : l[i].2 ≠ l[j].2 := by
  unfold NodU at h
  rw [List.pairwise_iff_getElem] at h
  rcases Nat.lt_or_gt_of_ne hij with h1 | h1
  · exact h i j hi hj h1
  · exact (h j i hj hi h1).symm
theorem nodU_replay {l m : List EntL} {o : DopL} {nodes : Int} (ho : Ord l) (h : NodU l) (hr : replayL l o nodes = some m) : NodU m := by
  unfold replayL at hr
  split at hr
  · split at hr
    · rename_i hh
      rw [← Option.some.inj hr]
      refine nodU_with ho h _ fun e he => ?_
      have h1 := hh.2.2.2.2
      unfold hasNode at h1
      rw [List.any_eq_false] at h1
      have := h1 e (List.mem_filter.1 he).1
      simpa using this
    · cases hr
  · split at hr
    · split at hr
      · rename_i hh
        rw [← Option.some.inj hr]
        obtain ⟨hl, hn⟩ := (place_at ho o.2.1).1.mp hh.1
        refine nodU_with (ord_out ho _) (nodU_out h _) _ fun e he => ?_
        have h1 := (List.mem_filter.1 he).1
        obtain ⟨h2, h3⟩ := List.mem_filter.1 h1
        obtain ⟨j, hj, rfl⟩ := List.getElem_of_mem h2
        rw [List.getElem?_eq_getElem hl]
        refine nodU_ne h hj hl fun e => ?_
        subst e
        simp [hn] at h3
      · cases hr
    · split at hr
      · split at hr
        · rw [← Option.some.inj hr]
          exact nodU_out h _
        · cases hr
      · cases hr
theorem nodU_dir {d : DiskL} (ho : Ord d.2.1) (h : NodU d.2.1) (x : DopL) : NodU (dirL d x).2.1 := by
  unfold dirL
  cases hr : replayL d.2.1 x d.1.length with
  | none => exact List.Pairwise.nil
  | some m => exact nodU_replay ho h hr
theorem nodU_crash (l : List EntL) : NodU (crashEs l) := by
  unfold NodU
  rw [List.pairwise_iff_getElem]
  intro i j hi hj hij
  unfold crashEs at *
  simp only [List.getElem_mapIdx]
  omega
theorem nodU_one {d : DiskL} (ho : Ord d.2.1) (h : NodU d.2.1) (o : OpL) : NodU (oneL d o).1.2.1 := by
  unfold oneL
  repeat' split
  all_goals first
    | exact h
    | exact nodU_crash _
    | exact nodU_dir (d := (d.1 ++ [([], 0)], d.2)) ho h _
    | exact nodU_dir ho h _
end Go.Proofs.YtkkgighgnbbgiaaDoor

namespace Go.Proofs.YtkkgighgnbbgiaaDoor
set_option linter.unusedVariables false
structure InO (l : List EntL) (n : Int) : Prop where
  len : l.length ≤ 300
  good : ∀ e, e ∈ l → goodL e.1 = true
  inr : InR n l
  ord : Ord l
  nod : NodU l
theorem inO_iff (l : List EntL) (n : Int) : inOrdL l n = true ↔ InO l n := by
  constructor
  · intro h
    refine ⟨?_, ?_, inR_of h, inOrdL_ord h, nodU_of h⟩
    · unfold inOrdL at h
      simp only [Bool.and_eq_true, decide_eq_true_eq] at h
      exact h.1.1
    · unfold inOrdL at h
      simp only [Bool.and_eq_true, decide_eq_true_eq, List.all_eq_true] at h
      exact fun e he => (h.1.2 e he).1
  · intro h
    unfold inOrdL
    simp only [Bool.and_eq_true, decide_eq_true_eq, List.all_eq_true]
    exact ⟨⟨h.len, fun e he => ⟨h.good e he, h.inr e he⟩⟩, List.pairwise_and_iff.2 ⟨h.ord, h.nod⟩⟩
structure Vld (d : DiskL) : Prop where
  q : 0 ≤ d.2.2.2.2 ∧ d.2.2.2.2 ≤ 1000000
  n : d.1.length ≤ 600
  p : d.2.2.2.1.length ≤ 1000
  ok : ∀ n, n ∈ d.1 → nodeOk n = true
  sum : sumD d.1 ≤ 200000
  names : InO d.2.1 d.1.length
  kept : InO d.2.2.1 d.1.length
  run : replaysL d.1.length d.2.2.1 d.2.2.2.1 = some d.2.1
theorem vld_iff (d : DiskL) : DiskValidL d = true ↔ Vld d := by
  unfold DiskValidL
  simp only [Bool.and_eq_true, decide_eq_true_eq, List.all_eq_true, inO_iff]
  constructor
  · rintro ⟨⟨⟨⟨⟨⟨h1, h2, h3, h4⟩, h5⟩, h6⟩, h7⟩, h8⟩, h9⟩
    refine ⟨⟨h1, h2⟩, h3, h4, h5, h6, h7, h8, ?_⟩
    cases hr : replaysL d.1.length d.2.2.1 d.2.2.2.1 with
    | none => rw [hr] at h9; cases h9
    | some l => rw [hr] at h9; simp only [decide_eq_true_eq] at h9; rw [h9]
  · intro h
    refine ⟨⟨⟨⟨⟨⟨h.q.1, h.q.2, h.n, h.p⟩, h.ok⟩, h.sum⟩, h.names⟩, h.kept⟩, ?_⟩
    rw [h.run]
    simp
theorem InO.mono {l : List EntL} {n m : Int} (h : InO l n) (hnm : n ≤ m) : InO l m := ⟨h.len, h.good, h.inr.mono hnm, h.ord, h.nod⟩
theorem replayL_mono {l x : List EntL} {o : DopL} {n m : Int} (hnm : n ≤ m) (h : replayL l o n = some x) : replayL l o m = some x := by
  unfold replayL at h ⊢
  split at h
  · rename_i h1
    rw [if_pos h1]
    split at h
    · rename_i h2
      rw [if_pos ⟨h2.1, h2.2.1, h2.2.2.1, by omega, h2.2.2.2.2⟩]
      exact h
    · cases h
  · rename_i h1
    rw [if_neg h1]
    exact h
theorem replaysL_mono {n m : Int} (hnm : n ≤ m) : ∀ (p : List DopL) (l x : List EntL), replaysL n l p = some x → replaysL m l p = some x
  | [], l, x, h => h
  | o :: r, l, x, h => by
    unfold replaysL at h ⊢
    cases hr : replayL l o n with
    | none => rw [hr] at h; cases h
    | some y =>
      rw [hr] at h
      rw [replayL_mono hnm hr]
      simp only at h ⊢
      split at h
      · rename_i hl
        rw [if_pos hl]
        exact replaysL_mono hnm r y x h
      · cases h
theorem replaysL_snoc {n : Int} {o : DopL} {y : List EntL} : ∀ (p : List DopL) (l x : List EntL), replaysL n l p = some x → replayL x o n = some y → y.length ≤ 300 → replaysL n l (p ++ [o]) = some y
  | [], l, x, h, h1, h2 => by
    obtain rfl := Option.some.inj (show some l = some x from h)
    show (match replayL l o n with | none => none | some m => if m.length ≤ 300 then replaysL n m [] else none) = some y
    rw [h1]
    simp only
    rw [if_pos h2]
    rfl
  | q :: r, l, x, h, h1, h2 => by
    unfold replaysL at h
    show (match replayL l q n with | none => none | some m => if m.length ≤ 300 then replaysL n m (r ++ [o]) else none) = some y
    cases hr : replayL l q n with
    | none => rw [hr] at h; cases h
    | some z =>
      rw [hr] at h
      simp only at h ⊢
      split at h
      · rename_i hl
        rw [if_pos hl]
        exact replaysL_snoc r z x h h1 h2
      · cases h
theorem mem_withE {l : List EntL} {n : LB} {k : Int} {e : EntL} (h : e ∈ withE l n k) : e = (n, k) ∨ e ∈ l := by
  unfold withE lowE highE at h
  rcases List.mem_append.1 h with h | h
  · exact Or.inr (List.mem_filter.1 h).1
  · rcases List.mem_cons.1 h with h | h
    · exact Or.inl h
    · exact Or.inr (List.mem_filter.1 h).1
theorem replayL_good {l m : List EntL} {o : DopL} {n : Int} (hg : ∀ e, e ∈ l → goodL e.1 = true) (h : replayL l o n = some m) : ∀ e, e ∈ m → goodL e.1 = true := by
  unfold replayL at h
  split at h
  · split at h
    · rename_i hh
      rw [← Option.some.inj h]
      intro e he
      rcases mem_withE he with rfl | he
      · exact hh.1
      · exact hg e he
    · cases h
  · split at h
    · split at h
      · rename_i hh
        rw [← Option.some.inj h]
        intro e he
        rcases mem_withE he with rfl | he
        · exact hh.2.1
        · exact hg e (List.mem_filter.1 he).1
      · cases h
    · split at h
      · split at h
        · rw [← Option.some.inj h]
          intro e he
          exact hg e (List.mem_filter.1 he).1
        · cases h
      · cases h
theorem InO.replay {l m : List EntL} {o : DopL} {n : Int} (h : InO l n) (hr : replayL l o n = some m) (hl : m.length ≤ 300) : InO m n :=
  ⟨hl, replayL_good h.good hr, inR_replay h.ord h.inr hr, replayL_ord h.ord hr, nodU_replay h.ord h.nod hr⟩
theorem outE_less {l : List EntL} {n : LB} (h : hasE l n = true) : (outE l n).length < l.length := by
  unfold hasE at h
  obtain ⟨e, he, hn⟩ := List.any_eq_true.1 h
  unfold outE
  refine Nat.lt_of_le_of_ne (List.length_filter_le _ _) fun heq => ?_
  have := List.length_filter_eq_length_iff.1 heq e he
  simp only [decide_eq_true_eq] at this hn
  exact this hn
theorem withE_same {l : List EntL} (ho : Ord l) {n : LB} {k : Int} (h : hasE l n = true) : (withE l n k).length ≤ l.length := by
  have h1 := outE_less h
  rw [outE_split ho n, List.length_append] at h1
  unfold withE
  rw [List.length_append, List.length_cons]
  omega
theorem Vld.dir {d : DiskL} (h : Vld d) {x : DopL} {m : List EntL} (hp : d.2.2.2.1.length < 1000) (hr : replayL d.2.1 x d.1.length = some m) (hl : m.length ≤ 300) : Vld (dirL d x) := by
  have e : dirL d x = (d.1, m, d.2.2.1, d.2.2.2.1 ++ [x], d.2.2.2.2) := by unfold dirL; rw [hr]; rfl
  rw [e]
  exact ⟨h.q, h.n, by simp; omega, h.ok, h.sum, h.names.replay hr hl, h.kept, replaysL_snoc _ _ _ h.run hr hl⟩
theorem Vld.push {d : DiskL} (h : Vld d) (hn : d.1.length < 600) : Vld (d.1 ++ [([], 0)], d.2) := by
  have hl : ((d.1 ++ [(([], 0) : NodL)]).length : Int) = (d.1.length : Int) + 1 := by simp
  refine ⟨h.q, by simp; omega, h.p, fun n hn => ?_, ?_, ?_, ?_, ?_⟩
  · rcases List.mem_append.1 hn with hn | hn
    · exact h.ok n hn
    · rw [List.mem_singleton.1 hn]; decide
  · have := h.sum
    unfold sumD at this ⊢
    simp only [List.map_append, List.sum_append, List.map_cons, List.map_nil, List.sum_cons, List.sum_nil, List.length_nil]
    omega
  · show InO d.2.1 _
    rw [hl]; exact h.names.mono (by omega)
  · show InO d.2.2.1 _
    rw [hl]; exact h.kept.mono (by omega)
  · show replaysL _ d.2.2.1 d.2.2.2.1 = some d.2.1
    rw [hl]; exact replaysL_mono (by omega) _ _ _ h.run
theorem sumD_set {l : List NodL} {i : Nat} (hi : i < l.length) (n : NodL) : sumD (l.set i n) + l[i].1.length = sumD l + n.1.length := by
  induction l generalizing i with
  | nil => simp at hi
  | cons a r ih =>
    cases i with
    | zero => simp [sumD]; omega
    | succ i =>
      have := ih (i := i) (by simpa using hi)
      simp only [sumD, List.set_cons_succ, List.map_cons, List.sum_cons, List.getElem_cons_succ] at this ⊢
      omega
theorem Vld.node {d : DiskL} (h : Vld d) {nd : Nat} (hnd : nd < d.1.length) {n : NodL} (hok : nodeOk n = true) (hs : sumD d.1 + n.1.length ≤ 200000 + d.1[nd].1.length) : Vld (d.1.set nd n, d.2) := by
  refine ⟨h.q, by simp only [List.length_set]; exact h.n, h.p, fun m hm => ?_, ?_, by simp only [List.length_set]; exact h.names, by simp only [List.length_set]; exact h.kept, by simp only [List.length_set]; exact h.run⟩
  · rcases List.mem_or_eq_of_mem_set hm with hm | rfl
    · exact h.ok m hm
    · exact hok
  · have := sumD_set hnd n
    show sumD (d.1.set nd n) ≤ 200000
    omega
theorem nodeOk_len {n : NodL} (h : nodeOk n = true) : n.1.length ≤ 40000 ∧ 0 ≤ n.2 ∧ n.2 ≤ n.1.length := by unfold nodeOk at h; exact of_decide_eq_true h
end Go.Proofs.YtkkgighgnbbgiaaDoor

namespace Go.Proofs.YtkkgighgnbbgiaaDoor
set_option linter.unusedVariables false
theorem sum_sub (g : Nat → Nat) : ∀ (is L : List Nat), is.Nodup → (∀ i, i ∈ is → i ∈ L) → (is.map g).sum ≤ (L.map g).sum
  | [], L, _, _ => by simp
  | a :: r, L, hn, hs => by
    have ha : a ∈ L := hs a (by simp)
    have hr := List.nodup_cons.1 hn
    have ih := sum_sub g r (L.erase a) hr.2 (fun i hi => (List.mem_erase_of_ne (fun e => by subst e; exact hr.1 hi)).2 (hs i (by simp [hi])))
    have hp : ((L.erase a).map g).sum + g a = (L.map g).sum := by
      have h1 := (List.perm_cons_erase ha).map g
      have h2 := h1.sum_nat
      rw [h2]
      simp only [List.map_cons, List.sum_cons]
      omega
    simp only [List.map_cons, List.sum_cons]
    omega
theorem range_map {α : Type} (l : List α) (z : α) : (List.range l.length).map (fun i => l[i]?.getD z) = l := by
  refine List.ext_getElem (by simp) fun i h1 h2 => ?_
  simp [h2]
theorem sumD_range (l : List NodL) : sumD l = ((List.range l.length).map fun i => (l[i]?.getD ([], 0)).1.length).sum := by
  have h := range_map l (([], 0) : NodL)
  have : sumD l = sumD ((List.range l.length).map (fun i => l[i]?.getD ([], 0))) := by rw [h]
  rw [this]
  unfold sumD
  rw [List.map_map]
  rfl
theorem nodup_idx {l : List EntL} {n : Int} (h : InO l n) : (l.map fun e => e.2.toNat).Nodup := by
  unfold List.Nodup
  rw [List.pairwise_map]
  have h1 := h.nod
  unfold NodU at h1
  rw [List.pairwise_iff_getElem] at h1 ⊢
  intro i j hi hj hij e
  have h2 := h.inr _ (List.getElem_mem hi)
  have h3 := h.inr _ (List.getElem_mem hj)
  exact h1 i j hi hj hij (by omega)
theorem settle_sum {d : DiskL} (h : Vld d) : sumD (settleL d).1 ≤ sumD d.1 := by
  show sumD (d.2.1.map fun e => nodeAt d e.2) ≤ sumD d.1
  rw [sumD_range d.1]
  have e : sumD (d.2.1.map fun e => nodeAt d e.2) = ((d.2.1.map fun e => e.2.toNat).map fun i => (d.1[i]?.getD ([], 0)).1.length).sum := by
    unfold sumD
    rw [List.map_map, List.map_map]
    rfl
  rw [e]
  refine sum_sub _ _ _ (nodup_idx h.names) fun i hi => ?_
  obtain ⟨x, hx, rfl⟩ := List.mem_map.1 hi
  have := h.names.inr x hx
  rw [List.mem_range]
  omega
theorem nodeAt_mem {d : DiskL} {i : Int} (h0 : 0 ≤ i) (h1 : i < d.1.length) : nodeAt d i ∈ d.1 := by
  unfold nodeAt
  rw [List.getElem?_eq_getElem (show i.toNat < d.1.length by omega)]
  exact List.getElem_mem _
theorem crash_inO {l : List EntL} {n : Int} (h : InO l n) : InO (crashEs l) l.length := by
  refine ⟨by rw [crashEs_len]; exact h.len, fun e he => ?_, inR_crash l, ord_crash h.ord, nodU_crash l⟩
  unfold crashEs at he
  obtain ⟨i, hi, rfl⟩ := List.mem_mapIdx.1 he
  exact h.good (l[i]) (List.getElem_mem hi)
theorem Vld.settle {d : DiskL} (h : Vld d) : Vld (settleL d) := by
  have hl : (settleL d).1.length = d.2.1.length := by simp [settleL]
  have hc : InO (settleL d).2.1 (settleL d).1.length := by rw [hl]; exact crash_inO h.names
  refine ⟨h.q, by rw [hl]; have := h.names.len; omega, by simp [settleL], fun n hn => ?_, Nat.le_trans (settle_sum h) h.sum, hc, hc, rfl⟩
  obtain ⟨e, he, rfl⟩ := List.mem_map.1 (show n ∈ d.2.1.map fun e => nodeAt d e.2 from hn)
  have := h.names.inr e he
  exact h.ok _ (nodeAt_mem this.1 this.2)
theorem node_idx {d : DiskL} (h : Vld d) {nm : LB} (hh : hasE d.2.1 nm = true) : ∃ nd : Nat, nodeOf d nm = (nd : Int) ∧ nd < d.1.length := by
  obtain ⟨hl, -⟩ := (place_at h.names.ord nm).1.mp hh
  have h1 := h.names.inr _ (List.getElem_mem hl)
  unfold nodeOf
  rw [List.getElem?_eq_getElem hl]
  refine ⟨(d.2.1[placeE d.2.1 nm].2).toNat, ?_, ?_⟩
  · simp only [Option.getD_some]; omega
  · omega
theorem nodeAt_nat {d : DiskL} {nd : Nat} (h : nd < d.1.length) : nodeAt d (nd : Int) = d.1[nd] := by
  unfold nodeAt
  rw [Int.toNat_natCast, List.getElem?_eq_getElem h]; rfl
theorem withNode_nat (d : DiskL) (nd : Nat) (n : NodL) : withNode d (nd : Int) n = (d.1.set nd n, d.2) := by
  unfold withNode
  rw [Int.toNat_natCast]
theorem Vld.one {d : DiskL} (h : Vld d) (o : OpL) (hc : (oneL d o).2 = 0) : Vld (oneL d o).1 := by
  obtain ⟨kd, nm, tn, dat⟩ := o
  unfold oneL at hc ⊢
  simp only at hc ⊢
  split at hc
  · simp at hc
  rename_i h1
  rw [if_neg h1]
  split at hc
  · rename_i h2; rw [if_pos h2]; exact h.settle
  rename_i h2
  rw [if_neg h2]
  split at hc
  · simp at hc
  rename_i h3
  rw [if_neg h3]
  have hg : goodL nm = true := by
    cases hg : goodL nm
    · exact absurd (Or.inl hg) h3
    · rfl
  split at hc
  · rename_i h4
    rw [if_pos h4]
    split at hc
    · simp at hc
    rename_i h5
    rw [if_neg h5]
    have hn : d.1.length < 600 := by omega
    have hp : d.2.2.2.1.length < 1000 := by omega
    have hfree : hasNode d.2.1 (d.1.length : Int) = false := by
      unfold hasNode
      rw [List.any_eq_false]
      intro e he
      have := (h.names.inr e he).2
      simp only [decide_eq_true_eq]
      omega
    refine (h.push hn).dir (m := withE d.2.1 nm (d.1.length : Int)) hp ?_ ?_
    · show replayL d.2.1 (1, nm, [], (d.1.length : Int)) _ = _
      unfold replayL
      rw [if_pos rfl, if_pos ⟨hg, rfl, by simp, by show (d.1.length : Int) < (((d.1 ++ [([], 0)]).length : Nat) : Int); simp; omega, hfree⟩]
    · cases hh : hasE d.2.1 nm
      · have h6 : ¬ 300 ≤ d.2.1.length := fun h6 => h5 (Or.inr (Or.inr ⟨hh, h6⟩))
        have h7 : (withE d.2.1 nm (d.1.length : Int)).length ≤ d.2.1.length + 1 := withE_len _ _
        omega
      · have := withE_same h.names.ord (k := (d.1.length : Int)) hh
        have := h.names.len
        omega
  rename_i h4
  rw [if_neg h4]
  split at hc
  · simp at hc
  rename_i h5
  rw [if_neg h5]
  have hh : hasE d.2.1 nm = true := by simpa using h5
  obtain ⟨nd, hnd, hndl⟩ := node_idx h hh
  split at hc
  · rename_i h6
    rw [if_pos h6]
    split at hc
    · simp at hc
    rename_i h7
    rw [if_neg h7]
    split at hc
    · simp at hc
    rename_i h8
    rw [if_neg h8]
    rw [hnd, nodeAt_nat hndl] at h8 ⊢
    rw [withNode_nat]
    have hk := nodeOk_len (h.ok _ (List.getElem_mem hndl))
    refine h.node hndl ?_ ?_
    · unfold nodeOk
      simp only [List.length_append, decide_eq_true_eq]
      omega
    · simp only [List.length_append]
      omega
  rename_i h6
  rw [if_neg h6]
  split at hc
  · rename_i h7
    rw [if_pos h7, hnd, nodeAt_nat hndl, withNode_nat]
    have hk := nodeOk_len (h.ok _ (List.getElem_mem hndl))
    have hs := h.sum
    refine h.node hndl ?_ ?_
    · unfold nodeOk
      simp only [decide_eq_true_eq]
      omega
    · simp only
      omega
  rename_i h7
  rw [if_neg h7]
  split at hc
  · rename_i h8; rw [if_pos h8]; exact h
  rename_i h8
  rw [if_neg h8]
  split at hc
  · simp at hc
  rename_i h9
  rw [if_neg h9]
  have hkd : kd = 4 ∨ kd = 5 := by omega
  rcases hkd with rfl | rfl
  · rw [if_pos rfl]
    have hg2 : goodL tn = true := by
      cases hg2 : goodL tn
      · exact absurd (Or.inr ⟨rfl, hg2⟩) h3
      · rfl
    have hne : tn ≠ nm := fun e => h8 ⟨rfl, e⟩
    refine h.dir (m := withE (outE d.2.1 nm) tn ((d.2.1[placeE d.2.1 nm]?.getD ([], 0)).2)) (by omega) ?_ ?_
    · unfold replayL
      rw [if_neg (show ¬ (4 : Int) = 1 by decide), if_pos rfl, if_pos ⟨hh, hg2, hne, rfl⟩]
    · have h10 := outE_less hh
      have h11 : (withE (outE d.2.1 nm) tn ((d.2.1[placeE d.2.1 nm]?.getD ([], 0)).2)).length ≤ (outE d.2.1 nm).length + 1 := withE_len _ _
      have := h.names.len
      omega
  · rw [if_neg (show ¬ (5 : Int) = 4 by decide)]
    refine h.dir (m := outE d.2.1 nm) (by omega) ?_ ?_
    · unfold replayL
      rw [if_neg (show ¬ (5 : Int) = 1 by decide), if_neg (show ¬ (5 : Int) = 4 by decide), if_pos rfl, if_pos ⟨hh, rfl, rfl⟩]
    · have h10 := outE_less hh
      have := h.names.len
      omega
theorem oneL_or2 (d : DiskL) (o : OpL) : (oneL d o).2 = 0 ∨ (oneL d o).1 = d := by
  unfold oneL
  repeat' split
  all_goals first | exact Or.inl rfl | exact Or.inr rfl
theorem Vld.any {d : DiskL} (h : Vld d) (o : OpL) : Vld (diskDoL d [o]).1 ∧ (diskDoL d [o]).2.2 = (oneL d o).2 ∧ (diskDoL d [o]).1 = (oneL d o).1 := by
  have e : diskDoL d [o] = doL d [o] 0 := if_pos ⟨by simp, (vld_iff d).2 h⟩
  rw [e]
  show Vld (if (oneL d o).2 = 0 then _ else _ : DiskL × (Int × Int)).1 ∧ (if (oneL d o).2 = 0 then _ else _ : DiskL × (Int × Int)).2.2 = _ ∧ (if (oneL d o).2 = 0 then _ else _ : DiskL × (Int × Int)).1 = _
  by_cases hc : (oneL d o).2 = 0
  · rw [if_pos hc]
    exact ⟨h.one o hc, hc.symm, rfl⟩
  · rw [if_neg hc]
    exact ⟨h, rfl, ((oneL_or2 d o).resolve_left hc).symm⟩
theorem vld_empty (q : Int) (h0 : 0 ≤ q) (h1 : q ≤ 1000000) : Vld ([], [], [], [], q) :=
  ⟨⟨h0, h1⟩, by simp, by simp, fun n hn => (by cases hn), by simp [sumD], ⟨by simp, fun e he => (by cases he), fun e he => (by cases he), List.Pairwise.nil, List.Pairwise.nil⟩, ⟨by simp, fun e he => (by cases he), fun e he => (by cases he), List.Pairwise.nil, List.Pairwise.nil⟩, rfl⟩
end Go.Proofs.YtkkgighgnbbgiaaDoor

namespace Go.Proofs.YtkkgighgnbbgiaaDoor
set_option linter.unusedVariables false
def lastOps (es : List EntL) : List OpL := es.map (fun e => ((3, e.1, [], []) : OpL)) ++ [(6, [], [], [])]
def Full (d : DiskL) (i : Int) : Prop := (nodeAt d i).2 = ((nodeAt d i).1.length : Int)
theorem nodeOf_mem {d : DiskL} (h : Vld d) {e : EntL} (he : e ∈ d.2.1) : nodeOf d e.1 = e.2 ∧ hasE d.2.1 e.1 = true := by
  have hh : hasE d.2.1 e.1 = true := by
    unfold hasE
    rw [List.any_eq_true]
    exact ⟨e, he, by simp⟩
  refine ⟨?_, hh⟩
  obtain ⟨hl, hx⟩ := (place_at h.names.ord e.1).1.mp hh
  obtain ⟨k, hk, rfl⟩ := List.getElem_of_mem he
  have ho := h.names.ord
  unfold Ord at ho
  rw [List.pairwise_iff_getElem] at ho
  have : placeE d.2.1 d.2.1[k].1 = k := by
    rcases Nat.lt_trichotomy (placeE d.2.1 d.2.1[k].1) k with h1 | h1 | h1
    · have := ho _ _ hl hk h1
      rw [hx] at this
      exact absurd this (lb_irr _)
    · exact h1
    · have := ho _ _ hk hl h1
      rw [hx] at this
      exact absurd this (lb_irr _)
  unfold nodeOf
  rw [this, List.getElem?_eq_getElem hk]
  rfl
theorem withNode_at {d : DiskL} {nd : Nat} (hnd : nd < d.1.length) (n : NodL) (i : Int) : nodeAt (d.1.set nd n, d.2) i = if i.toNat = nd then n else nodeAt d i := by
  unfold nodeAt
  simp only
  rw [List.getElem?_set]
  by_cases hi : i.toNat = nd
  · rw [if_pos hi.symm, if_pos hi, if_pos hnd]
    rfl
  · rw [if_neg (fun hh => hi hh.symm), if_neg hi]
theorem sync_one {d : DiskL} (h : Vld d) {e : EntL} (he : e ∈ d.2.1) : ∃ d', oneL d (3, e.1, [], []) = (d', 0) ∧ Vld d' ∧ d'.2 = d.2 ∧ (∀ i, (nodeAt d' i).1 = (nodeAt d i).1) ∧ (∀ i, Full d i → Full d' i) ∧ Full d' e.2 := by
  obtain ⟨hn, hh⟩ := nodeOf_mem h he
  have hr := h.names.inr e he
  have hg := h.names.good e he
  obtain ⟨nd, hnd⟩ : ∃ nd : Nat, e.2 = (nd : Int) := ⟨e.2.toNat, by omega⟩
  have hndl : nd < d.1.length := by omega
  have e1 : oneL d (3, e.1, [], []) = (withNode d (nodeOf d e.1) ((nodeAt d (nodeOf d e.1)).1, ((nodeAt d (nodeOf d e.1)).1.length : Int)), 0) := by
    unfold oneL
    rw [if_neg (show ¬ ((3 : Int) < 1 ∨ 6 < (3 : Int)) by decide), if_neg (show ¬ (3 : Int) = 6 by decide), if_neg (show ¬ (goodL e.1 = false ∨ ((3 : Int) = 4 ∧ goodL ([] : LB) = false)) by rw [hg]; decide), if_neg (show ¬ (3 : Int) = 1 by decide)]
    simp only
    rw [if_neg (show ¬ hasE d.2.1 e.1 = false by rw [hh]; decide), if_neg (show ¬ (3 : Int) = 2 by decide), if_pos trivial]
  have hv := h.one (3, e.1, [], []) (by rw [e1])
  rw [e1] at hv ⊢
  rw [hn, hnd, withNode_nat] at hv ⊢
  refine ⟨_, rfl, hv, rfl, fun i => ?_, fun i hf => ?_, ?_⟩
  · rw [withNode_at hndl]
    by_cases hi : i.toNat = nd
    · rw [if_pos hi]
      show (nodeAt d nd).1 = _
      unfold nodeAt
      rw [Int.toNat_natCast, hi]
    · rw [if_neg hi]
  · unfold Full at hf ⊢
    rw [withNode_at hndl]
    by_cases hi : i.toNat = nd
    · rw [if_pos hi]
    · rw [if_neg hi]; exact hf
  · unfold Full
    rw [withNode_at hndl, if_pos (Int.toNat_natCast nd)]
theorem sync_run (q : List OpL) : ∀ (r : List EntL) (d : DiskL) (n : Nat), Vld d → (∀ e, e ∈ r → e ∈ d.2.1) →
    ∃ d' m, doL d (r.map (fun e => ((3, e.1, [], []) : OpL)) ++ q) n = doL d' q m ∧ Vld d' ∧ d'.2 = d.2 ∧ (∀ i, (nodeAt d' i).1 = (nodeAt d i).1) ∧ (∀ i, Full d i → Full d' i) ∧ (∀ e, e ∈ r → Full d' e.2)
  | [], d, n, h, _ => ⟨d, n, rfl, h, rfl, fun _ => rfl, fun _ hf => hf, fun e he => (by cases he)⟩
  | a :: r, d, n, h, hs => by
    obtain ⟨d1, e1, hv, h2, h3, h4, h5⟩ := sync_one h (hs a (by simp))
    obtain ⟨d', m, e2, hv', g2, g3, g4, g5⟩ := sync_run q r d1 (n + 1) hv (fun e he => by rw [h2]; exact hs e (by simp [he]))
    refine ⟨d', m, ?_, hv', g2.trans h2, fun i => (g3 i).trans (h3 i), fun i hf => g4 i (h4 i hf), fun e he => ?_⟩
    · rw [← e2]
      show (if (oneL d (3, a.1, [], [])).2 = 0 then doL (oneL d (3, a.1, [], [])).1 _ (n + 1) else _) = _
      rw [e1, if_pos rfl]
      rfl
    · rcases List.mem_cons.1 he with rfl | he
      · exact g4 _ h5
      · exact g5 e he
structure Stl (d s : DiskL) : Prop where
  vld : Vld s
  run : (diskDoL d (lastOps d.2.1)).1 = s
  quota : s.2.2.2.2 = d.2.2.2.2
  names : s.2.1 = crashEs d.2.1
  kept : s.2.2.1 = crashEs d.2.1
  pend : s.2.2.2.1 = []
  len : s.1.length = d.2.1.length
  node : ∀ k, (hk : k < d.2.1.length) → nodeAt s (k : Int) = ((nodeAt d d.2.1[k].2).1, ((nodeAt d d.2.1[k].2).1.length : Int))
theorem settled {d : DiskL} (h : Vld d) : ∃ s, Stl d s := by
  obtain ⟨d', m, e1, hv, g2, g3, g4, g5⟩ := sync_run [(6, [], [], [])] d.2.1 d 0 h (fun e he => he)
  have e6 : doL d' [(6, [], [], [])] m = (settleL d', (((m + 1 : Nat) : Int), 0)) := by
    show (if (oneL d' (6, [], [], [])).2 = 0 then doL (oneL d' (6, [], [], [])).1 [] (m + 1) else _) = _
    have : oneL d' (6, [], [], []) = (settleL d', 0) := by
      unfold oneL
      rw [if_neg (show ¬ ((6 : Int) < 1 ∨ 6 < (6 : Int)) by decide), if_pos rfl]
    rw [this, if_pos rfl]
    rfl
  have hl := h.names.len
  have e0 : diskDoL d (lastOps d.2.1) = doL d (lastOps d.2.1) 0 := if_pos ⟨by unfold lastOps; simp; omega, (vld_iff d).2 h⟩
  have hn : d'.2.1 = d.2.1 := congrArg (·.1) g2
  refine ⟨settleL d', hv.settle, ?_, congrArg (·.2.2.2) g2, ?_, ?_, rfl, ?_, fun k hk => ?_⟩
  · rw [e0]
    show (doL d (d.2.1.map (fun e => ((3, e.1, [], []) : OpL)) ++ [(6, [], [], [])]) 0).1 = _
    rw [e1, e6]
  · show crashEs d'.2.1 = _
    rw [hn]
  · show crashEs d'.2.1 = _
    rw [hn]
  · show (d'.2.1.map fun e => nodeAt d' e.2).length = _
    rw [List.length_map, hn]
  · have hm := List.getElem_mem hk
    have hf := g5 _ hm
    unfold Full at hf
    have e3 : nodeAt (settleL d') (k : Int) = nodeAt d' d.2.1[k].2 := by
      show ((d'.2.1.map fun e => nodeAt d' e.2)[((k : Int)).toNat]?.getD ([], 0)) = _
      rw [Int.toNat_natCast, hn, List.getElem?_eq_getElem (by simpa using hk)]
      simp
    rw [e3]
    rw [g3] at hf
    exact Prod.ext (g3 _) hf
theorem crash_idx (l : List EntL) : crashEs (crashEs l) = crashEs l := by
  unfold crashEs
  rw [List.mapIdx_mapIdx]
  rfl
theorem Stl.crash {d s : DiskL} (h : Stl d s) (dirs : Int) (picks : List Int) : crashL s dirs picks = s := by
  have e0 : listAt s dirs = crashEs d.2.1 := by
    unfold listAt
    rw [h.pend, List.take_nil, h.kept]
    rfl
  unfold crashL
  rw [if_pos ((vld_iff s).2 h.vld), e0, crash_idx]
  have en : crashNs s.1 picks (crashEs d.2.1) = s.1 := by
    unfold crashNs
    refine List.ext_getElem (by simp [h.len, crashEs_len]) fun i h1 h2 => ?_
    have hk : i < d.2.1.length := by rw [← h.len]; exact h2
    have e1 : (crashEs d.2.1)[i]'(by rw [crashEs_len]; exact hk) = (d.2.1[i].1, (i : Int)) := by
      unfold crashEs
      rw [List.getElem_mapIdx]
    rw [List.getElem_mapIdx, e1, crashNode_at h2]
    have hn := h.node i hk
    rw [nodeAt_nat h2] at hn
    have hk2 : keepN s.1[i] picks i = s.1[i].2 := by
      rw [hn]
      unfold keepN
      simp only [Int.sub_self, Int.zero_add, Int.emod_one, Int.add_zero, ite_self]
    rw [hk2, hn]
    simp only [Int.toNat_natCast, List.take_length]
  rw [en]
  obtain ⟨s1, s2, s3, s4, s5⟩ := s
  have a := h.names
  have b := h.kept
  have c := h.pend
  simp only at a b c ⊢
  rw [a, b, c]
theorem Stl.read {d s : DiskL} (h : Stl d s) (hd : Vld d) {e : EntL} (he : e ∈ d.2.1) : hasE s.2.1 e.1 = true ∧ (s.1[((s.2.1[placeE s.2.1 e.1]?.getD ([], 0)).2).toNat]?.getD ([], 0)).1 = (nodeAt d e.2).1 := by
  obtain ⟨k, hk, rfl⟩ := List.getElem_of_mem he
  have hm : (d.2.1[k].1, (k : Int)) ∈ s.2.1 := by
    rw [h.names]
    unfold crashEs
    exact List.mem_mapIdx.2 ⟨k, hk, rfl⟩
  obtain ⟨h1, h2⟩ := nodeOf_mem h.vld hm
  refine ⟨h2, ?_⟩
  show (nodeAt s (nodeOf s d.2.1[k].1)).1 = _
  rw [show nodeOf s d.2.1[k].1 = (k : Int) from h1, h.node k hk]
end Go.Proofs.YtkkgighgnbbgiaaDoor

namespace Go.Proofs.YtkkgighgnbbgiaaDoor
open Go.RowKit Mem
set_option linter.unusedVariables false
set_option linter.unusedSimpArgs false
def readL (d : DiskT) (nm : Bytes) : ContentT :=
  if DiskValidL d = true ∧ hasE d.2.1 nm = true then (true, (d.1[((d.2.1[placeE d.2.1 nm]?.getD ([], 0)).2).toNat]?.getD ([], 0)).1) else (false, [])
end Go.Proofs.YtkkgighgnbbgiaaDoor

namespace Go.Proofs.YtkkgighgnbbgiaaDoor
open Go.RowKit Mem
set_option linter.unusedVariables false
set_option linter.unusedSimpArgs false
namespace Mem
variable {P : Program} {o : Oper} {a : Act} {w : World} {v : Value} {Q : Exit → Act → World → Prop}
theorem exec_callF {x : Operand} {f : FuncId} {args : List Operand} {ts : Array TypeId} {vals : List Value} (ho : o.op = .call { callee := .value x, args := args.toArray, argTypes := ts }) (hx : a.eval x = .func (.func f) #[] #[]) (hv : args.map a.eval = vals)
    (hf : ((P.funcs[f]?).map fun fn => fn.name == "runtime.NumGoroutine" || fn.body.isNone) = some false) : (execOp a.eval o).run P w = .ok (.enter f vals.toArray) w := by
  obtain ⟨fn, hfn, hb⟩ := Option.map_eq_some_iff.1 hf
  rw [Bool.or_eq_false_iff] at hb
  have h1 : fn.name ≠ "runtime.NumGoroutine" := fun h => by rw [h] at hb; simp at hb
  have h2 : fn.body ≠ none := fun h => by rw [h] at hb; simp at hb
  unfold execOp
  simp only [ho, resolve, List.map_toArray, hv, hx, Deferred.ofValue]
  simp [Sem.run_bind, Result.andThen, invoke, callFunc, hfn, h1, h2]
theorem wp_callF {x : Operand} {f : FuncId} {args : List Operand} {ts : Array TypeId} {vals : List Value} {R : Ending → World → Prop} {n : Nat} (ho : o.op = .call { callee := .value x, args := args.toArray, argTypes := ts }) (hx : a.eval x = .func (.func f) #[] #[]) (hd : o.dst = some n) (hv : args.map a.eval = vals)
    (hf : ((P.funcs[f]?).map fun fn => fn.name == "runtime.NumGoroutine" || fn.body.isNone) = some false) {K : Act → World → Prop} (hc : Calls P f vals.toArray w R) (hK : ∀ e w', R e w' → ∃ v, e = .returned v ∧ K (a.put (some n) v) w') : Oper.wp P o a w K Q := by
  unfold Oper.wp
  rw [exec_callF ho hx hv hf, Oper.upon_enter]
  refine hc.mono ?_
  intro e w' hR
  obtain ⟨v, rfl, h⟩ := hK e w' hR
  rw [hd]; exact h
end Mem
theorem lenES (A : Option Addr) (n c : Nat) (w : World) : ∀ ty, (invoke (.builtin .len #[24] ty #[false]) #[.slice A n c]).run Tryd.prog w = .ok (.value (.int .i64 (n : Int))) w := by intro ty; go_simp
theorem exec_lenE {P : Program} {o : Oper} {a : Act} {w : World} {k : Nat} {t : TypeId} {A : Option Addr} {n c : Nat} (ho : o.op = .call { callee := .builtin .len, args := #[.tmp k], argTypes := #[t] }) (hx : a.eval (.tmp k) = .slice A n c) (h : ∀ ty, (invoke (.builtin .len #[t] ty #[false]) #[.slice A n c]).run P w = .ok (.value (.int .i64 (n : Int))) w) : (execOp a.eval o).run P w = .ok (.value (.int .i64 (n : Int))) w := by
  unfold execOp; simp only [ho, resolve, Sem.run_bind, Sem.run_pure, Result.andThen_ok, List.map_toArray, List.map_cons, List.map_nil, hx, h]
theorem ldSlE {w : World} {p : Addr} {v : Value} (h : w.cell? p = some v) : (Instr.loadAt 24 (.pointer (some p))).run Tryd.prog w = .ok v w := by go_simp
theorem ldFn {w : World} {p : Addr} {v : Value} (h : w.cell? p = some v) : (Instr.loadAt 95 (.pointer (some p))).run Tryd.prog w = .ok v w := by go_simp
theorem ldEntry {w : World} {ad : Addr} {z : Bytes} {u : Int} (h0 : w.cell? ad = some (.string ⟨z.toArray⟩)) (h1 : w.cell? ⟨ad.block, ad.off + 1, none⟩ = some (.int .i64 u)) : (Instr.loadAt 37 (.pointer (some ad))).run Tryd.prog w = .ok (.agg #[.string ⟨z.toArray⟩, .int .i64 u]) w := by go_simp
theorem geqE (xs ys : Bytes) (x y : Operand) (w : World) : (do eqGuard .geq 9 x y (.string ⟨xs.toArray⟩) (.string ⟨ys.toArray⟩); binOp .geq 9 (.string ⟨xs.toArray⟩) (.string ⟨ys.toArray⟩) : Sem Value).run Tryd.prog w = .ok (.bool (decide (¬ xs < ys))) w := by
  have h := strGe xs ys w
  go_simp
theorem nameOf_calls (z : Bytes) (u : Int) (w : World) : Calls Tryd.prog 51 #[.agg #[.string ⟨z.toArray⟩, .int .i64 u]] w (Ret (.string ⟨z.toArray⟩) w) := by
  go_enter Tryd.func51, Tryd.ntmps51
  go_wp2
  go_ret
  exact ⟨rfl, (Mod.refl _ _).alloc _⟩
set_option maxHeartbeats 4000000 in
set_option maxRecDepth 100000 in
theorem placeF_calls {A : Option Addr} {c : Nat} {xs : List EntryT} {B : Nat → Prop} {w : World} (h : Row dEntry w B A xs.length xs) (hB : ∀ k, B k → k < w.heap.size) (nm : Bytes) {pf pl pk : Addr} (hf : w.cell? pf = some (.func (.func 51) #[] #[])) (hl : w.cell? pl = some (.slice A xs.length c)) (hk : w.cell? pk = some (.string ⟨nm.toArray⟩)) (k : Nat) (hlt : k < xs.length) :
    Calls Tryd.prog 61 #[.int .i64 (k : Int), .pointer (some pf), .pointer (some pl), .pointer (some pk)] w (Ret (.bool (decide (¬ xs[k].1 < nm))) w) := by
  have HR := Sec.mk h
  have HB := Sec.mk hB
  have HC : Sec (∀ W, New w W → W.cell? pf = some (.func (.func 51) #[] #[]) ∧ W.cell? pl = some (.slice A xs.length c) ∧ W.cell? pk = some (.string ⟨nm.toArray⟩)) := ⟨fun W hW => ⟨hW.cell_of hf, hW.cell_of hl, hW.cell_of hk⟩⟩
  obtain ⟨ad, rfl, -, -, -, -⟩ := ent_at HR.out (w' := w) (fun _ _ => rfl) hlt
  have HE : Sec (∀ W, New w W → W.cell? (ad.add (k * 2)) = some (.string ⟨xs[k].1.toArray⟩) ∧ W.cell? ⟨(ad.add (k * 2)).block, (ad.add (k * 2)).off + 1, none⟩ = some (.int .i64 xs[k].2)) := ⟨fun W hW => by
    obtain ⟨ad', hA, h0, h1, _, _⟩ := ent_at HR.out (w' := W) (fun i hi => hW.block i (HB.out i hi) id) hlt
    obtain rfl := Option.some.inj hA
    exact ⟨h0, h1⟩⟩
  generalize xs[k].1 = z at *
  generalize xs[k].2 = u at *
  clear h hB hf hl hk HR
  go_enter Tryd.func61, Tryd.ntmps61
  go_wp2
  refine reg_start [] (fun W => Sec (New w W)) (by kernel_rfl) ?_
  have HSS : Sec (New w w.drew) := ⟨(Mod.refl _ _).drew⟩
  refine reg_take (.func (.func 51) #[] #[]) (i := 0) (n := 6) HSS rfl (by kernel_rfl) (by kernel_rfl) (by kernel_rfl) (by kernel_rfl) (fun _ _ _ h => h) (fun W hW => exec_load rfl rfl (ldFn (HC.out W hW.out).1)) ?_
  simp only [Act.put, List.setIfInBounds_toArray, List.set_cons_zero, List.set_cons_succ]
  refine reg_take (.slice (some ad) xs.length c) (i := 1) (n := 7) HSS rfl (by kernel_rfl) (by kernel_rfl) (by kernel_rfl) (by kernel_rfl) (fun _ _ _ h => h) (fun W hW => exec_load rfl rfl (ldSlE (HC.out W hW.out).2.1)) ?_
  simp only [Act.put, List.setIfInBounds_toArray, List.set_cons_zero, List.set_cons_succ]
  refine reg_take (.int .i64 (k : Int)) (i := 2) (n := 8) HSS rfl (by kernel_rfl) (by kernel_rfl) (by kernel_rfl) (by kernel_rfl) (fun _ _ _ h => h) (fun W hW => exec_move rfl rfl) ?_
  simp only [Act.put, List.setIfInBounds_toArray, List.set_cons_zero, List.set_cons_succ]
  refine reg_take (.pointer (some (ad.add (k * 2)))) (i := 3) (n := 9) HSS rfl (by kernel_rfl) (by kernel_rfl) (by kernel_rfl) (by kernel_rfl) (fun _ _ _ h => h) (fun W hW => exec_indexAddr rfl rfl rfl (idxEntryS _ _ _ _ hlt _)) ?_
  simp only [Act.put, List.setIfInBounds_toArray, List.set_cons_zero, List.set_cons_succ]
  refine reg_take (.agg #[.string ⟨z.toArray⟩, .int .i64 u]) (i := 4) (n := 10) HSS rfl (by kernel_rfl) (by kernel_rfl) (by kernel_rfl) (by kernel_rfl) (fun _ _ _ h => h) (fun W hW => exec_load rfl rfl (ldEntry (HE.out W hW.out).1 (HE.out W hW.out).2)) ?_
  simp only [Act.put, List.setIfInBounds_toArray, List.set_cons_zero, List.set_cons_succ]
  refine reg_take (.string ⟨nm.toArray⟩) (i := 6) (n := 12) HSS rfl (by kernel_rfl) (by kernel_rfl) (by kernel_rfl) (by kernel_rfl) (fun _ _ _ h => h) (fun W hW => exec_load rfl rfl (ldStr (HC.out W hW.out).2.2)) ?_
  simp only [Act.put, List.setIfInBounds_toArray, List.set_cons_zero, List.set_cons_succ]
  refine reg_step (i := 5) rfl (by kernel_rfl) (fun K hK => ?_)
  refine wp_callF (n := 11) (vals := [.agg #[.string ⟨z.toArray⟩, .int .i64 u]]) rfl rfl rfl rfl (by kernel_rfl) (nameOf_calls z u _) ?_
  rintro e w3 ⟨rfl, hm3⟩
  have HSS : Sec (New w w3) := ⟨HSS.out.transN hm3⟩
  refine ⟨_, rfl, hK.out _ _ (fun _ => HSS) ?_⟩
  clear hm3
  clear hK K
  simp only [Act.put, List.setIfInBounds_toArray, List.set_cons_zero, List.set_cons_succ]
  refine reg_take (.bool (decide (¬ z < nm))) (i := 7) (n := 13) HSS rfl (by kernel_rfl) (by kernel_rfl) (by kernel_rfl) (by kernel_rfl) (fun _ _ _ h => h) (fun W hW => exec_bin rfl rfl rfl (geqE _ _ _ _ _)) ?_
  simp only [Act.put, List.setIfInBounds_toArray, List.set_cons_zero, List.set_cons_succ]
  refine reg_take (.bool (decide (¬ z < nm))) (i := 8) (n := 5) HSS rfl (by kernel_rfl) (by kernel_rfl) (by kernel_rfl) (by kernel_rfl) (fun _ _ _ h => h) (fun W hW => exec_assign rfl rfl) ?_
  simp only [Act.put, List.setIfInBounds_toArray, List.set_cons_zero, List.set_cons_succ]
  refine reg_done (by kernel_rfl) ?_ _
  go_wp2
  go_ret
  exact ⟨rfl, HSS.out⟩
theorem countP_bound {p : Nat → Bool} {n hi : Nat} (hin : hi ≤ n) (h1 : ∀ t, t < hi → p t = false) (h2 : ∀ t, hi ≤ t → t < n → p t = true) : (List.range n).countP (fun i => !p i) = hi := by
  obtain ⟨m, rfl⟩ := Nat.exists_eq_add_of_le hin
  rw [List.range_add, List.countP_append, List.countP_eq_length.2 (fun a ha => by rw [h1 a (List.mem_range.1 ha)]; rfl), List.length_range, List.countP_eq_zero.2 (fun a ha => by
    obtain ⟨b, hb, rfl⟩ := List.mem_map.1 ha
    have := List.mem_range.1 hb
    rw [h2 _ (by omega) (by omega)]; simp)]
  rfl
set_option maxHeartbeats 4000000 in
set_option maxRecDepth 100000 in
theorem search_calls {c1 c2 c3 : Value} (n : Nat) (p : Nat → Bool) (w : World) (hsz : n ≤ 1048576) (hf : ∀ (W : World) (i : Nat), New w W → i < n → Calls Tryd.prog 61 #[.int .i64 (i : Int), c1, c2, c3] W (Ret (.bool (p i)) W))
    (hmono : ∀ a b, a ≤ b → b < n → p a = true → p b = true) :
    Calls Tryd.prog 60 #[.int .i64 (n : Int), .func (.func 61) #[] #[c1, c2, c3]] w (Ret (.int .i64 (((List.range n).countP (fun i => !p i) : Nat) : Int)) w) := by
  have HF := Sec.mk hf
  have M := Sec.mk hmono
  clear hf hmono
  generalize hcnt : (List.range n).countP (fun i => !p i) = cnt
  have CN := Sec.mk hcnt
  clear hcnt
  go_enter Tryd.func60, Tryd.ntmps60
  go_wp2
  go_loopw [5, 6] (fun s5 s6 wr => ∃ (lo hi : Nat), s5 = .int .i64 (lo : Int) ∧ s6 = .int .i64 (hi : Int) ∧ lo ≤ hi ∧ hi ≤ n ∧ Sec (New w wr) ∧ Sec ((∀ t, t < lo → p t = false) ∧ (∀ t, hi ≤ t → t < n → p t = true))) (fun s5 s6 _ => (intOf s6).toNat - (intOf s5).toNat)
  case atStart => exact ⟨0, n, rfl, rfl, Nat.zero_le _, Nat.le_refl _, ⟨Mod.refl _ _⟩, ⟨⟨fun t ht => absurd ht (Nat.not_lt_zero _), fun t h1 h2 => by omega⟩⟩⟩
  case round =>
    obtain ⟨lo, hi, rfl, rfl, hlh, hin, HM, I⟩ := hrel
    by_cases hlt : lo < hi
    · have hlti : (lo : Int) < (hi : Int) := by omega
      have hc := HF.out wr ((lo + hi) / 2) HM.out (by omega)
      rw [show (((lo + hi) / 2 : Nat) : Int) = ((lo : Int) + (hi : Int)) / 2 by omega] at hc
      cases hp : p ((lo + hi) / 2) <;> rw [hp] at hc
      · have I2 : Sec ((∀ t, t < (lo + hi) / 2 + 1 → p t = false) ∧ (∀ t, hi ≤ t → t < n → p t = true)) := ⟨fun t ht => (by
            cases h : p t with
            | false => rfl
            | true => have := M.out t ((lo + hi) / 2) (by omega) (by omega) h; rw [hp] at this; cases this), I.out.2⟩
        have HC := Sec.mk hc
        clear hc hp
        go_wp2_with fail
        refine HC.out.mono ?_
        rintro e w' ⟨rfl, hm⟩
        have HM2 := Sec.mk (HM.out.transN hm)
        clear hm HC
        go_wp2
        go_roundw
        case rel => exact ⟨(lo + hi) / 2 + 1, hi, by rw [show ((lo : Int) + (hi : Int)) / 2 + 1 = (((lo + hi) / 2 + 1 : Nat) : Int) by omega], rfl, by omega, hin, HM2, I2⟩
        case measure => simp [intOf]; omega
      · have I2 : Sec ((∀ t, t < lo → p t = false) ∧ (∀ t, (lo + hi) / 2 ≤ t → t < n → p t = true)) := ⟨I.out.1, fun t ht htn => M.out ((lo + hi) / 2) t ht htn hp⟩
        have HC := Sec.mk hc
        clear hc hp
        go_wp2_with fail
        refine HC.out.mono ?_
        rintro e w' ⟨rfl, hm⟩
        have HM2 := Sec.mk (HM.out.transN hm)
        clear hm HC
        go_wp2
        go_roundw
        case rel => exact ⟨lo, (lo + hi) / 2, rfl, by rw [show ((lo : Int) + (hi : Int)) / 2 = (((lo + hi) / 2 : Nat) : Int) by omega], by omega, by omega, HM2, I2⟩
        case measure => simp [intOf]; omega
    · obtain rfl : hi = lo := by omega
      have ecnt : cnt = hi := by
        rw [← CN.out]
        exact countP_bound hin I.out.1 I.out.2
      subst ecnt
      have hlti : ¬ (cnt : Int) < (cnt : Int) := by omega
      go_wp2
      go_ret
      exact ⟨rfl, HM.out⟩
theorem placeE_range (xs : List EntL) (nm : LB) : (List.range xs.length).countP (fun i => !(if h : i < xs.length then decide (¬ xs[i].1 < nm) else true)) = placeE xs nm := by
  have h : xs.map (fun e => decide (e.1 < nm)) = (List.range xs.length).map (fun i => !(if h : i < xs.length then decide (¬ xs[i].1 < nm) else true)) := by
    apply List.ext_getElem
    · simp
    · intro i h1 h2
      have hi : i < xs.length := by simpa using h1
      simp only [List.getElem_map, List.getElem_range]
      rw [dif_pos hi, decide_not, Bool.not_not]
  unfold placeE
  have e1 : ∀ {α : Type} (l : List α) (f : α → Bool), l.countP f = (l.map f).countP id := by intro α l f; rw [List.countP_map]; rfl
  rw [e1 (List.range xs.length), ← h, ← e1]
set_option maxHeartbeats 4000000 in
set_option maxRecDepth 100000 in
theorem place_calls {A : Option Addr} {c : Nat} {xs : List EntryT} {B : Nat → Prop} {w : World} (h : Row dEntry w B A xs.length xs) (hB : ∀ k, B k → k < w.heap.size) (hl : xs.length ≤ 1048576) (ho : Ord xs) (nm : Bytes) :
    Calls Tryd.prog 50 #[.slice A xs.length c, .string ⟨nm.toArray⟩, .func (.func 51) #[] #[]] w (Ret (.tuple #[.int .i64 (placeE xs nm : Int), .bool (hasE xs nm)]) w) := by
  have HR := Sec.mk h
  have HB := Sec.mk hB
  have HO := Sec.mk ho
  have HMON : Sec (∀ a b, a ≤ b → b < xs.length → (if h : a < xs.length then decide (¬ xs[a].1 < nm) else true) = true → (if h : b < xs.length then decide (¬ xs[b].1 < nm) else true) = true) := ⟨fun a b hab hb hp => by
    rw [dif_pos (by omega)] at hp
    rw [dif_pos hb]
    simp only [decide_eq_true_eq] at hp ⊢
    intro hlt
    rcases Nat.lt_or_eq_of_le hab with hh | rfl
    · exact hp (lb_trans (List.pairwise_iff_getElem.1 HO.out a b (by omega) hb hh) hlt)
    · exact hp hlt⟩
  have HRG := Sec.mk (placeE_range xs nm)
  clear h hB ho
  have HBX : Sec (∀ W3, New (((w.alloc (.cells #[.slice A xs.length c] 24)).alloc (.cells #[.string ⟨nm.toArray⟩] 9)).alloc (.cells #[.func (.func 51) #[] #[]] 95)) W3 → W3.cell? ⟨w.heap.size + 1 + 1, 0, none⟩ = some (.func (.func 51) #[] #[]) ∧ W3.cell? ⟨w.heap.size, 0, none⟩ = some (.slice A xs.length c) ∧ W3.cell? ⟨w.heap.size + 1, 0, none⟩ = some (.string ⟨nm.toArray⟩)) := ⟨fun W3 hW => ⟨by
    have hb := (Blk.new ((w.alloc (.cells #[.slice A xs.length c] 24)).alloc (.cells #[.string ⟨nm.toArray⟩] 9)) 95 [.func (.func 51) #[] #[]]).cell 0
    simp at hb
    exact hW.cell_of hb, by
    have hb := (((Blk.new w 24 [.slice A xs.length c]).alloc (.cells #[.string ⟨nm.toArray⟩] 9)).alloc (.cells #[.func (.func 51) #[] #[]] 95)).cell 0
    simp at hb
    exact hW.cell_of hb, by
    have hb := ((Blk.new (w.alloc (.cells #[.slice A xs.length c] 24)) 9 [.string ⟨nm.toArray⟩]).alloc (.cells #[.func (.func 51) #[] #[]] 95)).cell 0
    simp at hb
    exact hW.cell_of hb⟩⟩
  have HM3 : Sec (New w (((w.alloc (.cells #[.slice A xs.length c] 24)).alloc (.cells #[.string ⟨nm.toArray⟩] 9)).alloc (.cells #[.func (.func 51) #[] #[]] 95))) := ⟨(((Mod.refl _ _).alloc _).alloc _).alloc _⟩
  go_enter Tryd.func50, Tryd.ntmps50
  go_wp2_with fail
  refine (search_calls xs.length (fun i => if h : i < xs.length then decide (¬ xs[i].1 < nm) else true) _ hl (fun W i hW hi => ?_) HMON.out).mono ?_
  · rw [show (if h : i < xs.length then decide (¬ xs[i].1 < nm) else true) = decide (¬ xs[i].1 < nm) from dif_pos hi]
    obtain ⟨p1, p2, p3⟩ := HBX.out W hW
    exact placeF_calls (HR.out.mod (w' := W) (fun _ h => h) (fun k hk => (HM3.out.transN hW).block k (HB.out k hk) id)) (fun k hk => Nat.lt_of_lt_of_le (HB.out k hk) (HM3.out.transN hW).size) nm p1 p2 p3 i hi
  rw [HRG.out]
  rintro e w4 ⟨rfl, hm4⟩
  have HC : Sec (∀ W, New w4 W → W.cell? ⟨w.heap.size + 1 + 1, 0, none⟩ = some (.func (.func 51) #[] #[]) ∧ W.cell? ⟨w.heap.size, 0, none⟩ = some (.slice A xs.length c) ∧ W.cell? ⟨w.heap.size + 1, 0, none⟩ = some (.string ⟨nm.toArray⟩)) := ⟨fun W hW => HBX.out W (hm4.transN hW)⟩
  have HM4 := Sec.mk (HM3.out.transN hm4)
  clear hm4 HMON HRG HBX HM3
  obtain ⟨x1, x2, x3⟩ := HC.out w4 (Mod.refl _ _)
  have HPL := Sec.mk (place_at HO.out nm).1
  generalize placeE xs nm = pl at *
  by_cases hlt : pl < xs.length
  rotate_left
  · have HE : Sec (hasE xs nm = false) := ⟨by
      cases hh : hasE xs nm with
      | false => rfl
      | true => exact absurd (HPL.out.1 hh).1 hlt⟩
    have hli : ¬ (pl : Int) < (xs.length : Int) := by omega
    go_wp2
    go_quiet (fail)
    go_wp2
    go_ret2
    exact ⟨by rw [HE.out]; rfl, HM4.out.drewN _⟩
  have HEQ : Sec (hasE xs nm = decide (xs[pl].1 = nm)) := ⟨by
    by_cases hh : xs[pl].1 = nm
    · rw [decide_eq_true hh]; exact HPL.out.2 ⟨hlt, hh⟩
    · rw [decide_eq_false hh]
      cases hx : hasE xs nm with
      | false => rfl
      | true => obtain ⟨_, hy⟩ := HPL.out.1 hx; exact absurd hy hh⟩
  have hli : (pl : Int) < (xs.length : Int) := by omega
  obtain ⟨ad, rfl, -, -, -, -⟩ := ent_at HR.out (w' := w) (fun _ _ => rfl) hlt
  have HE : Sec (∀ W, New w4 W → W.cell? (ad.add (pl * 2)) = some (.string ⟨xs[pl].1.toArray⟩) ∧ W.cell? ⟨(ad.add (pl * 2)).block, (ad.add (pl * 2)).off + 1, none⟩ = some (.int .i64 xs[pl].2)) := ⟨fun W hW => by
    obtain ⟨ad', hA, h0, h1, _, _⟩ := ent_at HR.out (w' := W) (fun i hi => (HM4.out.transN hW).block i (HB.out i hi) id) hlt
    obtain rfl := Option.some.inj hA
    exact ⟨h0, h1⟩⟩
  generalize xs[pl].1 = z at *
  generalize xs[pl].2 = u at *
  generalize hasE xs nm = hs at *
  clear HR HB HO HPL x1 x2 x3
  go_wp2
  refine reg_start [] (fun W => Sec (New w4 W)) (by kernel_rfl) ?_
  have HSS : Sec (New w4 w4.drew) := ⟨(Mod.refl _ _).drew⟩
  refine reg_take (.int .i64 (pl : Int)) (i := 0) (n := 13) HSS rfl (by kernel_rfl) (by kernel_rfl) (by kernel_rfl) (by kernel_rfl) (fun _ _ _ h => h) (fun W hW => exec_move rfl rfl) ?_
  simp only [Act.put, List.setIfInBounds_toArray, List.set_cons_zero, List.set_cons_succ]
  refine reg_take (.int .i64 (pl : Int)) (i := 1) (n := 14) HSS rfl (by kernel_rfl) (by kernel_rfl) (by kernel_rfl) (by kernel_rfl) (fun _ _ _ h => h) (fun W hW => exec_move rfl rfl) ?_
  simp only [Act.put, List.setIfInBounds_toArray, List.set_cons_zero, List.set_cons_succ]
  refine reg_take (.slice (some ad) xs.length c) (i := 2) (n := 15) HSS rfl (by kernel_rfl) (by kernel_rfl) (by kernel_rfl) (by kernel_rfl) (fun _ _ _ h => h) (fun W hW => exec_load rfl rfl (ldSlE (HC.out W hW.out).2.1)) ?_
  simp only [Act.put, List.setIfInBounds_toArray, List.set_cons_zero, List.set_cons_succ]
  refine reg_take (.int .i64 (xs.length : Int)) (i := 3) (n := 16) HSS rfl (by kernel_rfl) (by kernel_rfl) (by kernel_rfl) (by kernel_rfl) (fun _ _ _ h => h) (fun W hW => exec_lenE rfl rfl (lenES _ _ _ _)) ?_
  simp only [Act.put, List.setIfInBounds_toArray, List.set_cons_zero, List.set_cons_succ]
  refine reg_take (.bool true) (i := 4) (n := 17) HSS rfl (by kernel_rfl) (by kernel_rfl) (by kernel_rfl) (by kernel_rfl) (fun _ _ _ h => h) (fun W hW => exec_bin rfl rfl rfl (by go_simp)) ?_
  simp only [Act.put, List.setIfInBounds_toArray, List.set_cons_zero, List.set_cons_succ]
  refine reg_take (.bool true) (i := 5) (n := 18) HSS rfl (by kernel_rfl) (by kernel_rfl) (by kernel_rfl) (by kernel_rfl) (fun _ _ _ h => h) (fun W hW => exec_move rfl rfl) ?_
  simp only [Act.put, List.setIfInBounds_toArray, List.set_cons_zero, List.set_cons_succ]
  refine reg_takeG (.func (.func 51) #[] #[]) (i := 6) (n := 19) HSS rfl (by rfl) (by kernel_rfl) (by kernel_rfl) (by kernel_rfl) (by kernel_rfl) (fun _ _ _ h => h) (fun W hW => exec_load rfl rfl (ldFn (HC.out W hW.out).1)) ?_
  simp only [Act.put, List.setIfInBounds_toArray, List.set_cons_zero, List.set_cons_succ]
  refine reg_takeG (.slice (some ad) xs.length c) (i := 7) (n := 20) HSS rfl (by rfl) (by kernel_rfl) (by kernel_rfl) (by kernel_rfl) (by kernel_rfl) (fun _ _ _ h => h) (fun W hW => exec_load rfl rfl (ldSlE (HC.out W hW.out).2.1)) ?_
  simp only [Act.put, List.setIfInBounds_toArray, List.set_cons_zero, List.set_cons_succ]
  refine reg_takeG (.int .i64 (pl : Int)) (i := 8) (n := 21) HSS rfl (by rfl) (by kernel_rfl) (by kernel_rfl) (by kernel_rfl) (by kernel_rfl) (fun _ _ _ h => h) (fun W hW => exec_move rfl rfl) ?_
  simp only [Act.put, List.setIfInBounds_toArray, List.set_cons_zero, List.set_cons_succ]
  refine reg_takeG (.pointer (some (ad.add (pl * 2)))) (i := 9) (n := 22) HSS rfl (by rfl) (by kernel_rfl) (by kernel_rfl) (by kernel_rfl) (by kernel_rfl) (fun _ _ _ h => h) (fun W hW => exec_indexAddr rfl rfl rfl (idxEntryS _ _ _ _ hlt _)) ?_
  simp only [Act.put, List.setIfInBounds_toArray, List.set_cons_zero, List.set_cons_succ]
  refine reg_takeG (.agg #[.string ⟨z.toArray⟩, .int .i64 u]) (i := 10) (n := 23) HSS rfl (by rfl) (by kernel_rfl) (by kernel_rfl) (by kernel_rfl) (by kernel_rfl) (fun _ _ _ h => h) (fun W hW => exec_load rfl rfl (ldEntry (HE.out W hW.out).1 (HE.out W hW.out).2)) ?_
  simp only [Act.put, List.setIfInBounds_toArray, List.set_cons_zero, List.set_cons_succ]
  refine reg_takeG (.string ⟨nm.toArray⟩) (i := 12) (n := 25) HSS rfl (by rfl) (by kernel_rfl) (by kernel_rfl) (by kernel_rfl) (by kernel_rfl) (fun _ _ _ h => h) (fun W hW => exec_load rfl rfl (ldStr (HC.out W hW.out).2.2)) ?_
  simp only [Act.put, List.setIfInBounds_toArray, List.set_cons_zero, List.set_cons_succ]
  refine reg_stepG (i := 11) rfl (by rfl) (by kernel_rfl) (fun K hK => ?_)
  refine wp_callF (n := 24) (vals := [.agg #[.string ⟨z.toArray⟩, .int .i64 u]]) rfl rfl rfl rfl (by kernel_rfl) (nameOf_calls z u _) ?_
  rintro e w3 ⟨rfl, hm3⟩
  have HSS : Sec (New w4 w3) := ⟨HSS.out.transN hm3⟩
  refine ⟨_, rfl, hK.out _ _ (fun _ => HSS) ?_⟩
  clear hm3
  clear hK K
  simp only [Act.put, List.setIfInBounds_toArray, List.set_cons_zero, List.set_cons_succ]
  refine reg_takeG (.bool (z == nm)) (i := 13) (n := 26) HSS rfl (by rfl) (by kernel_rfl) (by kernel_rfl) (by kernel_rfl) (by kernel_rfl) (fun _ _ _ h => h) (fun W hW => exec_bin rfl rfl rfl (by go_simp)) ?_
  simp only [Act.put, List.setIfInBounds_toArray, List.set_cons_zero, List.set_cons_succ]
  refine reg_take (.bool (z == nm)) (i := 14) (n := 27) HSS rfl (by kernel_rfl) (by kernel_rfl) (by kernel_rfl) (by kernel_rfl) (fun _ _ _ h => h) (fun W hW => exec_pick (b := true) (vx := .bool (z == nm)) (vy := .bool false) rfl rfl rfl rfl rfl) ?_
  simp only [Act.put, List.setIfInBounds_toArray, List.set_cons_zero, List.set_cons_succ]
  refine reg_take (.int .i64 (pl : Int)) (i := 15) (n := 6) HSS rfl (by kernel_rfl) (by kernel_rfl) (by kernel_rfl) (by kernel_rfl) (fun _ _ _ h => h) (fun W hW => exec_assign rfl rfl) ?_
  simp only [Act.put, List.setIfInBounds_toArray, List.set_cons_zero, List.set_cons_succ]
  refine reg_take (.bool (z == nm)) (i := 16) (n := 7) HSS rfl (by kernel_rfl) (by kernel_rfl) (by kernel_rfl) (by kernel_rfl) (fun _ _ _ h => h) (fun W hW => exec_assign rfl rfl) ?_
  simp only [Act.put, List.setIfInBounds_toArray, List.set_cons_zero, List.set_cons_succ]
  refine reg_done (by kernel_rfl) ?_ _
  go_wp2
  go_ret2
  exact ⟨by rw [HEQ.out, show decide (z = nm) = (z == nm) from Bool.eq_iff_iff.2 ⟨fun h => beq_iff_eq.2 (of_decide_eq_true h), fun h => decide_eq_true (beq_iff_eq.1 h)⟩]; rfl, HM4.out.transN HSS.out⟩
end Go.Proofs.YtkkgighgnbbgiaaDoor
