/- The laws' own comparisons. -/
import Derived.Test.YtciaoedjiggonaaBss
import Derived.Test.YtciaoedjiggonaaReg
namespace Go.Proofs.Ytciaoedjiggonaa
open Go.RowKit Mem
set_option linter.unusedVariables false

set_option maxHeartbeats 400000 in
theorem sameBytes_calls {A A' : Option Addr} {n m c c' : Nat} {xs ys : Bytes} {B B' : Nat → Prop} {w : World} (h : Row Ty.byte w B A n xs) (h' : Row Ty.byte w B' A' m ys) :
    Calls Try.prog 10 #[.slice A n c, .slice A' m c'] w fun e w' => e = .returned (.bool (decide (xs = ys))) ∧ w' = w := by
  have h1 := h.conv (P := Try.prog) Try.underlying22 Try.underlying5 Try.underlying9 c
  have h2 := h'.conv (P := Try.prog) Try.underlying22 Try.underlying5 Try.underlying9 c'
  clear h h'
  by_cases he : xs = ys
  · subst he
    go_enter Try.func10, Try.ntmps10
    go_wp2
    go_ret
    exact ⟨by simp, rfl⟩
  · have hz : (xs == ys) = false := by simpa using he
    have HE := Sec.mk he
    clear he
    go_enter Try.func10, Try.ntmps10
    go_wp2
    go_ret
    exact ⟨by simp [HE.out], rfl⟩
theorem idxBss (ad : Addr) (n c k : Nat) (h : k < n) (w : World) : (Instr.indexAt 23 (.slice (some ad) n c) (.int .i64 (k : Int))).run Try.prog w = .ok (.pointer (some (ad.add k))) w := by
  have h0 : (0 : Int) ≤ (k : Int) := by omega
  have h1 : (k : Int) < (n : Int) := by omega
  go_simp
theorem loadBs {w : World} {p : Addr} {v : Value} (h : w.cell? p = some v) : (Instr.loadAt 22 (.pointer (some p))).run Try.prog w = .ok v w := by
  go_simp
theorem not_run (b : Bool) (w : World) : (Op.unary .not (.bool b)).run Try.prog w = .ok (.bool (!b)) w := by
  go_simp
set_option maxHeartbeats 1000000 in
set_option maxRecDepth 100000 in
theorem sameTexts_calls {A A' : Option Addr} {n c c' : Nat} {xs : List Bytes} {B B' : Nat → Prop} {w : World} (h : Row tB w B A n xs) (h' : Row tB w B' A' n xs) (hB : ∀ k, B k → k < w.heap.size) (hB' : ∀ k, B' k → k < w.heap.size) :
    Calls Try.prog 19 #[.slice A n c, .slice A' n c'] w (Ret (.bool true) w) := by
  obtain rfl := h.1
  have hl := h.2.1
  have HR := Sec.mk h
  have HR' := Sec.mk h'
  clear h h'
  go_enter Try.func19, Try.ntmps19
  go_wp2
  go_loopw [13] (fun i wr => ∃ k : Nat, k ≤ xs.length ∧ i = .int .i64 (k : Int) ∧ Sec (New w wr)) (fun i _ => xs.length - (intOf i).toNat)
  case atStart => exact ⟨0, Nat.zero_le _, rfl, ⟨Mod.refl _ _⟩⟩
  case round =>
    obtain ⟨k, hk, rfl, HM⟩ := hrel
    by_cases hlt : k < xs.length
    · obtain ⟨ad, A1, c1, rfl, hx0, hxc, hrow⟩ := bss_at HR.out (fun i hi => HM.out.block i (hB i hi) id) hlt
      obtain ⟨ad', A2, c2, rfl, hx0', hxc', hrow'⟩ := bss_at HR'.out (fun i hi => HM.out.block i (hB' i hi) id) hlt
      have HW := Sec.mk hrow
      have HW' := Sec.mk hrow'
      have HC := Sec.mk hx0
      have HC' := Sec.mk hx0'
      generalize xs[k] = x at *
      clear hrow hrow' hxc hxc' hx0 hx0'
      have hki : (k : Int) < (xs.length : Int) := by omega
      go_wp2
      refine reg_start [] (fun W => Sec (W.heap = wr.heap)) (by kernel_rfl) ?_
      have HSS : Sec (wr.drew.heap = wr.heap) := ⟨rfl⟩
      have HCW : Sec (∀ W : World, W.heap = wr.heap → W.cell? (ad.add k) = some (.slice A1 x.length c1)) := ⟨fun W hW => by rw [← HC.out]; exact World.cell?_of_block (by rw [hW])⟩
      have HCW' : Sec (∀ W : World, W.heap = wr.heap → W.cell? (ad'.add k) = some (.slice A2 x.length c2)) := ⟨fun W hW => by rw [← HC'.out]; exact World.cell?_of_block (by rw [hW])⟩
      refine reg_take (.slice (some ad) xs.length c) (i := 0) (n := 16) HSS rfl (by kernel_rfl) (by kernel_rfl) (by kernel_rfl) (by kernel_rfl) (fun _ _ _ h => h) (fun W _ => exec_move rfl rfl) ?_
      simp only [Act.put, List.setIfInBounds_toArray, List.set_cons_zero, List.set_cons_succ]
      refine reg_take (.int .i64 (k : Int)) (i := 1) (n := 17) HSS rfl (by kernel_rfl) (by kernel_rfl) (by kernel_rfl) (by kernel_rfl) (fun _ _ _ h => h) (fun W _ => exec_move rfl rfl) ?_
      simp only [Act.put, List.setIfInBounds_toArray, List.set_cons_zero, List.set_cons_succ]
      refine reg_take (.pointer (some (ad.add k))) (i := 2) (n := 18) HSS rfl (by kernel_rfl) (by kernel_rfl) (by kernel_rfl) (by kernel_rfl) (fun _ _ _ h => h) (fun W _ => exec_indexAddr rfl rfl rfl (idxBss _ _ _ _ hlt _)) ?_
      simp only [Act.put, List.setIfInBounds_toArray, List.set_cons_zero, List.set_cons_succ]
      refine reg_take (.slice A1 x.length c1) (i := 3) (n := 19) HSS rfl (by kernel_rfl) (by kernel_rfl) (by kernel_rfl) (by kernel_rfl) (fun _ _ _ h => h) (fun W hW => exec_load rfl rfl (loadBs (HCW.out W hW.out))) ?_
      simp only [Act.put, List.setIfInBounds_toArray, List.set_cons_zero, List.set_cons_succ]
      refine reg_take (.slice (some ad') xs.length c') (i := 4) (n := 20) HSS rfl (by kernel_rfl) (by kernel_rfl) (by kernel_rfl) (by kernel_rfl) (fun _ _ _ h => h) (fun W _ => exec_move rfl rfl) ?_
      simp only [Act.put, List.setIfInBounds_toArray, List.set_cons_zero, List.set_cons_succ]
      refine reg_take (.int .i64 (k : Int)) (i := 5) (n := 21) HSS rfl (by kernel_rfl) (by kernel_rfl) (by kernel_rfl) (by kernel_rfl) (fun _ _ _ h => h) (fun W _ => exec_move rfl rfl) ?_
      simp only [Act.put, List.setIfInBounds_toArray, List.set_cons_zero, List.set_cons_succ]
      refine reg_take (.pointer (some (ad'.add k))) (i := 6) (n := 22) HSS rfl (by kernel_rfl) (by kernel_rfl) (by kernel_rfl) (by kernel_rfl) (fun _ _ _ h => h) (fun W _ => exec_indexAddr rfl rfl rfl (idxBss _ _ _ _ hlt _)) ?_
      simp only [Act.put, List.setIfInBounds_toArray, List.set_cons_zero, List.set_cons_succ]
      refine reg_take (.slice A2 x.length c2) (i := 7) (n := 23) HSS rfl (by kernel_rfl) (by kernel_rfl) (by kernel_rfl) (by kernel_rfl) (fun _ _ _ h => h) (fun W hW => exec_load rfl rfl (loadBs (HCW'.out W hW.out))) ?_
      simp only [Act.put, List.setIfInBounds_toArray, List.set_cons_zero, List.set_cons_succ]
      refine reg_step (i := 8) rfl (by kernel_rfl) (fun K hK => ?_)
      refine wp_call (n := 24) (vals := [.slice A1 x.length c1, .slice A2 x.length c2]) rfl rfl rfl (by kernel_rfl) (sameBytes_calls (w := wr.drew) (HW.out.mod (fun _ h => h) (fun _ _ => rfl)) (HW'.out.mod (fun _ h => h) (fun _ _ => rfl))) ?_
      rintro e w1 ⟨rfl, rfl⟩
      rw [show decide (x = x) = true by simp]
      refine ⟨_, rfl, hK.out _ _ (fun _ => HSS) ?_⟩
      clear hK K
      simp only [Act.put, List.setIfInBounds_toArray, List.set_cons_zero, List.set_cons_succ]
      refine reg_step (i := 9) rfl (by kernel_rfl) (fun K hK => ?_)
      refine wp_val (n := 25) (v := .bool (!true)) (exec_un rfl rfl (not_run true _)) rfl (hK.out _ _ (fun _ => HSS) ?_)
      clear hK K
      simp only [Act.put, List.setIfInBounds_toArray, List.set_cons_zero, List.set_cons_succ, Bool.not_true]
      refine reg_done (by kernel_rfl) ?_ _
      have HM' := Sec.mk HM.out.drew
      go_wp2
      go_roundw
      case rel => exact ⟨k + 1, by omega, by go_num, HM'⟩
      case measure => simp [intOf]; omega
    · obtain rfl : k = xs.length := by omega
      go_wp2
      go_ret
      exact ⟨rfl, HM.out⟩
end Go.Proofs.Ytciaoedjiggonaa
