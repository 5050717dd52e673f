/- The specification's reading of a log. -/
import Derived.Test.YtciaoedjiggonaaUnframe
import Derived.Test.YtciaoedjiggonaaLog
namespace Go.Proofs.Ytciaoedjiggonaa
open Go.RowKit Mem
set_option linter.unusedVariables false

theorem l2First_as {A : Option Addr} {n c : Nat} {xs : Bytes} {B : Nat → Prop} {w : World} (h : Row Ty.byte w B A n xs) (hB : ∀ k, B k → k < w.heap.size) (hc : n ≤ c) (hcc : c ≤ 9223372036854775807) :
    Calls Try.prog 54 #[.slice A n c] w (FirstPost w xs) := by
  obtain rfl := h.1
  exact l2First_calls h hB hc hcc
theorem owLog_of {w : World} {lo hi : Nat} {v : Value} {rs : List Bytes} {g : Int} (h : OwI tB 22 w lo hi v rs) (hg : IntKind.i64.wrap g = g) : OwV true dLog w lo hi (.agg #[v, .int .i64 g]) (rs, g) := by
  obtain ⟨F, ho, hF⟩ := h
  exact ⟨_, F, rfl, ⟨[v], [.int .i64 g], F, [], rfl, by simp, ho.nd, ⟨v, rfl, ho⟩, rfl, rfl, hg⟩, hF⟩
theorem wrap_small {g : Int} (h0 : 0 ≤ g) (h1 : g ≤ 9223372036854775807) : IntKind.i64.wrap g = g := by rw [IntKind.wrap_i64]; omega
theorem elt_rec : Elt Try.prog 22 tB.sz (.slice none 0 0) := elt_b
set_option maxHeartbeats 1000000 in
set_option maxRecDepth 100000 in
theorem unframeSpec_calls {A : Option Addr} {c : Nat} {xs : Bytes} {B : Nat → Prop} {w : World} (h : Row Ty.byte w B A xs.length xs) (hB : ∀ k, B k → k < w.heap.size) (hc : xs.length ≤ c) (hcc : c ≤ 9223372036854775807) :
    Calls Try.prog 20 #[.slice A xs.length c] w (RetV true dLog w (UnframeL xs)) := by
  have HR := Sec.mk h
  have HB := Sec.mk hB
  have HB2 := Sec.mk ((Blk.new w 36 [.slice none 0 0, .int .i64 0]).alloc (.cells #[.slice none 0 0, .int .i64 0] 36))
  have HB3 := Sec.mk (Blk.new (w.alloc (.cells #[.slice none 0 0, .int .i64 0] 36)) 36 [.slice none 0 0, .int .i64 0])
  rw [show (w.alloc (.cells #[.slice none 0 0, .int .i64 0] 36)).heap.size = w.heap.size + 1 by simp] at HB3
  clear h hB
  by_cases hbig : 40000 < xs.length
  · have HE : Sec (UnframeL xs = ([], 0)) := ⟨if_pos hbig⟩
    go_enter Try.func20, Try.ntmps20
    go_wp2
    (try simp only [Exit.inBlock, Exit.then])
    refine bodyPost_ret (results_blk rfl rfl HB2.out Try.underlying36 (by kernel_rfl)) rfl ?_
    rw [HE.out]
    exact ⟨_, rfl, (owLog_of (OwI.nil _ _ _ w.heap.size _) (wrap_small (by decide) (by decide))), ((Mod.refl _ _).alloc _).alloc _⟩
  go_enter Try.func20, Try.ntmps20
  go_wp2
  go_loopw [4] (fun v wr => ∃ (rs : List Bytes) (g : Nat) (A' : Option Addr) (n' c' : Nat),
      Sec (Blk wr (w.heap.size + 1) 36 [.slice A' n' c', .int .i64 g]) ∧ wr.cell? ⟨w.heap.size + 1, 0, none⟩ = some (.slice A' n' c') ∧ wr.cell? ⟨w.heap.size + 1, 1, none⟩ = some (.int .i64 g) ∧
      Sec (Blk wr w.heap.size 36 [.slice none 0 0, .int .i64 0]) ∧ Sec (OwI tB 22 wr (w.heap.size + 2) wr.heap.size (.slice A' n' c') rs) ∧ Sec (New w wr) ∧ Sec (UnSt xs rs g) ∧ g ≤ xs.length) (fun _ wr => xs.length - (intOf ((wr.cell? ⟨w.heap.size + 1, 1, none⟩).getD undef)).toNat)
  case atStart => exact ⟨[], 0, none, 0, 0, HB3, HB3.out.cell 0, HB3.out.cell 1, HB2, ⟨OwI.nil _ _ _ _ _⟩, ⟨((Mod.refl _ _).alloc _).alloc _⟩, ⟨UnSt.start (by omega)⟩, by omega⟩
  case round =>
    obtain ⟨rs, g, A', n', c', HBo, hc0, hc1, HBr, HO, HM, HU, hg⟩ := hrel
    clear HB2 HB3
    have hf0 : wr.frozen? ⟨w.heap.size + 1, 0, none⟩ = false := HBo.out.frozen 0
    have hf1 : wr.frozen? ⟨w.heap.size + 1, 1, none⟩ = false := HBo.out.frozen 1
    have hr0 : wr.cell? ⟨w.heap.size, 0, none⟩ = some (.slice none 0 0) := HBr.out.cell 0
    have hr1 : wr.cell? ⟨w.heap.size, 1, none⟩ = some (.int .i64 0) := HBr.out.cell 1
    have hrf0 : wr.frozen? ⟨w.heap.size, 0, none⟩ = false := HBr.out.frozen 0
    have hrf1 : wr.frozen? ⟨w.heap.size, 1, none⟩ = false := HBr.out.frozen 1
    have hrow := HR.out.cut hg (Nat.le_refl _) hc
    rw [List.take_length, show g * Ty.byte.sz = g from Nat.mul_one g] at hrow
    have HRG := Sec.mk (hrow.mod (fun _ h => h) (fun k hk => HM.out.block k (HB.out k hk) id))
    clear hrow
    have HBL : Sec (∀ k, B k → k < wr.heap.size) := ⟨fun k hk => Nat.lt_of_lt_of_le (HB.out k hk) HM.out.size⟩
    have HC : Sec (∃ Ac, Ac = if c = g then A else A.map (·.add g)) := ⟨_, rfl⟩
    by_cases hcg : c = g
    · rw [if_pos hcg] at HRG
      have hgx : xs.length = g := by omega
      rw [show xs.length - g = 0 by omega] at HRG
      go_wp2_with fail
      refine (l2First_as (c := 0) HRG.out HBL.out (Nat.le_refl _) (by omega)).mono ?_
      rintro e w2 ⟨hm2, ⟨hno, rfl⟩ | ⟨hok, A3, c3, rfl, hr3⟩⟩
      · have hc0' : w2.cell? ⟨w.heap.size + 1, 0, none⟩ = _ := (HBo.out.mod hm2 id).cell 0
        have hc1' : w2.cell? ⟨w.heap.size + 1, 1, none⟩ = _ := (HBo.out.mod hm2 id).cell 1
        have hr0' : w2.cell? ⟨w.heap.size, 0, none⟩ = _ := (HBr.out.mod hm2 id).cell 0
        have hr1' : w2.cell? ⟨w.heap.size, 1, none⟩ = _ := (HBr.out.mod hm2 id).cell 1
        have hrf0' : w2.frozen? ⟨w.heap.size, 0, none⟩ = false := (HBr.out.mod hm2 id).frozen 0
        have hrf1' : w2.frozen? ⟨w.heap.size, 1, none⟩ = false := (HBr.out.mod hm2 id).frozen 1
        simp only [List.getElem?_cons_zero, List.getElem?_cons_succ] at hc0' hc1' hr0' hr1'
        have HE := Sec.mk (HU.out.stop hno)
        have HM2 := Sec.mk hm2
        clear hno hm2
        go_wp2
        (try simp only [Exit.inBlock, Exit.then])
        refine bodyPost_ret (results_blk rfl rfl (((HBr.out.mod HM2.out id).set_ 0 (.slice A' n' c')).set_ 1 (.int .i64 g)) Try.underlying36 (by kernel_rfl)) rfl ?_
        rw [HE.out]
        have hnw := (HM.out.transN HM2.out)
        have hs2 := HM2.out.size
        refine ⟨_, rfl, owLog_of ((((HO.out.new HM2.out).keep (S := fun k => k < w.heap.size + 2) (Mod.setCell (Mod.setCell (Mod.refl _ _) (fun _ => by simp) _) (fun _ => by simp) _) (fun k h1 h2 h3 => by omega))).wide (by omega) (by simp [World.setCell]; exact hs2)) (wrap_small (by omega) (by omega)), (hnw.setCell (fun h => absurd h (by simp)) _).setCell (fun h => absurd h (by simp)) _⟩
      · exfalso
        have := hok.1
        rw [List.length_drop] at this
        omega
    · rw [if_neg hcg] at HRG
      go_wp2_with fail
      refine (l2First_as HRG.out HBL.out (by omega) (by omega)).mono ?_
      rintro e w2 ⟨hm2, ⟨hno, rfl⟩ | ⟨hok, A3, c3, rfl, hr3⟩⟩
      · have hc0' : w2.cell? ⟨w.heap.size + 1, 0, none⟩ = _ := (HBo.out.mod hm2 id).cell 0
        have hc1' : w2.cell? ⟨w.heap.size + 1, 1, none⟩ = _ := (HBo.out.mod hm2 id).cell 1
        have hr0' : w2.cell? ⟨w.heap.size, 0, none⟩ = _ := (HBr.out.mod hm2 id).cell 0
        have hr1' : w2.cell? ⟨w.heap.size, 1, none⟩ = _ := (HBr.out.mod hm2 id).cell 1
        have hrf0' : w2.frozen? ⟨w.heap.size, 0, none⟩ = false := (HBr.out.mod hm2 id).frozen 0
        have hrf1' : w2.frozen? ⟨w.heap.size, 1, none⟩ = false := (HBr.out.mod hm2 id).frozen 1
        simp only [List.getElem?_cons_zero, List.getElem?_cons_succ] at hc0' hc1' hr0' hr1'
        have HE := Sec.mk (HU.out.stop hno)
        have HM2 := Sec.mk hm2
        clear hno hm2
        go_wp2
        (try simp only [Exit.inBlock, Exit.then])
        refine bodyPost_ret (results_blk rfl rfl (((HBr.out.mod HM2.out id).set_ 0 (.slice A' n' c')).set_ 1 (.int .i64 g)) Try.underlying36 (by kernel_rfl)) rfl ?_
        rw [HE.out]
        have hnw := (HM.out.transN HM2.out)
        have hs2 := HM2.out.size
        refine ⟨_, rfl, owLog_of ((((HO.out.new HM2.out).keep (S := fun k => k < w.heap.size + 2) (Mod.setCell (Mod.setCell (Mod.refl _ _) (fun _ => by simp) _) (fun _ => by simp) _) (fun k h1 h2 h3 => by omega))).wide (by omega) (by simp [World.setCell]; exact hs2)) (wrap_small (by omega) (by omega)), (hnw.setCell (fun h => absurd h (by simp)) _).setCell (fun h => absurd h (by simp)) _⟩
      · obtain ⟨⟨F3, ho3, hF3⟩, hm3⟩ := hr3
        have hUn := HU.out.next hok
        have hrl := recOf_len hok.2.2.2.1
        have hgl := hUn.le
        have hrb : (recOf (xs.drop g)).length ≤ 2000 := by rw [hrl]; exact hok.2.2.1
        have hfl := hUn.few
        rw [List.length_append, List.length_singleton] at hfl
        have HUN := Sec.mk hUn
        have HRL := Sec.mk hrl
        have hc0' : w2.cell? ⟨w.heap.size + 1, 0, none⟩ = _ := (HBo.out.mod hm2 id).cell 0
        have hc1' : w2.cell? ⟨w.heap.size + 1, 1, none⟩ = _ := (HBo.out.mod hm2 id).cell 1
        simp only [List.getElem?_cons_zero, List.getElem?_cons_succ] at hc0' hc1'
        have HF3 := Sec.mk hF3
        have HO3 := Sec.mk ho3
        have HM2 := Sec.mk hm2
        have HOK := Sec.mk hok
        clear hUn hrl ho3 hF3 hm3 hm2 hok
        generalize recOf (xs.drop g) = r at *
        generalize firstN (xs.drop g) = m at *
        go_wp2_with (at_builtin; go_loud (refine wpList_appO _ rfl (.tmp 22) (.tmp 24) _ rfl Try.underlying23 elt_b rfl rfl ((HO.out.new HM2.out).new ((Mod.refl _ _).alloc _)) (y := r) (G := F3) ⟨_, rfl, HO3.out.new ((Mod.refl _ _).alloc _)⟩ HF3.out (lit_cells _ _ _ rfl) (show w.heap.size + 2 ≤ wr.heap.size by have := HBo.out.lt; omega) (show wr.heap.size ≤ _ by have := HM2.out.size; simp; omega) (by omega) ?_; intro A4 n4 c4 w4 ho4 hm4; have HB4 := Sec.mk (((HBo.out.mod HM2.out id).alloc (.cells #[.slice A3 r.length c3] 22)).mod hm4 (by omega)); have hc40 : w4.cell? ⟨w.heap.size + 1, 0, none⟩ = some (.slice A' n' c') := HB4.out.cell 0; have hc41 : w4.cell? ⟨w.heap.size + 1, 1, none⟩ = some (.int .i64 g) := HB4.out.cell 1; have hf40 : w4.frozen? ⟨w.heap.size + 1, 0, none⟩ = false := HB4.out.frozen 0; have hf41 : w4.frozen? ⟨w.heap.size + 1, 1, none⟩ = false := HB4.out.frozen 1; have HO4 := Sec.mk ho4; have HM4 := Sec.mk hm4; clear ho4 hm4))
        have HBR4 := Sec.mk (((HBr.out.mod HM2.out id).alloc (.cells #[.slice A3 r.length c3] 22)).mod HM4.out (by omega))
        have HN4 := Sec.mk (((HM.out.transN HM2.out).alloc (.cells #[.slice A3 r.length c3] 22)).trans HM4.out (fun i hi hlt => by omega))
        go_roundw
        case rel =>
          have hs2 := HM2.out.size
          have hs4 := HM4.out.size
          have hlo := HBo.out.lt
          simp at hs4
          have e1 : ((g : Int) + (6 + (r.length : Int))) = ((g + (6 + m) : Nat) : Int) := by rw [HRL.out]; omega
          have hbf := (HB4.out.set_ 0 (.slice A4 n4 c4)).set_ 1 (.int .i64 ((g : Int) + (6 + (r.length : Int))))
          simp only [List.set_cons_zero, List.set_cons_succ] at hbf
          rw [e1] at hbf ⊢
          refine ⟨rs ++ [r], g + (6 + m), A4, n4, c4, ⟨hbf⟩, hbf.cell 0, hbf.cell 1, ⟨(HBR4.out.far (by simp) _).far (by simp) _⟩, ⟨?_⟩, ⟨(HN4.out.setCell (fun h => absurd h (by simp; try omega)) _).setCell (fun h => absurd h (by simp; try omega)) _⟩, HUN, hgl⟩
          exact (HO4.out.keep (S := fun k => k < w.heap.size + 2) (Mod.setCell (Mod.setCell (Mod.refl _ _) (fun _ => by simp) _) (fun _ => by simp) _) (fun k h1 h2 h3 => by omega)).wide (Nat.le_refl _) (by simp [World.setCell])
        case measure =>
          have hbf := (HB4.out.set_ 0 (.slice A4 n4 c4)).set_ 1 (.int .i64 ((g : Int) + (6 + (r.length : Int))))
          have h5 := hbf.cell 1
          simp only [List.set_cons_zero, List.set_cons_succ, List.getElem?_cons_succ, List.getElem?_cons_zero] at h5
          rw [h5, hc1]
          have := HRL.out
          simp [intOf]; omega
end Go.Proofs.Ytciaoedjiggonaa
