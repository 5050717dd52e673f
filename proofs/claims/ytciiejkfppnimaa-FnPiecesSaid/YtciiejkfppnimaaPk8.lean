/- All units of a stream, of the specification. The literal at a line's end and a line's end, of the program. Two operations that are ready at once. -/
import Derived.Test.YtciiejkfppnimaaPk7
import Derived.Test.YtciiejkfppnimaaShelf
import Derived.Lib.SlBytesConst
namespace Go.Proofs.Ytciiejkfppnimaa
open Go.RowKit Mem
set_option linter.unusedVariables false
set_option linter.unusedSimpArgs false
def set2 (w : World) (g : Nat) (a0 a1 : Value) : World := (w.setCell ⟨g, 0, none⟩ a0).setCell ⟨g, 1, none⟩ a1
theorem set2_blk {w : World} {g : Nat} {t : TypeId} {b0 b1 : Value} (h : Blk w g t [b0, b1]) (a0 a1 : Value) : Blk (set2 w g a0 a1) g t [a0, a1] := by
  have := (h.set_ 0 a0).set_ 1 a1
  simp only [List.set_cons_zero, List.set_cons_succ] at this
  exact this
theorem set2_mod (w : World) (g : Nat) (a0 a1 : Value) : Mod (fun k => k = g) w (set2 w g a0 a1) :=
  ((Mod.refl (fun k => k = g) w).setCell (p := ⟨g, 0, none⟩) (fun _ => rfl) a0).setCell (p := ⟨g, 1, none⟩) (fun _ => rfl) a1
def lenOf : Value → Nat
  | .slice _ n _ => n
  | _ => 0
theorem unitsOwn {w : World} {lo hi : Nat} {F0 F1 : List Nat} {v0 v1 : Value} {x : UnitsT} (o0 : Own dUnit 44 w F0 v0 x.1) (o1 : Own Ty.byte 5 w F1 v1 x.2) (hd : ∀ k, k ∈ F0 → k ∉ F1) (hF : ∀ k, k ∈ F0 ++ F1 → lo ≤ k ∧ k < hi) : OwV true dUnits w lo hi (.agg #[v0, v1]) x :=
  ⟨_, _, rfl, mUnits o0 o1 hd, fun k hk => hF k (by simpa using hk)⟩
set_option maxHeartbeats 4000000 in
set_option maxRecDepth 100000 in
theorem cutS_v {w : World} {v : Value} {b : Bytes} (lit : Bool) (h : RdV false dBS w v b) (hl : b.length ≤ 1048576) : Calls Try.prog 12 #[.bool lit, v] w (RetV true dUnits w (cutsL lit b)) := by
  obtain ⟨A, c, rfl, hc, hcm, hr⟩ := h.slice3
  have HR := Sec.mk hr
  generalize hres : cutsL lit b = res at *
  have HB2 := Sec.mk ((Blk.new w 35 [.slice none 0 0, .slice none 0 0]).alloc (.cells #[.slice none 0 0, .slice none 0 0] 35))
  have HBO : Sec (Blk ((w.alloc (.cells #[.slice none 0 0, .slice none 0 0] 35)).alloc (.cells #[.slice none 0 0, .slice none 0 0] 35)) (w.heap.size + 1) 35 [.slice none 0 0, .slice none 0 0]) := ⟨by have := Blk.new (w.alloc (.cells #[.slice none 0 0, .slice none 0 0] 35)) 35 [.slice none 0 0, .slice none 0 0]; simpa using this⟩
  have HM : Sec (New w ((w.alloc (.cells #[.slice none 0 0, .slice none 0 0] 35)).alloc (.cells #[.slice none 0 0, .slice none 0 0] 35))) := ⟨((Mod.refl _ _).alloc _).alloc _⟩
  have hsz : w.heap.size + 2 ≤ ((w.alloc (.cells #[.slice none 0 0, .slice none 0 0] 35)).alloc (.cells #[.slice none 0 0, .slice none 0 0] 35)).heap.size := by simp
  have HE0 := Sec.mk hres
  clear h hr hres
  go_enter Try.func12, Try.ntmps12
  go_upto_region 2 with (fail)
  generalize ((w.alloc (.cells #[.slice none 0 0, .slice none 0 0] 35)).alloc (.cells #[.slice none 0 0, .slice none 0 0] 35)) = wz at *
  go_wp2
  go_loopw [6] (fun s wr => ∃ (r : Bytes) (A' : Option Addr) (c' : Nat) (us : UnitST) (Au : Option Addr) (cu : Nat) (F : List Nat), s = .slice A' r.length c' ∧ r.length ≤ c' ∧ c' ≤ 9223372036854775807 ∧ r.length ≤ 1048576 ∧ us.length ≤ 1048576 - r.length ∧ Sec (Row Ty.byte wr (· < w.heap.size) A' r.length r) ∧ Sec (res = (us ++ (cutsL lit r).1, (cutsL lit r).2)) ∧ Sec (Blk wr (w.heap.size + 1) 35 [.slice Au us.length cu, .slice none 0 0]) ∧ Sec (Own dUnit 44 wr F (.slice Au us.length cu) us) ∧ Sec (∀ k, k ∈ F → w.heap.size + 2 ≤ k) ∧ Sec (Blk wr w.heap.size 35 [.slice none 0 0, .slice none 0 0]) ∧ Sec (New w wr)) (fun s _ => lenOf s)
  case atStart => exact ⟨b, A, c, [], none, 0, [], rfl, hc, hcm, hl, by simp, ⟨HR.out.mod (fun _ h => h) (fun k hk => HM.out.block k hk id)⟩, ⟨by rw [← HE0.out]; simp⟩, HBO, ⟨Own.nil _ _ _⟩, ⟨fun k hk => by cases hk⟩, HB2, HM⟩
  case round =>
    clear HR HE0 HB2 HBO HM
    obtain ⟨r, A', c', us, Au, cu, F, rfl, hrc, hcm', hrl, hul, HRr, HER, HBO, HOU, HF, HBR, HMr⟩ := hrel
    have HOC := Sec.mk (oneC_le lit r)
    have HST : Sec ((oneC lit r).2 = 0 → res = (us ++ [], r)) := ⟨fun h => by rw [HER.out, cutsL_stop h]⟩
    have HSP : Sec ((oneC lit r).2 ≠ 0 → res = ((us ++ [(oneC lit r).1]) ++ (cutsL lit (r.drop (oneC lit r).2)).1, (cutsL lit (r.drop (oneC lit r).2)).2)) := ⟨fun h => by rw [HER.out, cutsL_step h]; simp⟩
    have hwr : w.heap.size + 1 < wr.heap.size := HBO.out.lt
    go_wp2_with fail
    refine (l6One_v lit HRr.out (fun k hk => by omega) (by omega) hrc hcm').mono ?_
    generalize oneC lit r = un at *
    obtain ⟨u, n⟩ := un
    simp only at HOC HST HSP
    rintro e w5 ⟨vu, rfl, hou, hm5⟩
    obtain ⟨a0, q0, a1, q1, rfl⟩ := cellsUnit hou.rd
    obtain ⟨csu, Fu, ecs, hMu, hFu⟩ := hou
    obtain rfl : csu = [.slice a0 u.1.length q0, .slice a1 u.2.1.length q1, .bool u.2.2.1, .bool u.2.2.2] := by
      have : csu.toArray = #[.slice a0 u.1.length q0, .slice a1 u.2.1.length q1, .bool u.2.2.1, .bool u.2.2.2] := by injection ecs with h; exact h.symm
      simpa using congrArg Array.toList this
    have hm6 := hm5.alloc (.cells #[.slice a0 u.1.length q0, .slice a1 u.2.1.length q1, .bool u.2.2.1, .bool u.2.2.2] 44)
    have HBU := Sec.mk (Blk.new w5 44 [.slice a0 u.1.length q0, .slice a1 u.2.1.length q1, .bool u.2.2.1, .bool u.2.2.2])
    have HRr6 := Sec.mk (HRr.out.mod (w' := w5.alloc (.cells #[.slice a0 u.1.length q0, .slice a1 u.2.1.length q1, .bool u.2.2.1, .bool u.2.2.2] 44)) (fun _ h => h) (fun k hk => hm6.block k (by have : k < w.heap.size := hk; omega) id))
    have HBO6 := Sec.mk (HBO.out.mod hm6 id)
    have HOU6 := Sec.mk (HOU.out.keep hm6 (fun _ _ h => h))
    have HBR6 := Sec.mk (HBR.out.mod hm6 id)
    have HM6 := Sec.mk (HMr.out.transN hm6)
    have HMU6 := Sec.mk (dUnit.M_mod hMu (fun k hk => Below.heap_alloc _ _ _ (hFu k hk).2) (w' := w5.alloc (.cells #[.slice a0 u.1.length q0, .slice a1 u.2.1.length q1, .bool u.2.2.1, .bool u.2.2.2] 44)))
    have HFU := Sec.mk hFu
    have hs5 := hm5.size
    have hs6 : w5.heap.size < (w5.alloc (.cells #[.slice a0 u.1.length q0, .slice a1 u.2.1.length q1, .bool u.2.2.1, .bool u.2.2.2] 44)).heap.size := by simp
    have HLF : Sec (∀ k, k ∈ F → k < wr.heap.size) := ⟨HOU.out.lt⟩
    clear ecs hMu hFu hm5 hm6 HRr HBO HOU HBR HMr HER
    go_upto_region 4 with (fail)
    generalize (w5.alloc (.cells #[.slice a0 u.1.length q0, .slice a1 u.2.1.length q1, .bool u.2.2.1, .bool u.2.2.2] 44)) = w6 at *
    have hwo6 : w.heap.size + 1 < w6.heap.size := by omega
    have hwr6 : w.heap.size < w6.heap.size := by omega
    have oc0 : w6.cell? ⟨w.heap.size + 1, 0, none⟩ = some (.slice Au us.length cu) := HBO6.out.cell 0
    have of0 : w6.frozen? ⟨w.heap.size + 1, 0, none⟩ = false := HBO6.out.frozen 0
    have oc1 : w6.cell? ⟨w.heap.size + 1, 1, none⟩ = some (.slice none 0 0) := HBO6.out.cell 1
    have of1 : w6.frozen? ⟨w.heap.size + 1, 1, none⟩ = false := HBO6.out.frozen 1
    have rc0 : w6.cell? ⟨w.heap.size, 0, none⟩ = some (.slice none 0 0) := HBR6.out.cell 0
    have rf0 : w6.frozen? ⟨w.heap.size, 0, none⟩ = false := HBR6.out.frozen 0
    have rc1 : w6.cell? ⟨w.heap.size, 1, none⟩ = some (.slice none 0 0) := HBR6.out.cell 1
    have rf1 : w6.frozen? ⟨w.heap.size, 1, none⟩ = false := HBR6.out.frozen 1
    have uc0 : w6.cell? ⟨w5.heap.size, 0, none⟩ = some (.slice a0 u.1.length q0) := HBU.out.cell 0
    have uc1 : w6.cell? ⟨w5.heap.size, 1, none⟩ = some (.slice a1 u.2.1.length q1) := HBU.out.cell 1
    have uc2 : w6.cell? ⟨w5.heap.size, 2, none⟩ = some (.bool u.2.2.1) := HBU.out.cell 2
    have uc3 : w6.cell? ⟨w5.heap.size, 3, none⟩ = some (.bool u.2.2.2) := HBU.out.cell 3
    by_cases hn : n = 0
    · subst hn
      have HE := Sec.mk (HST.out rfl)
      go_wp2_with fail
      refine (l1BytesC_calls HRr6.out (fun k hk => by omega) hrl).mono ?_
      intro e2 w7 hret
      obtain ⟨A7, c7, rfl, hmine⟩ := hret.mine
      obtain ⟨⟨F7, ho7, hF7⟩, hn7⟩ := hmine
      have HO7 := Sec.mk ho7
      have HF7 := Sec.mk hF7
      have HBO7 := Sec.mk (HBO6.out.mod hn7 id)
      have HOU7 := Sec.mk (HOU6.out.keep hn7 (fun _ _ h => h))
      have HBR7 := Sec.mk (HBR6.out.mod hn7 id)
      have HM7 := Sec.mk (HM6.out.transN hn7)
      have hs7 := hn7.size
      clear hret ho7 hF7 hn7 oc0 oc1 of0 of1 rc0 rc1 rf0 rf1 uc0 uc1 uc2 uc3
      have hwo7 : w.heap.size + 1 < w7.heap.size := by omega
      have hwr7 : w.heap.size < w7.heap.size := by omega
      have oc0 : w7.cell? ⟨w.heap.size + 1, 0, none⟩ = some (.slice Au us.length cu) := HBO7.out.cell 0
      have of0 : w7.frozen? ⟨w.heap.size + 1, 0, none⟩ = false := HBO7.out.frozen 0
      have oc1 : w7.cell? ⟨w.heap.size + 1, 1, none⟩ = some (.slice none 0 0) := HBO7.out.cell 1
      have of1 : w7.frozen? ⟨w.heap.size + 1, 1, none⟩ = false := HBO7.out.frozen 1
      have hm8 : Mod (fun k => k = w.heap.size + 1) w7 (w7.setCell ⟨w.heap.size + 1, 1, none⟩ (.slice A7 r.length c7)) := (Mod.refl (fun k => k = w.heap.size + 1) w7).setCell (p := ⟨w.heap.size + 1, 1, none⟩) (fun _ => rfl) _
      have HBO8 := Sec.mk (HBO7.out.set_ 1 (.slice A7 r.length c7))
      simp only [List.set_cons_zero, List.set_cons_succ] at HBO8
      have HOU8 := Sec.mk (HOU7.out.keep hm8 (fun k hk e => by have := HF.out k hk; omega))
      have HO8 := Sec.mk (HO7.out.keep hm8 (fun k hk e => by have := HF7.out k hk; omega))
      have HBR8 := Sec.mk (HBR7.out.mod hm8 (by omega))
      have HM8 := Sec.mk (HM7.out.trans hm8 (fun i hi hlt => by omega))
      have hs8 := hm8.size
      have hl8 := HO8.out.lt
      clear hm8
      go_upto_region 6 with (fail)
      generalize w7.setCell ⟨w.heap.size + 1, 1, none⟩ (.slice A7 r.length c7) = w8 at *
      clear oc0 oc1 of0 of1
      have hwo8 : w.heap.size + 1 < w8.heap.size := by omega
      have hwr8 : w.heap.size < w8.heap.size := by omega
      have oc0 : w8.cell? ⟨w.heap.size + 1, 0, none⟩ = some (.slice Au us.length cu) := HBO8.out.cell 0
      have of0 : w8.frozen? ⟨w.heap.size + 1, 0, none⟩ = false := HBO8.out.frozen 0
      have oc1 : w8.cell? ⟨w.heap.size + 1, 1, none⟩ = some (.slice A7 r.length c7) := HBO8.out.cell 1
      have of1 : w8.frozen? ⟨w.heap.size + 1, 1, none⟩ = false := HBO8.out.frozen 1
      have rc0 : w8.cell? ⟨w.heap.size, 0, none⟩ = some (.slice none 0 0) := HBR8.out.cell 0
      have rf0 : w8.frozen? ⟨w.heap.size, 0, none⟩ = false := HBR8.out.frozen 0
      have rc1 : w8.cell? ⟨w.heap.size, 1, none⟩ = some (.slice none 0 0) := HBR8.out.cell 1
      have rf1 : w8.frozen? ⟨w.heap.size, 1, none⟩ = false := HBR8.out.frozen 1
      have HFB := Sec.mk (set2_blk HBR8.out (.slice Au us.length cu) (.slice A7 r.length c7))
      have HFM := Sec.mk (set2_mod w8 w.heap.size (.slice Au us.length cu) (.slice A7 r.length c7))
      have HX0 := Sec.mk (HOU8.out.keep HFM.out (fun k hk e => by have := HF.out k hk; omega))
      have HX1 := Sec.mk (HO8.out.keep HFM.out (fun k hk e => by have := HF7.out k hk; omega))
      have HMG := Sec.mk ((HM8.out.mono (T := fun k => w.heap.size ≤ k) (fun i hlt h => h.elim)).trans HFM.out (fun i hi hlt => by omega))
      have hsf := HFM.out.size
      go_wp2
      refine bodyPost_ret (results_blk rfl rfl HFB.out Try.underlying35 (by kernel_rfl)) rfl ?_
      rw [HE.out]
      refine ⟨_, rfl, unitsOwn (lo := w.heap.size) (x := (us ++ [], r)) (by rw [List.append_nil]; exact HX0.out) HX1.out (fun k hk h => ?_) (fun k hk => ?_), HMG.out.mono (fun i hlt h => by omega)⟩
      · have h1 := HF7.out k h
        have h2 := HLF.out k hk
        omega
      · rcases List.mem_append.1 hk with hk | hk
        · have h1 := HF.out k hk
          have h2 := HLF.out k hk
          exact ⟨by omega, Nat.lt_of_lt_of_le (by omega) hsf⟩
        · have h1 := HF7.out k hk
          have h2 := hl8 k hk
          exact ⟨by omega, Nat.lt_of_lt_of_le h2 hsf⟩
    have HE := Sec.mk (HSP.out hn)
    have hn2 := HOC.out.2 hn
    have hnr := HOC.out.1
    have hnb : ((n : Int) == 0) = false := by simp only [beq_eq_false_iff_ne, ne_eq]; omega
    have hni : (n : Int) ≤ (r.length : Int) := by omega
    clear HSP HST HOC
    have hma : New w6 (w6.alloc (.cells #[.slice a0 u.1.length q0, .slice a1 u.2.1.length q1, .bool u.2.2.1, .bool u.2.2.2] 44)) := (Mod.refl _ _).alloc _
    have HMA := Sec.mk (dUnit.M_mod HMU6.out (fun k hk => hma.block k (by have := (HFU.out k hk).2; omega) id))
    have HOA := Sec.mk (HOU6.out.keep hma (fun _ _ h => h))
    have HLA := Sec.mk (lit_cells w6 44 [.slice a0 u.1.length q0, .slice a1 u.2.1.length q1, .bool u.2.2.1, .bool u.2.2.2] rfl)
    have HBOA := Sec.mk (HBO6.out.mod hma id)
    have HBRA := Sec.mk (HBR6.out.mod hma id)
    have HMMA := Sec.mk (HM6.out.transN hma)
    have HRA := Sec.mk (HRr6.out.mod (w' := w6.alloc (.cells #[.slice a0 u.1.length q0, .slice a1 u.2.1.length q1, .bool u.2.2.1, .bool u.2.2.2] 44)) (fun _ h => h) (fun k hk => hma.block k (by have : k < w.heap.size := hk; omega) id))
    have hsa : w6.heap.size < (w6.alloc (.cells #[.slice a0 u.1.length q0, .slice a1 u.2.1.length q1, .bool u.2.2.1, .bool u.2.2.2] 44)).heap.size := by simp
    have hlu : us.length + 1 ≤ 34359738368 := by omega
    clear hma
    go_upto_region 8 with (at_builtin; go_loud (refine wpList_append _ rfl (.tmp 23) (.tmp 25) _ rfl dUnit 44 Try.underlying33 eltUnit rfl HOA.out rfl (Elems.one HMA.out) rfl (fun _ => HLA.out) (by simpa using dUnit.M_nd HMA.out) (fun k hk h => by have h1 := HFU.out k (by simpa using hk); have h2 := HLF.out k h; omega) hlu ?_; intro A7 n7 c7 w7 F7 ho7 hn7 hm7 hF7; obtain rfl : n7 = us.length + 1 := (by simpa using hn7); have HO7 := Sec.mk ho7; have HF7 : Sec (∀ k, k ∈ F7 → w.heap.size + 2 ≤ k) := ⟨fun k hk => by (rcases hF7 k hk with h | h | h); exact HF.out k h; have := HFU.out k (by simpa using h); omega; omega⟩; have HBO7 := Sec.mk (HBOA.out.mod hm7 (fun h => by have := HF.out _ (HOA.out.own_mem _ h); omega)); have HBR7 := Sec.mk (HBRA.out.mod hm7 (fun h => by have := HF.out _ (HOA.out.own_mem _ h); omega)); have HM7 := Sec.mk (HMMA.out.trans hm7 (fun i hi hlt => by have := HF.out i (HOA.out.own_mem i hi); omega)); have HR7 := Sec.mk (HRA.out.mod (w' := w7) (fun _ h => h) (fun k hk => hm7.block k (by have : k < w.heap.size := hk; omega) (fun h => by have h1 := HF.out _ (HOA.out.own_mem _ h); have : k < w.heap.size := hk; omega))); have hs7 := hm7.size; clear ho7 hF7 hm7 hn7; have o7 : w7.cell? ⟨w.heap.size + 1, 0, none⟩ = some (.slice Au us.length cu) := HBO7.out.cell 0; have of7 : w7.frozen? ⟨w.heap.size + 1, 0, none⟩ = false := HBO7.out.frozen 0; have hwo7 : w.heap.size + 1 < w7.heap.size := (by omega)))
    have hm8 : Mod (fun k => k = w.heap.size + 1) w7 (w7.setCell ⟨w.heap.size + 1, 0, none⟩ (.slice A7 (us.length + 1) c7)) := (Mod.refl (fun k => k = w.heap.size + 1) w7).setCell (p := ⟨w.heap.size + 1, 0, none⟩) (fun _ => rfl) _
    have HBO8 := Sec.mk (HBO7.out.set_ 0 (.slice A7 (us.length + 1) c7))
    simp only [List.set_cons_zero] at HBO8
    have HO8 := Sec.mk (HO7.out.keep hm8 (fun k hk e => by have := HF7.out k hk; omega))
    have HBR8 := Sec.mk (HBR7.out.mod hm8 (by omega))
    have HM8 := Sec.mk (HM7.out.trans hm8 (fun i hi hlt => by omega))
    have HR8 := Sec.mk (HR7.out.mod (w' := w7.setCell ⟨w.heap.size + 1, 0, none⟩ (.slice A7 (us.length + 1) c7)) (fun _ h => h) (fun k hk => hm8.block k (by have : k < w.heap.size := hk; omega) (by have : k < w.heap.size := hk; omega)))
    clear hm8
    generalize w7.setCell ⟨w.heap.size + 1, 0, none⟩ (.slice A7 (us.length + 1) c7) = w8 at *
    clear oc0 oc1 of0 of1 rc0 rc1 rf0 rf1 uc0 uc1 uc2 uc3 o7 of7
    have hcut := HR8.out.cut (k := n) (m := r.length) (cap := c') hnr (Nat.le_refl _) hrc
    rw [List.take_length] at hcut
    have HCUT := Sec.mk hcut
    clear hcut
    have hdl : (r.drop n).length = r.length - n := by rw [List.length_drop]
    have hr0 : 0 < r.length := by omega
    obtain ⟨ad, rfl, -⟩ := HR8.out.byte_at (w' := w8) (fun _ _ => rfl) (k := 0) hr0
    have hn0 : n ≠ 0 := hn
    by_cases hcn : c' = n
    · rw [if_pos hcn] at HCUT
      subst hcn
      go_wp2
      go_roundw
      case rel => exact ⟨r.drop c', some ad, 0, us ++ [u], A7, c7, F7, by rw [hdl] <;> first | rfl | (simp; omega), by rw [hdl]; omega, by omega, by rw [hdl]; omega, by rw [hdl]; simp; omega, ⟨by rw [hdl]; exact HCUT.out⟩, HE, ⟨by have := HBO8.out; simpa using this⟩, ⟨by have := HO8.out; simpa using this⟩, HF7, HBR8, ⟨HM8.out⟩⟩
      case measure => simp [lenOf]; omega
    · rw [if_neg hcn] at HCUT
      go_wp2
      go_roundw
      case rel => exact ⟨r.drop n, some (ad.add n), c' - n, us ++ [u], A7, c7, F7, by rw [hdl] <;> first | rfl | simp [Addr.add, hn0], by rw [hdl]; omega, by omega, by rw [hdl]; omega, by rw [hdl]; simp; omega, ⟨by rw [hdl]; have := HCUT.out; simpa [show Ty.byte.sz = 1 from rfl] using this⟩, HE, ⟨by have := HBO8.out; simpa using this⟩, ⟨by have := HO8.out; simpa using this⟩, HF7, HBR8, ⟨HM8.out⟩⟩
      case measure => simp [lenOf]; omega
end Go.Proofs.Ytciiejkfppnimaa

namespace Go.Proofs.Ytciiejkfppnimaa
open Go.RowKit Mem
set_option linter.unusedVariables false
set_option linter.unusedSimpArgs false
theorem suffix_brace (line : Bytes) : Lib.hasSuffix line [125] = decide (line[line.length - 1]? = some 125) := by
  unfold Lib.hasSuffix
  rw [Bool.eq_iff_iff, decide_eq_true_eq, List.isSuffixOf_iff_suffix]
  constructor
  · rintro ⟨t, rfl⟩
    simp
  · intro h
    have hl : line.length - 1 < line.length := (List.getElem?_eq_some_iff.1 h).1
    refine ⟨line.take (line.length - 1), ?_⟩
    have h1 := List.take_succ_eq_append_getElem hl
    rw [show line.length - 1 + 1 = line.length by omega, List.take_length] at h1
    have h2 := (List.getElem?_eq_some_iff.1 h).2
    rw [h2] at h1
    exact h1.symm
def RetLit (line : Bytes) (w : World) (e : Ending) (w' : World) : Prop := ∃ (p n : Int) (ok : Bool), e = .returned (.tuple #[.int .i64 p, .int .i64 n, .bool ok]) ∧ New w w' ∧ ((ok = false ∧ litL line = none) ∨ (ok = true ∧ ∃ p' n' : Nat, litL line = some (p', n') ∧ p = (p' : Int) ∧ n = (n' : Int)))
set_option maxHeartbeats 1000000 in
set_option maxRecDepth 100000 in
theorem literal_calls (line : Bytes) (hl : line.length ≤ 1048576) (w : World) : Calls Try.prog 34 #[.string ⟨line.toArray⟩] w (RetLit line w) := by
  have hsz : (⟨line.toArray⟩ : ByteArray).size = line.length := by simp [ByteArray.size]
  have HLB : Sec (Lib.lastIndexByte ⟨line.toArray⟩ 123 = (match lastI line line.length with | none => -1 | some p => (p : Int))) := ⟨by unfold Lib.lastIndexByte; rw [hsz]; exact lastI_lib line _ (Nat.le_refl _)⟩
  cases hla : lastI line line.length with
  | none =>
    rw [hla] at HLB
    have HN := Sec.mk (lit_none hla)
    go_enter Try.func34, Try.ntmps34
    go_wp2_with fail
    refine (Try.strings_LastIndexByte _ 123 (by rw [hsz]; omega) w).mono ?_
    rw [HLB.out]
    rintro e w2 ⟨rfl, rfl⟩
    go_wp2
    go_ret3
    exact ⟨_, _, _, rfl, Mod.refl _ _, .inl ⟨rfl, HN.out⟩⟩
  | some p =>
    rw [hla] at HLB
    obtain ⟨hp, hx⟩ := lastI_lt line _ p hla
    have HLS : Sec (line[line.length - 1]? = some 125 → litL line = if (decL 9 (wordL line p)).2 = true then some (p, (decL 9 (wordL line p)).1) else none) := ⟨fun h => lit_some hla h⟩
    have HSF := Sec.mk (suffix_brace line)
    have HX := Sec.mk hx
    clear hla hx
    have HLB' : Sec (Lib.lastIndexByte ⟨line.toArray⟩ 123 = (p : Int)) := ⟨HLB.out⟩
    clear HLB
    by_cases hlast : line[line.length - 1]? = some 125
    rotate_left
    · have HN := Sec.mk (lit_last hlast)
      have HF : Sec (Lib.hasSuffix (⟨line.toArray⟩ : ByteArray).data.toList (⟨#[125]⟩ : ByteArray).data.toList = false) := ⟨by rw [show (⟨line.toArray⟩ : ByteArray).data.toList = line by simp]; exact HSF.out.trans (decide_eq_false hlast)⟩
      clear hlast
      go_enter Try.func34, Try.ntmps34
      go_wp2_with fail
      refine (Try.strings_LastIndexByte _ 123 (by rw [hsz]; omega) w).mono ?_
      rw [HLB'.out]
      rintro e w2 ⟨rfl, rfl⟩
      go_wp2_with fail
      refine (Try.strings_HasSuffix _ _ _ (by rw [hsz]; omega)).mono ?_
      rw [HF.out]
      rintro e w3 ⟨rfl, rfl⟩
      go_wp2
      go_ret3
      exact ⟨_, _, _, rfl, Mod.refl _ _, .inl ⟨rfl, HN.out⟩⟩
    have HF : Sec (Lib.hasSuffix (⟨line.toArray⟩ : ByteArray).data.toList (⟨#[125]⟩ : ByteArray).data.toList = true) := ⟨by rw [show (⟨line.toArray⟩ : ByteArray).data.toList = line by simp]; exact HSF.out.trans (decide_eq_true hlast)⟩
    have HS := Sec.mk (HLS.out hlast)
    have hpn : p + 1 ≤ line.length - 1 := by
      rcases Nat.lt_or_ge (p + 1) line.length with h | h
      · omega
      · exfalso
        have e : p = line.length - 1 := by omega
        have h2 := HX.out
        rw [e, hlast] at h2
        cases h2
    have hwl := word_len line p
    have hpt : ((p : Int) + 1).toNat = p + 1 := by omega
    have hlt2 : ((line.length : Int) - 1).toNat = line.length - 1 := by omega
    have hle2 : (p : Int) + 1 ≤ (line.length : Int) - 1 := by omega
    have HW : Sec ((⟨line.toArray⟩ : ByteArray).extract (p + 1) (line.length - 1) = ⟨(wordL line p).toArray⟩) := ⟨by rw [ba_ext]; rfl⟩
    have hw9 : (wordL line p).length ≤ 34359738368 := by omega
    clear hlast HLS HSF
    generalize wordL line p = wd at *
    go_enter Try.func34, Try.ntmps34
    go_wp2_with fail
    refine (Try.strings_LastIndexByte _ 123 (by rw [hsz]; omega) w).mono ?_
    rw [HLB'.out]
    rintro e w2 ⟨rfl, rfl⟩
    go_wp2_with fail
    refine (Try.strings_HasSuffix _ _ _ (by rw [hsz]; omega)).mono ?_
    rw [HF.out]
    rintro e w3 ⟨rfl, rfl⟩
    go_wp2_with fail
    rw [HW.out]
    refine (decimal_calls 9 (by omega) wd hw9 _).mono ?_
    rintro e w4 ⟨rfl, hm4⟩
    have HM4 := Sec.mk hm4
    clear hm4
    have hcase : ((decL 9 wd).2 = false ∧ litL line = none) ∨ ((decL 9 wd).2 = true ∧ litL line = some (p, (decL 9 wd).1)) := by
      cases hd : (decL 9 wd).2
      · exact .inl ⟨rfl, by rw [HS.out, if_neg (by rw [hd]; decide)]⟩
      · exact .inr ⟨rfl, by rw [HS.out, if_pos hd]⟩
    have HC := Sec.mk hcase
    clear hcase
    generalize decL 9 wd = dn at *
    go_wp2
    go_ret3
    refine ⟨_, _, _, rfl, HM4.out, ?_⟩
    rcases HC.out with ⟨h1, h2⟩ | ⟨h1, h2⟩
    · exact .inl ⟨h1, h2⟩
    · exact .inr ⟨h1, p, dn.1, h2, rfl, rfl⟩
theorem bytesOf_map (b : Bytes) : Lib.bytesOf (b.map fun x => (x.toNat : Int)) = b := by
  unfold Lib.bytesOf
  rw [List.map_map]
  have : ((fun n : Int => UInt8.ofNat n.toNat) ∘ fun x : UInt8 => (x.toNat : Int)) = id := by
    funext x
    simp
  rw [this, List.map_id]
theorem index_calls {A : Option Addr} {n c : Nat} {b : Bytes} {B : Nat → Prop} {w : World} (h : Row Ty.byte w B A n b) (hc : n ≤ c) (hl : n ≤ 1048576) {g : Nat} {m : Int} (hb0 : w.cell? ⟨g, 0, none⟩ = some (.int .u8 13)) (hb1 : w.cell? ⟨g, 1, none⟩ = some (.int .u8 10)) (hm : w.cell? ⟨0, 0, none⟩ = some (.int .i64 m)) :
    Calls Try.prog 33 #[.slice A n c, .slice (some ⟨g, 0, none⟩) 2 2] w (fun e w' => e = .returned (.int .i64 (endI b)) ∧ New w w') := by
  obtain rfl := h.1
  by_cases h2 : b.length < 2
  · refine (Try.bytes_Index_longer A (some ⟨g, 0, none⟩) b.length c 2 2 w (by decide) h2 (by decide)).mono ?_
    rintro e w' ⟨rfl, rfl⟩
    refine ⟨?_, Mod.refl _ _⟩
    rcases endI_spec b with ⟨he, -⟩ | ⟨i, -, hi, -⟩
    · rw [he]
    · omega
  · obtain ⟨ad, rfl, -⟩ := h.byte_at (w' := w) (fun _ _ => rfl) (k := 0) (by omega)
    have hidx := Try.bytes_Index_at ad ⟨g, 0, none⟩ b.length c 2 2 (b.map fun x => (x.toNat : Int)) [13, 10] m w (by simp) rfl (fun x hx => by
        obtain ⟨y, -, rfl⟩ := List.mem_map.1 hx
        have := UInt8.toNat_lt y
        omega) (by simp) (fun i hi => by
        obtain ⟨ad', e', hcell⟩ := h.byte_at (w' := w) (fun _ _ => rfl) (k := i) hi
        obtain rfl : ad = ad' := Option.some.inj e'
        rw [hcell]
        simp [hi]) (fun i hi => by
        rw [add_own]
        match i, hi with
        | 0, _ => exact hb0
        | 1, _ => exact hb1) hc (by omega) (by decide) hm
    refine hidx.mono ?_
    rintro e w' ⟨rfl, q, rfl⟩
    refine ⟨?_, (Mod.refl _ _).drewN q⟩
    rw [bytesOf_map]
    rfl
end Go.Proofs.Ytciiejkfppnimaa

namespace Go.Proofs.Ytciiejkfppnimaa.Mem
open Go.RowKit
set_option linter.unusedVariables false
section
variable {P : Program} {md : Region.Mode} {ops : Array Oper} {T : World → Prop} {L : List Nat} {Q : Exit → Act → World → Prop} {o : Oper} {a : Act} {w : World} {v : Value}
theorem reg_step2 {i j : Nat} {d d' : Option Nat} {op op' : Op} {ty ty' : TypeId} {pos pos' : String} {af af' : Array Edge} {fuel : Nat} {ls : Array Bool} (hi : ops[i]? = some ⟨d, op, ty, pos, af, none⟩) (hj : ops[j]? = some ⟨d', op', ty', pos', af', none⟩) (hr : Region.ready md ops ls = [i, j])
    (h1 : ∀ K : Act → World → Prop, Shut (∀ a w, (i ∉ L → T w) → RegR P md ops Q L T fuel (ls.setIfInBounds i true) a w → K a w) → Oper.wp P ⟨d, op, ty, pos, af, none⟩ a w K Q)
    (h2 : ∀ K : Act → World → Prop, Shut (∀ a w, (j ∉ L → T w) → RegR P md ops Q L T fuel (ls.setIfInBounds j true) a w → K a w) → Oper.wp P ⟨d', op', ty', pos', af', none⟩ a w K Q) : RegR P md ops Q L T (fuel + 1) ls a w := by
  refine ⟨fun h0 => absurd (hr.symm.trans h0) (by simp), ?_⟩
  rw [hr]
  intro x hx
  rcases List.mem_cons.1 hx with rfl | hx
  · refine wpOp_step hi fun K' hK => ?_
    rw [if_pos (by simp [Region.wanted])]
    exact h1 K' fun a w h1 h2 => hK a w ⟨h1, h2⟩
  · obtain rfl := List.mem_singleton.1 hx
    refine wpOp_step hj fun K' hK => ?_
    rw [if_pos (by simp [Region.wanted])]
    exact h2 K' fun a w h1 h2 => hK a w ⟨h1, h2⟩
end
end Go.Proofs.Ytciiejkfppnimaa.Mem
