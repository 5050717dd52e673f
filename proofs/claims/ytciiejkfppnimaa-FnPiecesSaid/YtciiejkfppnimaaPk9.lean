/- All units of a stream, of the program. -/
import Derived.Test.YtciiejkfppnimaaPk8
namespace Go.Proofs.Ytciiejkfppnimaa
open Go.RowKit Mem
set_option linter.unusedVariables false
set_option linter.unusedSimpArgs false
def CutSt (g lo : Nat) (us : UnitST) (w : World) : Prop := ∃ Au cu F, Blk w g 35 [.slice Au us.length cu, .slice none 0 0] ∧ Own dUnit 44 w F (.slice Au us.length cu) us ∧ ∀ k, k ∈ F → lo ≤ k
theorem CutSt.keep {g lo : Nat} {us : UnitST} {w w' : World} (h : CutSt g lo us w) (hm : New w w') : CutSt g lo us w' := by
  obtain ⟨Au, cu, F, hB, hO, hF⟩ := h
  exact ⟨Au, cu, F, hB.mod hm id, hO.keep hm (fun _ _ h => h), hF⟩
def IntAt0 (w : World) : Prop := ∃ m, w.cell? ⟨0, 0, none⟩ = some (.int .i64 m)
theorem IntAt0.new {w w' : World} (h : IntAt0 w) (hm : New w w') : IntAt0 w' := by
  obtain ⟨m, h⟩ := h
  exact ⟨m, hm.cell_of h⟩
theorem zUnit (w : World) (x y : Bool) : dUnit.M w [] (([], [], x, y) : UnitT) [.slice none 0 0, .slice none 0 0, .bool x, .bool y] := mUnit (x := (([], [], x, y) : UnitT)) (F0 := []) (F1 := []) (.inl (Own.nil _ _ _)) (.inl (Own.nil _ _ _)) (fun k hk => by simp at hk)
set_option maxHeartbeats 1000000 in
set_option maxRecDepth 100000 in
theorem bad_v {g lo : Nat} {us : UnitST} {w : World} (h : CutSt g lo us w) (hg : g < lo) (hlo : lo ≤ w.heap.size) (hl : us.length ≤ 1048576) : Calls Try.prog 32 #[.pointer (some ⟨g, 0, none⟩)] w (fun e w' => e = .returned (.tuple #[]) ∧ CutSt g lo (us ++ [badU]) w' ∧ Mod (fun k => lo ≤ k ∨ k = g) w w') := by
  obtain ⟨Au, cu, F, hB, hO, hF⟩ := h
  have HB := Sec.mk hB
  have HF := Sec.mk hF
  have hgw := hB.lt
  have g0 : w.cell? ⟨g, 0, none⟩ = some (.slice Au us.length cu) := hB.cell 0
  have hma : New w (w.alloc (.cells #[.slice none 0 0, .slice none 0 0, .bool false, .bool true] 44)) := (Mod.refl _ _).alloc _
  have HOA := Sec.mk (hO.keep hma (fun _ _ h => h))
  have HBA := Sec.mk (HB.out.mod hma id)
  have HMA := Sec.mk hma
  have HLA := Sec.mk (lit_cells w 44 [.slice none 0 0, .slice none 0 0, .bool false, .bool true] rfl)
  have hlu : us.length + 1 ≤ 34359738368 := by omega
  clear hB hO hF hma
  go_enter Try.func32, Try.ntmps32
  go_wp2_with (at_builtin; go_loud (refine wpList_append _ rfl (.tmp 2) (.tmp 4) _ rfl dUnit 44 Try.underlying33 eltUnit rfl HOA.out rfl (Elems.one (zUnit _ false true)) rfl (fun _ => HLA.out) (by simp) (fun k hk => by simp at hk) hlu ?_; intro A7 n7 c7 w7 F7 ho7 hn7 hm7 hF7; obtain rfl : n7 = us.length + 1 := (by simpa using hn7); have HO7 := Sec.mk ho7; have HF7 : Sec (∀ k, k ∈ F7 → lo ≤ k) := ⟨fun k hk => by (rcases hF7 k hk with h | h | h); exact HF.out k h; simp at h; simp at h; omega⟩; have HB7 := Sec.mk (HBA.out.mod hm7 (fun h => by have := HF.out _ (HOA.out.own_mem _ h); omega)); have HM7 := Sec.mk (((HMA.out.mono (T := fun k => lo ≤ k ∨ k = g) (fun i _ h => h.elim))).trans hm7 (fun i hi hlt => Or.inl (HF.out i (HOA.out.own_mem i hi)))); have hs7 := hm7.size; simp at hs7; clear ho7 hF7 hm7 hn7; have o7 : w7.cell? ⟨g, 0, none⟩ = some (.slice Au us.length cu) := HB7.out.cell 0; have of7 : w7.frozen? ⟨g, 0, none⟩ = false := HB7.out.frozen 0; have hg7 : g < w7.heap.size := (by omega)))
  have hm8 : Mod (fun k => k = g) w7 (w7.setCell ⟨g, 0, none⟩ (.slice A7 (us.length + 1) c7)) := (Mod.refl (fun k => k = g) w7).setCell (p := ⟨g, 0, none⟩) (fun _ => rfl) _
  have HB8 := Sec.mk (HB7.out.set_ 0 (.slice A7 (us.length + 1) c7))
  simp only [List.set_cons_zero] at HB8
  have HO8 := Sec.mk (HO7.out.keep hm8 (fun k hk e => by have := HF7.out k hk; omega))
  have HM8 := Sec.mk (HM7.out.trans hm8 (fun i hi hlt => Or.inr hi))
  have hl8 : (us ++ [badU]).length = us.length + 1 := by simp
  go_end0
  exact ⟨rfl, ⟨A7, c7, F7, by rw [hl8]; exact HB8.out, by rw [hl8]; exact HO8.out, HF7.out⟩, HM8.out⟩
theorem body_eq (b : Bytes) (k m j : Nat) : ((b.drop k).take m).drop j = (b.take (k + m)).drop (k + j) := by
  rw [List.take_drop, List.drop_drop]
theorem slStr (s : Bytes) (p : Nat) (h : p ≤ s.length) (w : World) : (Instr.sliceAt 9 (.string ⟨s.toArray⟩) none (some (.int .i64 (p : Int))) none).run Try.prog w = .ok (.string ⟨(s.take p).toArray⟩) w := by
  have hsz : (⟨s.toArray⟩ : ByteArray).size = s.length := by simp [ByteArray.size]
  have h1 : (p : Int) ≤ (s.length : Int) := by omega
  have h0 : (0 : Int) ≤ (p : Int) := by omega
  have he := ba_ext s 0 p
  rw [List.drop_zero] at he
  go_simp
theorem fptUnits0 (p : Addr) (w : World) : (Instr.fieldAt 35 (.pointer (some p)) 0).run Try.prog w = .ok (.pointer (some p)) w := by go_simp
theorem ldUnitsD {w : World} {p : Addr} {v : Value} (h : w.cell? p = some v) : (Instr.loadAt 33 (.pointer (some p))).run Try.prog w = .ok v w := by go_simp
theorem stUnitsD {w : World} {p : Addr} {a : Value} (A : Option Addr) (n c : Nat) (h : w.cell? p = some a) (hf : w.frozen? p = false) : (Instr.storeAt 33 (.pointer (some p)) (.slice A n c)).run Try.prog w = .ok () (w.setCell p (.slice A n c)) := by go_simp
theorem bldBytes0C (w : World) : (Instr.buildSlice 22 0 #[]).run Try.prog w = .ok (.slice (some ⟨w.heap.size, 0, none⟩) 0 0) (w.alloc (.cells #[] 5)) := by go_simp
theorem bldUnit1 (A0 A1 : Option Addr) (n0 c0 n1 c1 : Nat) (w : World) : (Instr.buildSlice 33 1 #[(0, .agg #[.slice A0 n0 c0, .slice A1 n1 c1, .bool true, .bool false])]).run Try.prog w = .ok (.slice (some ⟨w.heap.size, 0, none⟩) 1 1) (w.alloc (.cells #[.slice A0 n0 c0, .slice A1 n1 c1, .bool true, .bool false] 44)) := by go_simp
theorem exec_convertW {P : Program} {o : Oper} {a : Act} {w w' : World} {v : Value} {src dst : TypeId} {x : Operand} (ho : o.op = .convert src dst x) {vx : Value} (hx : a.eval x = vx) (h : (convert src dst vx).run P w = .ok v w') : (execOp a.eval o).run P w = .ok (.value v) w' := by
  unfold execOp; simp only [ho, hx, Sem.run_bind, h, Result.andThen_ok, Sem.run_pure]
theorem wp_appF {P : Program} (w : World) {o : Oper} {a : Act} {K : Act → World → Prop} {Q : Exit → Act → World → Prop} (s x : Operand) (t : TypeId)
    (ho : o.op = .call { callee := .builtin .append, args := #[s, x], argTypes := #[t, t] })
    {α : Type} {d : Ty α} {e : TypeId} {z : Value} (ht : P.underlying t = some (.slice e)) (hE : Elt P e d.sz z) (hf : Flat d)
    {A A' : Option Addr} {n m c c' : Nat} {xs ys : List α} {B : Nat → Prop} {F : List Nat} (hs : a.eval s = .slice A n c) (hx : a.eval x = .slice A' m c') (hown : Own d e w F (.slice A n c) xs) (hy : Row d w B A' m ys)
    (hlen : xs.length + ys.length ≤ 34359738368)
    (h : ∀ A' n' c' w' F', Own d e w' F' (.slice A' n' c') (xs ++ ys) → (∀ k, k ∈ F' → k ∈ F ∨ w.heap.size ≤ k) → Mod (fun k => k ∈ F) w w' → K (a.put o.dst (.slice A' n' c')) w') : o.wp P a w K Q := by
  obtain ⟨news, hel, hA⟩ := hy.flat hf
  refine wp_append w s x t ho d e ht hE hs hown hx hel hy.1 hA (by rw [flat_nil]; exact List.nodup_nil) (by rw [flat_nil]; intro k hk; cases hk) (by have := hy.1; omega) ?_
  intro A2 n2 c2 w2 F2 ho3 hn2 hm2 hF2
  refine h _ _ _ _ F2 ho3 (fun k hk => ?_) (hm2.mono fun i _ hi => hown.own_mem i hi)
  rcases hF2 k hk with h1 | h1 | h1
  · exact .inl h1
  · rw [flat_nil] at h1; cases h1
  · exact .inr h1
theorem two_of (b : Bytes) (m : Nat) (h : m + 2 ≤ b.length) : (b.take (m + 2)).drop m = [b[m], b[m + 1]] := by
  rw [List.drop_take, show m + 2 - m = 2 by omega, List.drop_eq_getElem_cons (by omega), List.drop_eq_getElem_cons (by omega)]
  rfl
set_option maxHeartbeats 4000000 in
set_option maxRecDepth 100000 in
theorem cutI_v {w : World} {v : Value} {b : Bytes} (lit : Bool) (h : RdV false dBS w v b) (hl : b.length ≤ 1048576) (hE : IntAt0 w) : Calls Try.prog 14 #[.bool lit, v] w (RetV true dUnits w (cutsL lit b)) := by
  obtain ⟨A, c, rfl, hc, hcm, hr⟩ := h.slice3
  have HR0 := Sec.mk hr
  have HEV := Sec.mk hE
  generalize hres : cutsL lit b = res at *
  have HB2 := Sec.mk ((Blk.new w 35 [.slice none 0 0, .slice none 0 0]).alloc (.cells #[.slice none 0 0, .slice none 0 0] 35))
  have HBO : Blk ((w.alloc (.cells #[.slice none 0 0, .slice none 0 0] 35)).alloc (.cells #[.slice none 0 0, .slice none 0 0] 35)) (w.heap.size + 1) 35 [.slice none 0 0, .slice none 0 0] := by have := Blk.new (w.alloc (.cells #[.slice none 0 0, .slice none 0 0] 35)) 35 [.slice none 0 0, .slice none 0 0]; simpa using this
  have HST : Sec (CutSt (w.heap.size + 1) (w.heap.size + 2) [] ((w.alloc (.cells #[.slice none 0 0, .slice none 0 0] 35)).alloc (.cells #[.slice none 0 0, .slice none 0 0] 35))) := ⟨none, 0, [], HBO, Own.nil _ _ _, fun k hk => by cases hk⟩
  have HM : Sec (New w ((w.alloc (.cells #[.slice none 0 0, .slice none 0 0] 35)).alloc (.cells #[.slice none 0 0, .slice none 0 0] 35))) := ⟨((Mod.refl _ _).alloc _).alloc _⟩
  have HE0 := Sec.mk hres
  clear h hr hres HBO hE
  go_enter Try.func14, Try.ntmps14
  go_upto_region 2 with (fail)
  generalize ((w.alloc (.cells #[.slice none 0 0, .slice none 0 0] 35)).alloc (.cells #[.slice none 0 0, .slice none 0 0] 35)) = wz at *
  go_wp2
  go_loopw [7] (fun s wr => ∃ (k : Nat) (us : UnitST), s = .int .i64 (k : Int) ∧ k ≤ b.length ∧ us.length ≤ k ∧ Sec (res = (us ++ (cutsL lit (b.drop k)).1, (cutsL lit (b.drop k)).2)) ∧ Sec (CutSt (w.heap.size + 1) (w.heap.size + 2) us wr) ∧ Sec (Blk wr w.heap.size 35 [.slice none 0 0, .slice none 0 0]) ∧ Sec (New w wr)) (fun s _ => b.length - (intOf s).toNat)
  case atStart => exact ⟨0, [], rfl, Nat.zero_le _, Nat.le_refl _, ⟨by rw [← HE0.out]; simp⟩, HST, HB2, HM⟩
  case round =>
    clear HE0 HB2 HST HM
    obtain ⟨k, us, rfl, hk, hul, HER, HST, HBR, HMr⟩ := hrel
    have hki : (k : Int) ≤ (b.length : Int) := by omega
    have hkc : (k : Int) ≤ (c : Int) := by omega
    have HR := Sec.mk (HR0.out.mod (w' := wr) (fun _ h => h) (fun i hi => HMr.out.block i hi id))
    have HEVr := Sec.mk (HEV.out.new HMr.out)
    have hwr : w.heap.size < wr.heap.size := HBR.out.lt
    have hsz : w.heap.size + 2 ≤ wr.heap.size := by
      obtain ⟨Au, cu, F, hB, -, -⟩ := HST.out
      have := hB.lt
      omega
    have hma : New wr (wr.alloc (.cells #[.int .u8 13, .int .u8 10] 5 (2, 3))) := (Mod.refl _ _).alloc _
    have hcx := Lib.run_convert_bytes_const (P := Try.prog) wr 22 5 #[.int .u8 13, .int .u8 10] 2 2 Try.underlying22 Try.underlying5
    have HX0 : Sec ((wr.alloc (.cells #[.int .u8 13, .int .u8 10] 5 (2, 3))).cell? ⟨wr.heap.size, 0, none⟩ = some (.int .u8 13)) := ⟨(cell_of_row _ _ 0 _ _ (2, 3) (heap_alloc_new wr _)).trans rfl⟩
    have HX1 : Sec ((wr.alloc (.cells #[.int .u8 13, .int .u8 10] 5 (2, 3))).cell? ⟨wr.heap.size, 1, none⟩ = some (.int .u8 10)) := ⟨(cell_of_row _ _ 1 _ _ (2, 3) (heap_alloc_new wr _)).trans rfl⟩
    have HST1 := Sec.mk (HST.out.keep hma)
    have HBR1 := Sec.mk (HBR.out.mod hma id)
    have HM1 := Sec.mk (HMr.out.transN hma)
    have HR1 := Sec.mk (HR.out.mod (w' := wr.alloc (.cells #[.int .u8 13, .int .u8 10] 5 (2, 3))) (B' := (· < w.heap.size)) (fun _ h => h) (fun i hi => hma.block i (by have : i < w.heap.size := hi; omega) id))
    have HEV1 := Sec.mk (HEVr.out.new hma)
    have hs1 : wr.heap.size < (wr.alloc (.cells #[.int .u8 13, .int .u8 10] 5 (2, 3))).heap.size := by simp
    have HSTOP : Sec (endI (b.drop k) = -1 → res = (us ++ [], b.drop k)) := ⟨fun h => by rw [HER.out, cutsL_stop (by unfold oneC; rw [h]; rfl)]⟩
    obtain ⟨mx, hmx⟩ := HEV1.out
    have HMX := Sec.mk hmx
    clear hma hmx HST HBR HMr
    have hcut := HR1.out.cut (k := k) (m := b.length) (cap := c) hk (Nat.le_refl _) hc
    rw [List.take_length] at hcut
    have HCUT := Sec.mk hcut
    clear hcut
    have hdl : (b.drop k).length = b.length - k := by rw [List.length_drop]
    by_cases hck : c = k
    · rw [if_pos hck] at HCUT
      obtain rfl : k = b.length := by omega
      obtain rfl : c = b.length := hck
      have hd0 : b.drop b.length = [] := List.drop_length
      rw [hd0, Nat.sub_self] at HCUT
      rw [hd0] at HSTOP
      have hrl : ([] : Bytes).length ≤ 1048576 := by simp
      go_wp2_with fail
      generalize wr.alloc (.cells #[.int .u8 13, .int .u8 10] 5 (2, 3)) = w1 at *
      refine (index_calls HCUT.out (Nat.le_refl _) (by omega) HX0.out HX1.out HMX.out).mono ?_
      rw [show endI ([] : Bytes) = -1 from rfl]
      rintro e w2 ⟨rfl, hm2⟩
      have HST2 := Sec.mk (HST1.out.keep hm2)
      have HBR2 := Sec.mk (HBR1.out.mod hm2 id)
      have HM2 := Sec.mk (HM1.out.transN hm2)
      have HCUT2 := Sec.mk (HCUT.out.mod (w' := w2) (B' := (· < w.heap.size)) (fun _ h => h) (fun i hi => hm2.block i (by have : i < w.heap.size := hi; omega) id))
      have hs2 := hm2.size
      have HE := Sec.mk (HSTOP.out rfl)
      clear hm2
      obtain ⟨Au, cu, F, hBo, hOu, hFu⟩ := HST2.out
      have HBO2 := Sec.mk hBo
      have HOU2 := Sec.mk hOu
      have HF := Sec.mk hFu
      have hgo := hBo.lt
      clear hBo hOu hFu
      have hme : New w2 (w2.alloc (.cells #[] 5)) := (Mod.refl _ _).alloc _
      have HOE : Sec (Mine Ty.byte 5 w2 (w2.alloc (.cells #[] 5)) (.slice (some ⟨w2.heap.size, 0, none⟩) 0 0) []) := ⟨Mine.lit0 _ rfl (Mod.refl _ _)⟩
      have HRO := Sec.mk (HCUT2.out.mod (w' := w2.alloc (.cells #[] 5)) (B' := (· < w.heap.size)) (fun _ h => h) (fun i hi => hme.block i (by have : i < w.heap.size := hi; omega) id))
      have hlz : ([] : Bytes).length + ([] : Bytes).length ≤ 34359738368 := by (simp <;> omega)
      have HBOE := Sec.mk (HBO2.out.mod hme id)
      have HBRE := Sec.mk (HBR2.out.mod hme id)
      have HOUE := Sec.mk (HOU2.out.keep hme (fun _ _ h => h))
      have HME := Sec.mk (HM2.out.transN hme)
      have HLF : Sec (∀ i, i ∈ F → i < w2.heap.size) := ⟨HOU2.out.lt⟩
      clear hme
      go_upto_region 7 with (at_builtin; go_loud (refine wpList_app _ rfl (.tmp 25) (.tmp 28) _ rfl Try.underlying22 elt_byte flat_byte rfl rfl HOE.out HRO.out hlz ?_; intro A6 n6 c6 w6 ho6; have HN6 := Sec.mk ho6.new; have HO6 := Sec.mk ho6; clear ho6; have hs6 := HN6.out.size; have HB6 := Sec.mk (HBO2.out.mod HN6.out id); have hg6 := HB6.out.lt; have o6 : w6.cell? ⟨w.heap.size + 1, 1, none⟩ = some (.slice none 0 0) := HB6.out.cell 1; have of6 : w6.frozen? ⟨w.heap.size + 1, 1, none⟩ = false := HB6.out.frozen 1))
      have hm7 : Mod (fun k => k = w.heap.size + 1) w6 (w6.setCell ⟨w.heap.size + 1, 1, none⟩ (.slice A6 n6 c6)) := (Mod.refl (fun k => k = w.heap.size + 1) w6).setCell (p := ⟨w.heap.size + 1, 1, none⟩) (fun _ => rfl) _
      have HB7 := Sec.mk (HB6.out.set_ 1 (.slice A6 n6 c6))
      simp only [List.set_cons_zero, List.set_cons_succ] at HB7
      have HR7 := Sec.mk ((HBR2.out.mod HN6.out id).mod hm7 (by omega))
      have HM7 := Sec.mk ((HM2.out.transN HN6.out).trans hm7 (fun i hi hlt => by omega))
      obtain ⟨⟨F6, ho6, hF6⟩, -⟩ := HO6.out
      have HF6 := Sec.mk hF6
      have hl6 := ho6.lt
      have HX6 := Sec.mk (ho6.keep hm7 (fun i hi e => by have := HF6.out i hi; omega))
      have HX0 := Sec.mk ((HOU2.out.keep HN6.out (fun _ _ h => h)).keep hm7 (fun i hi e => by have := HF.out i hi; omega))
      have hs7 : w6.heap.size ≤ (w6.setCell ⟨w.heap.size + 1, 1, none⟩ (.slice A6 n6 c6)).heap.size := hm7.size
      have HL6 := Sec.mk hl6
      clear hm7 ho6 hF6 hl6 o6 of6
      generalize w6.setCell ⟨w.heap.size + 1, 1, none⟩ (.slice A6 n6 c6) = w7 at *
      have hg7 : w.heap.size + 1 < w7.heap.size := by omega
      have hr7 : w.heap.size < w7.heap.size := by omega
      have oc0 : w7.cell? ⟨w.heap.size + 1, 0, none⟩ = some (.slice Au us.length cu) := HB7.out.cell 0
      have of0 : w7.frozen? ⟨w.heap.size + 1, 0, none⟩ = false := HB7.out.frozen 0
      have oc1 : w7.cell? ⟨w.heap.size + 1, 1, none⟩ = some (.slice A6 n6 c6) := HB7.out.cell 1
      have of1 : w7.frozen? ⟨w.heap.size + 1, 1, none⟩ = false := HB7.out.frozen 1
      have rc0 : w7.cell? ⟨w.heap.size, 0, none⟩ = some (.slice none 0 0) := HR7.out.cell 0
      have rf0 : w7.frozen? ⟨w.heap.size, 0, none⟩ = false := HR7.out.frozen 0
      have rc1 : w7.cell? ⟨w.heap.size, 1, none⟩ = some (.slice none 0 0) := HR7.out.cell 1
      have rf1 : w7.frozen? ⟨w.heap.size, 1, none⟩ = false := HR7.out.frozen 1
      have HFB := Sec.mk (set2_blk HR7.out (.slice Au us.length cu) (.slice A6 n6 c6))
      have HFM := Sec.mk (set2_mod w7 w.heap.size (.slice Au us.length cu) (.slice A6 n6 c6))
      have HY0 := Sec.mk (HX0.out.keep HFM.out (fun i hi e => by have := HF.out i hi; omega))
      have HY6 := Sec.mk (HX6.out.keep HFM.out (fun i hi e => by have := HF6.out i hi; omega))
      have HMG := Sec.mk ((HM7.out.mono (T := fun k => w.heap.size ≤ k) (fun i hlt h => h.elim)).trans HFM.out (fun i hi hlt => by omega))
      have hsf := HFM.out.size
      go_wp2
      refine bodyPost_ret (results_blk rfl rfl HFB.out Try.underlying35 (by kernel_rfl)) rfl ?_
      rw [HE.out]
      refine ⟨_, rfl, unitsOwn (lo := w.heap.size) (x := (us ++ [], [])) (by rw [List.append_nil]; exact HY0.out) (by have := HY6.out; rw [List.nil_append] at this; exact this) (fun i hi h => ?_) (fun i hi => ?_), HMG.out.mono (fun i hlt h => by omega)⟩
      · have h1 := HF6.out i h
        have h2 := HLF.out i hi
        omega
      · rcases List.mem_append.1 hi with hi | hi
        · have h1 := HF.out i hi
          have h2 := HLF.out i hi
          exact ⟨by omega, Nat.lt_of_lt_of_le (by omega) hsf⟩
        · have h1 := HF6.out i hi
          have h2 := HL6.out i hi
          exact ⟨by omega, Nat.lt_of_lt_of_le (by omega) hsf⟩
    rw [if_neg hck] at HCUT
    cases A with
    | none =>
      have hb0 : b = [] := by
        rcases Nat.eq_zero_or_pos b.length with h | h
        · exact List.eq_nil_of_length_eq_zero h
        · obtain ⟨ad, e, -⟩ := HR0.out.byte_at (w' := w) (fun _ _ => rfl) (k := 0) h
          cases e
      subst hb0
      obtain rfl : k = 0 := by simpa using hk
      rw [show (([] : Bytes).drop 0) = [] from rfl] at HCUT HSTOP
      have hrl : ([] : Bytes).length ≤ 1048576 := by simp
      go_wp2_with fail
      generalize wr.alloc (.cells #[.int .u8 13, .int .u8 10] 5 (2, 3)) = w1 at *
      have HCUTn : Sec (Row Ty.byte w1 (· < w.heap.size) none 0 []) := ⟨Row.none_ _ _ _ _⟩
      refine (index_calls HCUTn.out (Nat.zero_le c) (by omega) HX0.out HX1.out HMX.out).mono ?_
      rw [show endI ([] : Bytes) = -1 from rfl]
      rintro e w2 ⟨rfl, hm2⟩
      have HCUT := HCUTn
      have HST2 := Sec.mk (HST1.out.keep hm2)
      have HBR2 := Sec.mk (HBR1.out.mod hm2 id)
      have HM2 := Sec.mk (HM1.out.transN hm2)
      have HCUT2 := Sec.mk (HCUT.out.mod (w' := w2) (B' := (· < w.heap.size)) (fun _ h => h) (fun i hi => hm2.block i (by have : i < w.heap.size := hi; omega) id))
      have hs2 := hm2.size
      have HE := Sec.mk (HSTOP.out rfl)
      clear hm2
      obtain ⟨Au, cu, F, hBo, hOu, hFu⟩ := HST2.out
      have HBO2 := Sec.mk hBo
      have HOU2 := Sec.mk hOu
      have HF := Sec.mk hFu
      have hgo := hBo.lt
      clear hBo hOu hFu
      have hme : New w2 (w2.alloc (.cells #[] 5)) := (Mod.refl _ _).alloc _
      have HOE : Sec (Mine Ty.byte 5 w2 (w2.alloc (.cells #[] 5)) (.slice (some ⟨w2.heap.size, 0, none⟩) 0 0) []) := ⟨Mine.lit0 _ rfl (Mod.refl _ _)⟩
      have HRO := Sec.mk (HCUT2.out.mod (w' := w2.alloc (.cells #[] 5)) (B' := (· < w.heap.size)) (fun _ h => h) (fun i hi => hme.block i (by have : i < w.heap.size := hi; omega) id))
      have hlz : ([] : Bytes).length + ([] : Bytes).length ≤ 34359738368 := by (simp <;> omega)
      have HBOE := Sec.mk (HBO2.out.mod hme id)
      have HBRE := Sec.mk (HBR2.out.mod hme id)
      have HOUE := Sec.mk (HOU2.out.keep hme (fun _ _ h => h))
      have HME := Sec.mk (HM2.out.transN hme)
      have HLF : Sec (∀ i, i ∈ F → i < w2.heap.size) := ⟨HOU2.out.lt⟩
      clear hme
      go_upto_region 7 with (at_builtin; go_loud (refine wpList_app _ rfl (.tmp 25) (.tmp 28) _ rfl Try.underlying22 elt_byte flat_byte rfl rfl HOE.out HRO.out hlz ?_; intro A6 n6 c6 w6 ho6; have HN6 := Sec.mk ho6.new; have HO6 := Sec.mk ho6; clear ho6; have hs6 := HN6.out.size; have HB6 := Sec.mk (HBO2.out.mod HN6.out id); have hg6 := HB6.out.lt; have o6 : w6.cell? ⟨w.heap.size + 1, 1, none⟩ = some (.slice none 0 0) := HB6.out.cell 1; have of6 : w6.frozen? ⟨w.heap.size + 1, 1, none⟩ = false := HB6.out.frozen 1))
      have hm7 : Mod (fun k => k = w.heap.size + 1) w6 (w6.setCell ⟨w.heap.size + 1, 1, none⟩ (.slice A6 n6 c6)) := (Mod.refl (fun k => k = w.heap.size + 1) w6).setCell (p := ⟨w.heap.size + 1, 1, none⟩) (fun _ => rfl) _
      have HB7 := Sec.mk (HB6.out.set_ 1 (.slice A6 n6 c6))
      simp only [List.set_cons_zero, List.set_cons_succ] at HB7
      have HR7 := Sec.mk ((HBR2.out.mod HN6.out id).mod hm7 (by omega))
      have HM7 := Sec.mk ((HM2.out.transN HN6.out).trans hm7 (fun i hi hlt => by omega))
      obtain ⟨⟨F6, ho6, hF6⟩, -⟩ := HO6.out
      have HF6 := Sec.mk hF6
      have hl6 := ho6.lt
      have HX6 := Sec.mk (ho6.keep hm7 (fun i hi e => by have := HF6.out i hi; omega))
      have HX0 := Sec.mk ((HOU2.out.keep HN6.out (fun _ _ h => h)).keep hm7 (fun i hi e => by have := HF.out i hi; omega))
      have hs7 : w6.heap.size ≤ (w6.setCell ⟨w.heap.size + 1, 1, none⟩ (.slice A6 n6 c6)).heap.size := hm7.size
      have HL6 := Sec.mk hl6
      clear hm7 ho6 hF6 hl6 o6 of6
      generalize w6.setCell ⟨w.heap.size + 1, 1, none⟩ (.slice A6 n6 c6) = w7 at *
      have hg7 : w.heap.size + 1 < w7.heap.size := by omega
      have hr7 : w.heap.size < w7.heap.size := by omega
      have oc0 : w7.cell? ⟨w.heap.size + 1, 0, none⟩ = some (.slice Au us.length cu) := HB7.out.cell 0
      have of0 : w7.frozen? ⟨w.heap.size + 1, 0, none⟩ = false := HB7.out.frozen 0
      have oc1 : w7.cell? ⟨w.heap.size + 1, 1, none⟩ = some (.slice A6 n6 c6) := HB7.out.cell 1
      have of1 : w7.frozen? ⟨w.heap.size + 1, 1, none⟩ = false := HB7.out.frozen 1
      have rc0 : w7.cell? ⟨w.heap.size, 0, none⟩ = some (.slice none 0 0) := HR7.out.cell 0
      have rf0 : w7.frozen? ⟨w.heap.size, 0, none⟩ = false := HR7.out.frozen 0
      have rc1 : w7.cell? ⟨w.heap.size, 1, none⟩ = some (.slice none 0 0) := HR7.out.cell 1
      have rf1 : w7.frozen? ⟨w.heap.size, 1, none⟩ = false := HR7.out.frozen 1
      have HFB := Sec.mk (set2_blk HR7.out (.slice Au us.length cu) (.slice A6 n6 c6))
      have HFM := Sec.mk (set2_mod w7 w.heap.size (.slice Au us.length cu) (.slice A6 n6 c6))
      have HY0 := Sec.mk (HX0.out.keep HFM.out (fun i hi e => by have := HF.out i hi; omega))
      have HY6 := Sec.mk (HX6.out.keep HFM.out (fun i hi e => by have := HF6.out i hi; omega))
      have HMG := Sec.mk ((HM7.out.mono (T := fun k => w.heap.size ≤ k) (fun i hlt h => h.elim)).trans HFM.out (fun i hi hlt => by omega))
      have hsf := HFM.out.size
      go_wp2
      refine bodyPost_ret (results_blk rfl rfl HFB.out Try.underlying35 (by kernel_rfl)) rfl ?_
      rw [HE.out]
      refine ⟨_, rfl, unitsOwn (lo := w.heap.size) (x := (us ++ [], [])) (by rw [List.append_nil]; exact HY0.out) (by have := HY6.out; rw [List.nil_append] at this; exact this) (fun i hi h => ?_) (fun i hi => ?_), HMG.out.mono (fun i hlt h => by omega)⟩
      · have h1 := HF6.out i h
        have h2 := HLF.out i hi
        omega
      · rcases List.mem_append.1 hi with hi | hi
        · have h1 := HF.out i hi
          have h2 := HLF.out i hi
          exact ⟨by omega, Nat.lt_of_lt_of_le (by omega) hsf⟩
        · have h1 := HF6.out i hi
          have h2 := HL6.out i hi
          exact ⟨by omega, Nat.lt_of_lt_of_le (by omega) hsf⟩
    | some ad =>
      have HCUTs : Sec (Row Ty.byte (wr.alloc (.cells #[.int .u8 13, .int .u8 10] 5 (2, 3))) (· < w.heap.size) (some (ad.add k)) (b.length - k) (b.drop k)) := ⟨by have := HCUT.out; simpa [show Ty.byte.sz = 1 from rfl] using this⟩
      have HOE := Sec.mk (show oneC lit (b.drop k) = oneC lit (b.drop k) from rfl)
      have hrl : (b.drop k).length ≤ 1048576 := by omega
      go_wp2_with fail
      generalize wr.alloc (.cells #[.int .u8 13, .int .u8 10] 5 (2, 3)) = w1 at *
      refine (index_calls HCUTs.out (by omega) (by omega) HX0.out HX1.out HMX.out).mono ?_
      rintro e0 w2 ⟨rfl, hm2⟩
      have HCUT := HCUTs
      rcases endI_spec (b.drop k) with ⟨hei, hno⟩ | ⟨e, hei, hel, hea, hno⟩
      · have HEI := Sec.mk hei
        rw [hei]
        clear hei hno
        have HST2 := Sec.mk (HST1.out.keep hm2)
        have HBR2 := Sec.mk (HBR1.out.mod hm2 id)
        have HM2 := Sec.mk (HM1.out.transN hm2)
        have HCUT2 := Sec.mk (HCUT.out.mod (w' := w2) (B' := (· < w.heap.size)) (fun _ h => h) (fun i hi => hm2.block i (by have : i < w.heap.size := hi; omega) id))
        have hs2 := hm2.size
        have HE := Sec.mk (HSTOP.out HEI.out)
        clear hm2
        obtain ⟨Au, cu, F, hBo, hOu, hFu⟩ := HST2.out
        have HBO2 := Sec.mk hBo
        have HOU2 := Sec.mk hOu
        have HF := Sec.mk hFu
        have hgo := hBo.lt
        clear hBo hOu hFu
        have hme : New w2 (w2.alloc (.cells #[] 5)) := (Mod.refl _ _).alloc _
        have HOE : Sec (Mine Ty.byte 5 w2 (w2.alloc (.cells #[] 5)) (.slice (some ⟨w2.heap.size, 0, none⟩) 0 0) []) := ⟨Mine.lit0 _ rfl (Mod.refl _ _)⟩
        have HRO := Sec.mk (HCUT2.out.mod (w' := w2.alloc (.cells #[] 5)) (B' := (· < w.heap.size)) (fun _ h => h) (fun i hi => hme.block i (by have : i < w.heap.size := hi; omega) id))
        have hlz : ([] : Bytes).length + (b.drop k : Bytes).length ≤ 34359738368 := by (simp <;> omega)
        have HBOE := Sec.mk (HBO2.out.mod hme id)
        have HBRE := Sec.mk (HBR2.out.mod hme id)
        have HOUE := Sec.mk (HOU2.out.keep hme (fun _ _ h => h))
        have HME := Sec.mk (HM2.out.transN hme)
        have HLF : Sec (∀ i, i ∈ F → i < w2.heap.size) := ⟨HOU2.out.lt⟩
        clear hme
        go_upto_region 7 with (at_builtin; go_loud (refine wpList_app _ rfl (.tmp 25) (.tmp 28) _ rfl Try.underlying22 elt_byte flat_byte rfl rfl HOE.out HRO.out hlz ?_; intro A6 n6 c6 w6 ho6; have HN6 := Sec.mk ho6.new; have HO6 := Sec.mk ho6; clear ho6; have hs6 := HN6.out.size; have HB6 := Sec.mk (HBO2.out.mod HN6.out id); have hg6 := HB6.out.lt; have o6 : w6.cell? ⟨w.heap.size + 1, 1, none⟩ = some (.slice none 0 0) := HB6.out.cell 1; have of6 : w6.frozen? ⟨w.heap.size + 1, 1, none⟩ = false := HB6.out.frozen 1))
        have hm7 : Mod (fun k => k = w.heap.size + 1) w6 (w6.setCell ⟨w.heap.size + 1, 1, none⟩ (.slice A6 n6 c6)) := (Mod.refl (fun k => k = w.heap.size + 1) w6).setCell (p := ⟨w.heap.size + 1, 1, none⟩) (fun _ => rfl) _
        have HB7 := Sec.mk (HB6.out.set_ 1 (.slice A6 n6 c6))
        simp only [List.set_cons_zero, List.set_cons_succ] at HB7
        have HR7 := Sec.mk ((HBR2.out.mod HN6.out id).mod hm7 (by omega))
        have HM7 := Sec.mk ((HM2.out.transN HN6.out).trans hm7 (fun i hi hlt => by omega))
        obtain ⟨⟨F6, ho6, hF6⟩, -⟩ := HO6.out
        have HF6 := Sec.mk hF6
        have hl6 := ho6.lt
        have HX6 := Sec.mk (ho6.keep hm7 (fun i hi e => by have := HF6.out i hi; omega))
        have HX0 := Sec.mk ((HOU2.out.keep HN6.out (fun _ _ h => h)).keep hm7 (fun i hi e => by have := HF.out i hi; omega))
        have hs7 : w6.heap.size ≤ (w6.setCell ⟨w.heap.size + 1, 1, none⟩ (.slice A6 n6 c6)).heap.size := hm7.size
        have HL6 := Sec.mk hl6
        clear hm7 ho6 hF6 hl6 o6 of6
        generalize w6.setCell ⟨w.heap.size + 1, 1, none⟩ (.slice A6 n6 c6) = w7 at *
        have hg7 : w.heap.size + 1 < w7.heap.size := by omega
        have hr7 : w.heap.size < w7.heap.size := by omega
        have oc0 : w7.cell? ⟨w.heap.size + 1, 0, none⟩ = some (.slice Au us.length cu) := HB7.out.cell 0
        have of0 : w7.frozen? ⟨w.heap.size + 1, 0, none⟩ = false := HB7.out.frozen 0
        have oc1 : w7.cell? ⟨w.heap.size + 1, 1, none⟩ = some (.slice A6 n6 c6) := HB7.out.cell 1
        have of1 : w7.frozen? ⟨w.heap.size + 1, 1, none⟩ = false := HB7.out.frozen 1
        have rc0 : w7.cell? ⟨w.heap.size, 0, none⟩ = some (.slice none 0 0) := HR7.out.cell 0
        have rf0 : w7.frozen? ⟨w.heap.size, 0, none⟩ = false := HR7.out.frozen 0
        have rc1 : w7.cell? ⟨w.heap.size, 1, none⟩ = some (.slice none 0 0) := HR7.out.cell 1
        have rf1 : w7.frozen? ⟨w.heap.size, 1, none⟩ = false := HR7.out.frozen 1
        have HFB := Sec.mk (set2_blk HR7.out (.slice Au us.length cu) (.slice A6 n6 c6))
        have HFM := Sec.mk (set2_mod w7 w.heap.size (.slice Au us.length cu) (.slice A6 n6 c6))
        have HY0 := Sec.mk (HX0.out.keep HFM.out (fun i hi e => by have := HF.out i hi; omega))
        have HY6 := Sec.mk (HX6.out.keep HFM.out (fun i hi e => by have := HF6.out i hi; omega))
        have HMG := Sec.mk ((HM7.out.mono (T := fun k => w.heap.size ≤ k) (fun i hlt h => h.elim)).trans HFM.out (fun i hi hlt => by omega))
        have hsf := HFM.out.size
        go_wp2
        refine bodyPost_ret (results_blk rfl rfl HFB.out Try.underlying35 (by kernel_rfl)) rfl ?_
        rw [HE.out]
        refine ⟨_, rfl, unitsOwn (lo := w.heap.size) (x := (us ++ [], b.drop k)) (by rw [List.append_nil]; exact HY0.out) (by have := HY6.out; rw [List.nil_append] at this; exact this) (fun i hi h => ?_) (fun i hi => ?_), HMG.out.mono (fun i hlt h => by omega)⟩
        · have h1 := HF6.out i h
          have h2 := HLF.out i hi
          omega
        · rcases List.mem_append.1 hi with hi | hi
          · have h1 := HF.out i hi
            have h2 := HLF.out i hi
            exact ⟨by omega, Nat.lt_of_lt_of_le (by omega) hsf⟩
          · have h1 := HF6.out i hi
            have h2 := HL6.out i hi
            exact ⟨by omega, Nat.lt_of_lt_of_le (by omega) hsf⟩
      rw [hei]
      have HN : Sec (oneC lit (b.drop k) = if 300 < e then (badU, e + 2)
        else match (if lit then litL ((b.drop k).take e) else none) with
        | none => (((b.drop k).take e, [], false, false), e + 2)
        | some (p, n) =>
          if 8000 < n then (badU, e + 2)
          else if (b.drop k).length < e + 2 + n + 2 then (noU, 0)
          else if (b.drop k)[e + 2 + n]? = some 13 ∧ (b.drop k)[e + 2 + n + 1]? = some 10 then
            ((((b.drop k).take e).take p, ((b.drop k).take (e + 2 + n)).drop (e + 2), true, false), e + 2 + n + 2)
          else (badU, e + 2 + n)) := ⟨by unfold oneC; rw [hei]; simp only [Int.toNat_natCast]; rw [if_neg (by omega)]; rfl⟩
      have HSP : Sec (∀ u m, oneC lit (b.drop k) = (u, m) → m ≠ 0 → res = ((us ++ [u]) ++ (cutsL lit (b.drop (k + m))).1, (cutsL lit (b.drop (k + m))).2)) := ⟨fun u m h hm => by
        have h1 := cutsL_step (lit := lit) (b := b.drop k) (by rw [h]; exact hm)
        rw [h, List.drop_drop] at h1
        rw [HER.out, h1]; simp⟩
      have HSTOP2 : Sec ((oneC lit (b.drop k)).2 = 0 → res = (us ++ [], b.drop k)) := ⟨fun h => by rw [HER.out, cutsL_stop h]⟩
      rw [hdl] at hel HN
      have HST2 := Sec.mk (HST1.out.keep hm2)
      have HBR2 := Sec.mk (HBR1.out.mod hm2 id)
      have HM2 := Sec.mk (HM1.out.transN hm2)
      have HR2 := Sec.mk (HR1.out.mod (w' := w2) (B' := (· < w.heap.size)) (fun _ h => h) (fun i hi => hm2.block i (by have : i < w.heap.size := hi; omega) id))
      have hs2 := hm2.size
      clear hei hea hno hm2 HSTOP HCUT HCUTs
      generalize hrr : b.drop k = r at *
      have HRR := Sec.mk hrr
      clear hrr
      have hle : (r.take e).length = e := by rw [List.length_take, hdl]; omega
      have hcut8 := HR2.out.cut1 (k := k) (m := k + e) (by omega) (by omega)
      have hrt : (b.take (k + e)).drop k = r.take e := by rw [HRR.out.symm, List.drop_take]; congr 1; omega
      rw [show k + e - k = e by omega, hrt] at hcut8
      have hcv8 := hcut8.conv (P := Try.prog) Try.underlying22 Try.underlying5 Try.underlying9 (c - k)
      obtain ⟨ke, hke⟩ : ∃ ke, ke = k + e := ⟨_, rfl⟩
      have hkei : (k : Int) + (e : Int) = (ke : Int) := by omega
      have hkee : ke - k = e := by omega
      have hke1 : ke ≤ k + e := by omega
      have hke2 : k + e ≤ ke := by omega
      clear hke
      obtain ⟨q, hq⟩ : ∃ q, q = k + (e + 2) := ⟨_, rfl⟩
      have hqi : (k : Int) + ((e : Int) + 2) = (q : Int) := by omega
      have hq1 : q ≤ k + (e + 2) := by omega
      have hq2 : k + (e + 2) ≤ q := by omega
      have HQ := Sec.mk hq
      clear hq
      have HLN : Sec (∀ p n, oneC lit r = (p, n) → n ≠ 0 → True) := ⟨fun _ _ _ _ => trivial⟩
      have HRT := Sec.mk hrt
      clear hcut8 hrt HLN
      generalize hline : r.take e = line at *
      have HLI := Sec.mk hline
      have HLE := Sec.mk hle
      have hle1 : line.length ≤ e := by omega
      have hle2 : e ≤ line.length := by omega
      clear hline hle
      by_cases h300 : 300 < e
      · have h300i : (300 : Int) < (line.length : Int) := by omega
        have HE := Sec.mk (HSP.out badU (e + 2) (HN.out.trans (if_pos h300)) (by omega))
        rw [← HQ.out] at HE
        go_wp2_with fail
        refine (bad_v HST2.out (by omega) (by omega) (by omega)).mono ?_
        rintro e0 wb ⟨rfl, hstb, hmb⟩
        have HSTb := Sec.mk hstb
        have HBRb := Sec.mk (HBR2.out.mod hmb (by omega))
        have HMb := Sec.mk (HM2.out.trans hmb (fun i hi hlt => by omega))
        clear hstb hmb
        go_wp2
        go_roundw
        case rel => exact ⟨q, us ++ [badU], by go_num, by omega, by simp; omega, HE, HSTb, HBRb, HMb⟩
        case measure => simp [intOf]; omega
      have h300i : ¬ (300 : Int) < (line.length : Int) := by omega
      have HN1 := Sec.mk (HN.out.trans (if_neg h300))
      clear HN
      go_wp2_with fail
      refine (literal_calls line (by omega) _).mono ?_
      rintro e0 w3 ⟨pI, nI, ok, rfl, hm3, hlit⟩
      have HST3 := Sec.mk (HST2.out.keep hm3)
      have HBR3 := Sec.mk (HBR2.out.mod hm3 id)
      have HM3 := Sec.mk (HM2.out.transN hm3)
      have HR3 := Sec.mk (HR2.out.mod (w' := w3) (B' := (· < w.heap.size)) (fun _ h => h) (fun i hi => hm3.block i (by have : i < w.heap.size := hi; omega) id))
      have hs3 := hm3.size
      have HCV := Sec.mk hcv8
      clear hm3 hcv8 hcx
      have hplain : (lit = false ∨ (lit = true ∧ ok = false ∧ litL line = none)) ∨ (lit = true ∧ ok = true ∧ ∃ p n : Nat, litL line = some (p, n) ∧ pI = (p : Int) ∧ nI = (n : Int)) := by
        cases lit
        · exact .inl (.inl rfl)
        · rcases hlit with ⟨h1, h2⟩ | ⟨h1, h2⟩
          · exact .inl (.inr ⟨rfl, h1, h2⟩)
          · exact .inr ⟨rfl, h1, h2⟩
      clear hlit
      rcases hplain with (rfl | ⟨rfl, rfl, hlno⟩) | ⟨rfl, rfl, p, n, hlso, rfl, rfl⟩
      · have HE1 := Sec.mk (HSP.out (line, [], false, false) (e + 2) HN1.out (by omega))
        rw [← HQ.out] at HE1
        have hlenb : line.length ≤ 1048576 := by omega
        obtain ⟨cp, w4, hconv, hBR, hNW, hc1, hc2, hc3⟩ := conv_row2 line hlenb w3
        obtain ⟨Au, cu, F, hBo, hOu, hFu⟩ := HST3.out
        have HF := Sec.mk hFu
        have HLF : Sec (∀ i, i ∈ F → i < w3.heap.size) := ⟨hOu.lt⟩
        have hgo := hBo.lt
        have g0 : w3.cell? ⟨w.heap.size + 1, 0, none⟩ = some (.slice Au us.length cu) := hBo.cell 0
        have hma : New w3 (w4.alloc (.cells #[.slice (some ⟨w3.heap.size, 0, none⟩) line.length cp, .slice none 0 0, .bool false, .bool false] 44)) := hNW.alloc _
        have HBO4 := Sec.mk (hBo.mod hma id)
        have HOU4 := Sec.mk (hOu.keep hma (fun _ _ h => h))
        have HBR4 := Sec.mk (HBR3.out.mod hma id)
        have HM4 := Sec.mk (HM3.out.transN hma)
        have HBX := Sec.mk (hBR.mv (w' := w4.alloc (.cells #[.slice (some ⟨w3.heap.size, 0, none⟩) line.length cp, .slice none 0 0, .bool false, .bool false] 44)) (Below.heap_alloc _ _ _ hc3))
        have HMU := Sec.mk (mUnit (x := ((line, [], false, false) : UnitT)) (F0 := [w3.heap.size]) (F1 := []) (v1 := .slice none 0 0) (.inr ⟨w3.heap.size, cp, rfl, hc1, hc2, rfl, HBX.out⟩) (.inl (Own.nil _ _ _)) (fun i hi h => by simp at h))
        have HLA := Sec.mk (lit_cells w4 44 [.slice (some ⟨w3.heap.size, 0, none⟩) line.length cp, .slice none 0 0, .bool false, .bool false] rfl)
        have hs4 := hNW.size
        have hlu : us.length + 1 ≤ 34359738368 := by omega
        clear hBo hOu hFu hma hBR hNW
        go_upto_region 21 with (fail)
        go_wp2_with (at_builtin; go_loud (refine wpList_append _ rfl (.tmp 96) (.tmp 100) _ rfl dUnit 44 Try.underlying33 eltUnit rfl HOU4.out rfl (Elems.one HMU.out) rfl (fun _ => HLA.out) (by simp) (fun i hi h => by have h1 := HLF.out i h; simp at hi; omega) hlu ?_; intro A7 n7 c7 w7 F7 ho7 hn7 hm7 hF7; obtain rfl : n7 = us.length + 1 := (by simpa using hn7); have HO7 := Sec.mk ho7; have HF7 : Sec (∀ i, i ∈ F7 → w.heap.size + 2 ≤ i) := ⟨fun i hi => by (rcases hF7 i hi with h | h | h); exact HF.out i h; simp at h; omega; simp at h; omega⟩; have HBO7 := Sec.mk (HBO4.out.mod hm7 (fun h => by have := HF.out _ (HOU4.out.own_mem _ h); omega)); have HBR7 := Sec.mk (HBR4.out.mod hm7 (fun h => by have := HF.out _ (HOU4.out.own_mem _ h); omega)); have HM7 := Sec.mk (HM4.out.trans hm7 (fun i hi hlt => by have := HF.out i (HOU4.out.own_mem i hi); omega)); have hs7 := hm7.size; simp at hs7; clear ho7 hF7 hm7 hn7; have o7 : w7.cell? ⟨w.heap.size + 1, 0, none⟩ = some (.slice Au us.length cu) := HBO7.out.cell 0; have of7 : w7.frozen? ⟨w.heap.size + 1, 0, none⟩ = false := HBO7.out.frozen 0; have hg7 : w.heap.size + 1 < w7.heap.size := (by omega)))
        have hm8 : Mod (fun i => i = w.heap.size + 1) w7 (w7.setCell ⟨w.heap.size + 1, 0, none⟩ (.slice A7 (us.length + 1) c7)) := (Mod.refl (fun i => i = w.heap.size + 1) w7).setCell (p := ⟨w.heap.size + 1, 0, none⟩) (fun _ => rfl) _
        have HBO8 := Sec.mk (HBO7.out.set_ 0 (.slice A7 (us.length + 1) c7))
        simp only [List.set_cons_zero] at HBO8
        have HO8 := Sec.mk (HO7.out.keep hm8 (fun i hi e => by have := HF7.out i hi; omega))
        have HBR8 := Sec.mk (HBR7.out.mod hm8 (by omega))
        have HM8 := Sec.mk (HM7.out.trans hm8 (fun i hi hlt => by omega))
        have hl8 : (us ++ [((line, [], false, false) : UnitT)]).length = us.length + 1 := by simp
        go_roundw
        case rel => exact ⟨q, us ++ [(line, [], false, false)], by go_num, by omega, by rw [hl8]; omega, HE1, ⟨⟨A7, c7, F7, by rw [hl8]; exact HBO8.out, by rw [hl8]; exact HO8.out, HF7.out⟩⟩, HBR8, HM8⟩
        case measure => simp [intOf]; omega
      · have HE1 := Sec.mk (HSP.out (line, [], false, false) (e + 2) (HN1.out.trans (by rw [if_pos rfl, hlno])) (by omega))
        rw [← HQ.out] at HE1
        have hlenb : line.length ≤ 1048576 := by omega
        obtain ⟨cp, w4, hconv, hBR, hNW, hc1, hc2, hc3⟩ := conv_row2 line hlenb w3
        obtain ⟨Au, cu, F, hBo, hOu, hFu⟩ := HST3.out
        have HF := Sec.mk hFu
        have HLF : Sec (∀ i, i ∈ F → i < w3.heap.size) := ⟨hOu.lt⟩
        have hgo := hBo.lt
        have g0 : w3.cell? ⟨w.heap.size + 1, 0, none⟩ = some (.slice Au us.length cu) := hBo.cell 0
        have hma : New w3 (w4.alloc (.cells #[.slice (some ⟨w3.heap.size, 0, none⟩) line.length cp, .slice none 0 0, .bool false, .bool false] 44)) := hNW.alloc _
        have HBO4 := Sec.mk (hBo.mod hma id)
        have HOU4 := Sec.mk (hOu.keep hma (fun _ _ h => h))
        have HBR4 := Sec.mk (HBR3.out.mod hma id)
        have HM4 := Sec.mk (HM3.out.transN hma)
        have HBX := Sec.mk (hBR.mv (w' := w4.alloc (.cells #[.slice (some ⟨w3.heap.size, 0, none⟩) line.length cp, .slice none 0 0, .bool false, .bool false] 44)) (Below.heap_alloc _ _ _ hc3))
        have HMU := Sec.mk (mUnit (x := ((line, [], false, false) : UnitT)) (F0 := [w3.heap.size]) (F1 := []) (v1 := .slice none 0 0) (.inr ⟨w3.heap.size, cp, rfl, hc1, hc2, rfl, HBX.out⟩) (.inl (Own.nil _ _ _)) (fun i hi h => by simp at h))
        have HLA := Sec.mk (lit_cells w4 44 [.slice (some ⟨w3.heap.size, 0, none⟩) line.length cp, .slice none 0 0, .bool false, .bool false] rfl)
        have hs4 := hNW.size
        have hlu : us.length + 1 ≤ 34359738368 := by omega
        clear hBo hOu hFu hma hBR hNW
        go_upto_region 21 with (fail)
        go_wp2_with (at_builtin; go_loud (refine wpList_append _ rfl (.tmp 96) (.tmp 100) _ rfl dUnit 44 Try.underlying33 eltUnit rfl HOU4.out rfl (Elems.one HMU.out) rfl (fun _ => HLA.out) (by simp) (fun i hi h => by have h1 := HLF.out i h; simp at hi; omega) hlu ?_; intro A7 n7 c7 w7 F7 ho7 hn7 hm7 hF7; obtain rfl : n7 = us.length + 1 := (by simpa using hn7); have HO7 := Sec.mk ho7; have HF7 : Sec (∀ i, i ∈ F7 → w.heap.size + 2 ≤ i) := ⟨fun i hi => by (rcases hF7 i hi with h | h | h); exact HF.out i h; simp at h; omega; simp at h; omega⟩; have HBO7 := Sec.mk (HBO4.out.mod hm7 (fun h => by have := HF.out _ (HOU4.out.own_mem _ h); omega)); have HBR7 := Sec.mk (HBR4.out.mod hm7 (fun h => by have := HF.out _ (HOU4.out.own_mem _ h); omega)); have HM7 := Sec.mk (HM4.out.trans hm7 (fun i hi hlt => by have := HF.out i (HOU4.out.own_mem i hi); omega)); have hs7 := hm7.size; simp at hs7; clear ho7 hF7 hm7 hn7; have o7 : w7.cell? ⟨w.heap.size + 1, 0, none⟩ = some (.slice Au us.length cu) := HBO7.out.cell 0; have of7 : w7.frozen? ⟨w.heap.size + 1, 0, none⟩ = false := HBO7.out.frozen 0; have hg7 : w.heap.size + 1 < w7.heap.size := (by omega)))
        have hm8 : Mod (fun i => i = w.heap.size + 1) w7 (w7.setCell ⟨w.heap.size + 1, 0, none⟩ (.slice A7 (us.length + 1) c7)) := (Mod.refl (fun i => i = w.heap.size + 1) w7).setCell (p := ⟨w.heap.size + 1, 0, none⟩) (fun _ => rfl) _
        have HBO8 := Sec.mk (HBO7.out.set_ 0 (.slice A7 (us.length + 1) c7))
        simp only [List.set_cons_zero] at HBO8
        have HO8 := Sec.mk (HO7.out.keep hm8 (fun i hi e => by have := HF7.out i hi; omega))
        have HBR8 := Sec.mk (HBR7.out.mod hm8 (by omega))
        have HM8 := Sec.mk (HM7.out.trans hm8 (fun i hi hlt => by omega))
        have hl8 : (us ++ [((line, [], false, false) : UnitT)]).length = us.length + 1 := by simp
        go_roundw
        case rel => exact ⟨q, us ++ [(line, [], false, false)], by go_num, by omega, by rw [hl8]; omega, HE1, ⟨⟨A7, c7, F7, by rw [hl8]; exact HBO8.out, by rw [hl8]; exact HO8.out, HF7.out⟩⟩, HBR8, HM8⟩
        case measure => simp [intOf]; omega
      have HN2 := Sec.mk (HN1.out.trans (by rw [if_pos rfl, hlso]))
      obtain ⟨hp, hn⟩ := litL_lt hlso
      clear HN1 hlso
      by_cases h8 : 8000 < n
      · have h8i : (8000 : Int) < (n : Int) := by omega
        have HE := Sec.mk (HSP.out badU (e + 2) (HN2.out.trans (if_pos h8)) (by omega))
        rw [← HQ.out] at HE
        go_wp2_with fail
        refine (bad_v HST3.out (by omega) (by omega) (by omega)).mono ?_
        rintro e0 wb ⟨rfl, hstb, hmb⟩
        have HSTb := Sec.mk hstb
        have HBRb := Sec.mk (HBR3.out.mod hmb (by omega))
        have HMb := Sec.mk (HM3.out.trans hmb (fun i hi hlt => by omega))
        clear hstb hmb
        go_wp2
        go_roundw
        case rel => exact ⟨q, us ++ [badU], by go_num, by omega, by simp; omega, HE, HSTb, HBRb, HMb⟩
        case measure => simp [intOf]; omega
      have h8i : ¬ (8000 : Int) < (n : Int) := by omega
      have HN3 := Sec.mk (HN2.out.trans (if_neg h8))
      clear HN2
      by_cases hsh : b.length - k < e + 2 + n + 2
      · have hshi : (b.length : Int) - (q : Int) < (n : Int) + 2 := by omega
        have HE := Sec.mk (HSTOP2.out (by rw [HN3.out, if_pos hsh]))
        have hcut3 := HR3.out.cut (k := k) (m := b.length) (cap := c) hk (Nat.le_refl _) hc
        rw [List.take_length, if_neg hck, HRR.out] at hcut3
        have HCUT3 : Sec (Row Ty.byte w3 (· < w.heap.size) (some (ad.add k)) (b.length - k) r) := ⟨by simpa [show Ty.byte.sz = 1 from rfl] using hcut3⟩
        clear hcut3
        obtain ⟨Au, cu, F, hBo, hOu, hFu⟩ := HST3.out
        have HBO2 := Sec.mk hBo
        have HOU2 := Sec.mk hOu
        have HF := Sec.mk hFu
        have hgo := hBo.lt
        clear hBo hOu hFu
        have hme : New w3 (w3.alloc (.cells #[] 5)) := (Mod.refl _ _).alloc _
        have HOE : Sec (Mine Ty.byte 5 w3 (w3.alloc (.cells #[] 5)) (.slice (some ⟨w3.heap.size, 0, none⟩) 0 0) []) := ⟨Mine.lit0 _ rfl (Mod.refl _ _)⟩
        have HRO := Sec.mk (HCUT3.out.mod (w' := w3.alloc (.cells #[] 5)) (B' := (· < w.heap.size)) (fun _ h => h) (fun i hi => hme.block i (by have : i < w.heap.size := hi; omega) id))
        have hlz : ([] : Bytes).length + (r : Bytes).length ≤ 34359738368 := by (simp <;> omega)
        have HBOE := Sec.mk (HBO2.out.mod hme id)
        have HBRE := Sec.mk (HBR3.out.mod hme id)
        have HOUE := Sec.mk (HOU2.out.keep hme (fun _ _ h => h))
        have HME := Sec.mk (HM3.out.transN hme)
        have HLF : Sec (∀ i, i ∈ F → i < w3.heap.size) := ⟨HOU2.out.lt⟩
        clear hme
        go_upto_region 26 with (at_builtin; go_loud (refine wpList_app _ rfl (.tmp 116) (.tmp 119) _ rfl Try.underlying22 elt_byte flat_byte rfl rfl HOE.out HRO.out hlz ?_; intro A6 n6 c6 w6 ho6; have HN6 := Sec.mk ho6.new; have HO6 := Sec.mk ho6; clear ho6; have hs6 := HN6.out.size; have HB6 := Sec.mk (HBO2.out.mod HN6.out id); have hg6 := HB6.out.lt; have o6 : w6.cell? ⟨w.heap.size + 1, 1, none⟩ = some (.slice none 0 0) := HB6.out.cell 1; have of6 : w6.frozen? ⟨w.heap.size + 1, 1, none⟩ = false := HB6.out.frozen 1))
        have hm7 : Mod (fun k => k = w.heap.size + 1) w6 (w6.setCell ⟨w.heap.size + 1, 1, none⟩ (.slice A6 n6 c6)) := (Mod.refl (fun k => k = w.heap.size + 1) w6).setCell (p := ⟨w.heap.size + 1, 1, none⟩) (fun _ => rfl) _
        have HB7 := Sec.mk (HB6.out.set_ 1 (.slice A6 n6 c6))
        simp only [List.set_cons_zero, List.set_cons_succ] at HB7
        have HR7 := Sec.mk ((HBR3.out.mod HN6.out id).mod hm7 (by omega))
        have HM7 := Sec.mk ((HM3.out.transN HN6.out).trans hm7 (fun i hi hlt => by omega))
        obtain ⟨⟨F6, ho6, hF6⟩, -⟩ := HO6.out
        have HF6 := Sec.mk hF6
        have hl6 := ho6.lt
        have HX6 := Sec.mk (ho6.keep hm7 (fun i hi e => by have := HF6.out i hi; omega))
        have HX0 := Sec.mk ((HOU2.out.keep HN6.out (fun _ _ h => h)).keep hm7 (fun i hi e => by have := HF.out i hi; omega))
        have hs7 : w6.heap.size ≤ (w6.setCell ⟨w.heap.size + 1, 1, none⟩ (.slice A6 n6 c6)).heap.size := hm7.size
        have HL6 := Sec.mk hl6
        clear hm7 ho6 hF6 hl6 o6 of6
        generalize w6.setCell ⟨w.heap.size + 1, 1, none⟩ (.slice A6 n6 c6) = w7 at *
        have hg7 : w.heap.size + 1 < w7.heap.size := by omega
        have hr7 : w.heap.size < w7.heap.size := by omega
        have oc0 : w7.cell? ⟨w.heap.size + 1, 0, none⟩ = some (.slice Au us.length cu) := HB7.out.cell 0
        have of0 : w7.frozen? ⟨w.heap.size + 1, 0, none⟩ = false := HB7.out.frozen 0
        have oc1 : w7.cell? ⟨w.heap.size + 1, 1, none⟩ = some (.slice A6 n6 c6) := HB7.out.cell 1
        have of1 : w7.frozen? ⟨w.heap.size + 1, 1, none⟩ = false := HB7.out.frozen 1
        have rc0 : w7.cell? ⟨w.heap.size, 0, none⟩ = some (.slice none 0 0) := HR7.out.cell 0
        have rf0 : w7.frozen? ⟨w.heap.size, 0, none⟩ = false := HR7.out.frozen 0
        have rc1 : w7.cell? ⟨w.heap.size, 1, none⟩ = some (.slice none 0 0) := HR7.out.cell 1
        have rf1 : w7.frozen? ⟨w.heap.size, 1, none⟩ = false := HR7.out.frozen 1
        have HFB := Sec.mk (set2_blk HR7.out (.slice Au us.length cu) (.slice A6 n6 c6))
        have HFM := Sec.mk (set2_mod w7 w.heap.size (.slice Au us.length cu) (.slice A6 n6 c6))
        have HY0 := Sec.mk (HX0.out.keep HFM.out (fun i hi e => by have := HF.out i hi; omega))
        have HY6 := Sec.mk (HX6.out.keep HFM.out (fun i hi e => by have := HF6.out i hi; omega))
        have HMG := Sec.mk ((HM7.out.mono (T := fun k => w.heap.size ≤ k) (fun i hlt h => h.elim)).trans HFM.out (fun i hi hlt => by omega))
        have hsf := HFM.out.size
        go_wp2
        refine bodyPost_ret (results_blk rfl rfl HFB.out Try.underlying35 (by kernel_rfl)) rfl ?_
        rw [HE.out]
        refine ⟨_, rfl, unitsOwn (lo := w.heap.size) (x := (us ++ [], r)) (by rw [List.append_nil]; exact HY0.out) (by have := HY6.out; rw [List.nil_append] at this; exact this) (fun i hi h => ?_) (fun i hi => ?_), HMG.out.mono (fun i hlt h => by omega)⟩
        · have h1 := HF6.out i h
          have h2 := HLF.out i hi
          omega
        · rcases List.mem_append.1 hi with hi | hi
          · have h1 := HF.out i hi
            have h2 := HLF.out i hi
            exact ⟨by omega, Nat.lt_of_lt_of_le (by omega) hsf⟩
          · have h1 := HF6.out i hi
            have h2 := HL6.out i hi
            exact ⟨by omega, Nat.lt_of_lt_of_le (by omega) hsf⟩
      have hshi : ¬ (b.length : Int) - (q : Int) < (n : Int) + 2 := by omega
      have HN4 := Sec.mk (HN3.out.trans (if_neg hsh))
      clear HN3
      obtain ⟨qn, hqn⟩ : ∃ qn, qn = q + n := ⟨_, rfl⟩
      have hqni : (q : Int) + (n : Int) = (qn : Int) := by omega
      have hqn1 : qn ≤ q + n := by omega
      have hqn2 : q + n ≤ qn := by omega
      have hqnb : qn + 2 ≤ b.length := by omega
      have hcq : ¬ c = q := by omega
      have hcqn : ¬ c = qn := by omega
      obtain ⟨qz, hqz⟩ : ∃ qz, qz = qn + 2 := ⟨_, rfl⟩
      have hqzi : (qn : Int) + 2 = (qz : Int) := by omega
      have hqz1 : qz ≤ qn + 2 := by omega
      have hqz2 : qn + 2 ≤ qz := by omega
      have hqzn : qz - qn = 2 := by omega
      have hqnq : qn - q = n := by omega
      have hcutz := HR3.out.cut1 (k := qn) (m := qz) (by omega) (by omega)
      rw [hqzn] at hcutz
      have hcvz := hcutz.conv (P := Try.prog) Try.underlying22 Try.underlying5 Try.underlying9 (c - qn)
      have hz2 : (b.take qz).drop qn = [b[qn]'(by omega), b[qn + 1]'(by omega)] := by
        have e2 := two_of b qn hqnb
        rw [← hqz] at e2
        exact e2
      have HRI : Sec (∀ i, r[i]? = b[k + i]?) := ⟨fun i => by rw [← HRR.out, List.getElem?_drop]⟩
      have HQN : Sec (k + (e + 2 + n) = qn) := ⟨by omega⟩
      have HB0 : Sec (b[qn]? = some (b[qn]'(by omega))) := ⟨List.getElem?_eq_getElem _⟩
      have HB1 : Sec (b[qn + 1]? = some (b[qn + 1]'(by omega))) := ⟨List.getElem?_eq_getElem _⟩
      have HHIT : Sec ((r[e + 2 + n]? = some 13 ∧ r[e + 2 + n + 1]? = some 10) ↔ (b.take qz).drop qn = [13, 10]) := ⟨by
        rw [hz2, HRI.out, HRI.out, HQN.out, show k + (e + 2 + n + 1) = qn + 1 by have := HQN.out; omega, HB0.out, HB1.out]
        simp⟩
      have HQNE := Sec.mk hqn
      have HQZE := Sec.mk hqz
      clear hcutz hqn hqz hz2 HB0 HB1 HRI
      generalize (b.take qz).drop qn = z at *
      by_cases hz : z = [13, 10]
      rotate_left
      · have hzb : (z == [13, 10]) = false := by simpa using hz
        have hzb2 : (z != [13, 10]) = true := by simpa using hz
        have HE := Sec.mk (HSP.out badU (e + 2 + n) (HN4.out.trans (if_neg (fun h => hz (HHIT.out.1 h)))) (by omega))
        rw [HQN.out] at HE
        clear hz
        go_wp2_with fail
        refine (bad_v HST3.out (by omega) (by omega) (by omega)).mono ?_
        rintro e0 wb ⟨rfl, hstb, hmb⟩
        have HSTb := Sec.mk hstb
        have HBRb := Sec.mk (HBR3.out.mod hmb (by omega))
        have HMb := Sec.mk (HM3.out.trans hmb (fun i hi hlt => by omega))
        clear hstb hmb
        go_wp2
        go_roundw
        case rel => exact ⟨qn, us ++ [badU], by go_num, by omega, by simp; omega, HE, HSTb, HBRb, HMb⟩
        case measure => simp [intOf]; omega
      have HE1 := Sec.mk (HSP.out _ _ (HN4.out.trans (if_pos (HHIT.out.2 hz))) (by omega))
      have HBE : Sec ((r.take (e + 2 + n)).drop (e + 2) = (b.take qn).drop q) := ⟨by rw [← HRR.out, body_eq, HQN.out, ← HQ.out]⟩
      rw [HBE.out] at HE1
      clear HN4
      subst hz
      have HQZ2 : Sec (k + (e + 2 + n + 2) = qz) := ⟨by have := HQN.out; omega⟩
      rw [HQZ2.out] at HE1
      have hpl : (line.take p).length ≤ 1048576 := by rw [List.length_take]; omega
      have hple : p ≤ line.length := by omega
      have hbody := HR3.out.cut1 (k := q) (m := qn) (by omega) (by omega)
      rw [hqnq] at hbody
      have HBY := Sec.mk hbody
      have hbl : ((b.take qn).drop q).length = n := by rw [List.length_drop, List.length_take]; omega
      have HBL := Sec.mk hbl
      clear hbody hbl
      generalize (b.take qn).drop q = body at *
      obtain ⟨Au, cu, F, hBo, hOu, hFu⟩ := HST3.out
      have HBO3 := Sec.mk hBo
      have HOU3 := Sec.mk hOu
      have HF := Sec.mk hFu
      have HLF : Sec (∀ i, i ∈ F → i < w3.heap.size) := ⟨hOu.lt⟩
      have hgo := hBo.lt
      clear hBo hOu hFu
      go_upto_region 19 with (fail)
      have HSS : Sec (w3.drew.cell? ⟨w.heap.size + 1, 0, none⟩ = some (.slice Au us.length cu) ∧ Mod (fun i => w.heap.size + 2 ≤ i) w3 w3.drew) := ⟨HBO3.out.cell 0, (Mod.refl _ _).drew⟩
      refine reg_start [13] (fun W => Sec (W.cell? ⟨w.heap.size + 1, 0, none⟩ = some (.slice Au us.length cu) ∧ Mod (fun i => w.heap.size + 2 ≤ i) w3 W)) (by kernel_rfl) ?_
      refine reg_take (.pointer (some ⟨w.heap.size + 1, 0, none⟩)) (i := 0) (n := 75) HSS rfl (by kernel_rfl) (by kernel_rfl) (by kernel_rfl) (by kernel_rfl) (fun _ _ _ h => h) (fun W hW => exec_field rfl rfl (fptUnits0 _ _)) ?_
      simp only [Act.put, List.setIfInBounds_toArray, List.set_cons_zero, List.set_cons_succ]
      refine reg_take (.slice Au us.length cu) (i := 1) (n := 76) HSS rfl (by kernel_rfl) (by kernel_rfl) (by kernel_rfl) (by kernel_rfl) (fun _ _ _ h => h) (fun W hW => exec_load rfl rfl (ldUnitsD hW.out.1)) ?_
      simp only [Act.put, List.setIfInBounds_toArray, List.set_cons_zero, List.set_cons_succ]
      refine reg_take (.string ⟨line.toArray⟩) (i := 2) (n := 77) HSS rfl (by kernel_rfl) (by kernel_rfl) (by kernel_rfl) (by kernel_rfl) (fun _ _ _ h => h) (fun W hW => exec_move rfl rfl) ?_
      simp only [Act.put, List.setIfInBounds_toArray, List.set_cons_zero, List.set_cons_succ]
      refine reg_take (.int .i64 (p : Int)) (i := 3) (n := 78) HSS rfl (by kernel_rfl) (by kernel_rfl) (by kernel_rfl) (by kernel_rfl) (fun _ _ _ h => h) (fun W hW => exec_move rfl rfl) ?_
      simp only [Act.put, List.setIfInBounds_toArray, List.set_cons_zero, List.set_cons_succ]
      refine reg_take (.string ⟨(line.take p).toArray⟩) (i := 4) (n := 79) HSS rfl (by kernel_rfl) (by kernel_rfl) (by kernel_rfl) (by kernel_rfl) (fun _ _ _ h => h) (fun W hW => exec_slice rfl rfl rfl rfl rfl (slStr line p hple _)) ?_
      simp only [Act.put, List.setIfInBounds_toArray, List.set_cons_zero, List.set_cons_succ]
      refine reg_take (.slice (some (ad.add q)) n (c - q)) (i := 7) (n := 82) HSS rfl (by kernel_rfl) (by kernel_rfl) (by kernel_rfl) (by kernel_rfl) (fun _ _ _ h => h) (fun W hW => exec_move rfl rfl) ?_
      simp only [Act.put, List.setIfInBounds_toArray, List.set_cons_zero, List.set_cons_succ]
      have HN_w30 : Sec (New w3 w3.drew) := ⟨(Mod.refl _ _).drew⟩
      have hs0 : w3.heap.size ≤ w3.drew.heap.size := Nat.le_refl _
      generalize w3.drew = w30 at *
      refine reg_step2 (i := 5) (j := 6) rfl rfl (by kernel_rfl) (fun K hK => ?_) (fun K hK => ?_)
      · obtain ⟨cp, w5, hconv, hBR, hNW, hc1, hc2, hc3⟩ := conv_row2 (line.take p) hpl w30
        have HN_w5 : Sec (New w3 w5) := ⟨HN_w30.out.transN hNW⟩
        have hcg0 : w3.heap.size ≤ w30.heap.size := HN_w30.out.size
        have hgW : w30.heap.size < w5.heap.size := hc3
        obtain ⟨g5, hg5⟩ : ∃ g5, g5 = w30.heap.size := ⟨_, rfl⟩
        have HCR_w5 : Sec (BRow w5 g5 (line.take p)) := ⟨by rw [hg5]; exact hBR⟩
        have hg50 : w3.heap.size ≤ g5 := by omega
        have HSS : Sec (w5.cell? ⟨w.heap.size + 1, 0, none⟩ = some (.slice Au us.length cu) ∧ Mod (fun i => w.heap.size + 2 ≤ i) w3 w5) := ⟨(HBO3.out.mod HN_w5.out id).cell 0, HN_w5.out.mono (fun i _ h => h.elim)⟩
        refine wp_valw (n := 80) (v := .slice (some ⟨g5, 0, none⟩) (line.take p).length cp) (w' := w5) (exec_convertW rfl rfl (by rw [hg5]; exact hconv)) rfl ?_
        refine hK.out _ _ (fun _ => HSS) ?_
        clear hBR hNW hconv hg5
        clear hK K
        simp only [Act.put, List.setIfInBounds_toArray, List.set_cons_zero, List.set_cons_succ]
        refine reg_step (i := 6) rfl (by kernel_rfl) (fun K hK => ?_)
        obtain ⟨w6, hV⟩ : ∃ V, V = w5.alloc (.cells #[] 5) := ⟨_, rfl⟩
        have hma : New w5 w6 := by rw [hV]; exact (Mod.refl _ _).alloc _
        have HN_w6 : Sec (New w3 w6) := ⟨HN_w5.out.transN hma⟩
        have hsL : w3.heap.size ≤ w5.heap.size := HN_w5.out.size
        have hsV : w5.heap.size < w6.heap.size := by rw [hV]; simp
        obtain ⟨F_w6, hFe⟩ : ∃ F, F = [w5.heap.size] := ⟨_, rfl⟩
        have HRW_w6 : Sec (Own Ty.byte 5 w6 F_w6 (.slice (some ⟨w5.heap.size, 0, none⟩) 0 0) []) := ⟨by rw [hV, hFe]; exact Own.lit w5 5 [] (by simp)⟩
        have HFW_w6 : Sec (∀ i, i ∈ F_w6 → w3.heap.size ≤ i) := ⟨fun i hi => by rw [hFe] at hi; have := List.mem_singleton.1 hi; omega⟩
        have HCR_w6 := Sec.mk (HCR_w5.out.mv (hma.block g5 HCR_w5.out.lt id))
        have HD_w6 : Sec (∀ i, i ∈ F_w6 → i ≠ g5) := ⟨fun i hi e => by rw [hFe] at hi; have := List.mem_singleton.1 hi; have := HCR_w5.out.lt; omega⟩
        have HSS : Sec (w6.cell? ⟨w.heap.size + 1, 0, none⟩ = some (.slice Au us.length cu) ∧ Mod (fun i => w.heap.size + 2 ≤ i) w3 w6) := ⟨(HBO3.out.mod HN_w6.out id).cell 0, HN_w6.out.mono (fun i _ h => h.elim)⟩
        refine wp_valw (n := 81) (v := .slice (some ⟨w5.heap.size, 0, none⟩) 0 0) (w' := w6) (exec_buildSlice (parts := []) (vs := []) rfl rfl (by rw [hV]; exact bldBytes0C _)) rfl ?_
        refine hK.out _ _ (fun _ => HSS) ?_
        clear hma hV hFe
        clear hK K
        simp only [Act.put, List.setIfInBounds_toArray, List.set_cons_zero, List.set_cons_succ]
        refine reg_step (i := 8) rfl (by kernel_rfl) (fun K hK => ?_)
        refine wp_appF _ (.tmp 81) (.tmp 82) _ rfl Try.underlying22 elt_byte flat_byte rfl rfl HRW_w6.out (HBY.out.mod (w' := w6) (B' := (· < w.heap.size)) (fun _ h => h) (fun i hi => HN_w6.out.block i (by have : i < w.heap.size := hi; omega) id)) (by have := HBL.out; simp; omega) ?_
        intro A6 n6 c6 w7 F_w7 hoA hfA hmA
        have HN_w7 : Sec (New w3 w7) := ⟨HN_w6.out.trans hmA (fun i hi hlt => by have := HFW_w6.out i hi; omega)⟩
        have hsL2 : w3.heap.size ≤ w6.heap.size := HN_w6.out.size
        have hsV2 : w6.heap.size ≤ w7.heap.size := hmA.size
        have HRW_w7 := Sec.mk hoA
        have HFW_w7 : Sec (∀ i, i ∈ F_w7 → w3.heap.size ≤ i) := ⟨fun i hi => (hfA i hi).elim (fun h => HFW_w6.out i h) (fun h => by omega)⟩
        have HCR_w7 := Sec.mk (HCR_w6.out.mv (hmA.block g5 HCR_w6.out.lt (fun h => HD_w6.out g5 h rfl)))
        have HD_w7 : Sec (∀ i, i ∈ F_w7 → i ≠ g5) := ⟨fun i hi e => (hfA i hi).elim (fun h => HD_w6.out i h e) (fun h => by have := HCR_w6.out.lt; omega)⟩
        have HSS : Sec (w7.cell? ⟨w.heap.size + 1, 0, none⟩ = some (.slice Au us.length cu) ∧ Mod (fun i => w.heap.size + 2 ≤ i) w3 w7) := ⟨(HBO3.out.mod HN_w7.out id).cell 0, HN_w7.out.mono (fun i _ h => h.elim)⟩
        refine hK.out _ _ (fun _ => HSS) ?_
        clear hoA hfA hmA
        clear hK K
        simp only [Act.put, List.setIfInBounds_toArray, List.set_cons_zero, List.set_cons_succ]
        refine reg_take (.agg #[.slice (some ⟨g5, 0, none⟩) (line.take p).length cp, .slice A6 n6 c6, .bool true, .bool false]) (i := 9) (n := 84) HSS rfl (by kernel_rfl) (by kernel_rfl) (by kernel_rfl) (by kernel_rfl) (fun _ _ _ h => h) (fun W hW => exec_build (parts := [(0, .tmp 80), (1, .tmp 83), (2, .const (.bool true))]) rfl rfl (bldUnit _ _ _ _ _ _ _)) ?_
        simp only [Act.put, List.setIfInBounds_toArray, List.set_cons_zero, List.set_cons_succ]
        obtain ⟨wt, hwt⟩ : ∃ V, V = w7.alloc (.cells #[.slice (some ⟨g5, 0, none⟩) (line.take p).length cp, .slice A6 n6 c6, .bool true, .bool false] 44) := ⟨_, rfl⟩
        have hma : New w7 wt := by rw [hwt]; exact (Mod.refl _ _).alloc _
        have HN_wt : Sec (New w3 wt) := ⟨HN_w7.out.transN hma⟩
        have HLA : Sec (∃ ad, (some ⟨w7.heap.size, 0, none⟩ : Option Addr) = some ad ∧ ∀ j u, ([.slice (some ⟨g5, 0, none⟩) (line.take p).length cp, .slice A6 n6 c6, .bool true, .bool false] : List Value)[j]? = some u → wt.cell? (ad.add j) = some u) := ⟨by rw [hwt]; exact lit_cells w7 44 [.slice (some ⟨g5, 0, none⟩) (line.take p).length cp, .slice A6 n6 c6, .bool true, .bool false] rfl⟩
        have HCR_wt := Sec.mk (HCR_w7.out.mv (hma.block g5 HCR_w7.out.lt id))
        have HRW_wt := Sec.mk (HRW_w7.out.keep hma (fun _ _ h => h))
        rw [List.nil_append] at HRW_wt
        have HMU := Sec.mk (mUnit (w := wt) (x := ((line.take p, body, true, false) : UnitT)) (F0 := [g5]) (F1 := F_w7) (v1 := .slice A6 n6 c6) (.inr ⟨g5, cp, rfl, hc1, hc2, rfl, HCR_wt.out⟩) (.inl HRW_wt.out) (fun i hi h => by rw [List.mem_singleton] at hi; exact HD_w7.out i h hi))
        have HOUt := Sec.mk (HOU3.out.keep HN_wt.out (fun _ _ h => h))
        have hlu : us.length + 1 ≤ 34359738368 := by omega
        have hst2 : w7.heap.size < wt.heap.size := by rw [hwt]; simp
        refine reg_step (i := 10) rfl (by kernel_rfl) (fun K hK => ?_)
        have HSS : Sec (wt.cell? ⟨w.heap.size + 1, 0, none⟩ = some (.slice Au us.length cu) ∧ Mod (fun i => w.heap.size + 2 ≤ i) w3 wt) := ⟨(HBO3.out.mod HN_wt.out id).cell 0, HN_wt.out.mono (fun i _ h => h.elim)⟩
        refine wp_valw (n := 85) (v := .slice (some ⟨w7.heap.size, 0, none⟩) 1 1) (w' := wt) (exec_buildSlice (parts := [(0, .tmp 84)]) (vs := [(0, .agg #[.slice (some ⟨g5, 0, none⟩) (line.take p).length cp, .slice A6 n6 c6, .bool true, .bool false])]) rfl rfl (by rw [hwt]; exact bldUnit1 _ _ _ _ _ _ _)) rfl ?_
        refine hK.out _ _ (fun _ => HSS) ?_
        clear hma hwt
        clear hK K
        simp only [Act.put, List.setIfInBounds_toArray, List.set_cons_zero, List.set_cons_succ]
        refine reg_step (i := 11) rfl (by kernel_rfl) (fun K hK => ?_)
        refine wp_append _ (.tmp 76) (.tmp 85) _ rfl dUnit 44 Try.underlying33 eltUnit rfl HOUt.out rfl (Elems.one HMU.out) rfl (fun _ => HLA.out) (by simpa using dUnit.M_nd HMU.out) (fun i hi h => by have h1 := HLF.out i h; have hi2 : i = g5 ∨ i ∈ F_w7 := (by simpa using hi); rcases hi2 with h2 | h2; omega; have := HFW_w7.out i h2; omega) hlu ?_
        intro A7 n7 c7 w8 F7 ho7 hn7 hm7 hF7
        obtain rfl : n7 = us.length + 1 := by simpa using hn7
        have HO7 := Sec.mk ho7
        have hsz7 := hm7.size
        have hs3t : w3.heap.size ≤ wt.heap.size := HN_wt.out.size
        have HF7 : Sec (∀ i, i ∈ F7 → w.heap.size + 2 ≤ i) := ⟨fun i hi => by
          rcases hF7 i hi with h | h | h
          · exact HF.out i h
          · have hi2 : i = g5 ∨ i ∈ F_w7 := by simpa using h
            rcases hi2 with h2 | h2
            · omega
            · have := HFW_w7.out i h2; omega
          · omega⟩
        have HBO7 := Sec.mk ((HBO3.out.mod HN_wt.out id).mod hm7 (fun h => by have := HF.out _ (HOUt.out.own_mem _ h); omega))
        have HBR7 := Sec.mk ((HBR3.out.mod HN_wt.out id).mod hm7 (fun h => by have := HF.out _ (HOUt.out.own_mem _ h); omega))
        have HM7 := Sec.mk ((HM3.out.transN HN_wt.out).trans hm7 (fun i hi hlt => by have := HF.out i (HOUt.out.own_mem i hi); omega))
        have HSS : Sec (w8.cell? ⟨w.heap.size + 1, 0, none⟩ = some (.slice Au us.length cu) ∧ Mod (fun i => w.heap.size + 2 ≤ i) w3 w8) := ⟨HBO7.out.cell 0, (HN_wt.out.mono (T := fun i => w.heap.size + 2 ≤ i) (fun i _ h => h.elim)).trans hm7 (fun i hi hlt => HF.out i (HOUt.out.own_mem i hi))⟩
        refine hK.out _ _ (fun _ => HSS) ?_
        clear ho7 hF7 hm7 hn7
        clear hK K
        simp only [Act.put, List.setIfInBounds_toArray, List.set_cons_zero, List.set_cons_succ]
        refine reg_take (.pointer (some ⟨w.heap.size + 1, 0, none⟩)) (i := 12) (n := 87) HSS rfl (by kernel_rfl) (by kernel_rfl) (by kernel_rfl) (by kernel_rfl) (fun _ _ _ h => h) (fun W hW => exec_field rfl rfl (fptUnits0 _ _)) ?_
        simp only [Act.put, List.setIfInBounds_toArray, List.set_cons_zero, List.set_cons_succ]
        refine reg_step (i := 13) rfl (by kernel_rfl) (fun K hK => ?_)
        refine wp_store rfl rfl rfl rfl (stUnitsD A7 (us.length + 1) c7 (HBO7.out.cell 0) (HBO7.out.frozen 0)) (hK.out _ _ (fun h => absurd (List.mem_singleton.2 rfl) h) ?_)
        clear hK K
        refine reg_done (by kernel_rfl) ?_ _
        have hm8 : Mod (fun i => i = w.heap.size + 1) w8 (w8.setCell ⟨w.heap.size + 1, 0, none⟩ (.slice A7 (us.length + 1) c7)) := (Mod.refl (fun i => i = w.heap.size + 1) w8).setCell (p := ⟨w.heap.size + 1, 0, none⟩) (fun _ => rfl) _
        have HBO8 := Sec.mk (HBO7.out.set_ 0 (.slice A7 (us.length + 1) c7))
        simp only [List.set_cons_zero] at HBO8
        have HO8 := Sec.mk (HO7.out.keep hm8 (fun i hi e => by have := HF7.out i hi; omega))
        have HBR8 := Sec.mk (HBR7.out.mod hm8 (by omega))
        have HM8 := Sec.mk (HM7.out.trans hm8 (fun i hi hlt => by omega))
        have hl8 : (us ++ [((line.take p, body, true, false) : UnitT)]).length = us.length + 1 := by simp
        clear hm8 HSS
        go_wp2
        go_roundw
        case rel => exact ⟨qz, us ++ [(line.take p, body, true, false)], by go_num, by omega, by rw [hl8]; omega, HE1, ⟨⟨A7, c7, F7, by rw [hl8]; exact HBO8.out, by rw [hl8]; exact HO8.out, HF7.out⟩⟩, HBR8, HM8⟩
        case measure => simp [intOf]; omega
      · obtain ⟨w5, hV⟩ : ∃ V, V = w30.alloc (.cells #[] 5) := ⟨_, rfl⟩
        have hma : New w30 w5 := by rw [hV]; exact (Mod.refl _ _).alloc _
        have HN_w5 : Sec (New w3 w5) := ⟨HN_w30.out.transN hma⟩
        have hsL : w3.heap.size ≤ w30.heap.size := HN_w30.out.size
        have hsV : w30.heap.size < w5.heap.size := by rw [hV]; simp
        obtain ⟨F_w5, hFe⟩ : ∃ F, F = [w30.heap.size] := ⟨_, rfl⟩
        have HRW_w5 : Sec (Own Ty.byte 5 w5 F_w5 (.slice (some ⟨w30.heap.size, 0, none⟩) 0 0) []) := ⟨by rw [hV, hFe]; exact Own.lit w30 5 [] (by simp)⟩
        have HFW_w5 : Sec (∀ i, i ∈ F_w5 → w3.heap.size ≤ i) := ⟨fun i hi => by rw [hFe] at hi; have := List.mem_singleton.1 hi; omega⟩
        have HSS : Sec (w5.cell? ⟨w.heap.size + 1, 0, none⟩ = some (.slice Au us.length cu) ∧ Mod (fun i => w.heap.size + 2 ≤ i) w3 w5) := ⟨(HBO3.out.mod HN_w5.out id).cell 0, HN_w5.out.mono (fun i _ h => h.elim)⟩
        refine wp_valw (n := 81) (v := .slice (some ⟨w30.heap.size, 0, none⟩) 0 0) (w' := w5) (exec_buildSlice (parts := []) (vs := []) rfl rfl (by rw [hV]; exact bldBytes0C _)) rfl ?_
        refine hK.out _ _ (fun _ => HSS) ?_
        clear hma hV hFe
        clear hK K
        simp only [Act.put, List.setIfInBounds_toArray, List.set_cons_zero, List.set_cons_succ]
        refine reg_step2 (i := 5) (j := 8) rfl rfl (by kernel_rfl) (fun K hK => ?_) (fun K hK => ?_)
        · obtain ⟨cp, w6, hconv, hBR, hNW, hc1, hc2, hc3⟩ := conv_row2 (line.take p) hpl w5
          have HN_w6 : Sec (New w3 w6) := ⟨HN_w5.out.transN hNW⟩
          have hcg0 : w3.heap.size ≤ w5.heap.size := HN_w5.out.size
          have hgW : w5.heap.size < w6.heap.size := hc3
          obtain ⟨g5, hg5⟩ : ∃ g5, g5 = w5.heap.size := ⟨_, rfl⟩
          have HCR_w6 : Sec (BRow w6 g5 (line.take p)) := ⟨by rw [hg5]; exact hBR⟩
          have hg50 : w3.heap.size ≤ g5 := by omega
          have HRW_w6 := Sec.mk (HRW_w5.out.keep hNW (fun _ _ h => h))
          have HFW_w6 := HFW_w5
          have HD_w6 : Sec (∀ i, i ∈ F_w5 → i ≠ g5) := ⟨fun i hi e => by have := HRW_w5.out.lt i hi; omega⟩
          obtain ⟨F_w6, hFeq⟩ : ∃ F, F = F_w5 := ⟨_, rfl⟩
          rw [← hFeq] at HRW_w6 HFW_w6 HD_w6
          have HSS : Sec (w6.cell? ⟨w.heap.size + 1, 0, none⟩ = some (.slice Au us.length cu) ∧ Mod (fun i => w.heap.size + 2 ≤ i) w3 w6) := ⟨(HBO3.out.mod HN_w6.out id).cell 0, HN_w6.out.mono (fun i _ h => h.elim)⟩
          refine wp_valw (n := 80) (v := .slice (some ⟨g5, 0, none⟩) (line.take p).length cp) (w' := w6) (exec_convertW rfl rfl (by rw [hg5]; exact hconv)) rfl ?_
          refine hK.out _ _ (fun _ => HSS) ?_
          clear hBR hNW hconv hg5
          clear hK K
          simp only [Act.put, List.setIfInBounds_toArray, List.set_cons_zero, List.set_cons_succ]
          refine reg_step (i := 8) rfl (by kernel_rfl) (fun K hK => ?_)
          refine wp_appF _ (.tmp 81) (.tmp 82) _ rfl Try.underlying22 elt_byte flat_byte rfl rfl HRW_w6.out (HBY.out.mod (w' := w6) (B' := (· < w.heap.size)) (fun _ h => h) (fun i hi => HN_w6.out.block i (by have : i < w.heap.size := hi; omega) id)) (by have := HBL.out; simp; omega) ?_
          intro A6 n6 c6 w7 F_w7 hoA hfA hmA
          have HN_w7 : Sec (New w3 w7) := ⟨HN_w6.out.trans hmA (fun i hi hlt => by have := HFW_w6.out i hi; omega)⟩
          have hsL2 : w3.heap.size ≤ w6.heap.size := HN_w6.out.size
          have hsV2 : w6.heap.size ≤ w7.heap.size := hmA.size
          have HRW_w7 := Sec.mk hoA
          have HFW_w7 : Sec (∀ i, i ∈ F_w7 → w3.heap.size ≤ i) := ⟨fun i hi => (hfA i hi).elim (fun h => HFW_w6.out i h) (fun h => by omega)⟩
          have HCR_w7 := Sec.mk (HCR_w6.out.mv (hmA.block g5 HCR_w6.out.lt (fun h => HD_w6.out g5 h rfl)))
          have HD_w7 : Sec (∀ i, i ∈ F_w7 → i ≠ g5) := ⟨fun i hi e => (hfA i hi).elim (fun h => HD_w6.out i h e) (fun h => by have := HCR_w6.out.lt; omega)⟩
          have HSS : Sec (w7.cell? ⟨w.heap.size + 1, 0, none⟩ = some (.slice Au us.length cu) ∧ Mod (fun i => w.heap.size + 2 ≤ i) w3 w7) := ⟨(HBO3.out.mod HN_w7.out id).cell 0, HN_w7.out.mono (fun i _ h => h.elim)⟩
          refine hK.out _ _ (fun _ => HSS) ?_
          clear hoA hfA hmA
          clear hK K
          simp only [Act.put, List.setIfInBounds_toArray, List.set_cons_zero, List.set_cons_succ]
          refine reg_take (.agg #[.slice (some ⟨g5, 0, none⟩) (line.take p).length cp, .slice A6 n6 c6, .bool true, .bool false]) (i := 9) (n := 84) HSS rfl (by kernel_rfl) (by kernel_rfl) (by kernel_rfl) (by kernel_rfl) (fun _ _ _ h => h) (fun W hW => exec_build (parts := [(0, .tmp 80), (1, .tmp 83), (2, .const (.bool true))]) rfl rfl (bldUnit _ _ _ _ _ _ _)) ?_
          simp only [Act.put, List.setIfInBounds_toArray, List.set_cons_zero, List.set_cons_succ]
          obtain ⟨wt, hwt⟩ : ∃ V, V = w7.alloc (.cells #[.slice (some ⟨g5, 0, none⟩) (line.take p).length cp, .slice A6 n6 c6, .bool true, .bool false] 44) := ⟨_, rfl⟩
          have hma : New w7 wt := by rw [hwt]; exact (Mod.refl _ _).alloc _
          have HN_wt : Sec (New w3 wt) := ⟨HN_w7.out.transN hma⟩
          have HLA : Sec (∃ ad, (some ⟨w7.heap.size, 0, none⟩ : Option Addr) = some ad ∧ ∀ j u, ([.slice (some ⟨g5, 0, none⟩) (line.take p).length cp, .slice A6 n6 c6, .bool true, .bool false] : List Value)[j]? = some u → wt.cell? (ad.add j) = some u) := ⟨by rw [hwt]; exact lit_cells w7 44 [.slice (some ⟨g5, 0, none⟩) (line.take p).length cp, .slice A6 n6 c6, .bool true, .bool false] rfl⟩
          have HCR_wt := Sec.mk (HCR_w7.out.mv (hma.block g5 HCR_w7.out.lt id))
          have HRW_wt := Sec.mk (HRW_w7.out.keep hma (fun _ _ h => h))
          rw [List.nil_append] at HRW_wt
          have HMU := Sec.mk (mUnit (w := wt) (x := ((line.take p, body, true, false) : UnitT)) (F0 := [g5]) (F1 := F_w7) (v1 := .slice A6 n6 c6) (.inr ⟨g5, cp, rfl, hc1, hc2, rfl, HCR_wt.out⟩) (.inl HRW_wt.out) (fun i hi h => by rw [List.mem_singleton] at hi; exact HD_w7.out i h hi))
          have HOUt := Sec.mk (HOU3.out.keep HN_wt.out (fun _ _ h => h))
          have hlu : us.length + 1 ≤ 34359738368 := by omega
          have hst2 : w7.heap.size < wt.heap.size := by rw [hwt]; simp
          refine reg_step (i := 10) rfl (by kernel_rfl) (fun K hK => ?_)
          have HSS : Sec (wt.cell? ⟨w.heap.size + 1, 0, none⟩ = some (.slice Au us.length cu) ∧ Mod (fun i => w.heap.size + 2 ≤ i) w3 wt) := ⟨(HBO3.out.mod HN_wt.out id).cell 0, HN_wt.out.mono (fun i _ h => h.elim)⟩
          refine wp_valw (n := 85) (v := .slice (some ⟨w7.heap.size, 0, none⟩) 1 1) (w' := wt) (exec_buildSlice (parts := [(0, .tmp 84)]) (vs := [(0, .agg #[.slice (some ⟨g5, 0, none⟩) (line.take p).length cp, .slice A6 n6 c6, .bool true, .bool false])]) rfl rfl (by rw [hwt]; exact bldUnit1 _ _ _ _ _ _ _)) rfl ?_
          refine hK.out _ _ (fun _ => HSS) ?_
          clear hma hwt
          clear hK K
          simp only [Act.put, List.setIfInBounds_toArray, List.set_cons_zero, List.set_cons_succ]
          refine reg_step (i := 11) rfl (by kernel_rfl) (fun K hK => ?_)
          refine wp_append _ (.tmp 76) (.tmp 85) _ rfl dUnit 44 Try.underlying33 eltUnit rfl HOUt.out rfl (Elems.one HMU.out) rfl (fun _ => HLA.out) (by simpa using dUnit.M_nd HMU.out) (fun i hi h => by have h1 := HLF.out i h; have hi2 : i = g5 ∨ i ∈ F_w7 := (by simpa using hi); rcases hi2 with h2 | h2; omega; have := HFW_w7.out i h2; omega) hlu ?_
          intro A7 n7 c7 w8 F7 ho7 hn7 hm7 hF7
          obtain rfl : n7 = us.length + 1 := by simpa using hn7
          have HO7 := Sec.mk ho7
          have hsz7 := hm7.size
          have hs3t : w3.heap.size ≤ wt.heap.size := HN_wt.out.size
          have HF7 : Sec (∀ i, i ∈ F7 → w.heap.size + 2 ≤ i) := ⟨fun i hi => by
            rcases hF7 i hi with h | h | h
            · exact HF.out i h
            · have hi2 : i = g5 ∨ i ∈ F_w7 := by simpa using h
              rcases hi2 with h2 | h2
              · omega
              · have := HFW_w7.out i h2; omega
            · omega⟩
          have HBO7 := Sec.mk ((HBO3.out.mod HN_wt.out id).mod hm7 (fun h => by have := HF.out _ (HOUt.out.own_mem _ h); omega))
          have HBR7 := Sec.mk ((HBR3.out.mod HN_wt.out id).mod hm7 (fun h => by have := HF.out _ (HOUt.out.own_mem _ h); omega))
          have HM7 := Sec.mk ((HM3.out.transN HN_wt.out).trans hm7 (fun i hi hlt => by have := HF.out i (HOUt.out.own_mem i hi); omega))
          have HSS : Sec (w8.cell? ⟨w.heap.size + 1, 0, none⟩ = some (.slice Au us.length cu) ∧ Mod (fun i => w.heap.size + 2 ≤ i) w3 w8) := ⟨HBO7.out.cell 0, (HN_wt.out.mono (T := fun i => w.heap.size + 2 ≤ i) (fun i _ h => h.elim)).trans hm7 (fun i hi hlt => HF.out i (HOUt.out.own_mem i hi))⟩
          refine hK.out _ _ (fun _ => HSS) ?_
          clear ho7 hF7 hm7 hn7
          clear hK K
          simp only [Act.put, List.setIfInBounds_toArray, List.set_cons_zero, List.set_cons_succ]
          refine reg_take (.pointer (some ⟨w.heap.size + 1, 0, none⟩)) (i := 12) (n := 87) HSS rfl (by kernel_rfl) (by kernel_rfl) (by kernel_rfl) (by kernel_rfl) (fun _ _ _ h => h) (fun W hW => exec_field rfl rfl (fptUnits0 _ _)) ?_
          simp only [Act.put, List.setIfInBounds_toArray, List.set_cons_zero, List.set_cons_succ]
          refine reg_step (i := 13) rfl (by kernel_rfl) (fun K hK => ?_)
          refine wp_store rfl rfl rfl rfl (stUnitsD A7 (us.length + 1) c7 (HBO7.out.cell 0) (HBO7.out.frozen 0)) (hK.out _ _ (fun h => absurd (List.mem_singleton.2 rfl) h) ?_)
          clear hK K
          refine reg_done (by kernel_rfl) ?_ _
          have hm8 : Mod (fun i => i = w.heap.size + 1) w8 (w8.setCell ⟨w.heap.size + 1, 0, none⟩ (.slice A7 (us.length + 1) c7)) := (Mod.refl (fun i => i = w.heap.size + 1) w8).setCell (p := ⟨w.heap.size + 1, 0, none⟩) (fun _ => rfl) _
          have HBO8 := Sec.mk (HBO7.out.set_ 0 (.slice A7 (us.length + 1) c7))
          simp only [List.set_cons_zero] at HBO8
          have HO8 := Sec.mk (HO7.out.keep hm8 (fun i hi e => by have := HF7.out i hi; omega))
          have HBR8 := Sec.mk (HBR7.out.mod hm8 (by omega))
          have HM8 := Sec.mk (HM7.out.trans hm8 (fun i hi hlt => by omega))
          have hl8 : (us ++ [((line.take p, body, true, false) : UnitT)]).length = us.length + 1 := by simp
          clear hm8 HSS
          go_wp2
          go_roundw
          case rel => exact ⟨qz, us ++ [(line.take p, body, true, false)], by go_num, by omega, by rw [hl8]; omega, HE1, ⟨⟨A7, c7, F7, by rw [hl8]; exact HBO8.out, by rw [hl8]; exact HO8.out, HF7.out⟩⟩, HBR8, HM8⟩
          case measure => simp [intOf]; omega
        · refine wp_appF _ (.tmp 81) (.tmp 82) _ rfl Try.underlying22 elt_byte flat_byte rfl rfl HRW_w5.out (HBY.out.mod (w' := w5) (B' := (· < w.heap.size)) (fun _ h => h) (fun i hi => HN_w5.out.block i (by have : i < w.heap.size := hi; omega) id)) (by have := HBL.out; simp; omega) ?_
          intro A6 n6 c6 w6 F_w6 hoA hfA hmA
          have HN_w6 : Sec (New w3 w6) := ⟨HN_w5.out.trans hmA (fun i hi hlt => by have := HFW_w5.out i hi; omega)⟩
          have hsL2 : w3.heap.size ≤ w5.heap.size := HN_w5.out.size
          have hsV2 : w5.heap.size ≤ w6.heap.size := hmA.size
          have HRW_w6 := Sec.mk hoA
          have HFW_w6 : Sec (∀ i, i ∈ F_w6 → w3.heap.size ≤ i) := ⟨fun i hi => (hfA i hi).elim (fun h => HFW_w5.out i h) (fun h => by omega)⟩
          have HSS : Sec (w6.cell? ⟨w.heap.size + 1, 0, none⟩ = some (.slice Au us.length cu) ∧ Mod (fun i => w.heap.size + 2 ≤ i) w3 w6) := ⟨(HBO3.out.mod HN_w6.out id).cell 0, HN_w6.out.mono (fun i _ h => h.elim)⟩
          refine hK.out _ _ (fun _ => HSS) ?_
          clear hoA hfA hmA
          clear hK K
          simp only [Act.put, List.setIfInBounds_toArray, List.set_cons_zero, List.set_cons_succ]
          refine reg_step (i := 5) rfl (by kernel_rfl) (fun K hK => ?_)
          obtain ⟨cp, w7, hconv, hBR, hNW, hc1, hc2, hc3⟩ := conv_row2 (line.take p) hpl w6
          have HN_w7 : Sec (New w3 w7) := ⟨HN_w6.out.transN hNW⟩
          have hcg0 : w3.heap.size ≤ w6.heap.size := HN_w6.out.size
          have hgW : w6.heap.size < w7.heap.size := hc3
          obtain ⟨g5, hg5⟩ : ∃ g5, g5 = w6.heap.size := ⟨_, rfl⟩
          have HCR_w7 : Sec (BRow w7 g5 (line.take p)) := ⟨by rw [hg5]; exact hBR⟩
          have hg50 : w3.heap.size ≤ g5 := by omega
          have HRW_w7 := Sec.mk (HRW_w6.out.keep hNW (fun _ _ h => h))
          have HFW_w7 := HFW_w6
          have HD_w7 : Sec (∀ i, i ∈ F_w6 → i ≠ g5) := ⟨fun i hi e => by have := HRW_w6.out.lt i hi; omega⟩
          obtain ⟨F_w7, hFeq⟩ : ∃ F, F = F_w6 := ⟨_, rfl⟩
          rw [← hFeq] at HRW_w7 HFW_w7 HD_w7
          have HSS : Sec (w7.cell? ⟨w.heap.size + 1, 0, none⟩ = some (.slice Au us.length cu) ∧ Mod (fun i => w.heap.size + 2 ≤ i) w3 w7) := ⟨(HBO3.out.mod HN_w7.out id).cell 0, HN_w7.out.mono (fun i _ h => h.elim)⟩
          refine wp_valw (n := 80) (v := .slice (some ⟨g5, 0, none⟩) (line.take p).length cp) (w' := w7) (exec_convertW rfl rfl (by rw [hg5]; exact hconv)) rfl ?_
          refine hK.out _ _ (fun _ => HSS) ?_
          clear hBR hNW hconv hg5
          clear hK K
          simp only [Act.put, List.setIfInBounds_toArray, List.set_cons_zero, List.set_cons_succ]
          refine reg_take (.agg #[.slice (some ⟨g5, 0, none⟩) (line.take p).length cp, .slice A6 n6 c6, .bool true, .bool false]) (i := 9) (n := 84) HSS rfl (by kernel_rfl) (by kernel_rfl) (by kernel_rfl) (by kernel_rfl) (fun _ _ _ h => h) (fun W hW => exec_build (parts := [(0, .tmp 80), (1, .tmp 83), (2, .const (.bool true))]) rfl rfl (bldUnit _ _ _ _ _ _ _)) ?_
          simp only [Act.put, List.setIfInBounds_toArray, List.set_cons_zero, List.set_cons_succ]
          obtain ⟨wt, hwt⟩ : ∃ V, V = w7.alloc (.cells #[.slice (some ⟨g5, 0, none⟩) (line.take p).length cp, .slice A6 n6 c6, .bool true, .bool false] 44) := ⟨_, rfl⟩
          have hma : New w7 wt := by rw [hwt]; exact (Mod.refl _ _).alloc _
          have HN_wt : Sec (New w3 wt) := ⟨HN_w7.out.transN hma⟩
          have HLA : Sec (∃ ad, (some ⟨w7.heap.size, 0, none⟩ : Option Addr) = some ad ∧ ∀ j u, ([.slice (some ⟨g5, 0, none⟩) (line.take p).length cp, .slice A6 n6 c6, .bool true, .bool false] : List Value)[j]? = some u → wt.cell? (ad.add j) = some u) := ⟨by rw [hwt]; exact lit_cells w7 44 [.slice (some ⟨g5, 0, none⟩) (line.take p).length cp, .slice A6 n6 c6, .bool true, .bool false] rfl⟩
          have HCR_wt := Sec.mk (HCR_w7.out.mv (hma.block g5 HCR_w7.out.lt id))
          have HRW_wt := Sec.mk (HRW_w7.out.keep hma (fun _ _ h => h))
          rw [List.nil_append] at HRW_wt
          have HMU := Sec.mk (mUnit (w := wt) (x := ((line.take p, body, true, false) : UnitT)) (F0 := [g5]) (F1 := F_w7) (v1 := .slice A6 n6 c6) (.inr ⟨g5, cp, rfl, hc1, hc2, rfl, HCR_wt.out⟩) (.inl HRW_wt.out) (fun i hi h => by rw [List.mem_singleton] at hi; exact HD_w7.out i h hi))
          have HOUt := Sec.mk (HOU3.out.keep HN_wt.out (fun _ _ h => h))
          have hlu : us.length + 1 ≤ 34359738368 := by omega
          have hst2 : w7.heap.size < wt.heap.size := by rw [hwt]; simp
          refine reg_step (i := 10) rfl (by kernel_rfl) (fun K hK => ?_)
          have HSS : Sec (wt.cell? ⟨w.heap.size + 1, 0, none⟩ = some (.slice Au us.length cu) ∧ Mod (fun i => w.heap.size + 2 ≤ i) w3 wt) := ⟨(HBO3.out.mod HN_wt.out id).cell 0, HN_wt.out.mono (fun i _ h => h.elim)⟩
          refine wp_valw (n := 85) (v := .slice (some ⟨w7.heap.size, 0, none⟩) 1 1) (w' := wt) (exec_buildSlice (parts := [(0, .tmp 84)]) (vs := [(0, .agg #[.slice (some ⟨g5, 0, none⟩) (line.take p).length cp, .slice A6 n6 c6, .bool true, .bool false])]) rfl rfl (by rw [hwt]; exact bldUnit1 _ _ _ _ _ _ _)) rfl ?_
          refine hK.out _ _ (fun _ => HSS) ?_
          clear hma hwt
          clear hK K
          simp only [Act.put, List.setIfInBounds_toArray, List.set_cons_zero, List.set_cons_succ]
          refine reg_step (i := 11) rfl (by kernel_rfl) (fun K hK => ?_)
          refine wp_append _ (.tmp 76) (.tmp 85) _ rfl dUnit 44 Try.underlying33 eltUnit rfl HOUt.out rfl (Elems.one HMU.out) rfl (fun _ => HLA.out) (by simpa using dUnit.M_nd HMU.out) (fun i hi h => by have h1 := HLF.out i h; have hi2 : i = g5 ∨ i ∈ F_w7 := (by simpa using hi); rcases hi2 with h2 | h2; omega; have := HFW_w7.out i h2; omega) hlu ?_
          intro A7 n7 c7 w8 F7 ho7 hn7 hm7 hF7
          obtain rfl : n7 = us.length + 1 := by simpa using hn7
          have HO7 := Sec.mk ho7
          have hsz7 := hm7.size
          have hs3t : w3.heap.size ≤ wt.heap.size := HN_wt.out.size
          have HF7 : Sec (∀ i, i ∈ F7 → w.heap.size + 2 ≤ i) := ⟨fun i hi => by
            rcases hF7 i hi with h | h | h
            · exact HF.out i h
            · have hi2 : i = g5 ∨ i ∈ F_w7 := by simpa using h
              rcases hi2 with h2 | h2
              · omega
              · have := HFW_w7.out i h2; omega
            · omega⟩
          have HBO7 := Sec.mk ((HBO3.out.mod HN_wt.out id).mod hm7 (fun h => by have := HF.out _ (HOUt.out.own_mem _ h); omega))
          have HBR7 := Sec.mk ((HBR3.out.mod HN_wt.out id).mod hm7 (fun h => by have := HF.out _ (HOUt.out.own_mem _ h); omega))
          have HM7 := Sec.mk ((HM3.out.transN HN_wt.out).trans hm7 (fun i hi hlt => by have := HF.out i (HOUt.out.own_mem i hi); omega))
          have HSS : Sec (w8.cell? ⟨w.heap.size + 1, 0, none⟩ = some (.slice Au us.length cu) ∧ Mod (fun i => w.heap.size + 2 ≤ i) w3 w8) := ⟨HBO7.out.cell 0, (HN_wt.out.mono (T := fun i => w.heap.size + 2 ≤ i) (fun i _ h => h.elim)).trans hm7 (fun i hi hlt => HF.out i (HOUt.out.own_mem i hi))⟩
          refine hK.out _ _ (fun _ => HSS) ?_
          clear ho7 hF7 hm7 hn7
          clear hK K
          simp only [Act.put, List.setIfInBounds_toArray, List.set_cons_zero, List.set_cons_succ]
          refine reg_take (.pointer (some ⟨w.heap.size + 1, 0, none⟩)) (i := 12) (n := 87) HSS rfl (by kernel_rfl) (by kernel_rfl) (by kernel_rfl) (by kernel_rfl) (fun _ _ _ h => h) (fun W hW => exec_field rfl rfl (fptUnits0 _ _)) ?_
          simp only [Act.put, List.setIfInBounds_toArray, List.set_cons_zero, List.set_cons_succ]
          refine reg_step (i := 13) rfl (by kernel_rfl) (fun K hK => ?_)
          refine wp_store rfl rfl rfl rfl (stUnitsD A7 (us.length + 1) c7 (HBO7.out.cell 0) (HBO7.out.frozen 0)) (hK.out _ _ (fun h => absurd (List.mem_singleton.2 rfl) h) ?_)
          clear hK K
          refine reg_done (by kernel_rfl) ?_ _
          have hm8 : Mod (fun i => i = w.heap.size + 1) w8 (w8.setCell ⟨w.heap.size + 1, 0, none⟩ (.slice A7 (us.length + 1) c7)) := (Mod.refl (fun i => i = w.heap.size + 1) w8).setCell (p := ⟨w.heap.size + 1, 0, none⟩) (fun _ => rfl) _
          have HBO8 := Sec.mk (HBO7.out.set_ 0 (.slice A7 (us.length + 1) c7))
          simp only [List.set_cons_zero] at HBO8
          have HO8 := Sec.mk (HO7.out.keep hm8 (fun i hi e => by have := HF7.out i hi; omega))
          have HBR8 := Sec.mk (HBR7.out.mod hm8 (by omega))
          have HM8 := Sec.mk (HM7.out.trans hm8 (fun i hi hlt => by omega))
          have hl8 : (us ++ [((line.take p, body, true, false) : UnitT)]).length = us.length + 1 := by simp
          clear hm8 HSS
          go_wp2
          go_roundw
          case rel => exact ⟨qz, us ++ [(line.take p, body, true, false)], by go_num, by omega, by rw [hl8]; omega, HE1, ⟨⟨A7, c7, F7, by rw [hl8]; exact HBO8.out, by rw [hl8]; exact HO8.out, HF7.out⟩⟩, HBR8, HM8⟩
          case measure => simp [intOf]; omega
end Go.Proofs.Ytciiejkfppnimaa
