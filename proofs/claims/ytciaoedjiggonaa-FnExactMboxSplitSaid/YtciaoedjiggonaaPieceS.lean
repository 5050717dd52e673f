/- The specification's entry of an mbox text. -/
import Derived.Test.YtciaoedjiggonaaPureSplitM
import Derived.Test.YtciaoedjiggonaaUnquote
import Derived.Test.YtciaoedjiggonaaSSpan
import Derived.Test.YtciaoedjiggonaaReg2
namespace Go.Proofs.Ytciaoedjiggonaa
open Go.RowKit Mem
set_option linter.unusedVariables false
/-- does a text end with a line end -/
def endNl (ys : Bytes) : Prop := ys ≠ [] ∧ ys[ys.length - 1]? = some 10
instance (ys : Bytes) : Decidable (endNl ys) := inferInstanceAs (Decidable (_ ∧ _))
set_option maxHeartbeats 1000000 in
set_option maxRecDepth 100000 in
theorem endsLine_calls {A : Option Addr} {c : Nat} {ys : Bytes} {B : Nat → Prop} {w : World} (h : Row Ty.byte w B A ys.length ys) (b : Bool) (hb : decide (endNl ys) = b) : Calls Try.prog 49 #[.slice A ys.length c] w (fun e w' => e = .returned (.bool b) ∧ w' = w) := by
  have hm := h.2.1
  have HB := Sec.mk hb
  clear hb
  by_cases h0 : ys.length = 0
  · have h0i : ¬ (0 : Int) < (ys.length : Int) := by omega
    have HE : Sec (b = false) := ⟨by rw [← HB.out]; exact decide_eq_false (fun hh => hh.1 (List.eq_nil_of_length_eq_zero h0))⟩
    go_enter Try.func49, Try.ntmps49
    go_wp2
    go_ret
    rw [HE.out]
    exact ⟨rfl, rfl⟩
  · have h0i : (0 : Int) < (ys.length : Int) := by omega
    obtain ⟨ad, rfl, hx⟩ := h.byte_at (w' := w) (fun _ _ => rfl) (k := ys.length - 1) (by omega)
    have ht : ((ys.length : Int) - 1).toNat = ys.length - 1 := by omega
    have hb0 : (0 : Int) ≤ (ys.length : Int) - 1 := by omega
    have hb1 : (ys.length : Int) - 1 < (ys.length : Int) := by omega
    have HG : Sec (ys[ys.length - 1]? = some (ys[ys.length - 1]'(by omega))) := ⟨List.getElem?_eq_getElem _⟩
    have HNE : Sec (ys ≠ []) := ⟨fun e => h0 (by rw [e]; rfl)⟩
    generalize ys[ys.length - 1]'(by omega) = z at *
    by_cases hz : z = 10
    · have HE : Sec (b = true) := ⟨by rw [← HB.out]; exact decide_eq_true ⟨HNE.out, by rw [HG.out, hz]⟩⟩
      subst hz
      go_enter Try.func49, Try.ntmps49
      go_wp2
      go_ret
      rw [HE.out]
      exact ⟨rfl, rfl⟩
    · have HE : Sec (b = false) := ⟨by rw [← HB.out]; exact decide_eq_false (fun hh => hz (Option.some.inj (HG.out.symm.trans hh.2)))⟩
      have hzn : ((z.toNat : Int) == 10) = false := by
        simp only [beq_eq_false_iff_ne, ne_eq]; intro h; exact hz (UInt8.toNat.inj (by show z.toNat = 10; omega))
      clear hz
      go_enter Try.func49, Try.ntmps49
      go_wp2
      go_ret
      rw [HE.out]
      exact ⟨rfl, rfl⟩
set_option maxHeartbeats 1000000 in
set_option maxRecDepth 100000 in
theorem l3Bare_b {A : Option Addr} {c : Nat} {ys : Bytes} {B : Nat → Prop} {w : World} (h : Row Ty.byte w B A ys.length ys) (b : Bool) (hb : decide (ys = [] ∨ ys[ys.length - 1]? = some 10) = b) : Calls Try.prog 88 #[.slice A ys.length c] w (fun e w' => e = .returned (.bool (!b)) ∧ w' = w) := by
  have hm := h.2.1
  have HB := Sec.mk hb
  clear hb
  by_cases h0 : ys.length = 0
  · have h0i : ¬ (0 : Int) < (ys.length : Int) := by omega
    have HE : Sec (b = true) := ⟨by rw [← HB.out]; exact decide_eq_true (.inl (List.eq_nil_of_length_eq_zero h0))⟩
    go_enter Try.func88, Try.ntmps88
    go_wp2
    go_ret
    rw [HE.out]
    exact ⟨rfl, rfl⟩
  · have h0i : (0 : Int) < (ys.length : Int) := by omega
    obtain ⟨ad, rfl, hx⟩ := h.byte_at (w' := w) (fun _ _ => rfl) (k := ys.length - 1) (by omega)
    have ht : ((ys.length : Int) - 1).toNat = ys.length - 1 := by omega
    have hb0 : (0 : Int) ≤ (ys.length : Int) - 1 := by omega
    have hb1 : (ys.length : Int) - 1 < (ys.length : Int) := by omega
    have HG : Sec (ys[ys.length - 1]? = some (ys[ys.length - 1]'(by omega))) := ⟨List.getElem?_eq_getElem _⟩
    have HNE : Sec (ys ≠ []) := ⟨fun e => h0 (by rw [e]; rfl)⟩
    generalize ys[ys.length - 1]'(by omega) = z at *
    by_cases hz : z = 10
    · have HE : Sec (b = true) := ⟨by rw [← HB.out]; exact decide_eq_true (.inr (by rw [HG.out, hz]))⟩
      subst hz
      go_enter Try.func88, Try.ntmps88
      go_wp2
      go_ret
      rw [HE.out]
      exact ⟨rfl, rfl⟩
    · have HE : Sec (b = false) := ⟨by rw [← HB.out]; exact decide_eq_false (fun hh => hh.elim HNE.out fun hh => hz (Option.some.inj (HG.out.symm.trans hh)))⟩
      have hzn : ((z.toNat : Int) != 10) = true := by
        simp only [bne_iff_ne, ne_eq]; intro h; exact hz (UInt8.toNat.inj (by show z.toNat = 10; omega))
      clear hz
      go_enter Try.func88, Try.ntmps88
      go_wp2
      go_ret
      rw [HE.out]
      exact ⟨rfl, rfl⟩
theorem spansField1 (g : Nat) (w : World) : (Instr.fieldAt 29 (.pointer (some ⟨g, 0, none⟩)) 1).run Try.prog w = .ok (.pointer (some ⟨g, 1, none⟩)) w := by go_simp
theorem loadSpanS {w : World} {p : Addr} {v : Value} (h : w.cell? p = some v) : (Instr.loadAt 27 (.pointer (some p))).run Try.prog w = .ok v w := by go_simp
theorem storeSpanS {w : World} {p : Addr} {u : Value} {A : Option Addr} {n c : Nat} (h : w.cell? p = some u) (hf : w.frozen? p = false) : (Instr.storeAt 27 (.pointer (some p)) (.slice A n c)).run Try.prog w = .ok () (w.setCell p (.slice A n c)) := by go_simp
theorem buildSpan1 (a b : Int) (A : Option Addr) (n c : Nat) (w : World) : (Instr.buildSlice 27 1 #[(0, .agg #[.int .i64 a, .int .i64 b, .slice A n c])]).run Try.prog w = .ok (.slice (some ⟨w.heap.size, 0, none⟩) 1 1) (w.alloc (.cells #[.int .i64 a, .int .i64 b, .slice A n c] 32)) := by go_simp
theorem wrap64 {g : Int} (h0 : -9223372036854775808 ≤ g) (h1 : g ≤ 9223372036854775807) : IntKind.i64.wrap g = g := by rw [IntKind.wrap_i64]; omega
theorem subInt (x y : Operand) (a b : Int) (w : World) (h0 : -9223372036854775808 ≤ a - b) (h1 : a - b ≤ 9223372036854775807) : (do eqGuard .sub 3 x y (.int .i64 a) (.int .i64 b); binOp .sub 3 (.int .i64 a) (.int .i64 b) : Sem Value).run Try.prog w = .ok (.int .i64 (a - b)) w := by
  have hw := wrap64 h0 h1
  go_simp
theorem buildSpan (a b : Int) (A : Option Addr) (n c : Nat) (w : World) : (Instr.build 32 #[(0, .int .i64 a), (1, .int .i64 b), (2, .slice A n c)]).run Try.prog w = .ok (.agg #[.int .i64 a, .int .i64 b, .slice A n c]) w := by go_simp
/-- what an entry comes to -/
def PieceR (w : World) (O : Nat) (F : List Nat) (acc : List SpanT) (e : Bytes) (stop : Nat) (en : Ending) (w' : World) : Prop :=
  if entryOk e then ∃ A2 n2 c2 F2, en = .returned (.bool true) ∧ Blk w' O 29 [.bool true, .slice A2 n2 c2] ∧ Own dSpan 32 w' F2 (.slice A2 n2 c2) (acc ++ [spanOf e stop]) ∧ (∀ k, k ∈ F2 → k ∈ F ∨ w.heap.size ≤ k) ∧ Mod (fun k => k = O ∨ k ∈ F) w w'
  else en = .returned (.bool false) ∧ New w w'
set_option maxHeartbeats 4000000 in
set_option maxRecDepth 100000 in
theorem l3Piece_calls {w : World} {O n c c' stop : Nat} {A A' : Option Addr} {acc : List SpanT} {F : List Nat} {e : Bytes} {B : Nat → Prop} (hO : Blk w O 29 [.bool true, .slice A n c]) (hA : Own dSpan 32 w F (.slice A n c) acc) (hr : Row Ty.byte w B A' e.length e) (hB : ∀ k, B k → k < w.heap.size) (hc : e.length ≤ c')
    (hOF : O ∉ F) (hs : e.length ≤ stop) (hst : stop ≤ 1048576) (hal : acc.length ≤ 1048576) : Calls Try.prog 60 #[.pointer (some ⟨O, 0, none⟩), .slice A' e.length c', .int .i64 (stop : Int)] w (PieceR w O F acc e stop) := by
  have HO := Sec.mk hO
  have HA := Sec.mk hA
  have HR := Sec.mk hr
  have HN : Sec (¬ entryOk e → ∀ en w', en = .returned (.bool false) → New w w' → PieceR w O F acc e stop en w') := ⟨fun h en w' h1 h2 => by unfold PieceR; rw [if_neg h]; exact ⟨h1, h2⟩⟩
  have hOl := hO.lt
  clear hO hA hr
  by_cases h10 : e.length ≤ 10
  · have hi : (e.length : Int) ≤ 10 := by omega
    have HE := Sec.mk (HN.out (fun h => by have := h.1; omega))
    go_enter Try.func60, Try.ntmps60
    go_wp2
    go_ret
    exact HE.out _ _ rfl (Mod.refl _ _)
  have h10i : ¬ (e.length : Int) ≤ 10 := by omega
  obtain ⟨ad, rfl⟩ : ∃ ad, A' = some ad := by obtain ⟨ad, h, _⟩ := HR.out.2.2 (by omega); exact ⟨ad, h⟩
  have hcv := (HR.out.take (m := 10) (by omega)).conv (P := Try.prog) Try.underlying22 Try.underlying5 Try.underlying9 c'
  by_cases hf : e.take 10 = fromMail
  rotate_left
  · have HE := Sec.mk (HN.out (fun h => hf h.2.1))
    have hz : (e.take 10 == [70, 114, 111, 109, 32, 109, 97, 105, 108, 10]) = false := by simpa [fromMail] using hf
    clear hf
    generalize e.take 10 = x at *
    go_enter Try.func60, Try.ntmps60
    go_wp2
    go_ret
    exact HE.out _ _ rfl (Mod.refl _ _)
  have HF := Sec.mk hf
  rw [hf] at hcv
  clear hf
  obtain ⟨ad', had, hx⟩ := HR.out.byte_at (w' := w) (fun _ _ => rfl) (k := e.length - 1) (by omega)
  obtain rfl := Option.some.inj had
  have ht : ((e.length : Int) - 1).toNat = e.length - 1 := by omega
  have hb0 : (0 : Int) ≤ (e.length : Int) - 1 := by omega
  have hb1 : (e.length : Int) - 1 < (e.length : Int) := by omega
  have HG : Sec (e[e.length - 1]? = some (e[e.length - 1]'(by omega))) := ⟨List.getElem?_eq_getElem _⟩
  generalize e[e.length - 1]'(by omega) = z at *
  by_cases hz : z = 10
  rotate_left
  · have HE := Sec.mk (HN.out (fun h => hz (Option.some.inj (HG.out.symm.trans h.2.2.1))))
    have hzn : ((z.toNat : Int) != 10) = true := by
      simp only [bne_iff_ne, ne_eq]; intro h; exact hz (UInt8.toNat.inj (by show z.toNat = 10; omega))
    clear hz
    go_enter Try.func60, Try.ntmps60
    go_wp2
    go_ret
    exact HE.out _ _ rfl (Mod.refl _ _)
  subst hz
  have hrow := HR.out.cut1 (k := 10) (m := e.length - 1) (by omega) (by omega)
  have HIN : Sec (innerOf e = (e.take (e.length - 1)).drop 10) := ⟨rfl⟩
  have hil : ((e.take (e.length - 1)).drop 10).length = e.length - 1 - 10 := by rw [List.length_drop, List.length_take]; omega
  rw [← HIN.out] at hrow hil
  rw [show ad.add 10 = ⟨ad.block, ad.off + 10, none⟩ from by unfold Addr.add; rw [if_neg (by decide)]] at hrow
  rw [← hil] at hrow
  have HOK : Sec (entryOk e ↔ (innerOf e = [] ∨ (innerOf e)[(innerOf e).length - 1]? = some 10)) := ⟨⟨fun h => h.2.2.2, fun h => ⟨by omega, HF.out, by rw [HG.out], h⟩⟩⟩
  have HSP : Sec (spanOf e stop = ((stop : Int) - (e.length : Int), (stop : Int), unquote (innerOf e))) := ⟨rfl⟩
  have HROW := Sec.mk hrow
  have h10b : (10 : Int) ≤ (e.length : Int) - 1 := by omega
  have h10c : (e.length : Int) - 1 ≤ (e.length : Int) := by omega
  have hili : (innerOf e).length = e.length - 1 - 10 := hil
  clear hrow HIN hil HF HG
  generalize innerOf e = inn at *
  by_cases hbare : inn = [] ∨ inn[inn.length - 1]? = some 10
  rotate_left
  · have HE := Sec.mk (HN.out (fun h => hbare (HOK.out.1 h)))
    have HBR := Sec.mk (fun c => l3Bare_b (c := c) HROW.out false (decide_eq_false hbare))
    clear hbare HOK
    go_enter Try.func60, Try.ntmps60
    go_wp2_with fail
    rw [← hili]
    refine (HBR.out _).mono ?_
    rintro en w1 ⟨rfl, rfl⟩
    go_wp2
    go_ret
    exact HE.out _ _ rfl (Mod.refl _ _)
  have HYES := Sec.mk (HOK.out.2 hbare)
  have HBR := Sec.mk (fun c => l3Bare_b (c := c) HROW.out true (decide_eq_true hbare))
  go_enter Try.func60, Try.ntmps60
  go_wp2_with fail
  rw [← hili]
  refine (HBR.out _).mono ?_
  rintro en w1 ⟨rfl, rfl⟩
  go_wp2
  have hBl := hB
  have HBL := Sec.mk hB
  have HSS : Sec (w1.drew.cell? ⟨O, 1, none⟩ = some (.slice A n c)) := ⟨HO.out.cell 1⟩
  have HST : Sec (∀ W, New w1 W → W.cell? ⟨O, 1, none⟩ = some (.slice A n c)) := ⟨fun W h => (HO.out.mod h id).cell 1⟩
  refine reg_start [17] (fun W => Sec (W.cell? ⟨O, 1, none⟩ = some (.slice A n c))) (by kernel_rfl) ?_
  refine reg_take (.pointer (some ⟨O, 0, none⟩)) (i := 0) (n := 33) HSS rfl (by kernel_rfl) (by kernel_rfl) (by kernel_rfl) (by kernel_rfl) (fun _ _ _ h => h) (fun W hW => exec_move rfl rfl) ?_
  simp only [Act.put, List.setIfInBounds_toArray, List.set_cons_zero, List.set_cons_succ]
  refine reg_take (.pointer (some ⟨O, 0, none⟩)) (i := 1) (n := 34) HSS rfl (by kernel_rfl) (by kernel_rfl) (by kernel_rfl) (by kernel_rfl) (fun _ _ _ h => h) (fun W hW => exec_move rfl rfl) ?_
  simp only [Act.put, List.setIfInBounds_toArray, List.set_cons_zero, List.set_cons_succ]
  refine reg_take (.pointer (some ⟨O, 0, none⟩)) (i := 2) (n := 35) HSS rfl (by kernel_rfl) (by kernel_rfl) (by kernel_rfl) (by kernel_rfl) (fun _ _ _ h => h) (fun W hW => exec_nil rfl rfl) ?_
  simp only [Act.put, List.setIfInBounds_toArray, List.set_cons_zero, List.set_cons_succ]
  refine reg_take (.pointer (some ⟨O, 1, none⟩)) (i := 3) (n := 36) HSS rfl (by kernel_rfl) (by kernel_rfl) (by kernel_rfl) (by kernel_rfl) (fun _ _ _ h => h) (fun W hW => exec_field rfl rfl (spansField1 _ _)) ?_
  simp only [Act.put, List.setIfInBounds_toArray, List.set_cons_zero, List.set_cons_succ]
  refine reg_take (.slice A n c) (i := 4) (n := 37) HSS rfl (by kernel_rfl) (by kernel_rfl) (by kernel_rfl) (by kernel_rfl) (fun _ _ _ h => h) (fun W hW => exec_load rfl rfl (loadSpanS hW.out)) ?_
  simp only [Act.put, List.setIfInBounds_toArray, List.set_cons_zero, List.set_cons_succ]
  refine reg_take (.int .i64 (stop : Int)) (i := 5) (n := 38) HSS rfl (by kernel_rfl) (by kernel_rfl) (by kernel_rfl) (by kernel_rfl) (fun _ _ _ h => h) (fun W hW => exec_move rfl rfl) ?_
  simp only [Act.put, List.setIfInBounds_toArray, List.set_cons_zero, List.set_cons_succ]
  refine reg_take (.slice (some ad) (List.length e) c') (i := 6) (n := 39) HSS rfl (by kernel_rfl) (by kernel_rfl) (by kernel_rfl) (by kernel_rfl) (fun _ _ _ h => h) (fun W hW => exec_move rfl rfl) ?_
  simp only [Act.put, List.setIfInBounds_toArray, List.set_cons_zero, List.set_cons_succ]
  refine reg_take (.int .i64 (List.length e : Int)) (i := 7) (n := 40) HSS rfl (by kernel_rfl) (by kernel_rfl) (by kernel_rfl) (by kernel_rfl) (fun _ _ _ h => h) (fun W hW => exec_len rfl rfl (lenBS _ _ _ _)) ?_
  simp only [Act.put, List.setIfInBounds_toArray, List.set_cons_zero, List.set_cons_succ]
  refine reg_take (.int .i64 ((stop : Int) - (List.length e : Int))) (i := 8) (n := 41) HSS rfl (by kernel_rfl) (by kernel_rfl) (by kernel_rfl) (by kernel_rfl) (fun _ _ _ h => h) (fun W hW => exec_bin rfl rfl rfl (subInt _ _ _ _ _ (by omega) (by omega))) ?_
  simp only [Act.put, List.setIfInBounds_toArray, List.set_cons_zero, List.set_cons_succ]
  refine reg_take (.int .i64 (stop : Int)) (i := 9) (n := 42) HSS rfl (by kernel_rfl) (by kernel_rfl) (by kernel_rfl) (by kernel_rfl) (fun _ _ _ h => h) (fun W hW => exec_move rfl rfl) ?_
  simp only [Act.put, List.setIfInBounds_toArray, List.set_cons_zero, List.set_cons_succ]
  refine reg_take (.slice (some { block := ad.block, off := ad.off + 10 }) (List.length e - 1 - 10) (c' - 10)) (i := 10) (n := 43) HSS rfl (by kernel_rfl) (by kernel_rfl) (by kernel_rfl) (by kernel_rfl) (fun _ _ _ h => h) (fun W hW => exec_move rfl rfl) ?_
  simp only [Act.put, List.setIfInBounds_toArray, List.set_cons_zero, List.set_cons_succ]
  refine reg_step (i := 11) rfl (by kernel_rfl) (fun K hK => ?_)
  have HRD : Sec (Row Ty.byte w1.drew B (some { block := ad.block, off := ad.off + 10 }) inn.length inn) := ⟨HROW.out.mod (fun _ h => h) (fun _ _ => rfl)⟩
  refine wp_call (n := 44) (vals := [.slice (some { block := ad.block, off := ad.off + 10 }) (List.length e - 1 - 10) (c' - 10)]) rfl rfl rfl (by kernel_rfl) (by rw [← hili]; exact unquoteSpec_calls HRD.out HBL.out (by omega) (by omega)) ?_
  rintro en w2 hret
  obtain ⟨A2, c2, rfl, HMN⟩ := RetOwn.mine hret
  obtain ⟨⟨F2, ho2, hF2⟩, hn2⟩ := HMN
  have hn2' : New w1 w2 := (Mod.refl _ _).drew.trans hn2 (fun _ h _ => h)
  refine ⟨_, rfl, hK.out _ _ (fun _ => ⟨HST.out _ hn2'⟩) ?_⟩
  clear hK K
  simp only [Act.put, List.setIfInBounds_toArray, List.set_cons_zero, List.set_cons_succ]
  have hs2 := hn2'.size
  refine reg_take (.agg #[.int .i64 ((stop : Int) - (List.length e : Int)), .int .i64 (stop : Int), .slice A2 (unquote inn).length c2]) (i := 12) (n := 45) (Sec.mk (HST.out _ hn2')) rfl (by kernel_rfl) (by kernel_rfl) (by kernel_rfl) (by kernel_rfl) (fun _ _ _ h => h) (fun W hW => exec_build (parts := [(0, .tmp 41), (1, .tmp 42), (2, .tmp 44)]) rfl rfl (buildSpan _ _ _ _ _ _)) ?_
  simp only [Act.put, List.setIfInBounds_toArray, List.set_cons_zero, List.set_cons_succ]
  refine reg_step (i := 13) rfl (by kernel_rfl) (fun K hK => ?_)
  refine wp_valw (n := 46) (v := .slice (some ⟨w2.heap.size, 0, none⟩) 1 1) (w' := w2.alloc (.cells #[.int .i64 ((stop : Int) - (List.length e : Int)), .int .i64 (stop : Int), .slice A2 (unquote inn).length c2] 32)) ?_ rfl ?_
  · refine exec_buildSlice (parts := [(0, .tmp 45)]) (vs := [(0, .agg #[.int .i64 ((stop : Int) - (List.length e : Int)), .int .i64 (stop : Int), .slice A2 (unquote inn).length c2])]) rfl rfl (buildSpan1 _ _ _ _ _ _)
  refine hK.out _ _ (fun _ => ⟨HST.out _ (hn2'.alloc _)⟩) ?_
  clear hK K
  simp only [Act.put, List.setIfInBounds_toArray, List.set_cons_zero, List.set_cons_succ]
  refine reg_step (i := 14) rfl (by kernel_rfl) (fun K hK => ?_)
  have hn3 : New w1 (w2.alloc (.cells #[.int .i64 ((stop : Int) - (List.length e : Int)), .int .i64 (stop : Int), .slice A2 (unquote inn).length c2] 32)) := hn2'.alloc _
  have hF3 : ∀ k, k ∈ F → k < w1.heap.size := HA.out.lt
  have hspan : dSpan.M (w2.alloc (.cells #[.int .i64 ((stop : Int) - (List.length e : Int)), .int .i64 (stop : Int), .slice A2 (unquote inn).length c2] 32)) F2 (spanOf e stop) [.int .i64 ((stop : Int) - (List.length e : Int)), .int .i64 (stop : Int), .slice A2 (unquote inn).length c2] := by
    rw [HSP.out]
    exact mSpan (wrap64 (by dsimp only; omega) (by dsimp only; omega)) (wrap64 (by dsimp only; omega) (by dsimp only; omega)) (ho2.new ((Mod.refl _ _).alloc _))
  refine wp_append _ (.tmp 37) (.tmp 46) _ rfl dSpan 32 Try.underlying27 eltSpan rfl (HA.out.new hn3) rfl (Elems.one hspan) rfl (fun _ => lit_cells _ _ _ rfl) (by simpa using ho2.nd) (fun k hk hk2 => by simp at hk; have h1 : w1.heap.size ≤ k := hF2 k hk; have h2 := hF3 k hk2; omega) (by omega) ?_
  intro A3 n3 c3 w3 F3 ho3 hn3' hm3 hF3'
  have hm13 : Mod (fun k => k ∈ F) w1 w3 := (hn3.ofNew).trans (hm3.mono (fun i _ hi => (HA.out.own_mem i hi))) (fun _ h _ => h)
  have HB3 := HO.out.mod hm13 hOF
  have hs3 := hm3.size
  simp at hs3
  refine hK.out _ _ (fun _ => ⟨HB3.cell 1⟩) ?_
  clear hK K
  simp only [Act.put, List.setIfInBounds_toArray, List.set_cons_zero, List.set_cons_succ]
  refine reg_step (i := 15) rfl (by kernel_rfl) (fun K hK => ?_)
  refine wp_val (n := 48) (v := .pointer (some ⟨O, 0, none⟩)) (exec_nil rfl rfl) rfl (hK.out _ _ (fun _ => ⟨HB3.cell 1⟩) ?_)
  clear hK K
  simp only [Act.put, List.setIfInBounds_toArray, List.set_cons_zero, List.set_cons_succ]
  refine reg_step (i := 16) rfl (by kernel_rfl) (fun K hK => ?_)
  refine wp_val (n := 49) (v := .pointer (some ⟨O, 1, none⟩)) (exec_field rfl rfl (spansField1 _ _)) rfl (hK.out _ _ (fun _ => ⟨HB3.cell 1⟩) ?_)
  clear hK K
  simp only [Act.put, List.setIfInBounds_toArray, List.set_cons_zero, List.set_cons_succ]
  refine reg_step (i := 17) rfl (by kernel_rfl) (fun K hK => ?_)
  refine wp_store rfl rfl rfl rfl (storeSpanS (HB3.cell 1) (HB3.frozen 1)) (hK.out _ _ (fun h => absurd (List.mem_singleton.2 rfl) h) ?_)
  clear hK K
  refine reg_done (by kernel_rfl) ?_ _
  have HB4 := HB3.set_ 1 (.slice A3 n3 c3)
  simp only [List.set_cons_zero, List.set_cons_succ] at HB4
  have hF3o : ∀ k, k ∈ F3 → k ∈ F ∨ w1.heap.size ≤ k := fun k hk => by
    rcases hF3' k hk with h | h | h
    · exact .inl h
    · simp at h; have h1 : w1.heap.size ≤ k := hF2 k h; exact .inr h1
    · simp at h; exact .inr (by omega)
  have hOF3 : O ∉ F3 := fun h => by rcases hF3o O h with h | h; exact hOF h; omega
  have HO4 := ho3.mod (w' := w3.setCell ⟨O, 1, none⟩ (.slice A3 n3 c3)) (fun k hk => Below.heap_setCell _ _ _ _ (fun h => hOF3 ((show k = O from h) ▸ hk)))
  have HM4 : Mod (fun k => k = O ∨ k ∈ F) w1 (w3.setCell ⟨O, 1, none⟩ (.slice A3 n3 c3)) := (hm13.mono (fun _ _ h => .inr h)).setCell (fun _ => .inl rfl) _
  have HQ : Sec (PieceR w1 O F acc e stop (.returned (.bool true)) (w3.setCell ⟨O, 1, none⟩ (.slice A3 n3 c3))) := ⟨by
    unfold PieceR; rw [if_pos HYES.out]; exact ⟨_, _, _, _, rfl, HB4, HO4, hF3o, HM4⟩⟩
  clear HB3 HB4 HO4 HM4 hm13 hm3 ho3
  go_wp2
  go_ret
  exact HQ.out
end Go.Proofs.Ytciaoedjiggonaa
