/- The specification's entry of an mbox text. -/
import Derived.Test.YtciiejkfppnimaaPureSplitM
import Derived.Test.YtciiejkfppnimaaUnquote
import Derived.Test.YtciiejkfppnimaaSSpan
import Derived.Test.YtciiejkfppnimaaReg2
namespace Go.Proofs.Ytciiejkfppnimaa
open Go.RowKit Mem
set_option linter.unusedVariables false
/-- does a text end with a line end -/
def endNl (ys : Bytes) : Prop := ys ≠ [] ∧ ys[ys.length - 1]? = some 10
instance (ys : Bytes) : Decidable (endNl ys) := inferInstanceAs (Decidable (_ ∧ _))
set_option maxHeartbeats 1000000 in
set_option maxRecDepth 100000 in
theorem endsLine_calls {A : Option Addr} {c : Nat} {ys : Bytes} {B : Nat → Prop} {w : World} (h : Row Ty.byte w B A ys.length ys) (b : Bool) (hb : decide (endNl ys) = b) : Calls Try.prog 29 #[.slice A ys.length c] w (fun e w' => e = .returned (.bool b) ∧ w' = w) := by
  have hm := h.2.1
  have HB := Sec.mk hb
  clear hb
  by_cases h0 : ys.length = 0
  · have h0i : ¬ (0 : Int) < (ys.length : Int) := by omega
    have HE : Sec (b = false) := ⟨by rw [← HB.out]; exact decide_eq_false (fun hh => hh.1 (List.eq_nil_of_length_eq_zero h0))⟩
    go_enter Try.func29, Try.ntmps29
    go_wp2
    go_ret
    rw [HE.out]
    exact ⟨rfl, rfl⟩
  · have h0i : (0 : Int) < (ys.length : Int) := by omega
    obtain ⟨ad, rfl, hx⟩ := h.byte_at (w' := w) (fun _ _ => rfl) (k := ys.length - 1) (by omega)
    have ht : ((ys.length : Int) - 1).toNat = ys.length - 1 := by omega
    have hb0 : (0 : Int) ≤ (ys.length : Int) - 1 := by omega
    have hb1 : (ys.length : Int) - 1 < (ys.length : Int) := by omega
    have HG : Sec (ys[ys.length - 1]? = some (ys[ys.length - 1]'(by omega))) := ⟨List.getElem?_eq_getElem _⟩
    have HNE : Sec (ys ≠ []) := ⟨fun e => h0 (by rw [e]; rfl)⟩
    generalize ys[ys.length - 1]'(by omega) = z at *
    by_cases hz : z = 10
    · have HE : Sec (b = true) := ⟨by rw [← HB.out]; exact decide_eq_true ⟨HNE.out, by rw [HG.out, hz]⟩⟩
      subst hz
      go_enter Try.func29, Try.ntmps29
      go_wp2
      go_ret
      rw [HE.out]
      exact ⟨rfl, rfl⟩
    · have HE : Sec (b = false) := ⟨by rw [← HB.out]; exact decide_eq_false (fun hh => hz (Option.some.inj (HG.out.symm.trans hh.2)))⟩
      have hzn : ((z.toNat : Int) == 10) = false := by
        simp only [beq_eq_false_iff_ne, ne_eq]; intro h; exact hz (UInt8.toNat.inj (by show z.toNat = 10; omega))
      clear hz
      go_enter Try.func29, Try.ntmps29
      go_wp2
      go_ret
      rw [HE.out]
      exact ⟨rfl, rfl⟩
theorem spansField1 (g : Nat) (w : World) : (Instr.fieldAt 29 (.pointer (some ⟨g, 0, none⟩)) 1).run Try.prog w = .ok (.pointer (some ⟨g, 1, none⟩)) w := by go_simp
theorem loadSpanS {w : World} {p : Addr} {v : Value} (h : w.cell? p = some v) : (Instr.loadAt 27 (.pointer (some p))).run Try.prog w = .ok v w := by go_simp
theorem storeSpanS {w : World} {p : Addr} {u : Value} {A : Option Addr} {n c : Nat} (h : w.cell? p = some u) (hf : w.frozen? p = false) : (Instr.storeAt 27 (.pointer (some p)) (.slice A n c)).run Try.prog w = .ok () (w.setCell p (.slice A n c)) := by go_simp
theorem buildSpan1 (a b : Int) (A : Option Addr) (n c : Nat) (w : World) : (Instr.buildSlice 27 1 #[(0, .agg #[.int .i64 a, .int .i64 b, .slice A n c])]).run Try.prog w = .ok (.slice (some ⟨w.heap.size, 0, none⟩) 1 1) (w.alloc (.cells #[.int .i64 a, .int .i64 b, .slice A n c] 32)) := by go_simp
theorem wrap64 {g : Int} (h0 : -9223372036854775808 ≤ g) (h1 : g ≤ 9223372036854775807) : IntKind.i64.wrap g = g := by rw [IntKind.wrap_i64]; omega
theorem subInt (x y : Operand) (a b : Int) (w : World) (h0 : -9223372036854775808 ≤ a - b) (h1 : a - b ≤ 9223372036854775807) : (do eqGuard .sub 3 x y (.int .i64 a) (.int .i64 b); binOp .sub 3 (.int .i64 a) (.int .i64 b) : Sem Value).run Try.prog w = .ok (.int .i64 (a - b)) w := by
  have hw := wrap64 h0 h1
  go_simp
theorem buildSpan (a b : Int) (A : Option Addr) (n c : Nat) (w : World) : (Instr.build 32 #[(0, .int .i64 a), (1, .int .i64 b), (2, .slice A n c)]).run Try.prog w = .ok (.agg #[.int .i64 a, .int .i64 b, .slice A n c]) w := by go_simp
/-- what an entry comes to -/
def PieceR (w : World) (O : Nat) (F : List Nat) (acc : List SpanT) (e : Bytes) (stop : Nat) (en : Ending) (w' : World) : Prop :=
  if entryOk e then ∃ A2 n2 c2 F2, en = .returned (.bool true) ∧ Blk w' O 29 [.bool true, .slice A2 n2 c2] ∧ Own dSpan 32 w' F2 (.slice A2 n2 c2) (acc ++ [spanOf e stop]) ∧ (∀ k, k ∈ F2 → k ∈ F ∨ w.heap.size ≤ k) ∧ Mod (fun k => k = O ∨ k ∈ F) w w'
  else en = .returned (.bool false) ∧ New w w'
end Go.Proofs.Ytciiejkfppnimaa
