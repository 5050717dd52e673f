/- The reader of drawn bytes. -/
import Derived.Test.YtciiejkfppnimaaMem3
import Derived.Test.YtciiejkfppnimaaBytes
import Derived.Test.YtciiejkfppnimaaReg
import Derived.Lib.JoinLaws
namespace Go.Proofs.Ytciiejkfppnimaa
open Go.RowKit Mem
set_option linter.unusedVariables false

/-- make([]byte, 0, n) -/
theorem wpList_mkRoom {P : Program} (w : World) {ops : Array Oper} {rest : List Oper} {o : Oper} {a : Act} {Q : Exit → Act → World → Prop} (hgd : o.guard = none) (l0 l : Operand) (t : TypeId)
    (ho : o.op = .makeSlice t l0 l) (e : TypeId) (ht : P.underlying t = some (.slice e)) (hinfo : (P.info? e).map (fun i => (i.zero, i.size, i.bytes)) = some (some (.int .u8 0), 1, 1))
    (n : Nat) (h0 : a.eval l0 = .int .i64 0) (hn : a.eval l = .int .i64 (n : Int)) (hlen : n ≤ 34359738368)
    (h : ∀ w', Mine Ty.byte e w w' (.slice (some ⟨w.heap.size, 0, none⟩) 0 n) [] → wpList P ops Q rest (a.put o.dst (.slice (some ⟨w.heap.size, 0, none⟩) 0 n)) w') : wpList P ops Q (o :: rest) a w := by
  refine wpList_plain hgd fun K hK => ?_
  have hr := run_make_room (P := P) t e (.int .u8 0) 1 ht hinfo rfl .i64 .i64 n (by omega) (by omega) w
  unfold Oper.wp execOp
  simp only [ho, h0, hn, Sem.run_bind, Sem.run_pure, Result.andThen_ok, hr]
  refine hK _ _ (h _ ⟨⟨[w.heap.size], ⟨[], [], ⟨rfl, .inr ⟨w.heap.size, n, _, rfl, Nat.zero_le _, heap_alloc_new w _, Nat.zero_le _, by simp only [maxLen]; omega, by simp [madeCells, show Ty.byte.sz = 1 from rfl], by simp⟩⟩, Elems.nil _ _, rfl, by simp⟩, fun k hk => by simp at hk; omega⟩, (Mod.refl _ _).alloc _⟩)

/-- the reader in block g has ys ahead -/
structure Rdr (w : World) (g : Nat) (ys : Bytes) : Prop where
  ex : ∃ (A : Option Addr) (c : Nat) (xs : Bytes) (i : Nat) (B : Nat → Prop), Blk w g 48 [.slice A xs.length c, .int .i64 (i : Int)] ∧ i ≤ xs.length ∧ ys = xs.drop i ∧ Row Ty.byte w B A xs.length xs ∧ (∀ k, B k → k < g) ∧ xs.length ≤ 34359738368
theorem Rdr.mod {w w' : World} {g : Nat} {ys : Bytes} {S : Nat → Prop} (h : Rdr w g ys) (hm : Mod S w w') (hS : ∀ k, k ≤ g → ¬ S k) : Rdr w' g ys := by
  obtain ⟨A, c, xs, i, B, hb, hi, he, hr, hB, hl⟩ := h.ex
  have hlt := hb.lt
  exact ⟨A, c, xs, i, B, hb.mod hm (hS g (Nat.le_refl _)), hi, he, hr.mod (fun _ h => h) (fun k hk => hm.block k (by have := hB k hk; omega) (hS k (by have := hB k hk; omega))), hB, hl⟩
theorem Rdr.lt {w : World} {g : Nat} {ys : Bytes} (h : Rdr w g ys) : g < w.heap.size := by
  obtain ⟨A, c, xs, i, B, hb, _⟩ := h.ex; exact hb.lt
def nextD : Bytes → Nat × Bytes
  | [] => (0, [])
  | b :: r => (b.toNat, r)
theorem nextD_lt (ys : Bytes) : (nextD ys).1 < 256 := by cases ys with
  | nil => decide
  | cons b r => exact UInt8.toNat_lt b
set_option maxHeartbeats 1000000 in
set_option maxRecDepth 100000 in
theorem next_calls {w : World} {g : Nat} {ys : Bytes} (h : Rdr w g ys) : Calls Try.prog 39 #[.pointer (some ⟨g, 0, none⟩)] w
    (fun e w' => e = .returned (.int .i64 ((nextD ys).1 : Int)) ∧ Rdr w' g (nextD ys).2 ∧ Mod (· = g) w w') := by
  obtain ⟨A, c, xs, i, B, hb, hi, rfl, hr, hB, hl⟩ := h.ex
  have hlt := hb.lt
  have HB := Sec.mk hb
  have HR := Sec.mk hr
  have HX := Sec.mk hB
  have c0 : w.cell? ⟨g, 0, none⟩ = some (.slice A xs.length c) := hb.cell 0
  have c1 : w.cell? ⟨g, 1, none⟩ = some (.int .i64 (i : Int)) := hb.cell 1
  have f1 : w.frozen? ⟨g, 1, none⟩ = false := hb.frozen 1
  clear hb hr hB h
  by_cases hlt : i < xs.length
  · obtain ⟨ad, rfl, hx⟩ := HR.out.byte_at (fun _ _ => rfl) hlt
    have HD : Sec (nextD (xs.drop i) = (xs[i].toNat, xs.drop (i + 1))) := ⟨by rw [List.drop_eq_getElem_cons hlt]; rfl⟩
    have hxl := UInt8.toNat_lt xs[i]
    have hii : (i : Int) < (xs.length : Int) := by omega
    generalize xs[i].toNat = b at *
    go_enter Try.func39, Try.ntmps39
    go_wp2
    go_quiet (fail)
    go_wp2
    go_quiet (fail)
    go_wp2
    go_ret
    rw [HD.out]
    refine ⟨rfl, ⟨_, c, xs, i + 1, B, ?_, by omega, rfl, HR.out.mod (fun _ h => h) (fun k hk => ?_), HX.out, hl⟩, ((Mod.refl (fun k => k = g) w).drewN _).setCell (p := ⟨g, 1, none⟩) (fun _ => rfl) _⟩
    · rw [show ((i + 1 : Nat) : Int) = (i : Int) + 1 by omega]
      exact (HB.out.drewN _).set_ 1 _
    · exact Below.heap_setCell _ _ _ _ (by have := HX.out k hk; simp; omega)
  · obtain rfl : i = xs.length := by omega
    have HD : Sec (nextD (xs.drop xs.length) = (0, [])) := ⟨by rw [List.drop_length]; rfl⟩
    go_enter Try.func39, Try.ntmps39
    go_wp2
    go_quiet (fail)
    go_wp2
    go_ret
    rw [HD.out]
    refine ⟨rfl, ⟨_, c, xs, xs.length, B, HB.out.drewN _, by omega, by simp, HR.out.mod (fun _ h => h) (fun _ _ => rfl), HX.out, hl⟩, (Mod.refl _ _).drewN _⟩
end Go.Proofs.Ytciiejkfppnimaa
