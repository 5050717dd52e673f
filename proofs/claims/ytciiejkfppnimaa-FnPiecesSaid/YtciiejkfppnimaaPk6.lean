/- Bytes that are the call's own: a row of its own, or a conversion's row. The laws' helpers over Unit and over slices of it. -/
import Derived.Test.YtciiejkfppnimaaPk4
import Derived.Test.YtciiejkfppnimaaPk5
import Derived.Test.YtciiejkfppnimaaPk2
import Derived.Test.YtciiejkfppnimaaProg
import Derived.WalkKit
namespace Go.Proofs.Ytciiejkfppnimaa
open Go.RowKit Mem
set_option linter.unusedVariables false
def OwX (w : World) (F : List Nat) (v : Value) (x : Bytes) : Prop := Own Ty.byte 5 w F v x ∨ ∃ g c, v = .slice (some ⟨g, 0, none⟩) x.length c ∧ x.length ≤ c ∧ c ≤ 9223372036854775807 ∧ F = [g] ∧ BRow w g x
theorem BRow.lt {w : World} {g : Nat} {x : Bytes} (h : BRow w g x) : g < w.heap.size := by
  obtain ⟨tl, e, hh⟩ := h.ex
  exact (Array.getElem?_eq_some_iff.1 hh).1
theorem BRow.mv {w w' : World} {g : Nat} {x : Bytes} (h : BRow w g x) (hb : w'.heap[g]? = w.heap[g]?) : BRow w' g x := by
  obtain ⟨tl, e, hh⟩ := h.ex
  exact ⟨tl, e, by rw [hb]; exact hh⟩
theorem OwX.nd {w : World} {F : List Nat} {v : Value} {x : Bytes} (h : OwX w F v x) : F.Nodup := by
  rcases h with h | ⟨g, c, rfl, h1, h2, rfl, hb⟩
  · exact h.nd
  · simp
theorem OwX.lt {w : World} {F : List Nat} {v : Value} {x : Bytes} (h : OwX w F v x) : ∀ k, k ∈ F → k < w.heap.size := by
  rcases h with h | ⟨g, c, rfl, h1, h2, rfl, hb⟩
  · exact h.lt
  · intro k hk; rw [List.mem_singleton.1 hk]; exact hb.lt
theorem OwX.keep {w w' : World} {F : List Nat} {v : Value} {x : Bytes} (h : OwX w F v x) {S : Nat → Prop} (hm : Mod S w w') (hS : ∀ k, k ∈ F → ¬ S k) : OwX w' F v x := by
  rcases h with h | ⟨g, c, rfl, h1, h2, rfl, hb⟩
  · exact .inl (h.keep hm hS)
  · exact .inr ⟨g, c, rfl, h1, h2, rfl, hb.mv (hm.block g hb.lt (hS g (by simp)))⟩
def dBX : Ty Bytes where
  sz := 1
  K := dBS.K
  M := fun w F x cs => ∃ v, cs = [v] ∧ OwX w F v x
  K_len := fun h => dBS.K_len h
  K_one := fun h => dBS.K_one h
  K_mod := fun h h1 h2 => dBS.K_mod h h1 h2
  M_K := by
    rintro w F x cs ⟨v, rfl, h | ⟨g, c, rfl, h1, h2, rfl, hb⟩⟩
    · exact dBS.M_K ⟨v, rfl, h⟩
    · exact ⟨some ⟨g, 0, none⟩, c, rfl, h1, h2, (hb.row (by omega)).mod (fun k hk => by simp [hk]) (fun _ _ => rfl)⟩
  M_mod := by
    rintro w w' F x cs ⟨v, rfl, h | ⟨g, c, rfl, h1, h2, rfl, hb⟩⟩ hh
    · obtain ⟨v', e, h'⟩ := dBS.M_mod ⟨v, rfl, h⟩ hh
      exact ⟨v', e, .inl h'⟩
    · exact ⟨_, rfl, .inr ⟨g, c, rfl, h1, h2, rfl, hb.mv (hh g (by simp))⟩⟩
  M_lt := by
    rintro w F x cs ⟨v, rfl, h⟩
    exact h.lt
  M_nd := by
    rintro w F x cs ⟨v, rfl, h⟩
    exact h.nd
abbrev cntBX (x : Bytes) : Nat := cntBS x
abbrev mkBX1 (k : Nat) (x : Bytes) : Bytes := mkBS1 k x
theorem cntBX_mk (k : Nat) (x : Bytes) : cntBX (mkBX1 k x) = cntBX x := cntBS_mk k x
theorem mkBX1_idem (k k' : Nat) (x : Bytes) : mkBX1 k' (mkBX1 k x) = mkBX1 k' x := mkBS1_idem k k' x
theorem RdV.ofX {w : World} {v : Value} {x : Bytes} (h : RdV false dBX w v x) : RdV false dBS w v x := h
theorem eqByteX_v {w : World} {v v' : Value} {x x' : Bytes} (h : RdV false dBS w v x) (h' : RdV false dBS w v' x') : Calls Try.prog 16 #[v, v'] w (Ret (.bool (decide (x = x'))) w) := eqByteS_v h h'
set_option maxHeartbeats 400000 in
theorem markRow_calls {g c : Nat} {xs : Bytes} {w : World} (h : BRow w g xs) (k : Nat) (hk : k + xs.length ≤ 1152921504606846976) :
    Calls Try.prog 17 #[.slice (some ⟨g, 0, none⟩) xs.length c, .int .i64 k] w fun e w' => e = .returned (.int .i64 ((k + xs.length : Nat) : Int)) ∧ BRow w' g (mkB k xs.length) ∧ Mod (· ∈ [g]) w w' := by
  have HO := Sec.mk h
  clear h
  go_enter Try.func17, Try.ntmps17
  go_wp2
  go_loopw [1, 5] (fun q i wr => ∃ (j : Nat) (ys : Bytes), j ≤ xs.length ∧ i = .int .i64 j ∧ q = .int .i64 ((k + j : Nat) : Int) ∧ Sec (ys.length = xs.length) ∧ Sec (ys.take j = (mkB k xs.length).take j) ∧ Sec (BRow wr g ys) ∧ Sec (Mod (· ∈ [g]) w wr)) (fun _ i _ => xs.length - (intOf i).toNat)
  case atStart => exact ⟨0, xs, Nat.zero_le _, rfl, rfl, ⟨rfl⟩, ⟨by simp⟩, HO, ⟨Mod.refl _ _⟩⟩
  case round =>
    clear HO
    obtain ⟨j, ys, hj, rfl, rfl, HL, HT, HO, HM⟩ := hrel
    have hgl := HO.out.lt
    by_cases hlt : j < xs.length
    · have hly : j < ys.length := by rw [HL.out]; exact hlt
      have hc := HO.out.cell j hly
      have hf := HO.out.frozen j hly
      have HU := Sec.mk (u8_of (k + j))
      have HO' := Sec.mk (HO.out.set j hly (UInt8.ofNat (k + j)))
      generalize ys[j] = b at *
      go_wp2
      go_roundw
      case rel =>
        refine ⟨j + 1, _, by omega, by go_num, by go_num, ⟨(set_len ys j (UInt8.ofNat (k + j))).trans HL.out⟩, ⟨?_⟩, ⟨?_⟩, ⟨?_⟩⟩
        · have := set_prefix (mkB k xs.length) ys j (by rw [mkB_len]; exact hlt) (by rw [mkB_len]; exact HL.out) HT.out
          rwa [mkB_at] at this
        · have := HO'.out
          rw [HU.out, IntKind.wrap_u8, Int.natCast_add] at this
          exact this
        · exact HM.out.setCell (fun _ => by simp) _
      case measure => simp [intOf]; omega
    · obtain rfl : j = xs.length := by omega
      go_wp2
      go_ret
      have he : ys = mkB k xs.length := by
        have h1 := HT.out
        rw [List.take_of_length_le (by rw [HL.out]; omega), List.take_of_length_le (by rw [mkB_len]; omega)] at h1
        exact h1
      refine ⟨by simp, ?_, HM.out⟩
      rw [← he]
      exact HO.out
theorem markByteX_f {w : World} {F : List Nat} {v : Value} {x : Bytes} (h : OwF false dBX w F v x) (k : Nat) (hk : k + cntBX x ≤ 1152921504606846976) :
    Calls Try.prog 17 #[v, .int .i64 k] w (Marks false dBX w F v (k + cntBX x) (mkBX1 k x)) := by
  obtain ⟨cs, rfl, v, rfl, h | ⟨g, c, rfl, h1, h2, rfl, hb⟩⟩ := h
  · refine (markByteS_f ⟨[v], rfl, v, rfl, h⟩ k hk).mono ?_
    rintro e w' ⟨rfl, ⟨F', ⟨cs', hv, v', rfl, ho⟩, hF'⟩, hm⟩
    exact ⟨rfl, ⟨F', ⟨[v'], hv, v', rfl, .inl ho⟩, hF'⟩, hm⟩
  · refine (markRow_calls hb k hk).mono ?_
    rintro e w' ⟨rfl, hb', hm⟩
    have hl : (mkBX1 k x).length = x.length := mkB_len _ _
    refine ⟨rfl, ⟨[g], ⟨[_], rfl, _, rfl, .inr ⟨g, c, ?_, ?_, h2, rfl, hb'⟩⟩, fun _ h => h⟩, hm⟩
    · rw [hl]
    · rw [hl]; exact h1
theorem markByteX_i {w : World} {F : List Nat} {v : Value} {x : Bytes} (h : OwF false dBX w F v x) (q : Int) (k : Nat) (hq : q = (k : Int)) (hk : k + cntBX x ≤ 1152921504606846976) :
    Calls Try.prog 17 #[v, .int .i64 q] w (Marks false dBX w F v (k + cntBX x) (mkBX1 k x)) := by subst hq; exact markByteX_f h k hk
theorem heldByteX_v {w : World} {v : Value} {x : Bytes} (h : RdV false dBX w v x) (k : Nat) (hx : x = mkBX1 k x) (hk : k + cntBX x ≤ 1152921504606846976) : Calls Try.prog 38 #[v, .int .i64 k] w (Ret (.int .i64 ((k + cntBX x : Nat) : Int)) w) := heldByteS_v h k hx hk
theorem heldByteX_i {w : World} {v : Value} {x : Bytes} (h : RdV false dBX w v x) (q : Int) (k : Nat) (hq : q = (k : Int)) (hx : x = mkBX1 k x) (hk : k + cntBX x ≤ 1152921504606846976) :
    Calls Try.prog 38 #[v, .int .i64 q] w (Ret (.int .i64 ((k + cntBX x : Nat) : Int)) w) := by subst hq; exact heldByteX_v h k hx hk
end Go.Proofs.Ytciiejkfppnimaa

namespace Go.Proofs.Ytciiejkfppnimaa
open Go.RowKit Mem
set_option linter.unusedVariables false
set_option linter.unusedSimpArgs false
abbrev UnitT := Bytes × (Bytes × (Bool × Bool))
abbrev dUnit : Ty UnitT := Ty.pair dBX (Ty.pair dBX (Ty.pair Ty.bool Ty.bool))
set_option synthInstance.maxSize 2000
theorem rdUnit {w : World} {v : Value} {x : UnitT} (h : RdV true dUnit w v x) : ∃ v0 v1, v = .agg #[v0, v1, .bool x.2.2.1, .bool x.2.2.2] ∧ RdV false dBS w v0 x.1 ∧ RdV false dBS w v1 x.2.1 := by
  obtain ⟨cs, rfl, c0, r0, rfl, h0, c1, r1, rfl, h1, c2, c3, rfl, h2, h3⟩ := h
  obtain ⟨A0, cp0, rfl, g0⟩ := h0
  obtain ⟨A1, cp1, rfl, g1⟩ := h1
  obtain rfl := h2
  obtain rfl := h3
  exact ⟨_, _, rfl, ⟨_, rfl, A0, cp0, rfl, g0⟩, ⟨_, rfl, A1, cp1, rfl, g1⟩⟩
theorem cellsUnit {w : World} {v : Value} {x : UnitT} (h : RdV true dUnit w v x) : ∃ A0 q0 A1 q1, v = .agg #[.slice A0 x.1.length q0, .slice A1 x.2.1.length q1, .bool x.2.2.1, .bool x.2.2.2] := by
  obtain ⟨v0, v1, rfl, k0, k1⟩ := rdUnit h
  obtain ⟨A0, q0, rfl, _⟩ := k0.slice
  obtain ⟨A1, q1, rfl, _⟩ := k1.slice
  exact ⟨A0, q0, A1, q1, rfl⟩
theorem fldUnit0 : Fld dUnit 0 dBX (fun x => x.1) (fun x y => (y, x.2)) := (Fld.fst (Fld.one rfl))
theorem fldUnit1 : Fld dUnit 1 dBX (fun x => x.2.1) (fun x y => (x.1, y, x.2.2)) := (Fld.snd (Fld.fst (Fld.one rfl)) rfl)
theorem fldUnit2 : Fld dUnit 2 Ty.bool (fun x => x.2.2.1) (fun x y => (x.1, x.2.1, y, x.2.2.2)) := (Fld.snd (Fld.snd (Fld.fst (Fld.one rfl)) rfl) rfl)
theorem fldUnit3 : Fld dUnit 3 Ty.bool (fun x => x.2.2.2) (fun x y => (x.1, x.2.1, x.2.2.1, y)) := (Fld.snd (Fld.snd (Fld.snd (Fld.one rfl) rfl) rfl) rfl)
theorem eltUnit : Elt Try.prog 44 dUnit.sz (.agg #[.slice none 0 0, .slice none 0 0, .bool false, .bool false]) := Elt.of (b := 56) (by kernel_rfl) rfl (by decide) (by decide)
theorem mUnit {w : World} {x : UnitT} {F0 F1 : List Nat} {v0 v1 : Value} (o0 : OwX w F0 v0 x.1) (o1 : OwX w F1 v1 x.2.1) (hd : ∀ k, k ∈ F0 → k ∉ F1) : dUnit.M w (F0 ++ (F1 ++ ([]))) x [v0, v1, .bool x.2.2.1, .bool x.2.2.2] := by
  have n1 : (F1 ++ ([] : List Nat)).Nodup := by simpa using o1.nd
  have n0' : (F0 ++ (F1 ++ ([] : List Nat))).Nodup := List.nodup_append.2 ⟨o0.nd, n1, fun p hp q hq e => by subst e; exact hd p hp (by simpa using hq)⟩
  exact ⟨_, _, F0, _, rfl, rfl, (List.nodup_append.2 ⟨o0.nd, n1, fun p hp q hq e => by subst e; exact hd p hp (by simpa using hq)⟩), ⟨_, rfl, o0⟩, ⟨_, _, F1, _, rfl, rfl, (by simpa using o1.nd), ⟨_, rfl, o1⟩, ⟨_, _, [], _, rfl, rfl, (by simp), ⟨rfl, rfl⟩, ⟨rfl, rfl⟩⟩⟩⟩

set_option maxHeartbeats 1000000 in
set_option maxRecDepth 100000 in
theorem eqUnit_v {w : World} {v v' : Value} {x x' : UnitT} (h : RdV true dUnit w v x) (h' : RdV true dUnit w v' x') : Calls Try.prog 52 #[v, v'] w (Ret (.bool (decide (x = x'))) w) := by
  obtain ⟨v0, v1, rfl, k0, k1⟩ := rdUnit h
  obtain ⟨u0, u1, rfl, k0', k1'⟩ := rdUnit h'
  obtain ⟨a0, a1, a2, a3⟩ := x
  obtain ⟨b0, b1, b2, b3⟩ := x'
  simp only at k0 k0' k1 k1' ⊢
  have HB0 := Sec.mk ((Blk.new w 44 [v0, v1, .bool a2, .bool a3]).alloc (.cells #[u0, u1, .bool b2, .bool b3] 44))
  have HB1 := Sec.mk (Blk.new (w.alloc (.cells #[v0, v1, .bool a2, .bool a3] 44)) 44 [u0, u1, .bool b2, .bool b3])
  rw [show (w.alloc (.cells #[v0, v1, .bool a2, .bool a3] 44)).heap.size = w.heap.size + 1 by simp] at HB1
  have HM0 := Sec.mk (((Mod.refl (fun _ => False) w).alloc (.cells #[v0, v1, .bool a2, .bool a3] 44)).alloc (.cells #[u0, u1, .bool b2, .bool b3] 44))
  have H0 := Sec.mk (k0.step HM0.out)
  have H0' := Sec.mk (k0'.step HM0.out)
  have H1 := Sec.mk (k1.step HM0.out)
  have H1' := Sec.mk (k1'.step HM0.out)
  clear h h' k0 k0' k1 k1'
  by_cases e0 : a0 = b0
  rotate_left
  · have HE : Sec (decide ((a0, a1, a2, a3) = (b0, b1, b2, b3)) = false) := ⟨by simp [e0]⟩
    have E0 : Sec (decide (a0 = b0) = false) := ⟨by simp [e0]⟩
    clear e0
    go_enter Try.func52, Try.ntmps52
    go_wp2_with fail
    refine (eqByteX_v (H0.out) (H0'.out)).mono ?_
    rw [E0.out]
    rintro e w0 ⟨rfl, hm0⟩
    have m0 := Sec.mk hm0
    clear hm0
    go_wp2
    go_ret
    exact ⟨by rw [HE.out]; rfl, HM0.out.transN m0.out⟩
  have E0 : Sec (decide (a0 = b0) = true) := ⟨by simp [e0]⟩
  have S0 := Sec.mk e0
  clear e0
  by_cases e1 : a1 = b1
  rotate_left
  · have HE : Sec (decide ((a0, a1, a2, a3) = (b0, b1, b2, b3)) = false) := ⟨by simp [e1]⟩
    have E1 : Sec (decide (a1 = b1) = false) := ⟨by simp [e1]⟩
    clear e1
    go_enter Try.func52, Try.ntmps52
    go_wp2_with fail
    refine (eqByteX_v (H0.out) (H0'.out)).mono ?_
    rw [E0.out]
    rintro e w0 ⟨rfl, hm0⟩
    have m0 := Sec.mk hm0
    have p0_1 : w0.cell? ⟨w.heap.size, 1, none⟩ = some (v1) := (HB0.out.mod m0.out id).cell 1
    have q0_1 : w0.cell? ⟨w.heap.size + 1, 1, none⟩ = some (u1) := (HB1.out.mod m0.out id).cell 1
    clear hm0
    go_wp2_with fail
    refine (eqByteX_v (H1.out.step m0.out) (H1'.out.step m0.out)).mono ?_
    rw [E1.out]
    rintro e w1 ⟨rfl, hm1⟩
    have m1 := Sec.mk (m0.out.transN hm1)
    clear hm1
    go_wp2
    go_ret
    exact ⟨by rw [HE.out]; rfl, HM0.out.transN m1.out⟩
  have E1 : Sec (decide (a1 = b1) = true) := ⟨by simp [e1]⟩
  have S1 := Sec.mk e1
  clear e1
  by_cases e2 : a2 = b2
  rotate_left
  · have HE : Sec (decide ((a0, a1, a2, a3) = (b0, b1, b2, b3)) = false) := ⟨by simp [e2]⟩
    have hb2 : (a2 == b2) = false := by simpa using e2
    clear e2
    go_enter Try.func52, Try.ntmps52
    go_wp2_with fail
    refine (eqByteX_v (H0.out) (H0'.out)).mono ?_
    rw [E0.out]
    rintro e w0 ⟨rfl, hm0⟩
    have m0 := Sec.mk hm0
    have p0_1 : w0.cell? ⟨w.heap.size, 1, none⟩ = some (v1) := (HB0.out.mod m0.out id).cell 1
    have q0_1 : w0.cell? ⟨w.heap.size + 1, 1, none⟩ = some (u1) := (HB1.out.mod m0.out id).cell 1
    have p0_2 : w0.cell? ⟨w.heap.size, 2, none⟩ = some (.bool a2) := (HB0.out.mod m0.out id).cell 2
    have q0_2 : w0.cell? ⟨w.heap.size + 1, 2, none⟩ = some (.bool b2) := (HB1.out.mod m0.out id).cell 2
    clear hm0
    go_wp2_with fail
    refine (eqByteX_v (H1.out.step m0.out) (H1'.out.step m0.out)).mono ?_
    rw [E1.out]
    rintro e w1 ⟨rfl, hm1⟩
    have m1 := Sec.mk (m0.out.transN hm1)
    have p1_2 : w1.cell? ⟨w.heap.size, 2, none⟩ = some (.bool a2) := (HB0.out.mod m1.out id).cell 2
    have q1_2 : w1.cell? ⟨w.heap.size + 1, 2, none⟩ = some (.bool b2) := (HB1.out.mod m1.out id).cell 2
    clear hm1
    go_wp2
    go_ret
    exact ⟨by rw [HE.out]; rfl, HM0.out.transN m1.out⟩
  have hb2 : (a2 == b2) = true := by simp [e2]
  have S2 := Sec.mk e2
  clear e2
  by_cases e3 : a3 = b3
  rotate_left
  · have HE : Sec (decide ((a0, a1, a2, a3) = (b0, b1, b2, b3)) = false) := ⟨by simp [e3]⟩
    have hb3 : (a3 == b3) = false := by simpa using e3
    clear e3
    go_enter Try.func52, Try.ntmps52
    go_wp2_with fail
    refine (eqByteX_v (H0.out) (H0'.out)).mono ?_
    rw [E0.out]
    rintro e w0 ⟨rfl, hm0⟩
    have m0 := Sec.mk hm0
    have p0_1 : w0.cell? ⟨w.heap.size, 1, none⟩ = some (v1) := (HB0.out.mod m0.out id).cell 1
    have q0_1 : w0.cell? ⟨w.heap.size + 1, 1, none⟩ = some (u1) := (HB1.out.mod m0.out id).cell 1
    have p0_2 : w0.cell? ⟨w.heap.size, 2, none⟩ = some (.bool a2) := (HB0.out.mod m0.out id).cell 2
    have q0_2 : w0.cell? ⟨w.heap.size + 1, 2, none⟩ = some (.bool b2) := (HB1.out.mod m0.out id).cell 2
    have p0_3 : w0.cell? ⟨w.heap.size, 3, none⟩ = some (.bool a3) := (HB0.out.mod m0.out id).cell 3
    have q0_3 : w0.cell? ⟨w.heap.size + 1, 3, none⟩ = some (.bool b3) := (HB1.out.mod m0.out id).cell 3
    clear hm0
    go_wp2_with fail
    refine (eqByteX_v (H1.out.step m0.out) (H1'.out.step m0.out)).mono ?_
    rw [E1.out]
    rintro e w1 ⟨rfl, hm1⟩
    have m1 := Sec.mk (m0.out.transN hm1)
    have p1_2 : w1.cell? ⟨w.heap.size, 2, none⟩ = some (.bool a2) := (HB0.out.mod m1.out id).cell 2
    have q1_2 : w1.cell? ⟨w.heap.size + 1, 2, none⟩ = some (.bool b2) := (HB1.out.mod m1.out id).cell 2
    have p1_3 : w1.cell? ⟨w.heap.size, 3, none⟩ = some (.bool a3) := (HB0.out.mod m1.out id).cell 3
    have q1_3 : w1.cell? ⟨w.heap.size + 1, 3, none⟩ = some (.bool b3) := (HB1.out.mod m1.out id).cell 3
    clear hm1
    go_wp2
    go_ret
    exact ⟨by rw [HE.out]; rfl, HM0.out.transN m1.out⟩
  have hb3 : (a3 == b3) = true := by simp [e3]
  have S3 := Sec.mk e3
  clear e3
  have HE : Sec (decide ((a0, a1, a2, a3) = (b0, b1, b2, b3)) = true) := ⟨by simp [S0.out, S1.out, S2.out, S3.out]⟩
  go_enter Try.func52, Try.ntmps52
  go_wp2_with fail
  refine (eqByteX_v (H0.out) (H0'.out)).mono ?_
  rw [E0.out]
  rintro e w0 ⟨rfl, hm0⟩
  have m0 := Sec.mk hm0
  have p0_1 : w0.cell? ⟨w.heap.size, 1, none⟩ = some (v1) := (HB0.out.mod m0.out id).cell 1
  have q0_1 : w0.cell? ⟨w.heap.size + 1, 1, none⟩ = some (u1) := (HB1.out.mod m0.out id).cell 1
  have p0_2 : w0.cell? ⟨w.heap.size, 2, none⟩ = some (.bool a2) := (HB0.out.mod m0.out id).cell 2
  have q0_2 : w0.cell? ⟨w.heap.size + 1, 2, none⟩ = some (.bool b2) := (HB1.out.mod m0.out id).cell 2
  have p0_3 : w0.cell? ⟨w.heap.size, 3, none⟩ = some (.bool a3) := (HB0.out.mod m0.out id).cell 3
  have q0_3 : w0.cell? ⟨w.heap.size + 1, 3, none⟩ = some (.bool b3) := (HB1.out.mod m0.out id).cell 3
  clear hm0
  go_wp2_with fail
  refine (eqByteX_v (H1.out.step m0.out) (H1'.out.step m0.out)).mono ?_
  rw [E1.out]
  rintro e w1 ⟨rfl, hm1⟩
  have m1 := Sec.mk (m0.out.transN hm1)
  have p1_2 : w1.cell? ⟨w.heap.size, 2, none⟩ = some (.bool a2) := (HB0.out.mod m1.out id).cell 2
  have q1_2 : w1.cell? ⟨w.heap.size + 1, 2, none⟩ = some (.bool b2) := (HB1.out.mod m1.out id).cell 2
  have p1_3 : w1.cell? ⟨w.heap.size, 3, none⟩ = some (.bool a3) := (HB0.out.mod m1.out id).cell 3
  have q1_3 : w1.cell? ⟨w.heap.size + 1, 3, none⟩ = some (.bool b3) := (HB1.out.mod m1.out id).cell 3
  clear hm1
  go_wp2
  go_ret
  exact ⟨by rw [HE.out]; rfl, HM0.out.transN m1.out⟩

def mkUnit1 (k : Nat) (x : UnitT) : UnitT := (mkBX1 k x.1, mkBX1 (k + cntBX x.1) x.2.1, (((((k + cntBX x.1) + cntBX x.2.1) : Nat) : Int)) % 3 == 0, (((((k + cntBX x.1) + cntBX x.2.1) : Nat) : Int) + 1) % 3 == 0)
def cntUnit (x : UnitT) : Nat := cntBX x.1 + cntBX x.2.1 + 1 + 1
theorem cntUnit_mk (k : Nat) (x : UnitT) : cntUnit (mkUnit1 k x) = cntUnit x := by simp only [cntUnit, mkUnit1, cntBX_mk]
theorem mkUnit1_idem (k k' : Nat) (x : UnitT) : mkUnit1 k' (mkUnit1 k x) = mkUnit1 k' x := by simp only [mkUnit1, cntBX_mk, mkBX1_idem]
abbrev UnitST := List UnitT
abbrev dUnitS : Ty UnitST := Ty.slice 44 dUnit
def cntUnitS (xs : UnitST) : Nat := preS cntUnit xs xs.length
def mkUnitS1 (k : Nat) (xs : UnitST) : UnitST := markL mkUnit1 cntUnit k xs
theorem cntUnitS_mk (k : Nat) (xs : UnitST) : cntUnitS (mkUnitS1 k xs) = cntUnitS xs := by unfold cntUnitS mkUnitS1; rw [preS_mark _ _ cntUnit_mk, markL_len]
theorem mkUnitS1_idem (k k' : Nat) (xs : UnitST) : mkUnitS1 k' (mkUnitS1 k xs) = mkUnitS1 k' xs := markL_idem _ _ cntUnit_mk mkUnit1_idem k k' xs
theorem idxUnitS (ad : Addr) (m c k : Nat) (h : k < m) (w : World) : (Instr.indexAt 33 (.slice (some ad) m c) (.int .i64 (k : Int))).run Try.prog w = .ok (.pointer (some (ad.add (k * 4)))) w := by
  have h0 : (0 : Int) ≤ (k : Int) := by omega
  have h1 : (k : Int) < (m : Int) := by omega
  go_simp

set_option maxHeartbeats 1000000 in
set_option maxRecDepth 100000 in
theorem eqUnitS_v {w : World} {v v' : Value} {xs ys : UnitST} (h : RdV false dUnitS w v xs) (h' : RdV false dUnitS w v' ys) : Calls Try.prog 35 #[v, v'] w (Ret (.bool (decide (xs = ys))) w) := by
  obtain ⟨A, c, rfl, -, hr⟩ := h.slice
  obtain ⟨A', c', rfl, -, hr'⟩ := h'.slice
  have hl := hr.2.1
  have HR := Sec.mk hr
  have HR' := Sec.mk hr'
  clear h h' hr hr'
  by_cases hne : xs.length = ys.length
  rotate_left
  · have hnb : ((xs.length : Int) != (ys.length : Int)) = true := by simp; omega
    have HE : Sec (decide (xs = ys) = false) := ⟨by simp [show xs ≠ ys from fun e => hne (by rw [e])]⟩
    clear hne
    go_enter Try.func35, Try.ntmps35
    go_wp2
    go_ret
    exact ⟨by rw [HE.out]; rfl, Mod.refl _ _⟩
  have hnb : ((xs.length : Int) != (ys.length : Int)) = false := by simp [hne]
  have HNE := Sec.mk hne
  clear hne
  go_enter Try.func35, Try.ntmps35
  go_wp2
  go_loopw [5] (fun i wr => ∃ k : Nat, k ≤ xs.length ∧ i = .int .i64 k ∧ Sec (xs.take k = ys.take k) ∧ Sec (New w wr)) (fun i _ => xs.length - (intOf i).toNat)
  case atStart => exact ⟨0, Nat.zero_le _, rfl, Sec.mk (by simp), Sec.mk (Mod.refl _ _)⟩
  case round =>
    obtain ⟨k, hk, rfl, HT, HM⟩ := hrel
    by_cases hlt : k < xs.length
    · have hlt2 : k < ys.length := by rw [← HNE.out]; exact hlt
      obtain ⟨ad, vx, rfl, hx⟩ := HR.out.elem (P := Try.prog) hlt 44 Try.underlying44 rfl (by kernel_rfl)
      obtain ⟨ad', vy, rfl, hy⟩ := HR'.out.elem (P := Try.prog) hlt2 44 Try.underlying44 rfl (by kernel_rfl)
      have HX : Sec (∀ W, New wr W → (Instr.loadAt 44 (.pointer (some (ad.add (k * 4))))).run Try.prog W = .ok vx W ∧ RdV true dUnit W vx xs[k]) := ⟨fun W hW => hx W (fun i hi => (hW.block i (Nat.lt_of_lt_of_le hi HM.out.size) id).trans (HM.out.block i hi id)) (fun i hi => Nat.lt_of_lt_of_le hi (Nat.le_trans HM.out.size hW.size))⟩
      have HY : Sec (∀ W, New wr W → (Instr.loadAt 44 (.pointer (some (ad'.add (k * 4))))).run Try.prog W = .ok vy W ∧ RdV true dUnit W vy (ys[k]'hlt2)) := ⟨fun W hW => hy W (fun i hi => (hW.block i (Nat.lt_of_lt_of_le hi HM.out.size) id).trans (HM.out.block i hi id)) (fun i hi => Nat.lt_of_lt_of_le hi (Nat.le_trans HM.out.size hW.size))⟩
      have HXY : Sec (xs[k] = ys[k]'hlt2 → xs.take (k + 1) = ys.take (k + 1)) := ⟨fun h => by rw [List.take_succ_eq_append_getElem hlt, List.take_succ_eq_append_getElem hlt2, HT.out, h]⟩
      have HNQ : Sec (xs[k] ≠ ys[k]'hlt2 → decide (xs = ys) = false) := ⟨fun h => by simp only [decide_eq_false_iff_not]; intro e; exact h (by subst e; rfl)⟩
      clear hx hy HT
      generalize xs[k] = x at *
      generalize ys[k]'hlt2 = y at *
      have hki : (k : Int) < (xs.length : Int) := by omega
      have hkj : (k : Int) < (ys.length : Int) := by omega
      go_wp2
      refine reg_start [] (fun W => Sec (New wr W)) (by kernel_rfl) ?_
      have HSS : Sec (New wr wr.drew) := ⟨(Mod.refl _ _).drew⟩
      refine reg_take (.slice (some ad) xs.length c) (i := 0) (n := 17) HSS rfl (by kernel_rfl) (by kernel_rfl) (by kernel_rfl) (by kernel_rfl) (fun _ _ _ h => h) (fun W hW => exec_move rfl rfl) ?_
      simp only [Act.put, List.setIfInBounds_toArray, List.set_cons_zero, List.set_cons_succ]
      refine reg_take (.int .i64 (k : Int)) (i := 1) (n := 18) HSS rfl (by kernel_rfl) (by kernel_rfl) (by kernel_rfl) (by kernel_rfl) (fun _ _ _ h => h) (fun W hW => exec_move rfl rfl) ?_
      simp only [Act.put, List.setIfInBounds_toArray, List.set_cons_zero, List.set_cons_succ]
      refine reg_take (.pointer (some (ad.add (k * 4)))) (i := 2) (n := 19) HSS rfl (by kernel_rfl) (by kernel_rfl) (by kernel_rfl) (by kernel_rfl) (fun _ _ _ h => h) (fun W hW => exec_indexAddr rfl rfl rfl (idxUnitS _ _ _ _ hlt _)) ?_
      simp only [Act.put, List.setIfInBounds_toArray, List.set_cons_zero, List.set_cons_succ]
      refine reg_take (vx) (i := 3) (n := 20) HSS rfl (by kernel_rfl) (by kernel_rfl) (by kernel_rfl) (by kernel_rfl) (fun _ _ _ h => h) (fun W hW => exec_load rfl rfl (HX.out W hW.out).1) ?_
      simp only [Act.put, List.setIfInBounds_toArray, List.set_cons_zero, List.set_cons_succ]
      refine reg_take (.slice (some ad') ys.length c') (i := 4) (n := 21) HSS rfl (by kernel_rfl) (by kernel_rfl) (by kernel_rfl) (by kernel_rfl) (fun _ _ _ h => h) (fun W hW => exec_move rfl rfl) ?_
      simp only [Act.put, List.setIfInBounds_toArray, List.set_cons_zero, List.set_cons_succ]
      refine reg_take (.int .i64 (k : Int)) (i := 5) (n := 22) HSS rfl (by kernel_rfl) (by kernel_rfl) (by kernel_rfl) (by kernel_rfl) (fun _ _ _ h => h) (fun W hW => exec_move rfl rfl) ?_
      simp only [Act.put, List.setIfInBounds_toArray, List.set_cons_zero, List.set_cons_succ]
      refine reg_take (.pointer (some (ad'.add (k * 4)))) (i := 6) (n := 23) HSS rfl (by kernel_rfl) (by kernel_rfl) (by kernel_rfl) (by kernel_rfl) (fun _ _ _ h => h) (fun W hW => exec_indexAddr rfl rfl rfl (idxUnitS _ _ _ _ hlt2 _)) ?_
      simp only [Act.put, List.setIfInBounds_toArray, List.set_cons_zero, List.set_cons_succ]
      refine reg_take (vy) (i := 7) (n := 24) HSS rfl (by kernel_rfl) (by kernel_rfl) (by kernel_rfl) (by kernel_rfl) (fun _ _ _ h => h) (fun W hW => exec_load rfl rfl (HY.out W hW.out).1) ?_
      simp only [Act.put, List.setIfInBounds_toArray, List.set_cons_zero, List.set_cons_succ]
      refine reg_step (i := 8) rfl (by kernel_rfl) (fun K hK => ?_)
      refine wp_call (n := 25) (vals := [vx, vy]) rfl rfl rfl (by kernel_rfl) (eqUnit_v (HX.out _ HSS.out).2 (HY.out _ HSS.out).2) ?_
      rintro e w1 ⟨rfl, hm1⟩
      have HS1 : Sec (New wr w1) := ⟨HSS.out.transN hm1⟩
      refine ⟨_, rfl, hK.out _ _ (fun _ => HS1) ?_⟩
      clear hK K hm1
      simp only [Act.put, List.setIfInBounds_toArray, List.set_cons_zero, List.set_cons_succ]
      refine reg_step (i := 9) rfl (by kernel_rfl) (fun K hK => ?_)
      refine wp_val (n := 26) (v := .bool (!decide (x = y))) (exec_un rfl rfl (Mem.not_r _ _)) rfl (hK.out _ _ (fun _ => HS1) ?_)
      clear hK K
      simp only [Act.put, List.setIfInBounds_toArray, List.set_cons_zero, List.set_cons_succ]
      refine reg_done (by kernel_rfl) ?_ _
      have HM' := Sec.mk (HM.out.transN HS1.out)
      by_cases hxy : x = y
      · have HT' := Sec.mk (HXY.out hxy)
        have hd : decide (x = y) = true := by simp [hxy]
        clear hxy HXY HNQ HX HY
        rw [hd]
        go_wp2
        go_roundw
        case rel => exact ⟨k + 1, by omega, by go_num, HT', HM'⟩
        case measure => simp [intOf]; omega
      · have HE := Sec.mk (HNQ.out hxy)
        have hd : decide (x = y) = false := by simp [hxy]
        clear hxy HXY HNQ HX HY
        rw [hd]
        go_wp2
        go_ret
        exact ⟨by rw [HE.out]; rfl, HM'.out⟩
    · have HE : Sec (decide (xs = ys) = true) := ⟨by
        have h1 := HT.out
        rw [List.take_of_length_le (by omega), List.take_of_length_le (by rw [← HNE.out]; omega)] at h1
        simp [h1]⟩
      go_wp2
      go_ret
      exact ⟨by rw [HE.out]; rfl, HM.out⟩


set_option maxHeartbeats 1000000 in
set_option maxRecDepth 100000 in
theorem markUnitS_calls {A : Option Addr} {c : Nat} {xs : UnitST} {F : List Nat} {w : World} (h : Own dUnit 44 w F (.slice A xs.length c) xs) (k : Nat) (hk : k + cntUnitS xs ≤ 1152921504606846976) :
    Calls Try.prog 36 #[.slice A xs.length c, .int .i64 k] w fun e w' => e = .returned (.int .i64 ((k + cntUnitS xs : Nat) : Int)) ∧ ∃ F', Own dUnit 44 w' F' (.slice A xs.length c) (mkUnitS1 k xs) ∧ (∀ i, i ∈ F' → i ∈ F) ∧ Mod (· ∈ F) w w' := by
  have hlx := h.len_le
  have HO := Sec.mk h
  have HKK : Sec (cntUnitS xs = preS cntUnit xs xs.length) := ⟨rfl⟩
  rw [HKK.out] at hk ⊢
  clear h
  go_enter Try.func36, Try.ntmps36
  go_wp2
  go_loopw [1, 5] (fun q i wr => ∃ (j : Nat) (ys : UnitST) (G : List Nat), j ≤ xs.length ∧ i = .int .i64 j ∧ q = .int .i64 ((k + preS cntUnit xs j : Nat) : Int) ∧ Sec (ys = (mkUnitS1 k xs).take j ++ xs.drop j) ∧ Sec (Own dUnit 44 wr G (.slice A xs.length c) ys) ∧ Sec (∀ k, k ∈ G → k ∈ F) ∧ Sec (Mod (· ∈ F) w wr)) (fun _ i _ => xs.length - (intOf i).toNat)
  case atStart => exact ⟨0, xs, F, Nat.zero_le _, rfl, by rw [preS_zero]; rfl, ⟨by simp⟩, HO, ⟨fun _ h => h⟩, ⟨Mod.refl _ _⟩⟩
  case round =>
    obtain ⟨j, ys, G, hj, rfl, rfl, HY, HO, HF, HM⟩ := hrel
    by_cases hlt : j < xs.length
    · have hyl : ys.length = xs.length := by rw [HY.out]; exact take_drop_len (markL_len _ _ k xs) j
      have hjy : j < ys.length := by omega
      have hyj : ys[j] = xs[j] := by simp only [HY.out]; exact take_drop_at (markL_len _ _ k xs) hlt _
      have hks := preS_succ cntUnit xs hlt
      have hkl := preS_le cntUnit xs (j + 1)
      have HZ := Sec.mk (markL_at mkUnit1 cntUnit k xs (i := j) (by rw [markL_len]; exact hlt))
      have HTD : Sec (ys.set j (mkUnit1 (k + preS cntUnit xs j) xs[j]) = (mkUnitS1 k xs).take (j + 1) ++ xs.drop (j + 1)) := ⟨by rw [← HZ.out, HY.out]; exact take_drop_set (markL_len _ _ k xs) hlt⟩
      have HX : Sec (Own dUnit 44 wr G (.slice A xs.length c) (ys.set j xs[j])) := ⟨by rw [← hyj, List.set_getElem_self]; exact HO.out⟩
      obtain ⟨g, rfl, hgG, -, -⟩ := HO.out.cellsAt hjy
      have HgF := Sec.mk (HF.out g hgG)
      have HKS := Sec.mk hks
      have hkb : preS cntUnit xs j + cntUnit xs[j] ≤ preS cntUnit xs xs.length := by omega
      clear hks hkl hyj HZ HO hgG
      have HCN : Sec (cntUnit xs[j] = cntBX xs[j].1 + cntBX xs[j].2.1 + 1 + 1) := ⟨rfl⟩
      have hcn := HCN.out
      generalize hps : preS cntUnit xs j = s at *
      generalize hxj : xs[j] = x at *
      have HJ := Sec.mk hjy
      obtain ⟨_, hA0, -, hcell0, hfz0⟩ := HX.out.cellsAt (j := j) (by rw [List.length_set]; exact hjy)
      injection hA0 with hA0
      injection hA0 with hA0
      subst hA0
      simp only [show dUnit.sz = 4 from rfl] at hcell0
      clear hcell0 hfz0
      obtain ⟨v0, G0, _, hc0, ho0, hG0, hst0⟩ := Own.fsubAt fldUnit0 HJ.out HX.out
      simp only [show dUnit.sz = 4 from rfl, Nat.add_zero] at hc0
      have HV0 := Sec.mk ho0
      have HG0 := Sec.mk hG0
      have HT0 := Sec.mk hst0
      clear ho0 hG0 hst0
      go_wp2_with fail
      refine Calls.mono (markByteX_i HV0.out _ (k + s) ?_ ?_) ?_
      · first | rfl | omega
      · (try dsimp only at hcn ⊢); omega
      rintro e w0 ⟨rfl, ⟨F0, ho0, hF0⟩, hm0⟩
      obtain ⟨G0', ho, hG0'⟩ := HT0.out w0 _ F0 hm0 ho0 hF0
      have HX0 := Sec.mk ho
      have HF0 := Sec.mk (fun i hi => HF.out i (hG0' i hi))
      have HM0 : Sec (Mod (· ∈ F) w w0) := ⟨HM.out.trans hm0 fun i hi _ => HF.out i (HG0.out i hi)⟩
      clear ho0 hF0 hm0 ho hG0' HT0 HV0 HG0
      obtain ⟨s0, hs0⟩ : ∃ t, t = (k + s) + cntBX x.1 := ⟨_, rfl⟩
      try dsimp only at HX0
      rw [← hs0]
      have HS0 := Sec.mk hs0
      have hbd0 : s0 ≤ 1152921504606846976 := by have := HS0.out; (try dsimp only at hcn); omega
      clear hs0
      obtain ⟨_, hA1, -, hcell1, hfz1⟩ := HX0.out.cellsAt (j := j) (by rw [List.length_set]; exact hjy)
      injection hA1 with hA1
      injection hA1 with hA1
      subst hA1
      simp only [show dUnit.sz = 4 from rfl] at hcell1
      clear hcell1 hfz1
      obtain ⟨v1, G1, _, hc1, ho1, hG1, hst1⟩ := Own.fsubAt fldUnit1 HJ.out HX0.out
      simp only [show dUnit.sz = 4 from rfl] at hc1
      have HV1 := Sec.mk ho1
      have HG1 := Sec.mk hG1
      have HT1 := Sec.mk hst1
      clear ho1 hG1 hst1
      go_wp2_with fail
      refine Calls.mono (markByteX_i HV1.out _ s0 ?_ ?_) ?_
      · first | rfl | omega
      · have := HS0.out; (try dsimp only at hcn ⊢); omega
      rintro e w1 ⟨rfl, ⟨F1, ho1, hF1⟩, hm1⟩
      obtain ⟨G1', ho, hG1'⟩ := HT1.out w1 _ F1 hm1 ho1 hF1
      have HX1 := Sec.mk ho
      have HF1 := Sec.mk (fun i hi => HF0.out i (hG1' i hi))
      have HM1 : Sec (Mod (· ∈ F) w w1) := ⟨HM0.out.trans hm1 fun i hi _ => HF0.out i (HG1.out i hi)⟩
      clear ho1 hF1 hm1 ho hG1' HT1 HV1 HG1
      obtain ⟨s1, hs1⟩ : ∃ t, t = s0 + cntBX x.2.1 := ⟨_, rfl⟩
      try dsimp only at HX1
      rw [← hs1]
      have HS1 := Sec.mk hs1
      have hbd1 : s1 ≤ 1152921504606846976 := by have := HS0.out; have := HS1.out; (try dsimp only at hcn); omega
      clear hs1
      obtain ⟨_, hA2, -, hcell2, hfz2⟩ := HX1.out.cellsAt (j := j) (by rw [List.length_set]; exact hjy)
      injection hA2 with hA2
      injection hA2 with hA2
      subst hA2
      simp only [show dUnit.sz = 4 from rfl] at hcell2
      obtain ⟨p2, hc2⟩ := hcell2 2 (by decide)
      have hf2 := hfz2 (j * 4 + 2)
      obtain ⟨p3, hc3⟩ := hcell2 3 (by decide)
      have hf3 := hfz2 (j * 4 + 3)
      clear hcell2 hfz2
      obtain ⟨hgg, hst⟩ := Own.fstoreAt fldUnit2 (fun _ _ _ _ h => h.1) HJ.out HX1.out
      obtain ⟨G2, ho, hG2⟩ := hst (.bool (((s1 : Int)) % 3 == 0)) (((s1 : Int)) % 3 == 0) (fun _ => ⟨rfl, rfl⟩)
      simp only [show dUnit.sz = 4 from rfl] at ho
      have HX2 := Sec.mk ho
      have HF2 := Sec.mk (fun i hi => HF1.out i (hG2 i hi))
      have HM2 := Sec.mk (HM1.out.setCell (p := ⟨g, j * 4 + 2, none⟩) (fun _ => HgF.out) (.bool (((s1 : Int)) % 3 == 0)))
      clear hgg hst ho hG2
      obtain ⟨hgg, hst⟩ := Own.fstoreAt fldUnit3 (fun _ _ _ _ h => h.1) HJ.out HX2.out
      obtain ⟨G3, ho, hG3⟩ := hst (.bool (((s1 : Int) + 1) % 3 == 0)) (((s1 : Int) + 1) % 3 == 0) (fun _ => ⟨rfl, rfl⟩)
      simp only [show dUnit.sz = 4 from rfl] at ho
      have HX3 := Sec.mk ho
      have HF3 := Sec.mk (fun i hi => HF2.out i (hG3 i hi))
      have HM3 := Sec.mk (HM2.out.setCell (p := ⟨g, j * 4 + 3, none⟩) (fun _ => HgF.out) (.bool (((s1 : Int) + 1) % 3 == 0)))
      clear hgg hst ho hG3
      have HEQ : Sec (mkUnit1 (k + s) x = (mkBX1 (k + s) x.1, mkBX1 s0 x.2.1, (((s1 : Int)) % 3 == 0), (((s1 : Int) + 1) % 3 == 0))) := ⟨by have h0 := HS0.out; subst h0; have h1 := HS1.out; subst h1; simp only [mkUnit1, Int.natCast_add]⟩
      rw [HEQ.out] at HTD
      go_wp2
      go_roundw
      case rel => exact ⟨j + 1, _, G3, by omega, by go_num, by rw [HKS.out, HCN.out]; congr 1; try (have := HS0.out; have := HS1.out; omega), HTD, HX3, HF3, HM3⟩
      case measure => simp [intOf]; omega
    · obtain rfl : j = xs.length := by omega
      go_wp2
      go_ret
      have he : ys = mkUnitS1 k xs := by
        rw [HY.out, List.take_of_length_le (by unfold mkUnitS1; rw [markL_len]; exact Nat.le_refl _)]; simp
      subst he
      exact ⟨by simp, G, HO.out, HF.out, HM.out⟩


theorem markUnitS_f {w : World} {F : List Nat} {v : Value} {x : UnitST} (h : OwF false dUnitS w F v x) (k : Nat) (hk : k + cntUnitS x ≤ 1152921504606846976) :
    Calls Try.prog 36 #[v, .int .i64 k] w (Marks false dUnitS w F v (k + cntUnitS x) (mkUnitS1 k x)) := by
  obtain ⟨A, c, rfl, ho⟩ := h.slice
  refine (markUnitS_calls ho k hk).mono ?_
  rintro e w' ⟨rfl, F', ho', hF', hm⟩
  refine ⟨rfl, ⟨F', ?_, hF'⟩, hm⟩
  have hl : (mkUnitS1 k x).length = x.length := markL_len _ _ k x
  rw [← hl] at ho'
  rw [← hl]
  exact OwF.of_slice ho'
theorem markUnitS_i {w : World} {F : List Nat} {v : Value} {x : UnitST} (h : OwF false dUnitS w F v x) (q : Int) (k : Nat) (hq : q = (k : Int)) (hk : k + cntUnitS x ≤ 1152921504606846976) :
    Calls Try.prog 36 #[v, .int .i64 q] w (Marks false dUnitS w F v (k + cntUnitS x) (mkUnitS1 k x)) := by subst hq; exact markUnitS_f h k hk
theorem markUnitS_v {w : World} {lo hi : Nat} {v : Value} {x : UnitST} (h : OwV false dUnitS w lo hi v x) (k : Nat) (hk : k + cntUnitS x ≤ 1152921504606846976) :
    Calls Try.prog 36 #[v, .int .i64 k] w fun e w' => e = .returned (.int .i64 ((k + cntUnitS x : Nat) : Int)) ∧ OwV false dUnitS w' lo hi v (mkUnitS1 k x) ∧ Mod (fun i => lo ≤ i ∧ i < hi) w w' :=
  h.mark fun F hF => markUnitS_f hF k hk


set_option maxHeartbeats 1000000 in
set_option maxRecDepth 100000 in
theorem heldUnitS_v {w : World} {v : Value} {xs : UnitST} (h : RdV false dUnitS w v xs) (k : Nat) (hx : xs = mkUnitS1 k xs) (hk : k + cntUnitS xs ≤ 1152921504606846976) :
    Calls Try.prog 37 #[v, .int .i64 k] w (Ret (.int .i64 ((k + cntUnitS xs : Nat) : Int)) w) := by
  obtain ⟨A, c, rfl, -, hr⟩ := h.slice
  have hl := hr.2.1
  have HR := Sec.mk hr
  have HX := Sec.mk hx
  have HKK : Sec (cntUnitS xs = preS cntUnit xs xs.length) := ⟨rfl⟩
  rw [HKK.out] at hk ⊢
  clear h hr hx
  go_enter Try.func37, Try.ntmps37
  go_wp2
  go_loopw [1, 5] (fun q i wr => ∃ (j : Nat), j ≤ xs.length ∧ i = .int .i64 j ∧ q = .int .i64 ((k + preS cntUnit xs j : Nat) : Int) ∧ Sec (New w wr)) (fun _ i _ => xs.length - (intOf i).toNat)
  case atStart => exact ⟨0, Nat.zero_le _, rfl, by rw [preS_zero]; rfl, ⟨Mod.refl _ _⟩⟩
  case round =>
    obtain ⟨j, hj, rfl, rfl, HM⟩ := hrel
    by_cases hlt : j < xs.length
    · have hks := preS_succ cntUnit xs hlt
      have hkl := preS_le cntUnit xs (j + 1)
      have hkb : preS cntUnit xs j + cntUnit xs[j] ≤ preS cntUnit xs xs.length := by omega
      have HKS := Sec.mk hks
      have hz : xs[j] = mkUnit1 (k + preS cntUnit xs j) xs[j] := by
        have := markL_at mkUnit1 cntUnit k xs (i := j) (by rw [markL_len]; exact hlt)
        rw [← this]; congr 1; exact HX.out
      have HZ := Sec.mk hz
      have HCN : Sec (cntUnit xs[j] = cntBX xs[j].1 + cntBX xs[j].2.1 + 1 + 1) := ⟨rfl⟩
      have hcn := HCN.out
      clear hks hkl hz
      have HFD : Sec (∀ W, New w W → ∃ ad A0 c0 A1 c1, A = some ad ∧ W.cell? (ad.add (j * 4)) = some (.slice A0 xs[j].1.length c0) ∧ W.cell? ⟨(ad.add (j * 4)).block, (ad.add (j * 4)).off + 1, none⟩ = some (.slice A1 xs[j].2.1.length c1) ∧ W.cell? ⟨(ad.add (j * 4)).block, (ad.add (j * 4)).off + 2, none⟩ = some (.bool (xs[j].2.2.1)) ∧ W.cell? ⟨(ad.add (j * 4)).block, (ad.add (j * 4)).off + 3, none⟩ = some (.bool (xs[j].2.2.2)) ∧ RdV false dBX W (.slice A0 xs[j].1.length c0) xs[j].1 ∧ RdV false dBX W (.slice A1 xs[j].2.1.length c1) xs[j].2.1) := ⟨fun W hW => by
        obtain ⟨ad, v0, hA0, hc0, hK0⟩ := HR.out.field fldUnit0 (fun q hq => hW.block q hq id) hlt
        obtain ⟨A0, c0, hv0, hl0, hm0, hr0⟩ := hK0
        obtain rfl : v0 = .slice A0 xs[j].1.length c0 := by simpa using hv0
        have hrd0 := RdV.of_row (e := 5) (hr0.mod (w' := W) (fun _ h => Nat.lt_of_lt_of_le h hW.size) (fun _ _ => rfl)) hl0 hm0
        obtain ⟨ad1, v1, hA1, hc1, hK1⟩ := HR.out.field fldUnit1 (fun q hq => hW.block q hq id) hlt
        obtain rfl : ad = ad1 := Option.some.inj (hA0.symm.trans hA1)
        obtain ⟨A1, c1, hv1, hl1, hm1, hr1⟩ := hK1
        obtain rfl : v1 = .slice A1 xs[j].2.1.length c1 := by simpa using hv1
        have hrd1 := RdV.of_row (e := 5) (hr1.mod (w' := W) (fun _ h => Nat.lt_of_lt_of_le h hW.size) (fun _ _ => rfl)) hl1 hm1
        obtain ⟨ad2, v2, hA2, hc2, hK2⟩ := HR.out.field fldUnit2 (fun q hq => hW.block q hq id) hlt
        obtain rfl : ad = ad2 := Option.some.inj (hA0.symm.trans hA2)
        obtain rfl : v2 = .bool (xs[j].2.2.1) := by have := hK2; simpa [Ty.bool, Ty.str, Ty.scalar] using this
        obtain ⟨ad3, v3, hA3, hc3, hK3⟩ := HR.out.field fldUnit3 (fun q hq => hW.block q hq id) hlt
        obtain rfl : ad = ad3 := Option.some.inj (hA0.symm.trans hA3)
        obtain rfl : v3 = .bool (xs[j].2.2.2) := by have := hK3; simpa [Ty.bool, Ty.str, Ty.scalar] using this
        exact ⟨ad, A0, c0, A1, c1, hA0, hc0, hc1, hc2, hc3, hrd0, hrd1⟩⟩
      generalize hps : preS cntUnit xs j = s at *
      generalize hxj : xs[j] = x at *
      obtain ⟨ad, A0, c0, A1, c1, rfl, hc0, -, -, -, hrd0, -⟩ := HFD.out _ HM.out
      have z0 : x.1 = mkBX1 (k + s) x.1 := by have h := congrArg (fun x : UnitT => x.1) HZ.out; (try simp only [mkUnit1] at h); exact h
      have HZ0 := Sec.mk z0
      have HRD0 := Sec.mk hrd0
      clear z0 hrd0
      go_wp2_with fail
      refine Calls.mono (heldByteX_i HRD0.out _ (k + s) ?_ HZ0.out ?_) ?_
      · first | rfl | omega
      · (try dsimp only at hcn ⊢); omega
      rintro e w0 ⟨rfl, hm0⟩
      have HM0 := Sec.mk (HM.out.transN hm0)
      clear hm0
      obtain ⟨s0, hs0⟩ : ∃ t, t = (k + s) + cntBX x.1 := ⟨_, rfl⟩
      rw [← hs0]
      have HS0 := Sec.mk hs0
      have hbd0 : s0 ≤ 1152921504606846976 := by have := HS0.out; (try dsimp only at hcn); omega
      clear hs0
      obtain ⟨adq1, A0, c0, A1, c1, hAq1, -, hc1, -, -, -, hrd1⟩ := HFD.out _ HM0.out
      obtain rfl := Option.some.inj hAq1
      have z1 : x.2.1 = mkBX1 s0 x.2.1 := by have h := congrArg (fun x : UnitT => x.2.1) HZ.out; have h0 := HS0.out; subst h0; (try simp only [mkUnit1] at h); exact h
      have HZ1 := Sec.mk z1
      have HRD1 := Sec.mk hrd1
      clear z1 hrd1
      go_wp2_with fail
      refine Calls.mono (heldByteX_i HRD1.out _ s0 ?_ HZ1.out ?_) ?_
      · first | rfl | omega
      · have := HS0.out; (try dsimp only at hcn ⊢); omega
      rintro e w1 ⟨rfl, hm1⟩
      have HM1 := Sec.mk (HM0.out.transN hm1)
      clear hm1
      obtain ⟨s1, hs1⟩ : ∃ t, t = s0 + cntBX x.2.1 := ⟨_, rfl⟩
      rw [← hs1]
      have HS1 := Sec.mk hs1
      have hbd1 : s1 ≤ 1152921504606846976 := by have := HS0.out; have := HS1.out; (try dsimp only at hcn); omega
      clear hs1
      obtain ⟨adq2, A0, c0, A1, c1, hAq2, -, -, hc2, hc3, -, -⟩ := HFD.out _ HM1.out
      obtain rfl := Option.some.inj hAq2
      have z2 : x.2.2.1 = (((s1 : Int)) % 3 == 0) := by have h := congrArg (fun x : UnitT => x.2.2.1) HZ.out; have h0 := HS0.out; subst h0; have h1 := HS1.out; subst h1; (try simp only [mkUnit1, Int.natCast_add] at h); exact h
      rw [z2] at hc2
      clear z2
      have z3 : x.2.2.2 = (((s1 : Int) + 1) % 3 == 0) := by have h := congrArg (fun x : UnitT => x.2.2.2) HZ.out; have h0 := HS0.out; subst h0; have h1 := HS1.out; subst h1; (try simp only [mkUnit1, Int.natCast_add] at h); exact h
      rw [z3] at hc3
      clear z3
      go_wp2
      go_roundw
      case rel => exact ⟨j + 1, by omega, by go_num, by rw [HKS.out, HCN.out]; congr 1; try (have := HS0.out; have := HS1.out; omega), HM1⟩
      case measure => simp [intOf]; omega
    · obtain rfl : j = xs.length := by omega
      go_wp2
      go_ret
      exact ⟨by simp, HM.out⟩
theorem heldUnitS_i {w : World} {v : Value} {x : UnitST} (h : RdV false dUnitS w v x) (q : Int) (k : Nat) (hq : q = (k : Int)) (hx : x = mkUnitS1 k x) (hk : k + cntUnitS x ≤ 1152921504606846976) :
    Calls Try.prog 37 #[v, .int .i64 q] w (Ret (.int .i64 ((k + cntUnitS x : Nat) : Int)) w) := by subst hq; exact heldUnitS_v h k hx hk

end Go.Proofs.Ytciiejkfppnimaa
