/- Bytes that are the call's own: a row of its own, or a conversion's row. The laws' helpers over Unit and over slices of it. The program's reading of APPEND. The tag of a command, both sides. -/
import Derived.Test.YtiaknomadhgckaaDoorPk8
import Derived.Test.YtiaknomadhgckaaDoorPk2
import Derived.Test.YtiaknomadhgckaaDoorPk5
import Derived.Test.YtiaknomadhgckaaDoorPk4
import Derived.Test.YtiaknomadhgckaaDoorProg
import Derived.WalkKit
import Derived.Test.YtiaknomadhgckaaDoorPk10
import Derived.Test.YtiaknomadhgckaaDoorPk3
import Derived.Test.YtiaknomadhgckaaDoorPk1
namespace Go.Proofs.YtiaknomadhgckaaDoor
open Go.RowKit Mem
set_option linter.unusedVariables false
def OwX (w : World) (F : List Nat) (v : Value) (x : Bytes) : Prop := Own Ty.byte 5 w F v x ∨ ∃ g c, v = .slice (some ⟨g, 0, none⟩) x.length c ∧ x.length ≤ c ∧ c ≤ 9223372036854775807 ∧ F = [g] ∧ BRow w g x
theorem BRow.lt {w : World} {g : Nat} {x : Bytes} (h : BRow w g x) : g < w.heap.size := by
  obtain ⟨tl, e, hh⟩ := h.ex
  exact (Array.getElem?_eq_some_iff.1 hh).1
theorem BRow.mv {w w' : World} {g : Nat} {x : Bytes} (h : BRow w g x) (hb : w'.heap[g]? = w.heap[g]?) : BRow w' g x := by
  obtain ⟨tl, e, hh⟩ := h.ex
  exact ⟨tl, e, by rw [hb]; exact hh⟩
theorem OwX.nd {w : World} {F : List Nat} {v : Value} {x : Bytes} (h : OwX w F v x) : F.Nodup := by
  rcases h with h | ⟨g, c, rfl, h1, h2, rfl, hb⟩
  · exact h.nd
  · simp
theorem OwX.lt {w : World} {F : List Nat} {v : Value} {x : Bytes} (h : OwX w F v x) : ∀ k, k ∈ F → k < w.heap.size := by
  rcases h with h | ⟨g, c, rfl, h1, h2, rfl, hb⟩
  · exact h.lt
  · intro k hk; rw [List.mem_singleton.1 hk]; exact hb.lt
theorem OwX.keep {w w' : World} {F : List Nat} {v : Value} {x : Bytes} (h : OwX w F v x) {S : Nat → Prop} (hm : Mod S w w') (hS : ∀ k, k ∈ F → ¬ S k) : OwX w' F v x := by
  rcases h with h | ⟨g, c, rfl, h1, h2, rfl, hb⟩
  · exact .inl (h.keep hm hS)
  · exact .inr ⟨g, c, rfl, h1, h2, rfl, hb.mv (hm.block g hb.lt (hS g (by simp)))⟩
def dBX : Ty Bytes where
  sz := 1
  K := dBS.K
  M := fun w F x cs => ∃ v, cs = [v] ∧ OwX w F v x
  K_len := fun h => dBS.K_len h
  K_one := fun h => dBS.K_one h
  K_mod := fun h h1 h2 => dBS.K_mod h h1 h2
  M_K := by
    rintro w F x cs ⟨v, rfl, h | ⟨g, c, rfl, h1, h2, rfl, hb⟩⟩
    · exact dBS.M_K ⟨v, rfl, h⟩
    · exact ⟨some ⟨g, 0, none⟩, c, rfl, h1, h2, (hb.row (by omega)).mod (fun k hk => by simp [hk]) (fun _ _ => rfl)⟩
  M_mod := by
    rintro w w' F x cs ⟨v, rfl, h | ⟨g, c, rfl, h1, h2, rfl, hb⟩⟩ hh
    · obtain ⟨v', e, h'⟩ := dBS.M_mod ⟨v, rfl, h⟩ hh
      exact ⟨v', e, .inl h'⟩
    · exact ⟨_, rfl, .inr ⟨g, c, rfl, h1, h2, rfl, hb.mv (hh g (by simp))⟩⟩
  M_lt := by
    rintro w F x cs ⟨v, rfl, h⟩
    exact h.lt
  M_nd := by
    rintro w F x cs ⟨v, rfl, h⟩
    exact h.nd
abbrev cntBX (x : Bytes) : Nat := cntBS x
abbrev mkBX1 (k : Nat) (x : Bytes) : Bytes := mkBS1 k x
theorem eqByteX_v {w : World} {v v' : Value} {x x' : Bytes} (h : RdV false dBS w v x) (h' : RdV false dBS w v' x') : Calls Tryd.prog 47 #[v, v'] w (Ret (.bool (decide (x = x'))) w) := eqByteS_v h h'
set_option maxHeartbeats 400000 in
theorem markRow_calls {g c : Nat} {xs : Bytes} {w : World} (h : BRow w g xs) (k : Nat) (hk : k + xs.length ≤ 1152921504606846976) :
    Calls Tryd.prog 48 #[.slice (some ⟨g, 0, none⟩) xs.length c, .int .i64 k] w fun e w' => e = .returned (.int .i64 ((k + xs.length : Nat) : Int)) ∧ BRow w' g (mkB k xs.length) ∧ Mod (· ∈ [g]) w w' := by
  have HO := Sec.mk h
  clear h
  go_enter Tryd.func48, Tryd.ntmps48
  go_wp2
  go_loopw [1, 5] (fun q i wr => ∃ (j : Nat) (ys : Bytes), j ≤ xs.length ∧ i = .int .i64 j ∧ q = .int .i64 ((k + j : Nat) : Int) ∧ Sec (ys.length = xs.length) ∧ Sec (ys.take j = (mkB k xs.length).take j) ∧ Sec (BRow wr g ys) ∧ Sec (Mod (· ∈ [g]) w wr)) (fun _ i _ => xs.length - (intOf i).toNat)
  case atStart => exact ⟨0, xs, Nat.zero_le _, rfl, rfl, ⟨rfl⟩, ⟨by simp⟩, HO, ⟨Mod.refl _ _⟩⟩
  case round =>
    clear HO
    obtain ⟨j, ys, hj, rfl, rfl, HL, HT, HO, HM⟩ := hrel
    have hgl := HO.out.lt
    by_cases hlt : j < xs.length
    · have hly : j < ys.length := by rw [HL.out]; exact hlt
      have hc := HO.out.cell j hly
      have hf := HO.out.frozen j hly
      have HU := Sec.mk (u8_of (k + j))
      have HO' := Sec.mk (HO.out.set j hly (UInt8.ofNat (k + j)))
      generalize ys[j] = b at *
      go_wp2
      go_roundw
      case rel =>
        refine ⟨j + 1, _, by omega, by go_num, by go_num, ⟨(set_len ys j (UInt8.ofNat (k + j))).trans HL.out⟩, ⟨?_⟩, ⟨?_⟩, ⟨?_⟩⟩
        · have := set_prefix (mkB k xs.length) ys j (by rw [mkB_len]; exact hlt) (by rw [mkB_len]; exact HL.out) HT.out
          rwa [mkB_at] at this
        · have := HO'.out
          rw [HU.out, IntKind.wrap_u8, Int.natCast_add] at this
          exact this
        · exact HM.out.setCell (fun _ => by simp) _
      case measure => simp [intOf]; omega
    · obtain rfl : j = xs.length := by omega
      go_wp2
      go_ret
      have he : ys = mkB k xs.length := by
        have h1 := HT.out
        rw [List.take_of_length_le (by rw [HL.out]; omega), List.take_of_length_le (by rw [mkB_len]; omega)] at h1
        exact h1
      refine ⟨by simp, ?_, HM.out⟩
      rw [← he]
      exact HO.out
theorem markByteX_f {w : World} {F : List Nat} {v : Value} {x : Bytes} (h : OwF false dBX w F v x) (k : Nat) (hk : k + cntBX x ≤ 1152921504606846976) :
    Calls Tryd.prog 48 #[v, .int .i64 k] w (Marks false dBX w F v (k + cntBX x) (mkBX1 k x)) := by
  obtain ⟨cs, rfl, v, rfl, h | ⟨g, c, rfl, h1, h2, rfl, hb⟩⟩ := h
  · refine (markByteS_f ⟨[v], rfl, v, rfl, h⟩ k hk).mono ?_
    rintro e w' ⟨rfl, ⟨F', ⟨cs', hv, v', rfl, ho⟩, hF'⟩, hm⟩
    exact ⟨rfl, ⟨F', ⟨[v'], hv, v', rfl, .inl ho⟩, hF'⟩, hm⟩
  · refine (markRow_calls hb k hk).mono ?_
    rintro e w' ⟨rfl, hb', hm⟩
    have hl : (mkBX1 k x).length = x.length := mkB_len _ _
    refine ⟨rfl, ⟨[g], ⟨[_], rfl, _, rfl, .inr ⟨g, c, ?_, ?_, h2, rfl, hb'⟩⟩, fun _ h => h⟩, hm⟩
    · rw [hl]
    · rw [hl]; exact h1
theorem markByteX_i {w : World} {F : List Nat} {v : Value} {x : Bytes} (h : OwF false dBX w F v x) (q : Int) (k : Nat) (hq : q = (k : Int)) (hk : k + cntBX x ≤ 1152921504606846976) :
    Calls Tryd.prog 48 #[v, .int .i64 q] w (Marks false dBX w F v (k + cntBX x) (mkBX1 k x)) := by subst hq; exact markByteX_f h k hk
end Go.Proofs.YtiaknomadhgckaaDoor

namespace Go.Proofs.YtiaknomadhgckaaDoor
open Go.RowKit Mem
set_option linter.unusedVariables false
set_option linter.unusedSimpArgs false
abbrev UnitT := Bytes × (Bytes × (Bool × Bool))
abbrev dUnit : Ty UnitT := Ty.pair dBX (Ty.pair dBX (Ty.pair Ty.bool Ty.bool))
set_option synthInstance.maxSize 2000
theorem rdUnit {w : World} {v : Value} {x : UnitT} (h : RdV true dUnit w v x) : ∃ v0 v1, v = .agg #[v0, v1, .bool x.2.2.1, .bool x.2.2.2] ∧ RdV false dBS w v0 x.1 ∧ RdV false dBS w v1 x.2.1 := by
  obtain ⟨cs, rfl, c0, r0, rfl, h0, c1, r1, rfl, h1, c2, c3, rfl, h2, h3⟩ := h
  obtain ⟨A0, cp0, rfl, g0⟩ := h0
  obtain ⟨A1, cp1, rfl, g1⟩ := h1
  obtain rfl := h2
  obtain rfl := h3
  exact ⟨_, _, rfl, ⟨_, rfl, A0, cp0, rfl, g0⟩, ⟨_, rfl, A1, cp1, rfl, g1⟩⟩
theorem cellsUnit {w : World} {v : Value} {x : UnitT} (h : RdV true dUnit w v x) : ∃ A0 q0 A1 q1, v = .agg #[.slice A0 x.1.length q0, .slice A1 x.2.1.length q1, .bool x.2.2.1, .bool x.2.2.2] := by
  obtain ⟨v0, v1, rfl, k0, k1⟩ := rdUnit h
  obtain ⟨A0, q0, rfl, _⟩ := k0.slice
  obtain ⟨A1, q1, rfl, _⟩ := k1.slice
  exact ⟨A0, q0, A1, q1, rfl⟩
theorem fldUnit0 : Fld dUnit 0 dBX (fun x => x.1) (fun x y => (y, x.2)) := (Fld.fst (Fld.one rfl))
theorem fldUnit1 : Fld dUnit 1 dBX (fun x => x.2.1) (fun x y => (x.1, y, x.2.2)) := (Fld.snd (Fld.fst (Fld.one rfl)) rfl)
theorem mUnit {w : World} {x : UnitT} {F0 F1 : List Nat} {v0 v1 : Value} (o0 : OwX w F0 v0 x.1) (o1 : OwX w F1 v1 x.2.1) (hd : ∀ k, k ∈ F0 → k ∉ F1) : dUnit.M w (F0 ++ (F1 ++ ([]))) x [v0, v1, .bool x.2.2.1, .bool x.2.2.2] := by
  have n1 : (F1 ++ ([] : List Nat)).Nodup := by simpa using o1.nd
  have n0' : (F0 ++ (F1 ++ ([] : List Nat))).Nodup := List.nodup_append.2 ⟨o0.nd, n1, fun p hp q hq e => by subst e; exact hd p hp (by simpa using hq)⟩
  exact ⟨_, _, F0, _, rfl, rfl, (List.nodup_append.2 ⟨o0.nd, n1, fun p hp q hq e => by subst e; exact hd p hp (by simpa using hq)⟩), ⟨_, rfl, o0⟩, ⟨_, _, F1, _, rfl, rfl, (by simpa using o1.nd), ⟨_, rfl, o1⟩, ⟨_, _, [], _, rfl, rfl, (by simp), ⟨rfl, rfl⟩, ⟨rfl, rfl⟩⟩⟩⟩
set_option maxHeartbeats 1000000 in
set_option maxRecDepth 100000 in
theorem eqUnit_v {w : World} {v v' : Value} {x x' : UnitT} (h : RdV true dUnit w v x) (h' : RdV true dUnit w v' x') : Calls Tryd.prog 15 #[v, v'] w (Ret (.bool (decide (x = x'))) w) := by
  obtain ⟨v0, v1, rfl, k0, k1⟩ := rdUnit h
  obtain ⟨u0, u1, rfl, k0', k1'⟩ := rdUnit h'
  obtain ⟨a0, a1, a2, a3⟩ := x
  obtain ⟨b0, b1, b2, b3⟩ := x'
  simp only at k0 k0' k1 k1' ⊢
  have HB0 := Sec.mk ((Blk.new w 40 [v0, v1, .bool a2, .bool a3]).alloc (.cells #[u0, u1, .bool b2, .bool b3] 40))
  have HB1 := Sec.mk (Blk.new (w.alloc (.cells #[v0, v1, .bool a2, .bool a3] 40)) 40 [u0, u1, .bool b2, .bool b3])
  rw [show (w.alloc (.cells #[v0, v1, .bool a2, .bool a3] 40)).heap.size = w.heap.size + 1 by simp] at HB1
  have HM0 := Sec.mk (((Mod.refl (fun _ => False) w).alloc (.cells #[v0, v1, .bool a2, .bool a3] 40)).alloc (.cells #[u0, u1, .bool b2, .bool b3] 40))
  have H0 := Sec.mk (k0.step HM0.out)
  have H0' := Sec.mk (k0'.step HM0.out)
  have H1 := Sec.mk (k1.step HM0.out)
  have H1' := Sec.mk (k1'.step HM0.out)
  clear h h' k0 k0' k1 k1'
  by_cases e0 : a0 = b0
  rotate_left
  · have HE : Sec (decide ((a0, a1, a2, a3) = (b0, b1, b2, b3)) = false) := ⟨by simp [e0]⟩
    have E0 : Sec (decide (a0 = b0) = false) := ⟨by simp [e0]⟩
    clear e0
    go_enter Tryd.func15, Tryd.ntmps15
    go_wp2_with fail
    refine (eqByteX_v (H0.out) (H0'.out)).mono ?_
    rw [E0.out]
    rintro e w0 ⟨rfl, hm0⟩
    have m0 := Sec.mk hm0
    clear hm0
    go_wp2
    go_ret
    exact ⟨by rw [HE.out]; rfl, HM0.out.transN m0.out⟩
  have E0 : Sec (decide (a0 = b0) = true) := ⟨by simp [e0]⟩
  have S0 := Sec.mk e0
  clear e0
  by_cases e1 : a1 = b1
  rotate_left
  · have HE : Sec (decide ((a0, a1, a2, a3) = (b0, b1, b2, b3)) = false) := ⟨by simp [e1]⟩
    have E1 : Sec (decide (a1 = b1) = false) := ⟨by simp [e1]⟩
    clear e1
    go_enter Tryd.func15, Tryd.ntmps15
    go_wp2_with fail
    refine (eqByteX_v (H0.out) (H0'.out)).mono ?_
    rw [E0.out]
    rintro e w0 ⟨rfl, hm0⟩
    have m0 := Sec.mk hm0
    have p0_1 : w0.cell? ⟨w.heap.size, 1, none⟩ = some (v1) := (HB0.out.mod m0.out id).cell 1
    have q0_1 : w0.cell? ⟨w.heap.size + 1, 1, none⟩ = some (u1) := (HB1.out.mod m0.out id).cell 1
    clear hm0
    go_wp2_with fail
    refine (eqByteX_v (H1.out.step m0.out) (H1'.out.step m0.out)).mono ?_
    rw [E1.out]
    rintro e w1 ⟨rfl, hm1⟩
    have m1 := Sec.mk (m0.out.transN hm1)
    clear hm1
    go_wp2
    go_ret
    exact ⟨by rw [HE.out]; rfl, HM0.out.transN m1.out⟩
  have E1 : Sec (decide (a1 = b1) = true) := ⟨by simp [e1]⟩
  have S1 := Sec.mk e1
  clear e1
  by_cases e2 : a2 = b2
  rotate_left
  · have HE : Sec (decide ((a0, a1, a2, a3) = (b0, b1, b2, b3)) = false) := ⟨by simp [e2]⟩
    have hb2 : (a2 == b2) = false := by simpa using e2
    clear e2
    go_enter Tryd.func15, Tryd.ntmps15
    go_wp2_with fail
    refine (eqByteX_v (H0.out) (H0'.out)).mono ?_
    rw [E0.out]
    rintro e w0 ⟨rfl, hm0⟩
    have m0 := Sec.mk hm0
    have p0_1 : w0.cell? ⟨w.heap.size, 1, none⟩ = some (v1) := (HB0.out.mod m0.out id).cell 1
    have q0_1 : w0.cell? ⟨w.heap.size + 1, 1, none⟩ = some (u1) := (HB1.out.mod m0.out id).cell 1
    have p0_2 : w0.cell? ⟨w.heap.size, 2, none⟩ = some (.bool a2) := (HB0.out.mod m0.out id).cell 2
    have q0_2 : w0.cell? ⟨w.heap.size + 1, 2, none⟩ = some (.bool b2) := (HB1.out.mod m0.out id).cell 2
    clear hm0
    go_wp2_with fail
    refine (eqByteX_v (H1.out.step m0.out) (H1'.out.step m0.out)).mono ?_
    rw [E1.out]
    rintro e w1 ⟨rfl, hm1⟩
    have m1 := Sec.mk (m0.out.transN hm1)
    have p1_2 : w1.cell? ⟨w.heap.size, 2, none⟩ = some (.bool a2) := (HB0.out.mod m1.out id).cell 2
    have q1_2 : w1.cell? ⟨w.heap.size + 1, 2, none⟩ = some (.bool b2) := (HB1.out.mod m1.out id).cell 2
    clear hm1
    go_wp2
    go_ret
    exact ⟨by rw [HE.out]; rfl, HM0.out.transN m1.out⟩
  have hb2 : (a2 == b2) = true := by simp [e2]
  have S2 := Sec.mk e2
  clear e2
  by_cases e3 : a3 = b3
  rotate_left
  · have HE : Sec (decide ((a0, a1, a2, a3) = (b0, b1, b2, b3)) = false) := ⟨by simp [e3]⟩
    have hb3 : (a3 == b3) = false := by simpa using e3
    clear e3
    go_enter Tryd.func15, Tryd.ntmps15
    go_wp2_with fail
    refine (eqByteX_v (H0.out) (H0'.out)).mono ?_
    rw [E0.out]
    rintro e w0 ⟨rfl, hm0⟩
    have m0 := Sec.mk hm0
    have p0_1 : w0.cell? ⟨w.heap.size, 1, none⟩ = some (v1) := (HB0.out.mod m0.out id).cell 1
    have q0_1 : w0.cell? ⟨w.heap.size + 1, 1, none⟩ = some (u1) := (HB1.out.mod m0.out id).cell 1
    have p0_2 : w0.cell? ⟨w.heap.size, 2, none⟩ = some (.bool a2) := (HB0.out.mod m0.out id).cell 2
    have q0_2 : w0.cell? ⟨w.heap.size + 1, 2, none⟩ = some (.bool b2) := (HB1.out.mod m0.out id).cell 2
    have p0_3 : w0.cell? ⟨w.heap.size, 3, none⟩ = some (.bool a3) := (HB0.out.mod m0.out id).cell 3
    have q0_3 : w0.cell? ⟨w.heap.size + 1, 3, none⟩ = some (.bool b3) := (HB1.out.mod m0.out id).cell 3
    clear hm0
    go_wp2_with fail
    refine (eqByteX_v (H1.out.step m0.out) (H1'.out.step m0.out)).mono ?_
    rw [E1.out]
    rintro e w1 ⟨rfl, hm1⟩
    have m1 := Sec.mk (m0.out.transN hm1)
    have p1_2 : w1.cell? ⟨w.heap.size, 2, none⟩ = some (.bool a2) := (HB0.out.mod m1.out id).cell 2
    have q1_2 : w1.cell? ⟨w.heap.size + 1, 2, none⟩ = some (.bool b2) := (HB1.out.mod m1.out id).cell 2
    have p1_3 : w1.cell? ⟨w.heap.size, 3, none⟩ = some (.bool a3) := (HB0.out.mod m1.out id).cell 3
    have q1_3 : w1.cell? ⟨w.heap.size + 1, 3, none⟩ = some (.bool b3) := (HB1.out.mod m1.out id).cell 3
    clear hm1
    go_wp2
    go_ret
    exact ⟨by rw [HE.out]; rfl, HM0.out.transN m1.out⟩
  have hb3 : (a3 == b3) = true := by simp [e3]
  have S3 := Sec.mk e3
  clear e3
  have HE : Sec (decide ((a0, a1, a2, a3) = (b0, b1, b2, b3)) = true) := ⟨by simp [S0.out, S1.out, S2.out, S3.out]⟩
  go_enter Tryd.func15, Tryd.ntmps15
  go_wp2_with fail
  refine (eqByteX_v (H0.out) (H0'.out)).mono ?_
  rw [E0.out]
  rintro e w0 ⟨rfl, hm0⟩
  have m0 := Sec.mk hm0
  have p0_1 : w0.cell? ⟨w.heap.size, 1, none⟩ = some (v1) := (HB0.out.mod m0.out id).cell 1
  have q0_1 : w0.cell? ⟨w.heap.size + 1, 1, none⟩ = some (u1) := (HB1.out.mod m0.out id).cell 1
  have p0_2 : w0.cell? ⟨w.heap.size, 2, none⟩ = some (.bool a2) := (HB0.out.mod m0.out id).cell 2
  have q0_2 : w0.cell? ⟨w.heap.size + 1, 2, none⟩ = some (.bool b2) := (HB1.out.mod m0.out id).cell 2
  have p0_3 : w0.cell? ⟨w.heap.size, 3, none⟩ = some (.bool a3) := (HB0.out.mod m0.out id).cell 3
  have q0_3 : w0.cell? ⟨w.heap.size + 1, 3, none⟩ = some (.bool b3) := (HB1.out.mod m0.out id).cell 3
  clear hm0
  go_wp2_with fail
  refine (eqByteX_v (H1.out.step m0.out) (H1'.out.step m0.out)).mono ?_
  rw [E1.out]
  rintro e w1 ⟨rfl, hm1⟩
  have m1 := Sec.mk (m0.out.transN hm1)
  have p1_2 : w1.cell? ⟨w.heap.size, 2, none⟩ = some (.bool a2) := (HB0.out.mod m1.out id).cell 2
  have q1_2 : w1.cell? ⟨w.heap.size + 1, 2, none⟩ = some (.bool b2) := (HB1.out.mod m1.out id).cell 2
  have p1_3 : w1.cell? ⟨w.heap.size, 3, none⟩ = some (.bool a3) := (HB0.out.mod m1.out id).cell 3
  have q1_3 : w1.cell? ⟨w.heap.size + 1, 3, none⟩ = some (.bool b3) := (HB1.out.mod m1.out id).cell 3
  clear hm1
  go_wp2
  go_ret
  exact ⟨by rw [HE.out]; rfl, HM0.out.transN m1.out⟩
end Go.Proofs.YtiaknomadhgckaaDoor

namespace Go.Proofs.YtiaknomadhgckaaDoor
open Go.RowKit Mem
set_option linter.unusedVariables false
set_option linter.unusedSimpArgs false
theorem suffix_sp (line : Bytes) : Lib.hasSuffix line [32] = decide (line[line.length - 1]? = some 32) := by
  unfold Lib.hasSuffix
  rw [Bool.eq_iff_iff, decide_eq_true_eq, List.isSuffixOf_iff_suffix]
  constructor
  · rintro ⟨t, rfl⟩
    simp
  · intro h
    have hl : line.length - 1 < line.length := (List.getElem?_eq_some_iff.1 h).1
    refine ⟨line.take (line.length - 1), ?_⟩
    have h1 := List.take_succ_eq_append_getElem hl
    rw [show line.length - 1 + 1 = line.length by omega, List.take_length] at h1
    have h2 := (List.getElem?_eq_some_iff.1 h).2
    rw [h2] at h1
    exact h1.symm
theorem trim_sp (line : Bytes) : Lib.trimSuffix line [32] = if line[line.length - 1]? = some 32 then line.take (line.length - 1) else line := by
  unfold Lib.trimSuffix
  rw [suffix_sp]
  by_cases h : line[line.length - 1]? = some 32
  · rw [if_pos h, decide_eq_true h, if_pos rfl]; rfl
  · rw [if_neg h, decide_eq_false h, if_neg (by simp)]
theorem app_drop {rest : Bytes} (h : upL (cutL 32 rest).1 = appU ∧ (cutL 32 rest).2.2 = true) : (cutL 32 rest).2.1 = rest.drop 7 := by
  have h6 : (cutL 32 rest).1.length = 6 := by have := congrArg List.length h.1; rw [upL_len] at this; exact this
  have := (cutL_parts 32 rest h.2).2
  rw [h6] at this
  exact this.symm
set_option maxHeartbeats 8000000 in
set_option maxRecDepth 100000 in
theorem appended_calls {g : Nat} {w0 w : World} {t rest : Bytes} {vu : Value} {u : UnitT} (hN : Names1 w0) (hM : Mod (fun k => w0.heap.size ≤ k) w0 w) (hg0 : w0.heap.size ≤ g) (hc : HalfSt w g t false) (hu : RdV true dUnit w vu u) (hl : rest.length ≤ 1048576) (hbl : u.2.1.length ≤ 1048576) :
    Calls Tryd.prog 44 #[.pointer (some ⟨g, 0, none⟩), vu, .string ⟨rest.toArray⟩] w (RestR w0 w g t (appC t rest u.2.1)) := by
  obtain ⟨v0, v1, rfl, k0, k1⟩ := rdUnit hu
  obtain ⟨A0, c0, rfl, -, r0⟩ := k0.slice
  obtain ⟨A1, c1, rfl, -, r1⟩ := k1.slice
  have hsz : (⟨rest.toArray⟩ : ByteArray).size = rest.length := by simp [ByteArray.size]
  have HDN : Sec (¬ (7 ≤ rest.length ∧ upL (rest.take 7) = appU ++ [32]) → appC t rest u.2.1 = badC t) := ⟨fun h => if_neg (fun hh => h ((app_seven rest).1 hh))⟩
  have HDP : Sec (7 ≤ rest.length ∧ upL (rest.take 7) = appU ++ [32] → appC t rest u.2.1 = appT t (rest.drop 7) u.2.1) := ⟨fun h => by
    have hp := (app_seven rest).2 h
    rw [← app_drop hp]
    exact if_pos hp⟩
  have HC := Sec.mk hc
  have HN := Sec.mk hN
  have HM := Sec.mk hM
  have hgl := hc.lt
  have hsz0 := hM.size
  have HBU := Sec.mk (Blk.new w 40 [.slice A0 u.1.length c0, .slice A1 u.2.1.length c1, .bool u.2.2.1, .bool u.2.2.2])
  have HNU : Sec (New w (w.alloc (.cells #[.slice A0 u.1.length c0, .slice A1 u.2.1.length c1, .bool u.2.2.1, .bool u.2.2.2] 40))) := ⟨(Mod.refl _ _).alloc _⟩
  have HRB := Sec.mk (r1.mod (w' := w.alloc (.cells #[.slice A0 u.1.length c0, .slice A1 u.2.1.length c1, .bool u.2.2.1, .bool u.2.2.2] 40)) (B' := (· < (w.alloc (.cells #[.slice A0 u.1.length c0, .slice A1 u.2.1.length c1, .bool u.2.2.1, .bool u.2.2.2] 40)).heap.size)) (fun k hk => Nat.lt_of_lt_of_le hk HNU.out.size) (fun k hk => HNU.out.block k hk id))
  clear hc hN hM hu k0 k1 r0 r1
  generalize u.2.1 = body at *
  by_cases h7 : 7 ≤ rest.length
  rotate_left
  · have HE : Sec (appC t rest body = badC t) := ⟨HDN.out (fun h => h7 h.1)⟩
    have h7i : (rest.length : Int) < 7 := by omega
    clear h7
    go_enter Tryd.func44, Tryd.ntmps44
    go_wp2
    go_ret
    exact ⟨false, rfl, (fun h => by cases h), (fun _ => HE.out), Mod.ofNew HNU.out⟩
  have h7i : ¬ (rest.length : Int) < 7 := by omega
  have hst : (⟨rest.toArray⟩ : ByteArray).extract 0 7 = ⟨(rest.take 7).toArray⟩ := by rw [ba_ext rest 0 7, List.drop_zero]
  have hsf : (⟨rest.toArray⟩ : ByteArray).extract 7 rest.length = ⟨(rest.drop 7).toArray⟩ := by rw [ba_ext rest 7 rest.length, List.take_length]
  have HU := Sec.mk (upper_calls (rest.take 7) (by rw [List.length_take]; omega))
  have hdl : (rest.drop 7).length ≤ 1048576 := by rw [List.length_drop]; omega
  obtain ⟨m, hm⟩ : ∃ m, m = rest.drop 7 := ⟨_, rfl⟩
  rw [← hm] at hsf hdl HDP
  obtain ⟨tk, htk⟩ : ∃ tk, tk = rest.take 7 := ⟨_, rfl⟩
  rw [← htk] at hst HU HDN HDP
  clear hm htk
  obtain ⟨us, hus⟩ : ∃ us, us = upL tk := ⟨_, rfl⟩
  rw [← hus] at HU HDN HDP
  clear hus
  go_enter Tryd.func44, Tryd.ntmps44
  go_wp2_with fail
  refine (HU.out _).mono ?_
  rintro e w1 ⟨rfl, hm1⟩
  have HN1 : Sec (New w w1) := ⟨HNU.out.transN hm1⟩
  have HBU1 := Sec.mk (HBU.out.mod hm1 id)
  have HC1 := Sec.mk (HC.out.mod HN1.out id)
  have HRB1 := Sec.mk (HRB.out.mod (w' := w1) (B' := (· < w1.heap.size)) (fun k hk => Nat.lt_of_lt_of_le hk hm1.size) (fun k hk => hm1.block k hk id))
  clear hm1 hst HU HBU HRB HNU HC
  by_cases hap : us = appU ++ [32]
  rotate_left
  · have HE : Sec (appC t rest body = badC t) := ⟨HDN.out (fun h => hap h.2)⟩
    have hb : (us != [65, 80, 80, 69, 78, 68, 32]) = true := by simpa [appU] using hap
    have hb2 : (us == [65, 80, 80, 69, 78, 68, 32]) = false := by simpa [appU] using hap
    clear hap
    go_wp2
    go_ret
    exact ⟨false, rfl, (fun h => by cases h), (fun _ => HE.out), Mod.ofNew HN1.out⟩
  have HE : Sec (appC t rest body = appT t m body) := ⟨HDP.out ⟨h7, hap⟩⟩
  have hb : (us != [65, 80, 80, 69, 78, 68, 32]) = false := by simpa [appU] using hap
  have hb2 : (us == [65, 80, 80, 69, 78, 68, 32]) = true := by simpa [appU] using hap
  clear hap HDN HDP
  have hu1 : w1.cell? ⟨w.heap.size, 1, none⟩ = some (.slice A1 body.length c1) := HBU1.out.cell 1
  have hgu : g ≠ w.heap.size := by omega
  go_upto_region 3 with (fail)
  generalize w.heap.size = U at *
  have HN2 : Sec (New w1 (w1.alloc (.cells #[] 5))) := ⟨(Mod.refl _ _).alloc _⟩
  have HLT : Sec (Mine Ty.byte 5 w1 (w1.alloc (.cells #[] 5)) (.slice (some ⟨w1.heap.size, 0, none⟩) 0 0) []) := ⟨Mine.lit0 5 rfl (Mod.refl _ _)⟩
  have hU1 := HBU1.out.lt
  have hgs : w1.heap.size ≠ g := by have := HC1.out.lt; omega
  go_upto_region 4 with (at_builtin; go_loud (refine wpList_app _ rfl (.tmp 19) (.tmp 21) _ rfl Tryd.underlying32 elt_byte flat_byte rfl rfl HLT.out (HLT.out.read HRB1.out (fun _ h => h)) (show ([] : Bytes).length + body.length ≤ 34359738368 by simp; omega) ?_; intro A2 n2 c2 w2 ho2; have HO2 := Sec.mk ho2; have HC2 := Sec.mk (HC1.out.mod ho2.new id); have k0 : w2.cell? ⟨g, 0, none⟩ = some (.int .i64 0) := HC2.out.cell 0; have k8 : w2.cell? ⟨g, 8, none⟩ = some (.slice none 0 0) := HC2.out.cell 8; have kf := HC2.out.frozen; clear ho2))
  obtain ⟨F8, ho8, hF8⟩ := HO2.out.1
  have HN12 : Sec (New w w2) := ⟨HN1.out.transN HO2.out.new⟩
  have hs12 := HO2.out.new.size
  have hs1 := HN1.out.size
  have hgw : g < w2.heap.size := HC2.out.lt
  obtain rfl := HO2.out.len.1
  obtain ⟨wS, hwS⟩ : ∃ W, W = (w2.setCell ⟨g, 0, none⟩ (.int .i64 12)).setCell ⟨g, 8, none⟩ (.slice A2 body.length c2) := ⟨_, rfl⟩
  have HMS : Sec (Mod (fun k => k = g) w2 wS) := ⟨by rw [hwS]; exact ((Mod.refl (fun k => k = g) w2).setCell (p := ⟨g, 0, none⟩) (fun _ => rfl) _).setCell (p := ⟨g, 8, none⟩) (fun _ => rfl) _⟩
  have HBS : Sec (Blk wS g 38 [.int .i64 12, .string ⟨t.toArray⟩, .int .u32 0, .bool false, .slice none 0 0, .int .i64 0, .int .i64 0, .int .u32 0, .slice A2 body.length c2]) := ⟨by rw [hwS]; have := (HC2.out.set_ 0 (.int .i64 12)).set_ 8 (.slice A2 body.length c2); simpa using this⟩
  have HO8 : Sec (Own Ty.byte 5 wS F8 (.slice A2 body.length c2) body) := ⟨ho8.keep HMS.out (fun k hk => by have := hF8 k hk; omega)⟩
  have HF8 : Sec (∀ k, k ∈ F8 → w1.heap.size ≤ k) := ⟨hF8⟩
  rw [show (([] : Bytes) ++ body).length = body.length from rfl, show ((w2.setCell ⟨g, 0, none⟩ (.int .i64 12)).setCell ⟨g, 8, none⟩ (.slice A2 body.length c2)) = wS from hwS.symm]
  have HMSN : Sec (Mod (fun k => k = g) w wS) := ⟨(Mod.ofNew HN12.out).trans HMS.out (fun i hi _ => hi)⟩
  clear hwS HO2 HC2 k0 k8 kf ho8 hF8 HLT HN2 hu1 HRB1 hb hb2 HBU1 HC1
  have HEE : Sec (appT t m body = if m = [] then (12, t, 0, false, [], 0, 0, 0, body) else if m[m.length - 1]? = some 32 ∧ (ReadListL (m.take (m.length - 1))).1 = true then (12, t, 0, false, [], 0, 0, (ReadListL (m.take (m.length - 1))).2, body) else badC t) := ⟨rfl⟩
  by_cases hm0 : m = []
  · have HE2 : Sec (appC t rest body = (12, t, 0, false, [], 0, 0, 0, body)) := ⟨by rw [HE.out, HEE.out, if_pos hm0]⟩
    have HCS : Sec (CmdSt w0.heap.size wS g (12, t, 0, false, [], 0, 0, 0, body)) := ⟨⟨⟨_, _, [], F8, HBS.out, Own.nil _ _ _, HO8.out, (fun k hk => by cases hk), (fun k hk => by
      rcases hk with hk | hk
      · cases hk
      · have := HF8.out k hk; omega)⟩, show IntKind.i64.wrap 12 = 12 by decide, show IntKind.u32.wrap 0 = 0 by decide, show IntKind.i64.wrap 0 = 0 by decide, show IntKind.i64.wrap 0 = 0 by decide, show IntKind.u32.wrap 0 = 0 by decide⟩⟩
    clear HEE
    subst hm0
    go_wp2
    go_ret
    exact ⟨true, rfl, (fun _ => by rw [HE2.out]; exact HCS.out), (fun h => by cases h), HMSN.out⟩
  have hme : m.isEmpty = false := by
    cases m with
    | nil => exact absurd rfl hm0
    | cons _ _ => rfl
  have HE2 : Sec (appC t rest body = if m[m.length - 1]? = some 32 ∧ (ReadListL (m.take (m.length - 1))).1 = true then (12, t, 0, false, [], 0, 0, (ReadListL (m.take (m.length - 1))).2, body) else badC t) := ⟨by rw [HE.out, HEE.out, if_neg hm0]⟩
  have hmd : (⟨m.toArray⟩ : ByteArray).data.toList = m := by simp
  have hms : (⟨m.toArray⟩ : ByteArray).size = m.length := by simp [ByteArray.size]
  have HT : Sec (Lib.trimSuffix (⟨m.toArray⟩ : ByteArray).data.toList (⟨#[32]⟩ : ByteArray).data.toList = if m[m.length - 1]? = some 32 then m.take (m.length - 1) else m) := ⟨by rw [hmd]; exact trim_sp m⟩
  have HH : Sec (Lib.hasSuffix (⟨m.toArray⟩ : ByteArray).data.toList (⟨#[32]⟩ : ByteArray).data.toList = decide (m[m.length - 1]? = some 32)) := ⟨by rw [hmd]; exact suffix_sp m⟩
  have HTS := Sec.mk (fun w => Tryd.strings_TrimSuffix ⟨m.toArray⟩ ⟨#[32]⟩ w (by rw [hms]; omega))
  have HHS := Sec.mk (fun w => Tryd.strings_HasSuffix ⟨m.toArray⟩ ⟨#[32]⟩ w (by rw [hms]; omega))
  rw [HT.out] at HTS
  rw [HH.out] at HHS
  have htl : (if m[m.length - 1]? = some 32 then m.take (m.length - 1) else m).length ≤ 1048576 := by
    split
    · rw [List.length_take]; omega
    · exact hdl
  have HBAD : Sec (¬ (m[m.length - 1]? = some 32 ∧ (ReadListL (if m[m.length - 1]? = some 32 then m.take (m.length - 1) else m)).1 = true) → appC t rest body = badC t) := ⟨fun h => by
    rw [HE2.out]
    by_cases hq : m[m.length - 1]? = some 32
    · rw [if_pos hq] at h; rw [if_neg h]
    · rw [if_neg (fun hh => hq hh.1)]⟩
  have HOK : Sec (m[m.length - 1]? = some 32 → (ReadListL (if m[m.length - 1]? = some 32 then m.take (m.length - 1) else m)).1 = true → appC t rest body = (12, t, 0, false, [], 0, 0, (ReadListL (if m[m.length - 1]? = some 32 then m.take (m.length - 1) else m)).2, body)) := ⟨fun hq h => by
    rw [if_pos hq] at h ⊢
    rw [HE2.out, if_pos ⟨hq, h⟩]⟩
  generalize (if m[m.length - 1]? = some 32 then m.take (m.length - 1) else m) = tr at *
  have HLW := Sec.mk (listL_wrap tr)
  have HRL := Sec.mk (fun (w : World) hE => readListImpl_calls tr (by omega) (w := w) hE)
  generalize ReadListL tr = fl at *
  obtain ⟨fok, fv⟩ := fl
  simp only at HLW HRL HBAD HOK
  have HLA : Sec (m[m.length - 1]? = some 32 ∨ ¬ m[m.length - 1]? = some 32) := ⟨Classical.em _⟩
  clear hm0 hmd HT HH HE HEE HE2 hdl
  go_wp2_with fail
  refine (HTS.out _).mono ?_
  rintro e w3 ⟨rfl, rfl⟩
  have HM3 : Sec (Mod (fun k => w0.heap.size ≤ k) w0 w3) := ⟨HM.out.trans HMSN.out (fun i hi _ => by subst hi; exact hg0)⟩
  go_wp2_with fail
  refine (HRL.out _ (HN.out.far HM3.out)).mono ?_
  rintro e w4 ⟨rfl, hm4⟩
  unfold FlagsV
  have hma : New w4 (w4.alloc (.cells #[.bool fok, .int .u32 fv] 75)) := (Mod.refl _ _).alloc _
  have HBF := Sec.mk (Blk.new w4 75 [.bool fok, .int .u32 fv])
  have HB5 := Sec.mk (HBS.out.mod (hm4.transN hma) id)
  have HO5 := Sec.mk (HO8.out.new (hm4.transN hma))
  have HM5 := Sec.mk (HMSN.out.transN (hm4.transN hma))
  have hgf : g ≠ w4.heap.size := by have := HBS.out.lt; have := hm4.size; omega
  clear hm4 hma HBS HO8 HMSN HTS HRL HM3
  go_upto_region 8 with (fail)
  generalize w4.alloc (.cells #[.bool fok, .int .u32 fv] 75) = w5 at *
  generalize w4.heap.size = f at *
  have k7 : w5.cell? ⟨g, 7, none⟩ = some (.int .u32 0) := HB5.out.cell 7
  have kf : w5.frozen? ⟨g, 7, none⟩ = false := HB5.out.frozen 7
  have f1 : w5.cell? ⟨f, 1, none⟩ = some (.int .u32 fv) := HBF.out.cell 1
  go_upto_region 9 with (fail)
  have HB6 := Sec.mk (HB5.out.set_ 7 (.int .u32 fv))
  simp only [List.set_cons_zero, List.set_cons_succ] at HB6
  have hm6 := (Mod.refl (fun k => k = g) w5).setCell (p := ⟨g, 7, none⟩) (fun _ => rfl) (.int .u32 fv)
  have HO6 := Sec.mk (HO5.out.keep hm6 (fun k hk => by have := HF8.out k hk; omega))
  have HFIN : Sec (Mod (fun k => k = g) w (w5.setCell ⟨g, 7, none⟩ (.int .u32 fv))) := ⟨HM5.out.trans hm6 (fun i hi _ => hi)⟩
  have HBF6 := Sec.mk (HBF.out.mod hm6 (fun h => hgf h.symm))
  clear k7 kf f1 hm6 HB5 HBF HO5 HM5
  generalize w5.setCell ⟨g, 7, none⟩ (.int .u32 fv) = w6 at *
  have f0 : w6.cell? ⟨f, 0, none⟩ = some (.bool fok) := HBF6.out.cell 0
  cases fok
  · have HEB : Sec (appC t rest body = badC t) := ⟨HBAD.out (fun h => by cases h.2)⟩
    go_wp2
    go_ret
    exact ⟨false, rfl, (fun h => by cases h), (fun _ => HEB.out), HFIN.out⟩
  go_wp2_with fail
  refine (HHS.out _).mono ?_
  rintro e w7 ⟨rfl, rfl⟩
  rcases HLA.out with hq | hq
  · have HCS : Sec (CmdSt w0.heap.size w7 g (12, t, 0, false, [], 0, 0, fv, body)) := ⟨⟨⟨_, _, [], F8, HB6.out, Own.nil _ _ _, HO6.out, (fun k hk => by cases hk), (fun k hk => by
      rcases hk with hk | hk
      · cases hk
      · have := HF8.out k hk; omega)⟩, show IntKind.i64.wrap 12 = 12 by decide, show IntKind.u32.wrap 0 = 0 by decide, show IntKind.i64.wrap 0 = 0 by decide, show IntKind.i64.wrap 0 = 0 by decide, HLW.out⟩⟩
    have HEK := Sec.mk (HOK.out hq (by first | rfl | trivial))
    rw [decide_eq_true hq]
    clear hq
    go_wp2
    go_ret
    exact ⟨true, rfl, (fun _ => by rw [HEK.out]; exact HCS.out), (fun h => by cases h), HFIN.out⟩
  · have HEB : Sec (appC t rest body = badC t) := ⟨HBAD.out (fun h => hq h.1)⟩
    rw [decide_eq_false hq]
    clear hq
    go_wp2
    go_ret
    exact ⟨false, rfl, (fun h => by cases h), (fun _ => HEB.out), HFIN.out⟩
end Go.Proofs.YtiaknomadhgckaaDoor

namespace Go.Proofs.YtiaknomadhgckaaDoor
open Go.RowKit Mem
set_option linter.unusedVariables false
set_option linter.unusedSimpArgs false
theorem alnum_n (b : UInt8) : alnum b = (decide (48 ≤ b.toNat ∧ b.toNat ≤ 57) || decide (97 ≤ b.toNat ∧ b.toNat ≤ 122) || decide (65 ≤ b.toNat ∧ b.toNat ≤ 90)) := rfl
theorem tagB_no {xs : Bytes} {k : Nat} (hk : k < xs.length) (h : alnum xs[k] = false) : tagB xs = false := by
  unfold tagB
  have : xs.all alnum = false := by
    rw [List.all_eq_false]
    exact ⟨xs[k], List.getElem_mem hk, by rw [h]; simp⟩
  rw [this, Bool.and_false]
theorem tagB_all {xs : Bytes} (h : ∀ j, (hj : j < xs.length) → alnum xs[j] = true) : tagB xs = decide (1 ≤ xs.length ∧ xs.length ≤ 20) := by
  unfold tagB
  have : xs.all alnum = true := by
    rw [List.all_eq_true]
    intro x hx
    obtain ⟨j, hj, rfl⟩ := List.getElem_of_mem hx
    exact h j hj
  rw [this, Bool.and_true]
theorem upB_nat (b : UInt8) : (upB b).toNat = if 97 ≤ b.toNat ∧ b.toNat ≤ 122 then b.toNat - 32 else b.toNat := by
  unfold upB
  split
  · rename_i h
    rw [UInt8.toNat_ofNat']
    omega
  · rfl
set_option maxHeartbeats 2000000 in
set_option maxRecDepth 100000 in
theorem l6Tag_calls (xs : Bytes) (hx : xs.length ≤ 34359738368) (w : World) : Calls Tryd.prog 36 #[.string ⟨xs.toArray⟩] w (Ret (.bool (tagB xs)) w) := by
  have hsz : (⟨xs.toArray⟩ : ByteArray).size = xs.length := by simp [ByteArray.size]
  by_cases h20 : 1 ≤ xs.length ∧ xs.length ≤ 20
  rotate_left
  · have HE : Sec (tagB xs = false) := ⟨by unfold tagB; rw [decide_eq_false h20, Bool.false_and]⟩
    rcases (show xs.length < 1 ∨ (1 ≤ xs.length ∧ 20 < xs.length) by omega) with hb | hb
    · have f0 : (xs.length : Int) < 1 := by omega
      clear h20
      go_enter Tryd.func36, Tryd.ntmps36
      go_wp2
      go_ret
      exact ⟨by rw [HE.out]; rfl, Mod.refl _ _⟩
    · have f0 : ¬ (xs.length : Int) < 1 := by omega
      have f1 : (20 : Int) < (xs.length : Int) := by omega
      clear h20
      go_enter Tryd.func36, Tryd.ntmps36
      go_wp2
      go_ret
      exact ⟨by rw [HE.out]; rfl, Mod.refl _ _⟩
  have f0 : ¬ (xs.length : Int) < 1 := by omega
  have f1 : ¬ (20 : Int) < (xs.length : Int) := by omega
  have H20 := Sec.mk h20
  clear h20
  go_enter Tryd.func36, Tryd.ntmps36
  go_wp2
  clear f0 f1
  go_loopw [3] (fun i wr => ∃ k : Nat, k ≤ xs.length ∧ i = .int .i64 (k : Int) ∧ Sec (∀ j, (hj : j < xs.length) → j < k → alnum xs[j] = true) ∧ Sec (New w wr)) (fun i _ => xs.length - (intOf i).toNat)
  case atStart => exact ⟨0, Nat.zero_le _, rfl, ⟨fun j hj h => absurd h (Nat.not_lt_zero _)⟩, ⟨Mod.refl _ _⟩⟩
  case round =>
    obtain ⟨k, hk, rfl, HA, HM⟩ := hrel
    by_cases hlt : k < xs.length
    rotate_left
    · obtain rfl : k = xs.length := by omega
      have HE : Sec (tagB xs = true) := ⟨by rw [tagB_all (fun j hj => HA.out j hj hj), decide_eq_true H20.out]⟩
      go_wp2
      go_ret
      exact ⟨by rw [HE.out]; rfl, HM.out⟩
    have hki : (k : Int) < (xs.length : Int) := by omega
    have hg := strIdx_run xs k hlt
    have HAN := Sec.mk (alnum_n xs[k])
    have HBF := Sec.mk (tagB_no (xs := xs) hlt)
    have HBT : Sec (alnum xs[k] = true → ∀ j, (hj : j < xs.length) → j < k + 1 → alnum xs[j] = true) := ⟨fun h j hj h1 => by
      rcases Nat.lt_or_eq_of_le (Nat.le_of_lt_succ h1) with h2 | h2
      · exact HA.out j hj h2
      · subst h2; exact h⟩
    have hbn := UInt8.toNat_lt xs[k]
    generalize alnum xs[k] = al at *
    generalize xs[k].toNat = n at *
    rcases (show (0 ≤ n ∧ n ≤ 47) ∨ (48 ≤ n ∧ n ≤ 57) ∨ (58 ≤ n ∧ n ≤ 64) ∨ (65 ≤ n ∧ n ≤ 90) ∨ (91 ≤ n ∧ n ≤ 96) ∨ (97 ≤ n ∧ n ≤ 122) ∨ (123 ≤ n ∧ n ≤ 255) by omega) with hb | hb | hb | hb | hb | hb | hb
    · have HE : Sec (al = false) := ⟨by rw [HAN.out]; simp; omega⟩
      have f0 : ¬ (48 : Int) ≤ (n : Int) := by omega
      have f1 : (n : Int) ≤ 57 := by omega
      have f2 : ¬ (97 : Int) ≤ (n : Int) := by omega
      have f3 : (n : Int) ≤ 122 := by omega
      have f4 : ¬ (65 : Int) ≤ (n : Int) := by omega
      have f5 : (n : Int) ≤ 90 := by omega
      clear hb hbn
      go_wp2
      go_ret
      exact ⟨by rw [HBF.out HE.out]; rfl, HM.out⟩
    · have HE : Sec (al = true) := ⟨by rw [HAN.out]; simp; omega⟩
      have f0 : (48 : Int) ≤ (n : Int) := by omega
      have f1 : (n : Int) ≤ 57 := by omega
      have f2 : ¬ (97 : Int) ≤ (n : Int) := by omega
      have f3 : (n : Int) ≤ 122 := by omega
      have f4 : ¬ (65 : Int) ≤ (n : Int) := by omega
      have f5 : (n : Int) ≤ 90 := by omega
      clear hb hbn
      go_wp2
      go_roundw
      case rel => exact ⟨k + 1, by omega, by go_num, ⟨HBT.out HE.out⟩, HM⟩
      case measure => simp [intOf]; omega
    · have HE : Sec (al = false) := ⟨by rw [HAN.out]; simp; omega⟩
      have f0 : (48 : Int) ≤ (n : Int) := by omega
      have f1 : ¬ (n : Int) ≤ 57 := by omega
      have f2 : ¬ (97 : Int) ≤ (n : Int) := by omega
      have f3 : (n : Int) ≤ 122 := by omega
      have f4 : ¬ (65 : Int) ≤ (n : Int) := by omega
      have f5 : (n : Int) ≤ 90 := by omega
      clear hb hbn
      go_wp2
      go_ret
      exact ⟨by rw [HBF.out HE.out]; rfl, HM.out⟩
    · have HE : Sec (al = true) := ⟨by rw [HAN.out]; simp; omega⟩
      have f0 : (48 : Int) ≤ (n : Int) := by omega
      have f1 : ¬ (n : Int) ≤ 57 := by omega
      have f2 : ¬ (97 : Int) ≤ (n : Int) := by omega
      have f3 : (n : Int) ≤ 122 := by omega
      have f4 : (65 : Int) ≤ (n : Int) := by omega
      have f5 : (n : Int) ≤ 90 := by omega
      clear hb hbn
      go_wp2
      go_roundw
      case rel => exact ⟨k + 1, by omega, by go_num, ⟨HBT.out HE.out⟩, HM⟩
      case measure => simp [intOf]; omega
    · have HE : Sec (al = false) := ⟨by rw [HAN.out]; simp; omega⟩
      have f0 : (48 : Int) ≤ (n : Int) := by omega
      have f1 : ¬ (n : Int) ≤ 57 := by omega
      have f2 : ¬ (97 : Int) ≤ (n : Int) := by omega
      have f3 : (n : Int) ≤ 122 := by omega
      have f4 : (65 : Int) ≤ (n : Int) := by omega
      have f5 : ¬ (n : Int) ≤ 90 := by omega
      clear hb hbn
      go_wp2
      go_ret
      exact ⟨by rw [HBF.out HE.out]; rfl, HM.out⟩
    · have HE : Sec (al = true) := ⟨by rw [HAN.out]; simp; omega⟩
      have f0 : (48 : Int) ≤ (n : Int) := by omega
      have f1 : ¬ (n : Int) ≤ 57 := by omega
      have f2 : (97 : Int) ≤ (n : Int) := by omega
      have f3 : (n : Int) ≤ 122 := by omega
      have f4 : (65 : Int) ≤ (n : Int) := by omega
      have f5 : ¬ (n : Int) ≤ 90 := by omega
      clear hb hbn
      go_wp2
      go_roundw
      case rel => exact ⟨k + 1, by omega, by go_num, ⟨HBT.out HE.out⟩, HM⟩
      case measure => simp [intOf]; omega
    · have HE : Sec (al = false) := ⟨by rw [HAN.out]; simp; omega⟩
      have f0 : (48 : Int) ≤ (n : Int) := by omega
      have f1 : ¬ (n : Int) ≤ 57 := by omega
      have f2 : (97 : Int) ≤ (n : Int) := by omega
      have f3 : ¬ (n : Int) ≤ 122 := by omega
      have f4 : (65 : Int) ≤ (n : Int) := by omega
      have f5 : ¬ (n : Int) ≤ 90 := by omega
      clear hb hbn
      go_wp2
      go_ret
      exact ⟨by rw [HBF.out HE.out]; rfl, HM.out⟩
set_option maxHeartbeats 2000000 in
set_option maxRecDepth 100000 in
theorem tagOk_calls (xs : Bytes) (hx : xs.length ≤ 34359738368) (w : World) : Calls Tryd.prog 43 #[.string ⟨xs.toArray⟩] w (Ret (.bool (tagB xs)) w) := by
  have hsz : (⟨xs.toArray⟩ : ByteArray).size = xs.length := by simp [ByteArray.size]
  have HU := Sec.mk (upper_calls xs hx)
  have hul : (upL xs).length = xs.length := upL_len xs
  have HUL := Sec.mk hul
  go_enter Tryd.func43, Tryd.ntmps43
  go_wp2
  go_loopw [7] (fun i wr => ∃ k : Nat, k ≤ xs.length ∧ i = .int .i64 (k : Int) ∧ Sec (∀ j, (hj : j < xs.length) → j < k → alnum xs[j] = true) ∧ Sec (New w wr)) (fun i _ => xs.length - (intOf i).toNat)
  case atStart => exact ⟨0, Nat.zero_le _, rfl, ⟨fun j hj h => absurd h (Nat.not_lt_zero _)⟩, ⟨Mod.refl _ _⟩⟩
  case round =>
    obtain ⟨k, hk, rfl, HA, HM⟩ := hrel
    by_cases hlt : k < xs.length
    rotate_left
    · obtain rfl : k = xs.length := by omega
      have HE := Sec.mk (tagB_all (fun j hj => HA.out j hj hj))
      rcases (show xs.length < 1 ∨ (1 ≤ xs.length ∧ 20 < xs.length) ∨ (1 ≤ xs.length ∧ xs.length ≤ 20) by omega) with hb | hb | hb
      · have f0 : ¬ (1 : Int) ≤ (xs.length : Int) := by omega
        go_wp2
        go_ret
        exact ⟨by rw [HE.out, decide_eq_false (by omega)]; rfl, HM.out⟩
      · have f0 : (1 : Int) ≤ (xs.length : Int) := by omega
        have f1 : ¬ (xs.length : Int) ≤ 20 := by omega
        go_wp2
        go_ret
        exact ⟨by rw [HE.out, decide_eq_false (by omega)]; rfl, HM.out⟩
      · have f0 : (1 : Int) ≤ (xs.length : Int) := by omega
        have f1 : (xs.length : Int) ≤ 20 := by omega
        go_wp2
        go_ret
        exact ⟨by rw [HE.out, decide_eq_true hb]; rfl, HM.out⟩
    have hki : (k : Int) < (xs.length : Int) := by omega
    have hg := strIdx_run (upL xs) k (by rw [hul]; exact hlt)
    have hup : ((upL xs)[k]'(by rw [hul]; exact hlt)).toNat = if 97 ≤ xs[k].toNat ∧ xs[k].toNat ≤ 122 then xs[k].toNat - 32 else xs[k].toNat := by
      rw [← upB_nat]
      unfold upL
      rw [List.getElem_map]
    rw [hup] at hg
    clear hup hul
    have hsu : (⟨(upL xs).toArray⟩ : ByteArray).size = xs.length := by rw [← HUL.out]; simp [ByteArray.size]
    have HAN := Sec.mk (alnum_n xs[k])
    have HBF := Sec.mk (tagB_no (xs := xs) hlt)
    have HBT : Sec (alnum xs[k] = true → ∀ j, (hj : j < xs.length) → j < k + 1 → alnum xs[j] = true) := ⟨fun h j hj h1 => by
      rcases Nat.lt_or_eq_of_le (Nat.le_of_lt_succ h1) with h2 | h2
      · exact HA.out j hj h2
      · subst h2; exact h⟩
    have hbn := UInt8.toNat_lt xs[k]
    generalize alnum xs[k] = al at *
    generalize xs[k].toNat = m at *
    generalize upL xs = us at *
    rcases (show (0 ≤ m ∧ m ≤ 47) ∨ (48 ≤ m ∧ m ≤ 57) ∨ (58 ≤ m ∧ m ≤ 64) ∨ (65 ≤ m ∧ m ≤ 90) ∨ (91 ≤ m ∧ m ≤ 96) ∨ (97 ≤ m ∧ m ≤ 122) ∨ (123 ≤ m ∧ m ≤ 255) by omega) with hb | hb | hb | hb | hb | hb | hb
    · have HE : Sec (al = false) := ⟨by rw [HAN.out]; simp; omega⟩
      rw [if_neg (by omega)] at hg
      generalize m = n at *
      have f0 : (n : Int) < 65 := by omega
      have f1 : ¬ (90 : Int) < (n : Int) := by omega
      have f2 : (n : Int) < 48 := by omega
      have f3 : ¬ (57 : Int) < (n : Int) := by omega
      go_wp2_with fail
      refine (HU.out _).mono ?_
      rintro e w2 ⟨rfl, hm2⟩
      have HM2 := Sec.mk (HM.out.transN hm2)
      clear hm2 HU
      go_wp2
      go_ret
      exact ⟨by rw [HBF.out HE.out]; rfl, HM2.out⟩
    · have HE : Sec (al = true) := ⟨by rw [HAN.out]; simp; omega⟩
      rw [if_neg (by omega)] at hg
      generalize m = n at *
      have f0 : (n : Int) < 65 := by omega
      have f1 : ¬ (90 : Int) < (n : Int) := by omega
      have f2 : ¬ (n : Int) < 48 := by omega
      have f3 : ¬ (57 : Int) < (n : Int) := by omega
      go_wp2_with fail
      refine (HU.out _).mono ?_
      rintro e w2 ⟨rfl, hm2⟩
      have HM2 := Sec.mk (HM.out.transN hm2)
      clear hm2 HU
      go_wp2
      go_roundw
      case rel => exact ⟨k + 1, by omega, by go_num, ⟨HBT.out HE.out⟩, HM2⟩
      case measure => simp [intOf]; omega
    · have HE : Sec (al = false) := ⟨by rw [HAN.out]; simp; omega⟩
      rw [if_neg (by omega)] at hg
      generalize m = n at *
      have f0 : (n : Int) < 65 := by omega
      have f1 : ¬ (90 : Int) < (n : Int) := by omega
      have f2 : ¬ (n : Int) < 48 := by omega
      have f3 : (57 : Int) < (n : Int) := by omega
      go_wp2_with fail
      refine (HU.out _).mono ?_
      rintro e w2 ⟨rfl, hm2⟩
      have HM2 := Sec.mk (HM.out.transN hm2)
      clear hm2 HU
      go_wp2
      go_ret
      exact ⟨by rw [HBF.out HE.out]; rfl, HM2.out⟩
    · have HE : Sec (al = true) := ⟨by rw [HAN.out]; simp; omega⟩
      rw [if_neg (by omega)] at hg
      generalize m = n at *
      have f0 : ¬ (n : Int) < 65 := by omega
      have f1 : ¬ (90 : Int) < (n : Int) := by omega
      have f2 : ¬ (n : Int) < 48 := by omega
      have f3 : (57 : Int) < (n : Int) := by omega
      go_wp2_with fail
      refine (HU.out _).mono ?_
      rintro e w2 ⟨rfl, hm2⟩
      have HM2 := Sec.mk (HM.out.transN hm2)
      clear hm2 HU
      go_wp2
      go_roundw
      case rel => exact ⟨k + 1, by omega, by go_num, ⟨HBT.out HE.out⟩, HM2⟩
      case measure => simp [intOf]; omega
    · have HE : Sec (al = false) := ⟨by rw [HAN.out]; simp; omega⟩
      rw [if_neg (by omega)] at hg
      generalize m = n at *
      have f0 : ¬ (n : Int) < 65 := by omega
      have f1 : (90 : Int) < (n : Int) := by omega
      have f2 : ¬ (n : Int) < 48 := by omega
      have f3 : (57 : Int) < (n : Int) := by omega
      go_wp2_with fail
      refine (HU.out _).mono ?_
      rintro e w2 ⟨rfl, hm2⟩
      have HM2 := Sec.mk (HM.out.transN hm2)
      clear hm2 HU
      go_wp2
      go_ret
      exact ⟨by rw [HBF.out HE.out]; rfl, HM2.out⟩
    · have HE : Sec (al = true) := ⟨by rw [HAN.out]; simp; omega⟩
      rw [if_pos hb] at hg
      have hmn : 65 ≤ m - 32 ∧ m - 32 ≤ 90 := by omega
      generalize m - 32 = n at *
      have f0 : ¬ (n : Int) < 65 := by omega
      have f1 : ¬ (90 : Int) < (n : Int) := by omega
      have f2 : ¬ (n : Int) < 48 := by omega
      have f3 : (57 : Int) < (n : Int) := by omega
      go_wp2_with fail
      refine (HU.out _).mono ?_
      rintro e w2 ⟨rfl, hm2⟩
      have HM2 := Sec.mk (HM.out.transN hm2)
      clear hm2 HU
      go_wp2
      go_roundw
      case rel => exact ⟨k + 1, by omega, by go_num, ⟨HBT.out HE.out⟩, HM2⟩
      case measure => simp [intOf]; omega
    · have HE : Sec (al = false) := ⟨by rw [HAN.out]; simp; omega⟩
      rw [if_neg (by omega)] at hg
      generalize m = n at *
      have f0 : ¬ (n : Int) < 65 := by omega
      have f1 : (90 : Int) < (n : Int) := by omega
      have f2 : ¬ (n : Int) < 48 := by omega
      have f3 : (57 : Int) < (n : Int) := by omega
      go_wp2_with fail
      refine (HU.out _).mono ?_
      rintro e w2 ⟨rfl, hm2⟩
      have HM2 := Sec.mk (HM.out.transN hm2)
      clear hm2 HU
      go_wp2
      go_ret
      exact ⟨by rw [HBF.out HE.out]; rfl, HM2.out⟩
end Go.Proofs.YtiaknomadhgckaaDoor
