/- Rows of rows of bytes: the laws' helpers. Openers: an argument that can be read as data reads as an abstract value. The laws' helpers over bytes and over rows of bytes, by value. Marks over bytes, the number given as an integer. The laws' helpers over Cmd. -/
import Derived.Test.YtiaknomadhgckaaDoorPk7
import Derived.Test.YtiaknomadhgckaaDoorPk5
import Derived.Deep.RegionHeld3
import Derived.Test.YtiaknomadhgckaaDoorProg
import Derived.Test.YtiaknomadhgckaaDoorPk0
import Derived.KernelRfl
import Derived.Deep.Slices
import Derived.ChangeArms
import Derived.ChangeSame
import Derived.RowKit3
import Derived.Test.YtiaknomadhgckaaDoorPk4
import Derived.Test.YtiaknomadhgckaaDoorPk2
import Derived.WalkKit
namespace Go.Proofs.YtiaknomadhgckaaDoor
open Go.RowKit Mem
set_option linter.unusedVariables false
set_option maxHeartbeats 400000 in
theorem szByteS_calls {A : Option Addr} {c n : Nat} {w : World} (left : Int) (h0 : 0 ≤ left) (h1 : left ≤ 1048576) (hn : n ≤ 9223372036854775807) :
    Calls Tryd.prog 34 #[.slice A n c, .int .i64 left] w (fun e w' => e = .returned (.int .i64 (if left < n then -1 else left - n)) ∧ w' = w) := by
  by_cases hlt : left < n
  · go_enter Tryd.func34, Tryd.ntmps34
    go_wp2
    go_ret
    exact ⟨by simp, rfl⟩
  · go_enter Tryd.func34, Tryd.ntmps34
    go_wp2
    go_ret
    exact ⟨by simp, rfl⟩
end Go.Proofs.YtiaknomadhgckaaDoor

namespace Go.Proofs.YtiaknomadhgckaaDoor.Mem
open Go.RowKit Go.Deep
set_option linter.unusedVariables false
theorem wf_wrap {k : IntKind} {n : Int} (h : (Lit.int k n).wf = true) : k.wrap n = n := by
  simp only [Lit.wf, Bool.and_eq_true, decide_eq_true_eq] at h
  cases k <;> simp [IntKind.wrap, IntKind.bits, IntKind.signed, IntKind.min, IntKind.max] at h ⊢ <;> (try split) <;> omega
def Opens {α : Type} (P : Program) (d : Ty α) (t : TypeId) : Prop :=
  P.cellsOf t = d.sz ∧ 0 < d.sz ∧ ∀ {H : Type} (enc : TypeId × Value → H) (w : World) (base : Nat) (spare : Nat → Bool) (held : Bool) (fuel : Nat) (cs : List Value) (x : DataW H × List MemPlace),
    DataW.trod enc P w base spare held fuel t cs = some x → ∃ a, d.K w (· < w.heap.size) a cs
theorem Opens.int {P : Program} {t : TypeId} {k : IntKind} (ht : P.underlying t = some (.int k)) (hc : P.cellsOf t = 1) : Opens P (Ty.int k) t :=
  ⟨hc, Nat.one_pos, fun enc w base spare held fuel cs x h => by
    obtain ⟨n, rfl, _, hw⟩ := DataW.trod_int ht h
    exact ⟨n, rfl, wf_wrap hw⟩⟩
theorem Opens.byte {P : Program} {t : TypeId} (ht : P.underlying t = some (.int .u8)) (hc : P.cellsOf t = 1) : Opens P Ty.byte t :=
  ⟨hc, Nat.one_pos, fun enc w base spare held fuel cs x h => by
    obtain ⟨n, rfl, _, hw⟩ := DataW.trod_int ht h
    have h1 := wf_wrap hw
    rw [IntKind.wrap_u8] at h1
    refine ⟨UInt8.ofNat n.toNat, ?_⟩
    show [_] = [Value.int .u8 _]
    rw [UInt8.toNat_ofNat']
    congr 2
    omega⟩
theorem Opens.bool {P : Program} {t : TypeId} (ht : P.underlying t = some .bool) (hc : P.cellsOf t = 1) : Opens P Ty.bool t :=
  ⟨hc, Nat.one_pos, fun enc w base spare held fuel cs x h => by
    obtain ⟨n, rfl, _⟩ := DataW.trod_bool ht h
    exact ⟨n, rfl⟩⟩
theorem Opens.string {P : Program} {t : TypeId} (ht : P.underlying t = some .string) (hc : P.cellsOf t = 1) : Opens P Ty.string t :=
  ⟨hc, Nat.one_pos, fun enc w base spare held fuel cs x h => by
    obtain ⟨n, rfl, _, _⟩ := DataW.trod_string ht h
    exact ⟨n, rfl⟩⟩
theorem Opens.slice {α : Type} {P : Program} {t e : TypeId} {d : Ty α} (ht : P.underlying t = some (.slice e)) (hc : P.cellsOf t = 1) (hd : Opens P d e) : Opens P (Ty.slice e d) t :=
  ⟨hc, Nat.one_pos, fun enc w base spare held fuel cs x h => by
    obtain ⟨h1, h2, h3⟩ := hd
    rcases open_slice ht h with ⟨rfl, _⟩ | ⟨a, len, cap, m, n, D, Pl, rfl, hb, hl, hm, hmm, _, hi⟩
    · exact ⟨[], none, 0, rfl, by simp, by omega, Row.none_ _ _ _ _⟩
    · have hlm : len ≤ m := by rw [hmm]; split <;> omega
      have key : ∀ k, k ≤ len → ∃ xs : List α, xs.length = k ∧ ∀ j y, xs[j]? = some y → ∃ c, d.K w (· < w.heap.size) y c ∧ ∀ i u, c[i]? = some u → w.cell? (a.add (j * d.sz + i)) = some u := by
        intro k
        induction k with
        | zero => intro _; exact ⟨[], rfl, fun j y hj => by simp at hj⟩
        | succ k ih =>
          intro hk
          obtain ⟨xs, hxl, hx⟩ := ih (by omega)
          obtain ⟨cs', hcs, htr⟩ := hi k (by omega)
          rw [h1] at hcs
          obtain ⟨_, hcl, hat⟩ := World.cells?_some hcs
          obtain ⟨y, hy⟩ := h3 enc w base spare held n cs' _ htr
          refine ⟨xs ++ [y], by simp [hxl], fun j z hj => ?_⟩
          rcases Nat.lt_or_ge j xs.length with hlt | hge
          · rw [List.getElem?_append_left hlt] at hj; exact hx j z hj
          · rw [List.getElem?_append_right hge] at hj
            have hj0 : j - xs.length = 0 := by
              have := (List.getElem?_eq_some_iff.1 hj).1
              simp at this; omega
            rw [hj0] at hj
            obtain rfl : y = z := by simpa using hj
            refine ⟨cs', hy, fun i u hu => ?_⟩
            have hlt : i < d.sz := by rw [← hcl]; exact (List.getElem?_eq_some_iff.1 hu).1
            rw [show j = k by omega, ← add_add, hat i hlt]
            exact hu
      obtain ⟨xs, hxl, hx⟩ := key len (Nat.le_refl _)
      refine ⟨xs, some a, cap, by rw [hxl], by omega, by unfold maxLen at hm; omega, rfl, by unfold maxLen at hm; omega, fun hn => ⟨a, rfl, ?_, hx⟩⟩
      obtain ⟨c, hK, hc'⟩ := hx 0 xs[0] (List.getElem?_eq_getElem (by omega))
      have hcl := d.K_len hK
      have := World.block_lt_of_cell? w _ (hc' 0 c[0] (List.getElem?_eq_getElem (by omega)))
      rwa [add_block] at this⟩
def OpensF {α : Type} (P : Program) (d : Ty α) (fs : List Field) (off : Nat) : Prop :=
  0 < d.sz ∧ ∀ {H : Type} (enc : TypeId × Value → H) (w : World) (base : Nat) (spare : Nat → Bool) (held : Bool) (n : Nat) (cs : List Value), cs.length = off + d.sz →
    (∀ (i : Nat) (f : Field), fs[i]? = some f → ∃ y, DataW.trod enc P w base spare held n f.type ((cs.drop f.offset).take (P.cellsOf f.type)) = some y) → ∃ a, d.K w (· < w.heap.size) a (cs.drop off)
theorem OpensF.last {α : Type} {P : Program} {d : Ty α} {f : Field} {off : Nat} (ho : f.offset = off) (hd : Opens P d f.type) : OpensF P d [f] off :=
  ⟨hd.2.1, fun enc w base spare held n cs hl h => by
    obtain ⟨y, hy⟩ := h 0 f rfl
    rw [ho, hd.1, List.take_of_length_le (by rw [List.length_drop]; omega)] at hy
    exact hd.2.2 enc w base spare held n _ y hy⟩
theorem OpensF.cons {α β : Type} {P : Program} {d : Ty α} {d' : Ty β} {f : Field} {fs : List Field} {off : Nat} (ho : f.offset = off) (hd : Opens P d f.type) (hr : OpensF P d' fs (off + d.sz)) : OpensF P (Ty.pair d d') (f :: fs) off :=
  ⟨by show 0 < d.sz + d'.sz; have := hd.2.1; omega, fun enc w base spare held n cs hl h => by
    have hl' : cs.length = off + (d.sz + d'.sz) := hl
    obtain ⟨y, hy⟩ := h 0 f rfl
    rw [ho, hd.1] at hy
    obtain ⟨a, ha⟩ := hd.2.2 enc w base spare held n _ y hy
    obtain ⟨b, hb⟩ := hr.2 enc w base spare held n cs (by omega) (fun i g hg => h (i + 1) g (by simpa using hg))
    refine ⟨(a, b), _, _, ?_, ha, hb⟩
    rw [← List.drop_drop, List.take_append_drop]⟩
theorem Opens.struct {α : Type} {P : Program} {t : TypeId} {fs : List Field} {d : Ty α} (ht : P.underlying t = some (.struct fs.toArray)) (hc : P.cellsOf t = d.sz) (hd : OpensF P d fs 0) : Opens P d t :=
  ⟨hc, hd.1, fun enc w base spare held fuel cs x h => by
    obtain ⟨xs, n, _, _, hl, hlen, hf⟩ := DataW.trod_struct ht h
    obtain ⟨a, ha⟩ := hd.2 enc w base spare held n cs (by omega) (fun i f hi => by
      have hi' : i < xs.length := by rw [hlen]; have := (List.getElem?_eq_some_iff.1 hi).1; simpa using this
      exact ⟨xs[i], by rw [hf i f (by simpa using hi), List.getElem?_eq_getElem hi']⟩)
    exact ⟨a, by simpa using ha⟩⟩
end Go.Proofs.YtiaknomadhgckaaDoor.Mem
namespace Go.Proofs.YtiaknomadhgckaaDoor
open Mem
theorem opens_byte : Opens Tryd.prog Ty.byte 5 := Opens.byte Tryd.underlying5 (by kernel_rfl)
end Go.Proofs.YtiaknomadhgckaaDoor

namespace Go.Proofs.YtiaknomadhgckaaDoor
open Go.RowKit Mem
set_option linter.unusedVariables false
abbrev dBS : Ty Bytes := Ty.slice 5 Ty.byte
def szBS (xs : Bytes) : Nat := xs.length
def cntBS (xs : Bytes) : Nat := xs.length
def mkBS1 (k : Nat) (xs : Bytes) : Bytes := mkB k xs.length
theorem cntBS_mk (k : Nat) (x : Bytes) : cntBS (mkBS1 k x) = cntBS x := mkB_len _ _
theorem mkBS1_idem (k k' : Nat) (x : Bytes) : mkBS1 k' (mkBS1 k x) = mkBS1 k' x := by unfold mkBS1; rw [mkB_len]
theorem szByteS_v {w : World} {v : Value} {x : Bytes} (h : RdV false dBS w v x) (left : Int) (h0 : 0 ≤ left) (h1 : left ≤ 1048576) :
    Calls Tryd.prog 34 #[v, .int .i64 left] w (fun e w' => e = .returned (.int .i64 (if left < szBS x then -1 else left - szBS x)) ∧ w' = w) := by
  obtain ⟨A, c, rfl, hc, hr⟩ := h.slice
  exact szByteS_calls left h0 h1 hr.2.1
theorem toByteS_v {w : World} {v : Value} {x : Bytes} (h : RdV false dBS w v x) (hs : szBS x ≤ 1048576) : Calls Tryd.prog 41 #[v] w (RetV false dBS w x) := by
  obtain ⟨A, c, rfl, hc, hr⟩ := h.slice
  exact (toByteS_calls hr (fun _ h => h) (by unfold szBS at hs; omega)).mono fun _ _ h => h.toV
theorem eqByteS_v {w : World} {v v' : Value} {x x' : Bytes} (h : RdV false dBS w v x) (h' : RdV false dBS w v' x') : Calls Tryd.prog 47 #[v, v'] w (Ret (.bool (decide (x = x'))) w) := by
  obtain ⟨A, c, rfl, hc, hr⟩ := h.slice
  obtain ⟨A', c', rfl, hc', hr'⟩ := h'.slice
  exact eqByteS_calls hr hr' (fun _ h => h)
theorem markByteS_f {w : World} {F : List Nat} {v : Value} {x : Bytes} (h : OwF false dBS w F v x) (k : Nat) (hk : k + cntBS x ≤ 1152921504606846976) :
    Calls Tryd.prog 48 #[v, .int .i64 k] w (Marks false dBS w F v (k + cntBS x) (mkBS1 k x)) := by
  obtain ⟨A, c, rfl, ho⟩ := h.slice
  refine (markByteS_calls ho k hk).mono ?_
  rintro e w' ⟨rfl, F', ho', hF', hm⟩
  rw [mkB_len] at ho'
  exact ⟨rfl, ⟨F', OwF.of_slice ho', hF'⟩, hm⟩
theorem heldByteS_v {w : World} {v : Value} {x : Bytes} (h : RdV false dBS w v x) (k : Nat) (hx : x = mkBS1 k x) (hk : k + cntBS x ≤ 1152921504606846976) : Calls Tryd.prog 51 #[v, .int .i64 k] w (Ret (.int .i64 ((k + cntBS x : Nat) : Int)) w) := by
  obtain ⟨A, c, rfl, hc, hr⟩ := h.slice
  exact heldByteS_calls hr k hx hk
end Go.Proofs.YtiaknomadhgckaaDoor

namespace Go.Proofs.YtiaknomadhgckaaDoor
open Go.RowKit Mem
set_option linter.unusedVariables false
theorem markByteS_i {w : World} {F : List Nat} {v : Value} {x : Bytes} (h : OwF false dBS w F v x) (q : Int) (k : Nat) (hq : q = (k : Int)) (hk : k + cntBS x ≤ 1152921504606846976) :
    Calls Tryd.prog 48 #[v, .int .i64 q] w (Marks false dBS w F v (k + cntBS x) (mkBS1 k x)) := by subst hq; exact markByteS_f h k hk
theorem heldByteS_i {w : World} {v : Value} {x : Bytes} (h : RdV false dBS w v x) (q : Int) (k : Nat) (hq : q = (k : Int)) (hx : x = mkBS1 k x) (hk : k + cntBS x ≤ 1152921504606846976) :
    Calls Tryd.prog 51 #[v, .int .i64 q] w (Ret (.int .i64 ((k + cntBS x : Nat) : Int)) w) := by subst hq; exact heldByteS_v h k hx hk
end Go.Proofs.YtiaknomadhgckaaDoor

namespace Go.Proofs.YtiaknomadhgckaaDoor
open Go.RowKit Mem
set_option linter.unusedVariables false
set_option linter.unusedSimpArgs false
abbrev CmdT := Int × (Bytes × (Int × (Bool × (PairST × (Int × (Int × (Int × Bytes)))))))
abbrev dCmd : Ty CmdT := Ty.pair (Ty.int .i64) (Ty.pair Ty.str (Ty.pair (Ty.int .u32) (Ty.pair Ty.bool (Ty.pair dPairS (Ty.pair (Ty.int .i64) (Ty.pair (Ty.int .i64) (Ty.pair (Ty.int .u32) dBS)))))))
set_option synthInstance.maxSize 2000
theorem rdCmd {w : World} {v : Value} {x : CmdT} (h : RdV true dCmd w v x) : ∃ v4 v8, v = .agg #[.int .i64 x.1, .string ⟨(x.2.1).toArray⟩, .int .u32 x.2.2.1, .bool x.2.2.2.1, v4, .int .i64 x.2.2.2.2.2.1, .int .i64 x.2.2.2.2.2.2.1, .int .u32 x.2.2.2.2.2.2.2.1, v8] ∧ RdV false dPairS w v4 x.2.2.2.2.1 ∧ RdV false dBS w v8 x.2.2.2.2.2.2.2.2 := by
  obtain ⟨cs, rfl, c0, r0, rfl, h0, c1, r1, rfl, h1, c2, r2, rfl, h2, c3, r3, rfl, h3, c4, r4, rfl, h4, c5, r5, rfl, h5, c6, r6, rfl, h6, c7, c8, rfl, h7, h8⟩ := h
  obtain ⟨rfl, g0⟩ := h0
  obtain ⟨rfl, g1⟩ := h1
  obtain ⟨rfl, g2⟩ := h2
  obtain rfl := h3
  obtain ⟨A4, cp4, rfl, g4⟩ := h4
  obtain ⟨rfl, g5⟩ := h5
  obtain ⟨rfl, g6⟩ := h6
  obtain ⟨rfl, g7⟩ := h7
  obtain ⟨A8, cp8, rfl, g8⟩ := h8
  exact ⟨_, _, rfl, ⟨_, rfl, A4, cp4, rfl, g4⟩, ⟨_, rfl, A8, cp8, rfl, g8⟩⟩
theorem cellsCmd {w : World} {v : Value} {x : CmdT} (h : RdV true dCmd w v x) : ∃ A4 q4 A8 q8, v = .agg #[.int .i64 x.1, .string ⟨(x.2.1).toArray⟩, .int .u32 x.2.2.1, .bool x.2.2.2.1, .slice A4 x.2.2.2.2.1.length q4, .int .i64 x.2.2.2.2.2.1, .int .i64 x.2.2.2.2.2.2.1, .int .u32 x.2.2.2.2.2.2.2.1, .slice A8 x.2.2.2.2.2.2.2.2.length q8] := by
  obtain ⟨v4, v8, rfl, k4, k8⟩ := rdCmd h
  obtain ⟨A4, q4, rfl, _⟩ := k4.slice
  obtain ⟨A8, q8, rfl, _⟩ := k8.slice
  exact ⟨A4, q4, A8, q8, rfl⟩
theorem fldCmd3 : Fld dCmd 3 Ty.bool (fun x => x.2.2.2.1) (fun x y => (x.1, x.2.1, x.2.2.1, y, x.2.2.2.2)) := (Fld.snd (Fld.snd (Fld.snd (Fld.fst (Fld.one rfl)) rfl) rfl) rfl)
theorem fldCmd4 : Fld dCmd 4 dPairS (fun x => x.2.2.2.2.1) (fun x y => (x.1, x.2.1, x.2.2.1, x.2.2.2.1, y, x.2.2.2.2.2)) := (Fld.snd (Fld.snd (Fld.snd (Fld.snd (Fld.fst (Fld.one rfl)) rfl) rfl) rfl) rfl)
theorem fldCmd8 : Fld dCmd 8 dBS (fun x => x.2.2.2.2.2.2.2.2) (fun x y => (x.1, x.2.1, x.2.2.1, x.2.2.2.1, x.2.2.2.2.1, x.2.2.2.2.2.1, x.2.2.2.2.2.2.1, x.2.2.2.2.2.2.2.1, y)) := (Fld.snd (Fld.snd (Fld.snd (Fld.snd (Fld.snd (Fld.snd (Fld.snd (Fld.snd (Fld.one rfl) rfl) rfl) rfl) rfl) rfl) rfl) rfl) rfl)
theorem mCmd {w : World} {x : CmdT} {F4 F8 : List Nat} {v4 v8 : Value} (g0 : IntKind.i64.wrap x.1 = x.1) (g1 : x.2.1.length ≤ 9223372036854775807) (g2 : IntKind.u32.wrap x.2.2.1 = x.2.2.1) (g5 : IntKind.i64.wrap x.2.2.2.2.2.1 = x.2.2.2.2.2.1) (g6 : IntKind.i64.wrap x.2.2.2.2.2.2.1 = x.2.2.2.2.2.2.1) (g7 : IntKind.u32.wrap x.2.2.2.2.2.2.2.1 = x.2.2.2.2.2.2.2.1) (o4 : Own dPair 119 w F4 v4 x.2.2.2.2.1) (o8 : Own Ty.byte 5 w F8 v8 x.2.2.2.2.2.2.2.2) (hd : ∀ k, k ∈ F4 → k ∉ F8) : dCmd.M w (F4 ++ (F8)) x [.int .i64 x.1, .string ⟨(x.2.1).toArray⟩, .int .u32 x.2.2.1, .bool x.2.2.2.1, v4, .int .i64 x.2.2.2.2.2.1, .int .i64 x.2.2.2.2.2.2.1, .int .u32 x.2.2.2.2.2.2.2.1, v8] := by
  have n5 : (F8).Nodup := by simpa using o8.nd
  have n0' : (F4 ++ (F8)).Nodup := List.nodup_append.2 ⟨o4.nd, n5, fun p hp q hq e => by subst e; exact hd p hp (by simpa using hq)⟩
  have n1 : (F4 ++ (F8)).Nodup := n0'
  have n2 : (F4 ++ (F8)).Nodup := n0'
  have n3 : (F4 ++ (F8)).Nodup := n0'
  have n4 : (F4 ++ (F8)).Nodup := n0'
  exact ⟨_, _, [], _, rfl, rfl, n1, ⟨rfl, rfl, g0⟩, ⟨_, _, [], _, rfl, rfl, n2, ⟨rfl, rfl, g1⟩, ⟨_, _, [], _, rfl, rfl, n3, ⟨rfl, rfl, g2⟩, ⟨_, _, [], _, rfl, rfl, n4, ⟨rfl, rfl⟩, ⟨_, _, F4, _, rfl, rfl, (List.nodup_append.2 ⟨o4.nd, n5, fun p hp q hq e => by subst e; exact hd p hp (by simpa using hq)⟩), ⟨_, rfl, o4⟩, ⟨_, _, [], _, rfl, rfl, (by simpa using o8.nd), ⟨rfl, rfl, g5⟩, ⟨_, _, [], _, rfl, rfl, (by simpa using o8.nd), ⟨rfl, rfl, g6⟩, ⟨_, _, [], _, rfl, rfl, (by simpa using o8.nd), ⟨rfl, rfl, g7⟩, ⟨_, rfl, o8⟩⟩⟩⟩⟩⟩⟩⟩⟩
set_option maxHeartbeats 1000000 in
set_option maxRecDepth 100000 in
theorem eqCmd_v {w : World} {v v' : Value} {x x' : CmdT} (h : RdV true dCmd w v x) (h' : RdV true dCmd w v' x') : Calls Tryd.prog 14 #[v, v'] w (Ret (.bool (decide (x = x'))) w) := by
  obtain ⟨v4, v8, rfl, k4, k8⟩ := rdCmd h
  obtain ⟨u4, u8, rfl, k4', k8'⟩ := rdCmd h'
  obtain ⟨a0, a1, a2, a3, a4, a5, a6, a7, a8⟩ := x
  obtain ⟨b0, b1, b2, b3, b4, b5, b6, b7, b8⟩ := x'
  simp only at k4 k4' k8 k8' ⊢
  have HB0 := Sec.mk ((Blk.new w 38 [.int .i64 a0, .string ⟨(a1).toArray⟩, .int .u32 a2, .bool a3, v4, .int .i64 a5, .int .i64 a6, .int .u32 a7, v8]).alloc (.cells #[.int .i64 b0, .string ⟨(b1).toArray⟩, .int .u32 b2, .bool b3, u4, .int .i64 b5, .int .i64 b6, .int .u32 b7, u8] 38))
  have HB1 := Sec.mk (Blk.new (w.alloc (.cells #[.int .i64 a0, .string ⟨(a1).toArray⟩, .int .u32 a2, .bool a3, v4, .int .i64 a5, .int .i64 a6, .int .u32 a7, v8] 38)) 38 [.int .i64 b0, .string ⟨(b1).toArray⟩, .int .u32 b2, .bool b3, u4, .int .i64 b5, .int .i64 b6, .int .u32 b7, u8])
  rw [show (w.alloc (.cells #[.int .i64 a0, .string ⟨(a1).toArray⟩, .int .u32 a2, .bool a3, v4, .int .i64 a5, .int .i64 a6, .int .u32 a7, v8] 38)).heap.size = w.heap.size + 1 by simp] at HB1
  have HM0 := Sec.mk (((Mod.refl (fun _ => False) w).alloc (.cells #[.int .i64 a0, .string ⟨(a1).toArray⟩, .int .u32 a2, .bool a3, v4, .int .i64 a5, .int .i64 a6, .int .u32 a7, v8] 38)).alloc (.cells #[.int .i64 b0, .string ⟨(b1).toArray⟩, .int .u32 b2, .bool b3, u4, .int .i64 b5, .int .i64 b6, .int .u32 b7, u8] 38))
  have H4 := Sec.mk (k4.step HM0.out)
  have H4' := Sec.mk (k4'.step HM0.out)
  have H8 := Sec.mk (k8.step HM0.out)
  have H8' := Sec.mk (k8'.step HM0.out)
  clear h h' k4 k4' k8 k8'
  by_cases e0 : a0 = b0
  rotate_left
  · have HE : Sec (decide ((a0, a1, a2, a3, a4, a5, a6, a7, a8) = (b0, b1, b2, b3, b4, b5, b6, b7, b8)) = false) := ⟨by simp [e0]⟩
    have hb0 : (a0 != b0) = true := by simpa using e0
    clear e0
    go_enter Tryd.func14, Tryd.ntmps14
    go_wp2
    go_ret
    exact ⟨by rw [HE.out]; rfl, HM0.out⟩
  have hb0 : (a0 != b0) = false := by simp [e0]
  have S0 := Sec.mk e0
  clear e0
  by_cases e1 : a1 = b1
  rotate_left
  · have HE : Sec (decide ((a0, a1, a2, a3, a4, a5, a6, a7, a8) = (b0, b1, b2, b3, b4, b5, b6, b7, b8)) = false) := ⟨by simp [e1]⟩
    have hb1 : (a1 == b1) = false := by simpa using e1
    clear e1
    go_enter Tryd.func14, Tryd.ntmps14
    go_wp2
    go_ret
    exact ⟨by rw [HE.out]; rfl, HM0.out⟩
  have hb1 : (a1 == b1) = true := by simp [e1]
  have S1 := Sec.mk e1
  clear e1
  by_cases e2 : a2 = b2
  rotate_left
  · have HE : Sec (decide ((a0, a1, a2, a3, a4, a5, a6, a7, a8) = (b0, b1, b2, b3, b4, b5, b6, b7, b8)) = false) := ⟨by simp [e2]⟩
    have hb2 : (a2 != b2) = true := by simpa using e2
    clear e2
    go_enter Tryd.func14, Tryd.ntmps14
    go_wp2
    go_ret
    exact ⟨by rw [HE.out]; rfl, HM0.out⟩
  have hb2 : (a2 != b2) = false := by simp [e2]
  have S2 := Sec.mk e2
  clear e2
  by_cases e3 : a3 = b3
  rotate_left
  · have HE : Sec (decide ((a0, a1, a2, a3, a4, a5, a6, a7, a8) = (b0, b1, b2, b3, b4, b5, b6, b7, b8)) = false) := ⟨by simp [e3]⟩
    have hb3 : (a3 == b3) = false := by simpa using e3
    clear e3
    go_enter Tryd.func14, Tryd.ntmps14
    go_wp2
    go_ret
    exact ⟨by rw [HE.out]; rfl, HM0.out⟩
  have hb3 : (a3 == b3) = true := by simp [e3]
  have S3 := Sec.mk e3
  clear e3
  by_cases e4 : a4 = b4
  rotate_left
  · have HE : Sec (decide ((a0, a1, a2, a3, a4, a5, a6, a7, a8) = (b0, b1, b2, b3, b4, b5, b6, b7, b8)) = false) := ⟨by simp [e4]⟩
    have E4 : Sec (decide (a4 = b4) = false) := ⟨by simp [e4]⟩
    clear e4
    go_enter Tryd.func14, Tryd.ntmps14
    go_wp2_with fail
    refine (eqPairS_v (H4.out) (H4'.out)).mono ?_
    rw [E4.out]
    rintro e w4 ⟨rfl, hm4⟩
    have m4 := Sec.mk hm4
    clear hm4
    go_wp2
    go_ret
    exact ⟨by rw [HE.out]; rfl, HM0.out.transN m4.out⟩
  have E4 : Sec (decide (a4 = b4) = true) := ⟨by simp [e4]⟩
  have S4 := Sec.mk e4
  clear e4
  by_cases e5 : a5 = b5
  rotate_left
  · have HE : Sec (decide ((a0, a1, a2, a3, a4, a5, a6, a7, a8) = (b0, b1, b2, b3, b4, b5, b6, b7, b8)) = false) := ⟨by simp [e5]⟩
    have hb5 : (a5 != b5) = true := by simpa using e5
    clear e5
    go_enter Tryd.func14, Tryd.ntmps14
    go_wp2_with fail
    refine (eqPairS_v (H4.out) (H4'.out)).mono ?_
    rw [E4.out]
    rintro e w4 ⟨rfl, hm4⟩
    have m4 := Sec.mk hm4
    have p4_5 : w4.cell? ⟨w.heap.size, 5, none⟩ = some (.int .i64 a5) := (HB0.out.mod m4.out id).cell 5
    have q4_5 : w4.cell? ⟨w.heap.size + 1, 5, none⟩ = some (.int .i64 b5) := (HB1.out.mod m4.out id).cell 5
    clear hm4
    go_wp2
    go_ret
    exact ⟨by rw [HE.out]; rfl, HM0.out.transN m4.out⟩
  have hb5 : (a5 != b5) = false := by simp [e5]
  have S5 := Sec.mk e5
  clear e5
  by_cases e6 : a6 = b6
  rotate_left
  · have HE : Sec (decide ((a0, a1, a2, a3, a4, a5, a6, a7, a8) = (b0, b1, b2, b3, b4, b5, b6, b7, b8)) = false) := ⟨by simp [e6]⟩
    have hb6 : (a6 != b6) = true := by simpa using e6
    clear e6
    go_enter Tryd.func14, Tryd.ntmps14
    go_wp2_with fail
    refine (eqPairS_v (H4.out) (H4'.out)).mono ?_
    rw [E4.out]
    rintro e w4 ⟨rfl, hm4⟩
    have m4 := Sec.mk hm4
    have p4_5 : w4.cell? ⟨w.heap.size, 5, none⟩ = some (.int .i64 a5) := (HB0.out.mod m4.out id).cell 5
    have q4_5 : w4.cell? ⟨w.heap.size + 1, 5, none⟩ = some (.int .i64 b5) := (HB1.out.mod m4.out id).cell 5
    have p4_6 : w4.cell? ⟨w.heap.size, 6, none⟩ = some (.int .i64 a6) := (HB0.out.mod m4.out id).cell 6
    have q4_6 : w4.cell? ⟨w.heap.size + 1, 6, none⟩ = some (.int .i64 b6) := (HB1.out.mod m4.out id).cell 6
    clear hm4
    go_wp2
    go_ret
    exact ⟨by rw [HE.out]; rfl, HM0.out.transN m4.out⟩
  have hb6 : (a6 != b6) = false := by simp [e6]
  have S6 := Sec.mk e6
  clear e6
  by_cases e7 : a7 = b7
  rotate_left
  · have HE : Sec (decide ((a0, a1, a2, a3, a4, a5, a6, a7, a8) = (b0, b1, b2, b3, b4, b5, b6, b7, b8)) = false) := ⟨by simp [e7]⟩
    have hb7 : (a7 != b7) = true := by simpa using e7
    clear e7
    go_enter Tryd.func14, Tryd.ntmps14
    go_wp2_with fail
    refine (eqPairS_v (H4.out) (H4'.out)).mono ?_
    rw [E4.out]
    rintro e w4 ⟨rfl, hm4⟩
    have m4 := Sec.mk hm4
    have p4_5 : w4.cell? ⟨w.heap.size, 5, none⟩ = some (.int .i64 a5) := (HB0.out.mod m4.out id).cell 5
    have q4_5 : w4.cell? ⟨w.heap.size + 1, 5, none⟩ = some (.int .i64 b5) := (HB1.out.mod m4.out id).cell 5
    have p4_6 : w4.cell? ⟨w.heap.size, 6, none⟩ = some (.int .i64 a6) := (HB0.out.mod m4.out id).cell 6
    have q4_6 : w4.cell? ⟨w.heap.size + 1, 6, none⟩ = some (.int .i64 b6) := (HB1.out.mod m4.out id).cell 6
    have p4_7 : w4.cell? ⟨w.heap.size, 7, none⟩ = some (.int .u32 a7) := (HB0.out.mod m4.out id).cell 7
    have q4_7 : w4.cell? ⟨w.heap.size + 1, 7, none⟩ = some (.int .u32 b7) := (HB1.out.mod m4.out id).cell 7
    clear hm4
    go_wp2
    go_ret
    exact ⟨by rw [HE.out]; rfl, HM0.out.transN m4.out⟩
  have hb7 : (a7 != b7) = false := by simp [e7]
  have S7 := Sec.mk e7
  clear e7
  by_cases e8 : a8 = b8
  rotate_left
  · have HE : Sec (decide ((a0, a1, a2, a3, a4, a5, a6, a7, a8) = (b0, b1, b2, b3, b4, b5, b6, b7, b8)) = false) := ⟨by simp [e8]⟩
    have E8 : Sec (decide (a8 = b8) = false) := ⟨by simp [e8]⟩
    clear e8
    go_enter Tryd.func14, Tryd.ntmps14
    go_wp2_with fail
    refine (eqPairS_v (H4.out) (H4'.out)).mono ?_
    rw [E4.out]
    rintro e w4 ⟨rfl, hm4⟩
    have m4 := Sec.mk hm4
    have p4_5 : w4.cell? ⟨w.heap.size, 5, none⟩ = some (.int .i64 a5) := (HB0.out.mod m4.out id).cell 5
    have q4_5 : w4.cell? ⟨w.heap.size + 1, 5, none⟩ = some (.int .i64 b5) := (HB1.out.mod m4.out id).cell 5
    have p4_6 : w4.cell? ⟨w.heap.size, 6, none⟩ = some (.int .i64 a6) := (HB0.out.mod m4.out id).cell 6
    have q4_6 : w4.cell? ⟨w.heap.size + 1, 6, none⟩ = some (.int .i64 b6) := (HB1.out.mod m4.out id).cell 6
    have p4_7 : w4.cell? ⟨w.heap.size, 7, none⟩ = some (.int .u32 a7) := (HB0.out.mod m4.out id).cell 7
    have q4_7 : w4.cell? ⟨w.heap.size + 1, 7, none⟩ = some (.int .u32 b7) := (HB1.out.mod m4.out id).cell 7
    have p4_8 : w4.cell? ⟨w.heap.size, 8, none⟩ = some (v8) := (HB0.out.mod m4.out id).cell 8
    have q4_8 : w4.cell? ⟨w.heap.size + 1, 8, none⟩ = some (u8) := (HB1.out.mod m4.out id).cell 8
    clear hm4
    go_wp2_with fail
    refine (eqByteS_v (H8.out.step m4.out) (H8'.out.step m4.out)).mono ?_
    rw [E8.out]
    rintro e w8 ⟨rfl, hm8⟩
    have m8 := Sec.mk (m4.out.transN hm8)
    clear hm8
    go_wp2
    go_ret
    exact ⟨by rw [HE.out]; rfl, HM0.out.transN m8.out⟩
  have E8 : Sec (decide (a8 = b8) = true) := ⟨by simp [e8]⟩
  have S8 := Sec.mk e8
  clear e8
  have HE : Sec (decide ((a0, a1, a2, a3, a4, a5, a6, a7, a8) = (b0, b1, b2, b3, b4, b5, b6, b7, b8)) = true) := ⟨by simp [S0.out, S1.out, S2.out, S3.out, S4.out, S5.out, S6.out, S7.out, S8.out]⟩
  go_enter Tryd.func14, Tryd.ntmps14
  go_wp2_with fail
  refine (eqPairS_v (H4.out) (H4'.out)).mono ?_
  rw [E4.out]
  rintro e w4 ⟨rfl, hm4⟩
  have m4 := Sec.mk hm4
  have p4_5 : w4.cell? ⟨w.heap.size, 5, none⟩ = some (.int .i64 a5) := (HB0.out.mod m4.out id).cell 5
  have q4_5 : w4.cell? ⟨w.heap.size + 1, 5, none⟩ = some (.int .i64 b5) := (HB1.out.mod m4.out id).cell 5
  have p4_6 : w4.cell? ⟨w.heap.size, 6, none⟩ = some (.int .i64 a6) := (HB0.out.mod m4.out id).cell 6
  have q4_6 : w4.cell? ⟨w.heap.size + 1, 6, none⟩ = some (.int .i64 b6) := (HB1.out.mod m4.out id).cell 6
  have p4_7 : w4.cell? ⟨w.heap.size, 7, none⟩ = some (.int .u32 a7) := (HB0.out.mod m4.out id).cell 7
  have q4_7 : w4.cell? ⟨w.heap.size + 1, 7, none⟩ = some (.int .u32 b7) := (HB1.out.mod m4.out id).cell 7
  have p4_8 : w4.cell? ⟨w.heap.size, 8, none⟩ = some (v8) := (HB0.out.mod m4.out id).cell 8
  have q4_8 : w4.cell? ⟨w.heap.size + 1, 8, none⟩ = some (u8) := (HB1.out.mod m4.out id).cell 8
  clear hm4
  go_wp2_with fail
  refine (eqByteS_v (H8.out.step m4.out) (H8'.out.step m4.out)).mono ?_
  rw [E8.out]
  rintro e w8 ⟨rfl, hm8⟩
  have m8 := Sec.mk (m4.out.transN hm8)
  clear hm8
  go_wp2
  go_ret
  exact ⟨by rw [HE.out]; rfl, HM0.out.transN m8.out⟩
def mkCmd1 (k : Nat) (x : CmdT) : CmdT := (x.1, x.2.1, x.2.2.1, x.2.2.2.1, mkPairS1 k x.2.2.2.2.1, x.2.2.2.2.2.1, x.2.2.2.2.2.2.1, x.2.2.2.2.2.2.2.1, mkBS1 (k + cntPairS x.2.2.2.2.1) x.2.2.2.2.2.2.2.2)
def cntCmd (x : CmdT) : Nat := cntPairS x.2.2.2.2.1 + cntBS x.2.2.2.2.2.2.2.2
theorem cntCmd_mk (k : Nat) (x : CmdT) : cntCmd (mkCmd1 k x) = cntCmd x := by simp only [cntCmd, mkCmd1, cntBS_mk, cntPairS_mk]
theorem mkCmd1_idem (k k' : Nat) (x : CmdT) : mkCmd1 k' (mkCmd1 k x) = mkCmd1 k' x := by simp only [mkCmd1, cntBS_mk, cntPairS_mk, mkBS1_idem, mkPairS1_idem]
set_option maxHeartbeats 1000000 in
set_option maxRecDepth 100000 in
theorem markCmd_f {w : World} {F : List Nat} {v : Value} {x : CmdT} (h : OwF true dCmd w F v x) (k : Nat) (hk : k + cntCmd x ≤ 1152921504606846976) :
    Calls Tryd.prog 17 #[v, .int .i64 k] w (Marks true dCmd w F v (k + cntCmd x) (mkCmd1 k x)) := by
  obtain ⟨v4, v8, rfl, -, -⟩ := rdCmd h.rd
  have HLT := Sec.mk h.lt
  have HB := Sec.mk (Blk.new w 38 [.int .i64 x.1, .string ⟨(x.2.1).toArray⟩, .int .u32 x.2.2.1, .bool x.2.2.2.1, v4, .int .i64 x.2.2.2.2.2.1, .int .i64 x.2.2.2.2.2.2.1, .int .u32 x.2.2.2.2.2.2.2.1, v8])
  have HX := Sec.mk (h.mv (w' := w.alloc (.cells #[.int .i64 x.1, .string ⟨(x.2.1).toArray⟩, .int .u32 x.2.2.1, .bool x.2.2.2.1, v4, .int .i64 x.2.2.2.2.2.1, .int .i64 x.2.2.2.2.2.2.1, .int .u32 x.2.2.2.2.2.2.2.1, v8] 38)) fun i hi => Below.heap_alloc _ _ _ (h.lt i hi))
  have HM : Sec (Mod (· ∈ F) w (w.alloc (.cells #[.int .i64 x.1, .string ⟨(x.2.1).toArray⟩, .int .u32 x.2.2.1, .bool x.2.2.2.1, v4, .int .i64 x.2.2.2.2.2.1, .int .i64 x.2.2.2.2.2.2.1, .int .u32 x.2.2.2.2.2.2.2.1, v8] 38))) := ⟨(Mod.refl _ _).alloc _⟩
  have HF : Sec (∀ i, i ∈ F → i ∈ F) := ⟨fun _ h => h⟩
  have HCN : Sec (cntCmd x = cntPairS x.2.2.2.2.1 + cntBS x.2.2.2.2.2.2.2.2) := ⟨rfl⟩
  have hcn := HCN.out
  clear h
  go_enter Tryd.func17, Tryd.ntmps17
  obtain ⟨G4, ho4, hG4, hst4⟩ := fldCmd4.lead1 (vi := v4) rfl HX.out
  have HV4 := Sec.mk ho4
  have HG4 := Sec.mk hG4
  have HT4 := Sec.mk hst4
  clear ho4 hG4 hst4
  go_wp2_with fail
  refine Calls.mono (markPairS_i HV4.out _ k ?_ ?_) ?_
  · first | rfl | omega
  · (try dsimp only at hcn ⊢); omega
  rintro e w4 ⟨rfl, ⟨F4, ho4, hF4⟩, hm4⟩
  obtain ⟨G4', ho, hG4'⟩ := HT4.out w4 _ F4 hm4 ho4 hF4
  have HX4 := Sec.mk ho
  have HF4 := Sec.mk (fun i hi => HF.out i (hG4' i hi))
  have HM4 : Sec (Mod (· ∈ F) w w4) := ⟨HM.out.trans hm4 fun i hi _ => HF.out i (HG4.out i hi)⟩
  have HB4 := Sec.mk (HB.out.mod hm4 (fun h => absurd (HLT.out _ (HF.out _ (HG4.out _ h))) (Nat.lt_irrefl _)))
  have p4_8 : w4.cell? ⟨w.heap.size, 8, none⟩ = some v8 := HB4.out.cell 8
  clear ho4 hF4 hm4 ho hG4' HT4 HV4 HG4
  obtain ⟨s4, hs4⟩ : ∃ t, t = k + cntPairS x.2.2.2.2.1 := ⟨_, rfl⟩
  try dsimp only at HX4
  rw [← hs4]
  have HS4 := Sec.mk hs4
  clear hs4
  obtain ⟨G8, ho8, hG8, hst8⟩ := fldCmd8.lead1 (vi := v8) rfl HX4.out
  have HV8 := Sec.mk ho8
  have HG8 := Sec.mk hG8
  have HT8 := Sec.mk hst8
  clear ho8 hG8 hst8
  go_wp2_with fail
  refine Calls.mono (markByteS_i HV8.out _ s4 ?_ ?_) ?_
  · first | rfl | omega
  · have := HS4.out; (try dsimp only at hcn ⊢); omega
  rintro e w8 ⟨rfl, ⟨F8, ho8, hF8⟩, hm8⟩
  obtain ⟨G8', ho, hG8'⟩ := HT8.out w8 _ F8 hm8 ho8 hF8
  have HX8 := Sec.mk ho
  have HF8 := Sec.mk (fun i hi => HF4.out i (hG8' i hi))
  have HM8 : Sec (Mod (· ∈ F) w w8) := ⟨HM4.out.trans hm8 fun i hi _ => HF4.out i (HG8.out i hi)⟩
  have HB8 := Sec.mk (HB4.out.mod hm8 (fun h => absurd (HLT.out _ (HF4.out _ (HG8.out _ h))) (Nat.lt_irrefl _)))
  clear ho8 hF8 hm8 ho hG8' HT8 HV8 HG8
  obtain ⟨s8, hs8⟩ : ∃ t, t = s4 + cntBS x.2.2.2.2.2.2.2.2 := ⟨_, rfl⟩
  try dsimp only at HX8
  rw [← hs8]
  have HS8 := Sec.mk hs8
  clear hs8
  have HFIN : Sec (s8 = k + cntCmd x) := ⟨by rw [HCN.out]; have := HS4.out; have := HS8.out; omega⟩
  have HEQ : Sec ((x.1, x.2.1, x.2.2.1, x.2.2.2.1, mkPairS1 k x.2.2.2.2.1, x.2.2.2.2.2.1, x.2.2.2.2.2.2.1, x.2.2.2.2.2.2.2.1, mkBS1 s4 x.2.2.2.2.2.2.2.2) = mkCmd1 k x) := ⟨by have h4 := HS4.out; subst h4; have h8 := HS8.out; subst h8; rfl⟩
  try rw [← HFIN.out]
  go_wp2
  go_ret
  exact ⟨by first | rfl | (rw [← HFIN.out]; rfl), ⟨G8', by first | exact HX8.out | (rw [← HEQ.out]; exact HX8.out), HF8.out⟩, HM8.out⟩
theorem markCmd_v {w : World} {lo hi : Nat} {v : Value} {x : CmdT} (h : OwV true dCmd w lo hi v x) (k : Nat) (hk : k + cntCmd x ≤ 1152921504606846976) :
    Calls Tryd.prog 17 #[v, .int .i64 k] w fun e w' => e = .returned (.int .i64 ((k + cntCmd x : Nat) : Int)) ∧ OwV true dCmd w' lo hi v (mkCmd1 k x) ∧ Mod (fun i => lo ≤ i ∧ i < hi) w w' :=
  h.mark fun F hF => markCmd_f hF k hk
set_option maxHeartbeats 1000000 in
set_option maxRecDepth 100000 in
theorem heldCmd_v {w : World} {v : Value} {x : CmdT} (h : RdV true dCmd w v x) (k : Nat) (hx : x = mkCmd1 k x) (hk : k + cntCmd x ≤ 1152921504606846976) :
    Calls Tryd.prog 18 #[v, .int .i64 k] w (Ret (.int .i64 ((k + cntCmd x : Nat) : Int)) w) := by
  obtain ⟨v4, v8, rfl, k4, k8⟩ := rdCmd h
  have HZ := Sec.mk hx
  have HB := Sec.mk (Blk.new w 38 [.int .i64 x.1, .string ⟨(x.2.1).toArray⟩, .int .u32 x.2.2.1, .bool x.2.2.2.1, v4, .int .i64 x.2.2.2.2.2.1, .int .i64 x.2.2.2.2.2.2.1, .int .u32 x.2.2.2.2.2.2.2.1, v8])
  have HM : Sec (New w (w.alloc (.cells #[.int .i64 x.1, .string ⟨(x.2.1).toArray⟩, .int .u32 x.2.2.1, .bool x.2.2.2.1, v4, .int .i64 x.2.2.2.2.2.1, .int .i64 x.2.2.2.2.2.2.1, .int .u32 x.2.2.2.2.2.2.2.1, v8] 38))) := ⟨(Mod.refl _ _).alloc _⟩
  have HK4 := Sec.mk k4
  have HK8 := Sec.mk k8
  have HCN : Sec (cntCmd x = cntPairS x.2.2.2.2.1 + cntBS x.2.2.2.2.2.2.2.2) := ⟨rfl⟩
  have hcn := HCN.out
  clear h hx k4 k8
  go_enter Tryd.func18, Tryd.ntmps18
  have HRD4 := Sec.mk (HK4.out.step HM.out)
  have z4 : x.2.2.2.2.1 = mkPairS1 k x.2.2.2.2.1 := by have h := congrArg (fun x : CmdT => x.2.2.2.2.1) HZ.out; (try simp only [mkCmd1] at h); exact h
  have HZ4 := Sec.mk z4
  clear z4
  go_wp2_with fail
  refine Calls.mono (heldPairS_i HRD4.out _ k ?_ HZ4.out ?_) ?_
  · first | rfl | omega
  · (try dsimp only at hcn ⊢); omega
  rintro e w4 ⟨rfl, hm4⟩
  have HM4 := Sec.mk (HM.out.transN hm4)
  have HB4 := Sec.mk (HB.out.mod hm4 id)
  have p4_8 : w4.cell? ⟨w.heap.size, 8, none⟩ = some v8 := HB4.out.cell 8
  clear hm4
  obtain ⟨s4, hs4⟩ : ∃ t, t = k + cntPairS x.2.2.2.2.1 := ⟨_, rfl⟩
  rw [← hs4]
  have HS4 := Sec.mk hs4
  clear hs4
  have HRD8 := Sec.mk (HK8.out.step HM4.out)
  have z8 : x.2.2.2.2.2.2.2.2 = mkBS1 s4 x.2.2.2.2.2.2.2.2 := by have h := congrArg (fun x : CmdT => x.2.2.2.2.2.2.2.2) HZ.out; have h4 := HS4.out; subst h4; (try simp only [mkCmd1] at h); exact h
  have HZ8 := Sec.mk z8
  clear z8
  go_wp2_with fail
  refine Calls.mono (heldByteS_i HRD8.out _ s4 ?_ HZ8.out ?_) ?_
  · first | rfl | omega
  · have := HS4.out; (try dsimp only at hcn ⊢); omega
  rintro e w8 ⟨rfl, hm8⟩
  have HM8 := Sec.mk (HM4.out.transN hm8)
  have HB8 := Sec.mk (HB4.out.mod hm8 id)
  clear hm8
  obtain ⟨s8, hs8⟩ : ∃ t, t = s4 + cntBS x.2.2.2.2.2.2.2.2 := ⟨_, rfl⟩
  rw [← hs8]
  have HS8 := Sec.mk hs8
  clear hs8
  have HFIN : Sec (s8 = k + cntCmd x) := ⟨by rw [HCN.out]; have := HS4.out; have := HS8.out; omega⟩
  try rw [← HFIN.out]
  go_wp2
  go_ret
  exact ⟨by first | rfl | (rw [← HFIN.out]; rfl), HM8.out⟩
end Go.Proofs.YtiaknomadhgckaaDoor
