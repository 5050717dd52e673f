/- The laws' helpers over bytes and over rows of bytes, by value. -/
import Derived.Test.YtciiejkfppnimaaVal
import Derived.Test.YtciiejkfppnimaaBss
import Derived.Test.YtciiejkfppnimaaOpen
namespace Go.Proofs.Ytciiejkfppnimaa
open Go.RowKit Mem
set_option linter.unusedVariables false
abbrev dBS : Ty Bytes := Ty.slice 5 Ty.byte
abbrev dBSS : Ty (List Bytes) := Ty.slice 22 tB

def szBS (xs : Bytes) : Nat := xs.length
def cntBS (xs : Bytes) : Nat := xs.length
def mkBS1 (k : Nat) (xs : Bytes) : Bytes := mkB k xs.length
theorem cntBS_lt {x : Bytes} (h : szBS x ≤ 1048576) : cntBS x ≤ 1048576 := h
theorem cntBS_mk (k : Nat) (x : Bytes) : cntBS (mkBS1 k x) = cntBS x := mkB_len _ _
theorem mkBS1_idem (k k' : Nat) (x : Bytes) : mkBS1 k' (mkBS1 k x) = mkBS1 k' x := by unfold mkBS1; rw [mkB_len]
theorem toByteS_v {w : World} {v : Value} {x : Bytes} (h : RdV false dBS w v x) (hs : szBS x ≤ 1048576) : Calls Try.prog 13 #[v] w (RetV false dBS w x) := by
  obtain ⟨A, c, rfl, hc, hr⟩ := h.slice
  exact (toByteS_calls hr (fun _ h => h) (by unfold szBS at hs; omega)).mono fun _ _ h => h.toV
theorem eqByteS_v {w : World} {v v' : Value} {x x' : Bytes} (h : RdV false dBS w v x) (h' : RdV false dBS w v' x') : Calls Try.prog 16 #[v, v'] w (Ret (.bool (decide (x = x'))) w) := by
  obtain ⟨A, c, rfl, hc, hr⟩ := h.slice
  obtain ⟨A', c', rfl, hc', hr'⟩ := h'.slice
  exact eqByteS_calls hr hr' (fun _ h => h)
theorem markByteS_f {w : World} {F : List Nat} {v : Value} {x : Bytes} (h : OwF false dBS w F v x) (k : Nat) (hk : k + cntBS x ≤ 1152921504606846976) :
    Calls Try.prog 17 #[v, .int .i64 k] w (Marks false dBS w F v (k + cntBS x) (mkBS1 k x)) := by
  obtain ⟨A, c, rfl, ho⟩ := h.slice
  refine (markByteS_calls ho k hk).mono ?_
  rintro e w' ⟨rfl, F', ho', hF', hm⟩
  rw [mkB_len] at ho'
  exact ⟨rfl, ⟨F', OwF.of_slice ho', hF'⟩, hm⟩
theorem markByteS_v {w : World} {lo hi : Nat} {v : Value} {x : Bytes} (h : OwV false dBS w lo hi v x) (k : Nat) (hk : k + cntBS x ≤ 1152921504606846976) :
    Calls Try.prog 17 #[v, .int .i64 k] w fun e w' => e = .returned (.int .i64 ((k + cntBS x : Nat) : Int)) ∧ OwV false dBS w' lo hi v (mkBS1 k x) ∧ Mod (fun i => lo ≤ i ∧ i < hi) w w' :=
  h.mark fun F hF => markByteS_f hF k hk
theorem heldByteS_v {w : World} {v : Value} {x : Bytes} (h : RdV false dBS w v x) (k : Nat) (hx : x = mkBS1 k x) (hk : k + cntBS x ≤ 1152921504606846976) : Calls Try.prog 38 #[v, .int .i64 k] w (Ret (.int .i64 ((k + cntBS x : Nat) : Int)) w) := by
  obtain ⟨A, c, rfl, hc, hr⟩ := h.slice
  exact heldByteS_calls hr k hx hk

def szBSS (xs : List Bytes) : Nat := szB xs
def cntBSS (xs : List Bytes) : Nat := preS List.length xs xs.length
def mkBSS1 (k : Nat) (xs : List Bytes) : List Bytes := mkBS k xs
theorem cntBSS_mk (k : Nat) (x : List Bytes) : cntBSS (mkBSS1 k x) = cntBSS x := by unfold cntBSS mkBSS1; rw [mkBS_pre, mkBS_len]
theorem mkBSS1_idem (k k' : Nat) (x : List Bytes) : mkBSS1 k' (mkBSS1 k x) = mkBSS1 k' x := mkBS_idem _ _ _
theorem szBSS_cnt (x : List Bytes) : cntBSS x ≤ szBSS x := by unfold cntBSS szBSS szB; omega
theorem cntBSS_lt {x : List Bytes} (h : szBSS x ≤ 1048576) : cntBSS x ≤ 1048576 := Nat.le_trans (szBSS_cnt x) h
theorem szBSS_mem {x : List Bytes} {b : Bytes} (h : b ∈ x) : b.length ≤ szBSS x := by
  obtain ⟨j, hj, rfl⟩ := List.getElem_of_mem h
  have h1 := preS_succ List.length x hj
  have h2 := preS_le List.length x (j + 1)
  unfold szBSS szB; omega
theorem opens_bss : Opens Try.prog dBSS 23 := Opens.slice Try.underlying23 (by kernel_rfl) opens_bytes
end Go.Proofs.Ytciiejkfppnimaa
