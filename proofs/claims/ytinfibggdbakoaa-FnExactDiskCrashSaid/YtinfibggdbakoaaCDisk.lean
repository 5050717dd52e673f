/- How many marks a disk holds; loads of whole disks. -/
import Derived.Test.YtinfibggdbakoaaTDisk
import Derived.Test.YtinfibggdbakoaaSContent
namespace Go.Proofs.Ytinfibggdbakoaa
open Go.RowKit Mem
set_option linter.unusedVariables false
set_option synthInstance.maxSize 2000
theorem preS_bound {α : Type} (f : α → Nat) (g : α → Nat) (m : Nat) (h : ∀ x, f x ≤ m + m * g x) (xs : List α) : ∀ n, preS f xs n ≤ m * n + m * preS g xs n := by
  intro n
  induction n with
  | zero => simp [preS_zero]
  | succ n ih =>
    by_cases hn : n < xs.length
    · rw [preS_succ _ _ hn, preS_succ _ _ hn]
      have := h xs[n]
      rw [Nat.mul_add, Nat.mul_add]
      omega
    · have e1 : ∀ (f : α → Nat), preS f xs (n + 1) = preS f xs n := fun f => by unfold preS; rw [List.take_of_length_le (by omega), List.take_of_length_le (by omega)]
      rw [e1, e1, Nat.mul_add]
      omega
theorem cntNodeS_sz (xs : NodeST) : cntNodeS xs ≤ szNodeS xs := by
  have := preS_bound cntNode szNode 1 (fun x => by unfold cntNode szNode cntBS szBS; omega) xs xs.length
  unfold cntNodeS szNodeS
  omega
theorem cntEntryS_sz (xs : EntryST) : cntEntryS xs ≤ 2 * szEntryS xs := by
  have := preS_bound cntEntry szEntry 2 (fun x => by unfold cntEntry; omega) xs xs.length
  unfold cntEntryS szEntryS
  omega
theorem cntDirOpS_sz (xs : DirOpST) : cntDirOpS xs ≤ 4 * szDirOpS xs := by
  have := preS_bound cntDirOp szDirOp 4 (fun x => by unfold cntDirOp; omega) xs xs.length
  unfold cntDirOpS szDirOpS
  omega
theorem cntDisk_lt {x : DiskT} (h : szDisk x ≤ 1048576) : cntDisk x ≤ 4194304 := by
  have h0 := cntNodeS_sz x.1
  have h1 := cntEntryS_sz x.2.1
  have h2 := cntEntryS_sz x.2.2.1
  have h3 := cntDirOpS_sz x.2.2.2.1
  unfold szDisk at h
  unfold cntDisk
  omega
theorem ldDiskL {w : World} {g : Nat} {c0 c1 c2 c3 c4 : Value} (h : Blk w g 26 [c0, c1, c2, c3, c4]) : (Instr.loadAt 26 (.pointer (some ⟨g, 0, none⟩))).run Try.prog w = .ok (.agg #[c0, c1, c2, c3, c4]) w := by
  have k0 : w.cell? ⟨g, 0, none⟩ = some c0 := h.cell 0
  have k1 : w.cell? ⟨g, 1, none⟩ = some c1 := h.cell 1
  have k2 : w.cell? ⟨g, 2, none⟩ = some c2 := h.cell 2
  have k3 : w.cell? ⟨g, 3, none⟩ = some c3 := h.cell 3
  have k4 : w.cell? ⟨g, 4, none⟩ = some c4 := h.cell 4
  go_simp
theorem ldDiskI {w : World} {g : Nat} {c0 c1 c2 c3 c4 : Value} (h : Blk w g 33 [c0, c1, c2, c3, c4]) : (Instr.loadAt 33 (.pointer (some ⟨g, 0, none⟩))).run Try.prog w = .ok (.agg #[c0, c1, c2, c3, c4]) w := by
  have k0 : w.cell? ⟨g, 0, none⟩ = some c0 := h.cell 0
  have k1 : w.cell? ⟨g, 1, none⟩ = some c1 := h.cell 1
  have k2 : w.cell? ⟨g, 2, none⟩ = some c2 := h.cell 2
  have k3 : w.cell? ⟨g, 3, none⟩ = some c3 := h.cell 3
  have k4 : w.cell? ⟨g, 4, none⟩ = some c4 := h.cell 4
  go_simp
theorem eqDisk_same {w : World} {v v' : Value} {x : DiskT} (h : RdV true dDisk w v x) (h' : RdV true dDisk w v' x) : Calls Try.prog 10 #[v, v'] w (Ret (.bool true) w) := by
  have := eqDisk_v h h'
  rw [show decide (x = x) = true by simp] at this
  exact this
end Go.Proofs.Ytinfibggdbakoaa
