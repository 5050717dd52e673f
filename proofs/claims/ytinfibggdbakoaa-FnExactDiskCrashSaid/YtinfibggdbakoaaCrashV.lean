/- The crashes as the law's walk wants them. -/
import Derived.Test.YtinfibggdbakoaaCrashS
import Derived.Test.YtinfibggdbakoaaCrashI
import Derived.Test.YtinfibggdbakoaaOpenDisk
namespace Go.Proofs.Ytinfibggdbakoaa
open Go.RowKit Mem
set_option linter.unusedVariables false
theorem opens_intsL : Opens Try.prog dIntS 45 := Opens.slice Try.underlying45 (by kernel_rfl) opens_intL
def DiskCrashL (x : DiskT) (dirs : Int) (ps : List Int) : DiskT := crashL x dirs ps
theorem specDiskCrash_v {w : World} {v vp : Value} {x : DiskT} {ps : List Int} (h : RdV true dDisk w v x) (dirs : Int) (hd : IntKind.i64.wrap dirs = dirs) (hp : RdV false dIntS w vp ps) (hb : szDisk x ≤ 1048576) (hl : szIntS ps ≤ 1048576) : Calls Try.prog 17 #[v, .int .i64 dirs, vp] w (RetV true dDisk w (DiskCrashL x dirs ps)) := diskCrashS_v h dirs hd hp hl
theorem implDiskCrash_v {w : World} {v vp : Value} {x : DiskT} {ps : List Int} (h : RdV true dDisk w v x) (dirs : Int) (hd : IntKind.i64.wrap dirs = dirs) (hp : RdV false dIntS w vp ps) (hb : szDisk x ≤ 1048576) (hl : szIntS ps ≤ 1048576) : Calls Try.prog 19 #[v, .int .i64 dirs, vp] w (RetV true dDisk w (DiskCrashL x dirs ps)) := diskCrashI_v h dirs hd hp hl
theorem runL_len {nodes : Int} {d : DiskL} : ∀ (p : List DopL) (l : List EntL), (runL nodes l p).length ≤ l.length + p.length := by
  intro p
  induction p with
  | nil => intro l; simp [runL]
  | cons o r ih =>
    intro l
    have h1 := ih ((replayL l o nodes).getD [])
    have h2 : ((replayL l o nodes).getD []).length ≤ l.length + 1 := by
      cases hr : replayL l o nodes with
      | none => simp
      | some m => exact replayL_len hr
    show (runL nodes ((replayL l o nodes).getD []) r).length ≤ _
    simp only [List.length_cons]
    omega
theorem preS_le_mul {α : Type} (f : α → Nat) (m : Nat) (xs : List α) (h : ∀ x, x ∈ xs → f x ≤ m) : ∀ n, preS f xs n ≤ m * n := by
  intro n
  induction n with
  | zero => simp [preS_zero]
  | succ n ih =>
    by_cases hn : n < xs.length
    · rw [preS_succ _ _ hn, Nat.mul_succ]
      have := h _ (List.getElem_mem hn)
      omega
    · have e1 : preS f xs (n + 1) = preS f xs n := by unfold preS; rw [List.take_of_length_le (by omega), List.take_of_length_le (by omega)]
      rw [e1, Nat.mul_succ]
      omega
theorem DiskCrash_cnt (x : DiskT) (dirs : Int) (ps : List Int) (hb : szDisk x ≤ 1048576) (hl : szIntS ps ≤ 1048576) : cntDisk (DiskCrashL x dirs ps) ≤ 1099511627776 := by
  unfold DiskCrashL crashL
  by_cases hv : DiskValidL x = true
  · rw [if_pos hv]
    have hok := (DiskValidL_iff x).1 hv
    have hk300 : x.2.2.1.length ≤ 300 := ((inOrdL_iff x.2.2.1 x.1.length).1 hok.2.2.2.2.2.2.2.1).1
    have hp1000 := hok.2.2.2.1
    have hll : (listAt x dirs).length ≤ 1300 := by
      have := runL_len (d := x) (nodes := x.1.length) (x.2.2.2.1.take dirs.toNat) x.2.2.1
      rw [List.length_take] at this
      unfold listAt
      omega
    have h0 : cntNodeS (crashNs x.1 ps (listAt x dirs)) ≤ 40001 * 1300 := by
      have := preS_le_mul cntNode 40001 (crashNs x.1 ps (listAt x dirs)) (fun n hn => by
        unfold crashNs at hn
        obtain ⟨i, hi, rfl⟩ := List.mem_mapIdx.1 hn
        unfold cntNode cntBS crashNode
        simp only [List.length_take]
        generalize ((listAt x dirs)[i].2).toNat = k
        by_cases hk : k < x.1.length
        · rw [List.getElem?_eq_getElem hk]
          have := (valid_lens hv).2.2 k hk
          simp only [Option.getD_some]
          omega
        · rw [List.getElem?_eq_none (by omega)]
          simp) (crashNs x.1 ps (listAt x dirs)).length
      rw [crashNs_len] at this
      unfold cntNodeS
      rw [crashNs_len]
      have h2 : 40001 * (listAt x dirs).length ≤ 40001 * 1300 := Nat.mul_le_mul_left _ hll
      omega
    have h1 : cntEntryS (crashEs (listAt x dirs)) ≤ 2 * 1300 := by
      have := preS_le_mul cntEntry 2 (crashEs (listAt x dirs)) (fun n _ => by unfold cntEntry; omega) (crashEs (listAt x dirs)).length
      rw [crashEs_len] at this
      unfold cntEntryS
      rw [crashEs_len]
      omega
    unfold cntDisk
    show cntNodeS (crashNs x.1 ps (listAt x dirs)) + cntEntryS (crashEs (listAt x dirs)) + cntEntryS (crashEs (listAt x dirs)) + cntDirOpS [] ≤ _
    have h2 : cntDirOpS [] = 0 := by rfl
    omega
  · rw [if_neg hv]
    unfold cntDisk
    show cntNodeS [] + cntEntryS [] + cntEntryS [] + cntDirOpS [] ≤ _
    have h0 : cntNodeS [] = 0 := by rfl
    have h1 : cntEntryS [] = 0 := by rfl
    have h2 : cntDirOpS [] = 0 := by rfl
    omega
end Go.Proofs.Ytinfibggdbakoaa
