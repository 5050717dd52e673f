/- The readings of a file as the law's walk wants them. -/
import Derived.Test.YtinfibggdbakoaaDReadS
import Derived.Test.YtinfibggdbakoaaDReadI
import Derived.Test.YtinfibggdbakoaaCDisk
namespace Go.Proofs.Ytinfibggdbakoaa
open Go.RowKit Mem
set_option linter.unusedVariables false
def DiskReadL (x : DiskT) (nm : Bytes) : ContentT := readL x nm
theorem specDiskRead_v {w : World} {v : Value} {x : DiskT} (h : RdV true dDisk w v x) (nm : Bytes) (hn : nm.length ≤ 9223372036854775807) (hb : szDisk x ≤ 1048576) (hl : nm.length ≤ 1048576) : Calls Try.prog 11 #[v, .string ⟨nm.toArray⟩] w (RetV true dContent w (DiskReadL x nm)) := diskReadS_v h nm hn
theorem implDiskRead_v {w : World} {v : Value} {x : DiskT} (h : RdV true dDisk w v x) (nm : Bytes) (hn : nm.length ≤ 9223372036854775807) (hb : szDisk x ≤ 1048576) (hl : nm.length ≤ 1048576) : Calls Try.prog 12 #[v, .string ⟨nm.toArray⟩] w (RetV true dContent w (DiskReadL x nm)) := diskReadI_v h nm hn
theorem DiskRead_cnt (x : DiskT) (nm : Bytes) (hb : szDisk x ≤ 1048576) (hl : nm.length ≤ 1048576) : cntContent (DiskReadL x nm) ≤ 1048576 := by
  unfold DiskReadL readL cntContent cntBS
  split
  · rename_i h
    show (x.1[_]?.getD ([], 0)).1.length ≤ _
    generalize (x.2.1[placeE x.2.1 nm]?.getD ([], 0)).2.toNat = k
    by_cases hk : k < x.1.length
    · rw [List.getElem?_eq_getElem hk]
      have := (valid_lens h.1).2.2 k hk
      simp only [Option.getD_some]
      omega
    · rw [List.getElem?_eq_none (by omega)]
      simp
  · simp
end Go.Proofs.Ytinfibggdbakoaa
