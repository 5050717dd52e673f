/- Openers: a disk that is handed in reads as an abstract one. -/
import Derived.Test.YtinfibggdbakoaaOpen
import Derived.Test.YtinfibggdbakoaaSDisk
namespace Go.Proofs.Ytinfibggdbakoaa.Mem
open Go.RowKit Go.Deep
theorem Opens.text {P : Program} {t : TypeId} (ht : P.underlying t = some .string) (hc : P.cellsOf t = 1) : Opens P Ty.str t :=
  ⟨hc, Nat.one_pos, fun enc w base spare held fuel cs x h => by
    obtain ⟨n, rfl, _, hn⟩ := DataW.trod_string ht h
    refine ⟨n.data.toList, by simp, ?_⟩
    rw [Array.length_toList]
    exact hn⟩
theorem Opens.sliceAny {α : Type} {P : Program} {t e e' : TypeId} {d : Ty α} (ht : P.underlying t = some (.slice e)) (hc : P.cellsOf t = 1) (hd : Opens P d e) : Opens P (Ty.slice e' d) t :=
  show Opens P (Ty.slice e d) t from Opens.slice ht hc hd
end Go.Proofs.Ytinfibggdbakoaa.Mem
namespace Go.Proofs.Ytinfibggdbakoaa
open Mem
theorem opens_intL : Opens Try.prog (Ty.int .i64) 3 := Opens.int Try.underlying3 (by kernel_rfl)
theorem opens_textL : Opens Try.prog Ty.str 9 := Opens.text Try.underlying9 (by kernel_rfl)
theorem opens_bytesL : Opens Try.prog dBS 37 := Opens.sliceAny Try.underlying37 (by kernel_rfl) opens_byte
theorem opens_nodeL : Opens Try.prog dNode 81 := Opens.struct (fs := [_, _]) Try.underlying81 (by kernel_rfl) (OpensF.cons rfl opens_bytesL (OpensF.last rfl opens_intL))
theorem opens_entryL : Opens Try.prog dEntry 83 := Opens.struct (fs := [_, _]) Try.underlying83 (by kernel_rfl) (OpensF.cons rfl opens_textL (OpensF.last rfl opens_intL))
theorem opens_dopL : Opens Try.prog dDirOp 85 := Opens.struct (fs := [_, _, _, _]) Try.underlying85 (by kernel_rfl) (OpensF.cons rfl opens_intL (OpensF.cons rfl opens_textL (OpensF.cons rfl opens_textL (OpensF.last rfl opens_intL))))
theorem opens_nodesL : Opens Try.prog dNodeS 22 := Opens.sliceAny Try.underlying22 (by kernel_rfl) opens_nodeL
theorem opens_entriesL : Opens Try.prog dEntryS 23 := Opens.sliceAny Try.underlying23 (by kernel_rfl) opens_entryL
theorem opens_dopsL : Opens Try.prog dDirOpS 24 := Opens.sliceAny Try.underlying24 (by kernel_rfl) opens_dopL
theorem opens_diskL : Opens Try.prog dDisk 26 := Opens.struct (fs := [_, _, _, _, _]) Try.underlying26 (by kernel_rfl) (OpensF.cons rfl opens_nodesL (OpensF.cons rfl opens_entriesL (OpensF.cons rfl opens_entriesL (OpensF.cons rfl opens_dopsL (OpensF.last rfl opens_intL)))))
end Go.Proofs.Ytinfibggdbakoaa
