/- ReadSet of both sides, by value. -/
import Derived.Test.YtinfibggdbakoaaDoorSetI
namespace Go.Proofs.YtinfibggdbakoaaDoor
open Go.RowKit Mem
set_option linter.unusedVariables false
def ReadSetL (s : ByteArray) : Bool × List (Int × Int) := SetB s.data.toList
theorem ba_list (s : ByteArray) : (⟨s.data.toList.toArray⟩ : ByteArray) = s := toSx_list s
theorem ba_len (s : ByteArray) : s.data.toList.length = s.size := Array.length_toList
theorem specReadSet_v {w : World} (s : ByteArray) (hs : s.size ≤ 140737488351232) (hb : s.size ≤ 1048576) : Calls Tryd.prog 4 #[.string s] w (RetV true dSet w (ReadSetL s)) := by
  have := readSetSpec_calls s.data.toList (by rw [ba_len]; exact hb) w
  rwa [ba_list] at this
theorem implReadSet_v {w : World} (s : ByteArray) (hs : s.size ≤ 140737488351232) (hb : s.size ≤ 1048576) (hE : IntAt w) : Calls Tryd.prog 5 #[.string s] w (RetV true dSet w (ReadSetL s)) := by
  have := readSetImpl_calls s.data.toList (by rw [ba_len]; exact hb) hE
  rwa [ba_list] at this
theorem ReadSet_cnt (s : ByteArray) (hb : s.size ≤ 1048576) : cntSet (ReadSetL s) ≤ 1048576 := by
  have h := SetB_cnt s.data.toList
  have h2 : cntSet (ReadSetL s) = 2 * (SetB s.data.toList).2.length := by
    show preS cntPair (SetB s.data.toList).2 (SetB s.data.toList).2.length = _
    generalize (SetB s.data.toList).2 = l
    unfold preS
    rw [List.take_length]
    induction l with
    | nil => rfl
    | cons a r ih =>
      have : cntPair a = 2 := rfl
      rw [List.map_cons, List.sum_cons, ih, this, List.length_cons]; omega
  omega
end Go.Proofs.YtinfibggdbakoaaDoor
