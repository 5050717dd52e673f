/- Names of mails, in plain lists. -/
import Derived.Test.YtbkccffpipcjeaaDoorPureFlag
import Derived.Lib.ItoaNum
namespace Go.Proofs.YtbkccffpipcjeaaDoor
set_option linter.unusedVariables false
open Mem
def MailNameL (uid : Nat) (stamp : Int) (f : Nat) : Bytes :=
  if uid = 0 ∨ stamp < 0 ∨ 1000000000000 < stamp then [] else [99, 117, 114, 47] ++ Lib.decDigits uid ++ [46] ++ Lib.decDigits stamp.toNat ++ [58, 50, 44] ++ flagsL f
theorem MailNameL_no {uid : Nat} {stamp : Int} {f : Nat} (h : uid = 0 ∨ stamp < 0 ∨ 1000000000000 < stamp) : MailNameL uid stamp f = [] := if_pos h
theorem MailNameL_yes {uid S : Nat} {f : Nat} (h0 : uid ≠ 0) (h1 : S ≤ 1000000000000) : MailNameL uid (S : Int) f = [99, 117, 114, 47] ++ Lib.decDigits uid ++ [46] ++ Lib.decDigits S ++ [58, 50, 44] ++ flagsL f := by
  unfold MailNameL
  rw [if_neg (by omega)]; rfl

end Go.Proofs.YtbkccffpipcjeaaDoor
