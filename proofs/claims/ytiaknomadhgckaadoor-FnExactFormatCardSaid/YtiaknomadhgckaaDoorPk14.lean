/- A new mailbox: its disk, and the operations that make it. The sum of Chapter 2 in plain numbers. Both functions of the sum answer crc. Frames of a log: both ways to make them. -/
import Derived.Test.YtiaknomadhgckaaDoorPk9
import Derived.Test.YtiaknomadhgckaaDoorPk4
import Derived.Laws.BitsAllLaws
import Derived.Test.YtiaknomadhgckaaDoorPk3
import Derived.Test.YtiaknomadhgckaaDoorPk1
namespace Go.Proofs.YtiaknomadhgckaaDoor
set_option linter.unusedVariables false
def idxN : LB := [105, 110, 100, 101, 120]
def mboxN : LB := [109, 98, 111, 120, 46, 48]
def uidN : LB := [117, 105, 100, 108, 105, 115, 116]
def recM (v : Nat) : LB := [86, 32] ++ Lib.decDigits v ++ [32, 49, 32, 48]
def recD (v : Nat) : LB := [86, 32] ++ Lib.decDigits v ++ [32, 49]
def putL (nm F : LB) : List OpL := [(1, nm, [], []), (2, nm, [], F), (3, nm, [], [])]
def dirOpL : OpL := (6, [], [], [])
def mboxD (F : LB) (q : Int) : DiskL := ([(F, (F.length : Int)), ([], 0)], [(idxN, 0), (mboxN, 1)], [(idxN, 0), (mboxN, 1)], [], q)
def uidD (F : LB) (q : Int) : DiskL := ([(F, (F.length : Int))], [(uidN, 0)], [(uidN, 0)], [], q)
theorem valid_q {q : Int} (h0 : 0 ≤ q) (h1 : q ≤ 1000000) : DiskValidL ([], [], [], [], q) = true := by
  refine (DiskValidL_iff _).2 ⟨h0, h1, by simp, by simp, fun k hk => by simp at hk, by simp [sumD], rfl, rfl, rfl⟩
theorem valid_no {q : Int} (h : ¬ (0 ≤ q ∧ q ≤ 1000000)) : ¬ DiskValidL ([], [], [], [], q) = true := fun hv => h ⟨((DiskValidL_iff _).1 hv).1, ((DiskValidL_iff _).1 hv).2.1⟩
theorem one_app {d : DiskL} {nm F : LB} {u : Nat} {n : NodL} {i : Int} {s : Nat} (hg : goodL nm = true) (hh : hasE d.2.1 nm = true) (hu : usedL d = u) (hi : nodeOf d nm = i) (hn : nodeAt d i = n) (hs : sumD d.1 = s) (hF : n.1.length + F.length ≤ 40000) (hF2 : s + F.length ≤ 200000) :
    oneL d (2, nm, [], F) = if d.2.2.2.2 < (u : Int) + (F.length : Int) then (d, 5) else (withNode d i (n.1 ++ F, n.2), 0) := by
  unfold oneL
  rw [if_neg (show ¬ ((2 : Int) < 1 ∨ (6 : Int) < 2) by decide), if_neg (show ¬ (2 : Int) = 6 by decide), if_neg (by simp [hg]), if_neg (show ¬ (2 : Int) = 1 by decide), if_neg (by rw [hh]; decide), if_pos rfl]
  simp only [hu, hi, hn, hs]
  by_cases hq : d.2.2.2.2 < (u : Int) + (F.length : Int)
  · rw [if_pos hq, if_pos hq]
  · rw [if_neg hq, if_neg hq, if_neg (by omega)]
theorem one_sync {d : DiskL} {nm : LB} {n : NodL} {i : Int} (hg : goodL nm = true) (hh : hasE d.2.1 nm = true) (hi : nodeOf d nm = i) (hn : nodeAt d i = n) :
    oneL d (3, nm, [], []) = (withNode d i (n.1, (n.1.length : Int)), 0) := by
  unfold oneL
  rw [if_neg (show ¬ ((3 : Int) < 1 ∨ (6 : Int) < 3) by decide), if_neg (show ¬ (3 : Int) = 6 by decide), if_neg (by simp [hg]), if_neg (show ¬ (3 : Int) = 1 by decide), if_neg (by rw [hh]; decide), if_neg (show ¬ (3 : Int) = 2 by decide), if_pos rfl]
  simp only [hi, hn]
theorem one_dir (d : DiskL) : oneL d dirOpL = (settleL d, 0) := by
  unfold oneL dirOpL
  rw [if_neg (by decide), if_pos rfl]
theorem good_idx : goodL idxN = true := by decide
theorem good_mbox : goodL mboxN = true := by decide
theorem good_uid : goodL uidN = true := by decide
theorem one_create {d : DiskL} {nm : LB} {es : List EntL} (hg : goodL nm = true) (hn : d.1.length < 600) (hp : d.2.2.2.1.length < 1000) (he : d.2.1.length < 300) (hr : replayL d.2.1 (1, nm, [], (d.1.length : Int)) ((d.1 ++ [([], 0)]).length : Int) = some es) :
    oneL d (1, nm, [], []) = ((d.1 ++ [([], 0)], es, d.2.2.1, d.2.2.2.1 ++ [(1, nm, [], (d.1.length : Int))], d.2.2.2.2), 0) := by
  unfold oneL
  rw [if_neg (show ¬ ((1 : Int) < 1 ∨ (6 : Int) < 1) by decide), if_neg (show ¬ (1 : Int) = 6 by decide), if_neg (by simp [hg]), if_pos rfl, if_neg (by simp only; omega)]
  unfold dirL
  simp only [hr, Option.getD_some]
theorem doL_cons (d : DiskL) (o : OpL) (r : List OpL) (n : Nat) : doL d (o :: r) n = if (oneL d o).2 = 0 then doL (oneL d o).1 r (n + 1) else (d, ((n : Int), (oneL d o).2)) := rfl
theorem do_good {d e : DiskL} {o : OpL} {r : List OpL} {n : Nat} (h : oneL d o = (e, 0)) : doL d (o :: r) n = doL e r (n + 1) := by rw [doL_cons, h]; rfl
theorem do_bad {d e : DiskL} {o : OpL} {r : List OpL} {n : Nat} {c : Int} (h : oneL d o = (e, c)) (hc : c ≠ 0) : doL d (o :: r) n = (d, ((n : Int), c)) := by rw [doL_cons, h, if_neg hc]
theorem rep_first (nm : LB) (hg : goodL nm = true) : replayL [] (1, nm, [], 0) 1 = some [(nm, 0)] := by
  unfold replayL
  simp [hg, withE, lowE, highE, hasNode]
theorem rep_second : replayL [(idxN, 0)] (1, mboxN, [], 1) 2 = some [(idxN, 0), (mboxN, 1)] := by decide
theorem do_put {nm F : LB} {q : Int} {r : List OpL} (hg : goodL nm = true) (hF : F.length ≤ 40000) (hq : ¬ q < (F.length : Int)) : doL ([], [], [], [], q) (putL nm F ++ r) 0 = doL ([(F, (F.length : Int))], [(nm, 0)], [], [(1, nm, [], 0)], q) r 3 := by
  have h1 : oneL ([], [], [], [], q) (1, nm, [], []) = (([([], 0)], [(nm, 0)], [], [(1, nm, [], 0)], q), 0) := one_create (d := ([], [], [], [], q)) hg (by simp) (by simp) (by simp) (rep_first nm hg)
  have hh : hasE [(nm, (0 : Int))] nm = true := by simp [hasE]
  have hpl : placeE [(nm, (0 : Int))] nm = 0 := by simp [placeE]
  have hno : ∀ (ns : List NodL) (ks : List EntL) (ps : List DopL), nodeOf (ns, [(nm, (0 : Int))], ks, ps, q) nm = 0 := fun ns ks ps => by unfold nodeOf; simp [hpl]
  have h2 : oneL ([([], 0)], [(nm, 0)], [], [(1, nm, [], 0)], q) (2, nm, [], F) = (([(F, 0)], [(nm, 0)], [], [(1, nm, [], 0)], q), 0) := by
    rw [one_app (u := 0) (n := ([], 0)) (i := 0) (s := 0) hg hh (by simp [usedL, nodeAt]) (hno _ _ _) rfl (by simp [sumD]) (by simpa using hF) (by simp; omega)]
    rw [if_neg (by simpa using hq)]
    rfl
  have h3 : oneL ([(F, 0)], [(nm, 0)], [], [(1, nm, [], 0)], q) (3, nm, [], []) = (([(F, (F.length : Int))], [(nm, 0)], [], [(1, nm, [], 0)], q), 0) := by
    rw [one_sync (n := (F, 0)) (i := 0) hg hh (hno _ _ _) rfl]
    rfl
  show doL _ ((1, nm, [], []) :: (2, nm, [], F) :: (3, nm, [], []) :: r) 0 = _
  rw [do_good h1, do_good h2, do_good h3]
theorem do_put_bad {nm F : LB} {q : Int} {r : List OpL} (hg : goodL nm = true) (hF : F.length ≤ 40000) (hq : q < (F.length : Int)) : (doL ([], [], [], [], q) (putL nm F ++ r) 0).2.2 ≠ 0 := by
  have h1 : oneL ([], [], [], [], q) (1, nm, [], []) = (([([], 0)], [(nm, 0)], [], [(1, nm, [], 0)], q), 0) := one_create (d := ([], [], [], [], q)) hg (by simp) (by simp) (by simp) (rep_first nm hg)
  have hh : hasE [(nm, (0 : Int))] nm = true := by simp [hasE]
  have hpl : placeE [(nm, (0 : Int))] nm = 0 := by simp [placeE]
  have hno : nodeOf ([([], 0)], [(nm, (0 : Int))], [], [(1, nm, [], 0)], q) nm = 0 := by unfold nodeOf; simp [hpl]
  have h2 : oneL ([([], 0)], [(nm, 0)], [], [(1, nm, [], 0)], q) (2, nm, [], F) = (([([], 0)], [(nm, 0)], [], [(1, nm, [], 0)], q), 5) := by
    rw [one_app (u := 0) (n := ([], 0)) (i := 0) (s := 0) hg hh (by simp [usedL, nodeAt]) hno rfl (by simp [sumD]) (by simpa using hF) (by simp; omega)]
    rw [if_pos (by simpa using hq)]
  show (doL _ ((1, nm, [], []) :: (2, nm, [], F) :: (3, nm, [], []) :: r) 0).2.2 ≠ 0
  rw [do_good h1, do_bad h2 (by decide)]
  exact (by decide : (5 : Int) ≠ 0)
theorem do_uid {F : LB} {q : Int} (hF : F.length ≤ 40000) (hq : ¬ q < (F.length : Int)) : doL ([], [], [], [], q) (putL uidN F ++ [dirOpL]) 0 = (uidD F q, (4, 0)) := by
  rw [do_put good_uid hF hq, do_good (one_dir _)]
  rfl
theorem do_mbox {F : LB} {q : Int} (hF : F.length ≤ 40000) (hq : ¬ q < (F.length : Int)) : doL ([], [], [], [], q) (putL idxN F ++ (putL mboxN [] ++ [dirOpL])) 0 = (mboxD F q, (7, 0)) := by
  rw [do_put good_idx hF hq]
  have h1 : oneL ([(F, (F.length : Int))], [(idxN, 0)], [], [(1, idxN, [], 0)], q) (1, mboxN, [], []) = (([(F, (F.length : Int)), ([], 0)], [(idxN, 0), (mboxN, 1)], [], [(1, idxN, [], 0), (1, mboxN, [], 1)], q), 0) :=
    one_create (d := ([(F, (F.length : Int))], [(idxN, 0)], [], [(1, idxN, [], 0)], q)) good_mbox (by simp) (by simp) (by simp) rep_second
  have h2 : oneL ([(F, (F.length : Int)), ([], 0)], [(idxN, 0), (mboxN, 1)], [], [(1, idxN, [], 0), (1, mboxN, [], 1)], q) (2, mboxN, [], []) = (([(F, (F.length : Int)), ([], 0)], [(idxN, 0), (mboxN, 1)], [], [(1, idxN, [], 0), (1, mboxN, [], 1)], q), 0) := by
    rw [one_app (d := ([(F, (F.length : Int)), ([], 0)], [(idxN, 0), (mboxN, 1)], [], [(1, idxN, [], 0), (1, mboxN, [], 1)], q)) (F := []) (u := F.length) (n := ([], 0)) (i := 1) (s := F.length) good_mbox (show hasE [(idxN, (0 : Int)), (mboxN, 1)] mboxN = true by decide) (by simp [usedL, nodeAt]) (show (([(idxN, (0 : Int)), (mboxN, 1)])[placeE [(idxN, (0 : Int)), (mboxN, 1)] mboxN]?.getD ([], 0)).2 = 1 by decide) rfl (by simp [sumD]) (by simp) (by simp; omega)]
    rw [if_neg (by simpa using hq)]
    rfl
  have h3 : oneL ([(F, (F.length : Int)), ([], 0)], [(idxN, 0), (mboxN, 1)], [], [(1, idxN, [], 0), (1, mboxN, [], 1)], q) (3, mboxN, [], []) = (([(F, (F.length : Int)), ([], 0)], [(idxN, 0), (mboxN, 1)], [], [(1, idxN, [], 0), (1, mboxN, [], 1)], q), 0) := by
    rw [one_sync (d := ([(F, (F.length : Int)), ([], 0)], [(idxN, 0), (mboxN, 1)], [], [(1, idxN, [], 0), (1, mboxN, [], 1)], q)) (n := ([], 0)) (i := 1) good_mbox (show hasE [(idxN, (0 : Int)), (mboxN, 1)] mboxN = true by decide) (show (([(idxN, (0 : Int)), (mboxN, 1)])[placeE [(idxN, (0 : Int)), (mboxN, 1)] mboxN]?.getD ([], 0)).2 = 1 by decide) rfl]
    rfl
  show doL _ ((1, mboxN, [], []) :: (2, mboxN, [], []) :: (3, mboxN, [], []) :: [dirOpL]) 3 = _
  rw [do_good h1, do_good h2, do_good h3, do_good (one_dir _)]
  rfl
/-- the operations done on an empty disk: made, or refused -/
theorem dd_uid {F : LB} {q : Int} (hF : F.length ≤ 40000) : (q < (F.length : Int) ∨ 1000000 < q → (diskDoL ([], [], [], [], q) (putL uidN F ++ [dirOpL])).2.2 ≠ 0) ∧ (¬ (q < (F.length : Int) ∨ 1000000 < q) → diskDoL ([], [], [], [], q) (putL uidN F ++ [dirOpL]) = (uidD F q, (4, 0))) := by
  by_cases hv : 0 ≤ q ∧ q ≤ 1000000
  · have e : diskDoL ([], [], [], [], q) (putL uidN F ++ [dirOpL]) = doL ([], [], [], [], q) (putL uidN F ++ [dirOpL]) 0 := if_pos ⟨by simp [putL], valid_q hv.1 hv.2⟩
    rw [e]
    exact ⟨fun h => do_put_bad good_uid hF (by omega), fun h => do_uid hF (by omega)⟩
  · have e : diskDoL ([], [], [], [], q) (putL uidN F ++ [dirOpL]) = (([], [], [], [], 0), (0, 1)) := if_neg (fun h => valid_no hv h.2)
    rw [e]
    exact ⟨fun _ => (by decide : (1 : Int) ≠ 0), fun h => absurd (by omega) hv⟩
theorem dd_mbox {F : LB} {q : Int} (hF : F.length ≤ 40000) : (q < (F.length : Int) ∨ 1000000 < q → (diskDoL ([], [], [], [], q) (putL idxN F ++ (putL mboxN [] ++ [dirOpL]))).2.2 ≠ 0) ∧ (¬ (q < (F.length : Int) ∨ 1000000 < q) → diskDoL ([], [], [], [], q) (putL idxN F ++ (putL mboxN [] ++ [dirOpL])) = (mboxD F q, (7, 0))) := by
  by_cases hv : 0 ≤ q ∧ q ≤ 1000000
  · have e : diskDoL ([], [], [], [], q) (putL idxN F ++ (putL mboxN [] ++ [dirOpL])) = doL ([], [], [], [], q) (putL idxN F ++ (putL mboxN [] ++ [dirOpL])) 0 := if_pos ⟨by simp [putL], valid_q hv.1 hv.2⟩
    rw [e]
    exact ⟨fun h => do_put_bad good_idx hF (by omega), fun h => do_mbox hF (by omega)⟩
  · have e : diskDoL ([], [], [], [], q) (putL idxN F ++ (putL mboxN [] ++ [dirOpL])) = (([], [], [], [], 0), (0, 1)) := if_neg (fun h => valid_no hv h.2)
    rw [e]
    exact ⟨fun _ => (by decide : (1 : Int) ≠ 0), fun h => absurd (by omega) hv⟩
end Go.Proofs.YtiaknomadhgckaaDoor

namespace Go.Proofs.YtiaknomadhgckaaDoor
def crcBit (c : Nat) : Nat := if c % 2 = 1 then (c / 2) ^^^ 3988292384 else c / 2
def crcIter : Nat → Nat → Nat
  | 0, c => c
  | k + 1, c => crcBit (crcIter k c)
def crcRaw (xs : List UInt8) : Nat := xs.foldl (fun c b => crcIter 8 (c ^^^ b.toNat)) 4294967295
def crc (xs : List UInt8) : Nat := 4294967295 ^^^ crcRaw xs
theorem xor_lt32 {a b : Nat} (ha : a < 4294967296) (hb : b < 4294967296) : a ^^^ b < 4294967296 := Nat.xor_lt_two_pow (n := 32) ha hb
theorem crcBit_lt {c : Nat} (h : c < 4294967296) : crcBit c < 4294967296 := by
  unfold crcBit
  split
  · exact xor_lt32 (by omega) (by decide)
  · omega
theorem crcIter_lt : ∀ (k : Nat) {c : Nat}, c < 4294967296 → crcIter k c < 4294967296
  | 0, _, h => h
  | k + 1, _, h => crcBit_lt (crcIter_lt k h)
theorem crcRaw_snoc (xs : List UInt8) (b : UInt8) : crcRaw (xs ++ [b]) = crcIter 8 (crcRaw xs ^^^ b.toNat) := by simp [crcRaw]
theorem crcRaw_lt (xs : List UInt8) : crcRaw xs < 4294967296 := by
  rcases List.eq_nil_or_concat xs with rfl | ⟨l, b, rfl⟩
  · decide
  · rw [List.concat_eq_append, crcRaw_snoc]
    have key : ∀ (l : List UInt8) (c : Nat), c < 4294967296 → l.foldl (fun c b => crcIter 8 (c ^^^ b.toNat)) c < 4294967296 := by
      intro l
      induction l with
      | nil => intro c h; exact h
      | cons x l ih => intro c h; exact ih _ (crcIter_lt 8 (xor_lt32 h (by have := x.toNat_lt; omega)))
    exact crcIter_lt 8 (xor_lt32 (key l _ (by decide)) (by have := b.toNat_lt; omega))
theorem crc_lt (xs : List UInt8) : crc xs < 4294967296 := xor_lt32 (by decide) (crcRaw_lt xs)
/-- the other way to take a bit: the byte comes in bit by bit -/
theorem crc_other (c b k : Nat) : crcBit (c ^^^ (b >>> k)) = (if (c ^^^ (b >>> k)) % 2 = 1 then (c / 2) ^^^ 3988292384 else c / 2) ^^^ (b >>> (k + 1)) := by
  have h1 : (c ^^^ (b >>> k)) / 2 = (c / 2) ^^^ (b >>> (k + 1)) := by
    have := Nat.shiftRight_xor_distrib (a := c) (b := b >>> k) (i := 1)
    rw [Nat.shiftRight_eq_div_pow, Nat.shiftRight_eq_div_pow c, ← Nat.shiftRight_add] at this
    simpa using this
  unfold crcBit
  split
  · rw [h1, Nat.xor_assoc, Nat.xor_assoc, Nat.xor_comm (b >>> (k + 1))]
  · rw [h1]
end Go.Proofs.YtiaknomadhgckaaDoor

namespace Go.Proofs.YtiaknomadhgckaaDoor
open Go.RowKit Mem
set_option linter.unusedVariables false

theorem crc_and {c : Nat} (h : c < 4294967296) : bits .and .u32 (c : Int) 1 = ((c % 2 : Nat) : Int) := by
  have := u32_and_nat c 1 h (by decide)
  rw [nat_mask1] at this
  exact this
theorem crc_xor {c : Nat} (h : c < 4294967296) : bits .xor .u32 ((c : Int) / 2) 3988292384 = (((c / 2) ^^^ 3988292384 : Nat) : Int) := by
  have := u32_xor_nat (c / 2) 3988292384 (by omega) (by decide)
  rw [← this]; simp

set_option maxHeartbeats 400000 in
theorem crcImpl_calls {A : Option Addr} {c : Nat} {xs : Bytes} {B : Nat → Prop} {w : World} (h : Row Ty.byte w B A xs.length xs) :
    Calls Tryd.prog 106 #[.slice A xs.length c] w fun e w' => e = .returned (.int .u32 (crc xs : Int)) ∧ w' = w := by
  have hl := h.2.1
  have HR := Sec.mk h
  clear h
  go_enter Tryd.func106, Tryd.ntmps106
  go_wp2
  go_loop [3, 8] (fun v i => ∃ k : Nat, k ≤ xs.length ∧ i = .int .i64 k ∧ v = .int .u32 (crcRaw (xs.take k))) (fun _ i => xs.length - (intOf i).toNat)
  case atStart => exact ⟨0, by omega, rfl, by simp [crcRaw]⟩
  case round =>
    obtain ⟨k, hk, rfl, rfl⟩ := hrel
    by_cases hlt : k < xs.length
    · obtain ⟨ad, rfl, hx⟩ := HR.out.byte_at (fun i hi => rfl) hlt
      have hr := crcRaw_lt (xs.take k)
      have HN := Sec.mk (crcRaw_snoc (xs.take k) xs[k])
      have hb := xs[k].toNat_lt
      have HX := Sec.mk (u32_xor_nat (crcRaw (xs.take k)) xs[k].toNat hr (by omega))
      have h8 : crcRaw (xs.take k) ^^^ xs[k].toNat < 4294967296 := xor_lt32 hr (by omega)
      generalize crcRaw (xs.take k) = c0 at *
      generalize c0 ^^^ xs[k].toNat = c1 at *
      go_wp2
      go_loop [3, 16] (fun v i => ∃ (j : Nat), j ≤ 8 ∧ i = .int .i64 j ∧ v = .int .u32 (crcIter j c1)) (fun _ i => 8 - (intOf i).toNat)
      case atStart => exact ⟨0, by omega, rfl, by rw [HX.out]; rfl⟩
      case round =>
        obtain ⟨j, hj, rfl, rfl⟩ := hrel
        have hc := crcIter_lt j h8
        have HS : Sec (crcIter (j + 1) c1 = crcBit (crcIter j c1)) := ⟨rfl⟩
        have HE : Sec (crcIter 8 c1 = crcRaw (xs.take k ++ [xs[k]])) := ⟨HN.out.symm⟩
        by_cases hj8 : j < 8
        · generalize crcIter j c1 = g at *
          have h1 := crc_and hc
          have h2 := crc_xor hc
          by_cases ho : g % 2 = 1
          · have h3 : (bits .and .u32 (g : Int) 1 == 1) = true := by rw [h1, ho]; rfl
            clear h1
            go_wp2
            go_round
            case rel => exact ⟨j + 1, by omega, by go_num, by rw [HS.out]; unfold crcBit; rw [if_pos ho]⟩
            case measure => simp [intOf]; omega
          · have h3 : (bits .and .u32 (g : Int) 1 == 1) = false := by rw [h1, show g % 2 = 0 by omega]; rfl
            clear h1 h2
            go_wp2
            go_round
            case rel => exact ⟨j + 1, by omega, by go_num, by rw [HS.out]; unfold crcBit; rw [if_neg ho]; simp⟩
            case measure => simp [intOf]; omega
        · obtain rfl : j = 8 := by omega
          go_wp2
          go_round
          case rel => exact ⟨k + 1, by omega, by go_num, by rw [List.take_succ_eq_append_getElem hlt, HE.out]⟩
          case measure => simp [intOf]; omega
    · have hr := crcRaw_lt xs
      have HX := Sec.mk (u32_xor_nat 4294967295 (crcRaw xs) (by decide) hr)
      go_wp2
      go_ret
      refine ⟨?_, rfl⟩
      rw [List.take_of_length_le (by omega)]
      first | (show Ending.returned _ = _; unfold crc; rw [← HX.out]; rfl) | (show Ending.returned _ = _; unfold crc; rw [← HX.out]; simp)

set_option maxHeartbeats 400000 in
theorem crcSpec_calls {A : Option Addr} {c : Nat} {xs : Bytes} {B : Nat → Prop} {w : World} (h : Row Ty.byte w B A xs.length xs) :
    Calls Tryd.prog 103 #[.slice A xs.length c] w fun e w' => e = .returned (.int .u32 (crc xs : Int)) ∧ w' = w := by
  have hl := h.2.1
  have HR := Sec.mk h
  clear h
  go_enter Tryd.func103, Tryd.ntmps103
  go_wp2
  go_loop [3, 10] (fun v i => ∃ k : Nat, k ≤ xs.length ∧ i = .int .i64 k ∧ v = .int .u32 (crcRaw (xs.take k))) (fun _ i => xs.length - (intOf i).toNat)
  case atStart => exact ⟨0, by omega, rfl, by simp [crcRaw]⟩
  case round =>
    obtain ⟨k, hk, rfl, rfl⟩ := hrel
    by_cases hlt : k < xs.length
    · obtain ⟨ad, rfl, hx⟩ := HR.out.byte_at (fun i hi => rfl) hlt
      have hr := crcRaw_lt (xs.take k)
      have HN := Sec.mk (crcRaw_snoc (xs.take k) xs[k])
      have hb := xs[k].toNat_lt
      generalize crcRaw (xs.take k) = c0 at *
      go_wp2
      go_loop [3, 6] (fun v i => ∃ (j g : Nat), j ≤ 8 ∧ i = .int .i64 j ∧ v = .int .u32 g ∧ g < 4294967296 ∧ Sec (g ^^^ (xs[k].toNat >>> j) = crcIter j (c0 ^^^ xs[k].toNat))) (fun _ i => 8 - (intOf i).toNat)
      case atStart => exact ⟨0, c0, by omega, rfl, rfl, hr, ⟨rfl⟩⟩
      case round =>
        obtain ⟨j, g, hj, rfl, rfl, hg, HG⟩ := hrel
        by_cases hj8 : j < 8
        · have h1 : bits .xor .u32 (g : Int) ((xs[k].toNat : Int) / 2 ^ j) = ((g ^^^ (xs[k].toNat >>> j) : Nat) : Int) := by
            have h2 : xs[k].toNat >>> j < 4294967296 := by
              have : xs[k].toNat >>> j ≤ xs[k].toNat := by rw [Nat.shiftRight_eq_div_pow]; exact Nat.div_le_self _ _
              omega
            rw [← u32_xor_nat g _ hg h2, Nat.shiftRight_eq_div_pow]; simp
          have hgb : g ^^^ (xs[k].toNat >>> j) < 4294967296 := by rw [HG.out]; exact crcIter_lt j (xor_lt32 hr (by omega))
          have h3 := crc_and hgb
          have h4 := crc_xor hg
          have HO := Sec.mk (crc_other g xs[k].toNat j)
          have HS : Sec (crcIter (j + 1) (c0 ^^^ xs[k].toNat) = crcBit (crcIter j (c0 ^^^ xs[k].toNat))) := ⟨rfl⟩
          by_cases ho : (g ^^^ (xs[k].toNat >>> j)) % 2 = 1
          · have h5 : (bits .and .u32 (bits .xor .u32 (g : Int) ((xs[k].toNat : Int) / 2 ^ j)) 1 == 1) = true := by rw [h1, h3, ho]; rfl
            clear h1 h3
            have HO2 := Sec.mk ho
            have hlt4 : (g / 2) ^^^ 3988292384 < 4294967296 := xor_lt32 (by omega) (by decide)
            clear ho
            go_wp2
            go_round
            case rel => exact ⟨j + 1, _, by omega, by go_num, rfl, hlt4, ⟨by rw [HS.out, ← HG.out, HO.out, if_pos HO2.out]⟩⟩
            case measure => simp [intOf]; omega
          · have h5 : (bits .and .u32 (bits .xor .u32 (g : Int) ((xs[k].toNat : Int) / 2 ^ j)) 1 == 1) = false := by rw [h1, h3, show (g ^^^ (xs[k].toNat >>> j)) % 2 = 0 by omega]; rfl
            clear h1 h3 h4
            have HO2 := Sec.mk ho
            clear ho
            go_wp2
            go_round
            case rel => exact ⟨j + 1, g / 2, by omega, by go_num, by simp, by omega, ⟨by rw [HS.out, ← HG.out, HO.out, if_neg HO2.out]⟩⟩
            case measure => simp [intOf]; omega
        · obtain rfl : j = 8 := by omega
          go_wp2
          go_round
          case rel => exact ⟨k + 1, by omega, by go_num, by
            have h9 : xs[k].toNat >>> 8 = 0 := by rw [Nat.shiftRight_eq_div_pow]; omega
            have := HG.out
            rw [h9, Nat.xor_zero] at this
            rw [List.take_succ_eq_append_getElem hlt, HN.out, ← this]⟩
          case measure => simp [intOf]; omega
    · have hr := crcRaw_lt xs
      have HX := Sec.mk (u32_xor_nat 4294967295 (crcRaw xs) (by decide) hr)
      go_wp2
      go_ret
      refine ⟨?_, rfl⟩
      rw [List.take_of_length_le (by omega)]
      first | (show Ending.returned _ = _; unfold crc; rw [← HX.out]; rfl) | (show Ending.returned _ = _; unfold crc; rw [← HX.out]; simp)
end Go.Proofs.YtiaknomadhgckaaDoor

namespace Go.Proofs.YtiaknomadhgckaaDoor
open Go.RowKit Mem
set_option linter.unusedVariables false

def be4 (c : Nat) : Bytes := [UInt8.ofNat (c / 16777216), UInt8.ofNat (c / 65536), UInt8.ofNat (c / 256), UInt8.ofNat c]
def len2 (n : Nat) : Bytes := [UInt8.ofNat (n / 256), UInt8.ofNat n]
def headL (xs : Bytes) : Bytes := len2 xs.length ++ be4 (crc (len2 xs.length ++ xs))
def frameL (xs : Bytes) : Bytes := headL xs ++ xs
theorem headL_len (xs : Bytes) : (headL xs).length = 6 := rfl
theorem frameL_len (xs : Bytes) : (frameL xs).length = 6 + xs.length := by simp [frameL, headL_len]

set_option maxHeartbeats 400000 in
set_option maxRecDepth 100000 in
theorem l1BytesF_calls {A : Option Addr} {c : Nat} {xs : Bytes} {B : Nat → Prop} {w : World} (h : Row Ty.byte w B A xs.length xs) (hB : ∀ k, B k → k < w.heap.size) (hl : xs.length ≤ 34359738368) :
    Calls Tryd.prog 38 #[.slice A xs.length c] w (RetOwn Ty.byte 5 w xs) := by
  have HR := Sec.mk h
  clear h
  go_enter Tryd.func38, Tryd.ntmps38
  go_wp2_with (first
    | (refine wpList_mk _ rfl (.tmp 5) _ rfl Ty.byte 5 Tryd.underlying32 elt_byte 0 (fun _ => ⟨rfl, rfl⟩) xs.length rfl hl ?_; intro w1 ho1)
    | (refine wpList_copyAll _ rfl (.tmp 7) (.tmp 8) _ _ rfl Tryd.underlying32 elt_byte rfl flat_byte rfl rfl ho1 (ho1.read HR.out hB) ?_; intro w2 ho2))
  go_ret
  exact ho2.ret

theorem u8_small (m : Nat) (h : m < 256) : ((UInt8.ofNat m).toNat : Int) = (m : Int) := by rw [UInt8.toNat_ofNat']; omega
theorem u8_div (n : Nat) (h : n ≤ 2000) : ((UInt8.ofNat (n / 256)).toNat : Int) = (n : Int) / 256 := by rw [UInt8.toNat_ofNat']; omega
theorem u8_mod (n : Nat) : ((UInt8.ofNat n).toNat : Int) = (n : Int) % 256 := by rw [UInt8.toNat_ofNat']; omega
theorem be4_0 (c : Nat) (h : c < 4294967296) : ((UInt8.ofNat (c / 16777216)).toNat : Int) = (c : Int) / 16777216 := by rw [UInt8.toNat_ofNat']; omega
set_option maxHeartbeats 1000000 in
set_option maxRecDepth 100000 in
theorem headOf_calls {A : Option Addr} {c : Nat} {xs : Bytes} {B : Nat → Prop} {w : World} (h : Row Ty.byte w B A xs.length xs) (hB : ∀ k, B k → k < w.heap.size) (h1 : 1 ≤ xs.length) (hl : xs.length ≤ 2000) :
    Calls Tryd.prog 89 #[.slice A xs.length c] w (RetOwn Ty.byte 5 w (headL xs)) := by
  have HR := Sec.mk h
  have HD : Sec (headL xs = len2 xs.length ++ be4 (crc ([] ++ len2 xs.length ++ xs))) := ⟨rfl⟩
  clear h
  have HO1 := Mine.lit2 (w0 := w) (w := w) 5 (u8_div xs.length hl) (u8_mod xs.length) rfl (Mod.refl _ _)
  have HO2 := Mine.lit0 (w := w.alloc (.cells #[.int .u8 ((xs.length : Int) / 256), .int .u8 ((xs.length : Int) % 256)] 5)) 5 (g := w.heap.size + 1) (by simp) (Mod.refl _ _)
  have HC := Sec.mk HO1
  clear HO1
  change Sec (Mine Ty.byte _ _ _ _ (len2 xs.length)) at HC
  go_enter Tryd.func89, Tryd.ntmps89
  go_wp2_with (first
    | (at_builtin; refine wpList_app _ rfl (.tmp 15) (.tmp 16) _ rfl Tryd.underlying32 elt_byte flat_byte rfl rfl HO2 ((HC.out.step HO2.new).row) (by simp [len2]) ?_; intro A3 n3 c3 w3 HO3)
    | (at_builtin; refine wpList_app _ rfl (.tmp 17) (.tmp 18) _ rfl Tryd.underlying32 elt_byte flat_byte rfl rfl HO3 ((HC.out.step HO3.new).read HR.out hB) (by simp [len2]; omega) ?_; intro A4 n4 c4 w4 HO4))
  obtain rfl := HO4.len.1
  refine (crcImpl_calls HO4.row).mono ?_
  rintro e w5 ⟨rfl, rfl⟩
  have hcl := crc_lt ([] ++ len2 xs.length ++ xs)
  have HH := HC.out.step HO4.new
  clear HO2 HO3
  generalize crc ([] ++ len2 xs.length ++ xs) = s at *
  have hq1 : ((UInt8.ofNat (s / 65536)).toNat : Int) = (s : Int) / 65536 % 256 := by rw [UInt8.toNat_ofNat']; omega
  have hq2 : ((UInt8.ofNat (s / 256)).toNat : Int) = (s : Int) / 256 % 256 := by rw [UInt8.toNat_ofNat']; omega
  have HF := Sec.mk (fun w => Row.four w 5 (be4_0 s hcl) hq1 hq2 (u8_mod s))
  clear hq1 hq2
  go_wp2_with (at_builtin; refine wpList_app _ rfl (.tmp 21) (.tmp 33) _ rfl Tryd.underlying32 elt_byte flat_byte rfl rfl (HH.alloc _) (HF.out _) (by simp [len2]) ?_; intro A6 n6 c6 w6 HO6)
  go_ret
  rw [HD.out]
  exact HO6.ret
set_option maxHeartbeats 1000000 in
set_option maxRecDepth 100000 in
theorem l2Frame_calls {A : Option Addr} {c : Nat} {xs : Bytes} {B : Nat → Prop} {w : World} (h : Row Ty.byte w B A xs.length xs) (hB : ∀ k, B k → k < w.heap.size) (h1 : 1 ≤ xs.length) (hl : xs.length ≤ 2000) :
    Calls Tryd.prog 78 #[.slice A xs.length c] w (RetOwn Ty.byte 5 w (frameL xs)) := by
  have HR := Sec.mk h
  have HD : Sec (frameL xs = len2 xs.length ++ be4 (crc (len2 xs.length ++ xs)) ++ xs) := ⟨rfl⟩
  clear h
  have HC := Sec.mk (Mine.lit2 (w0 := w) (w := w) 5 (u8_div xs.length hl) (u8_mod xs.length) rfl (Mod.refl _ _))
  change Sec (Mine Ty.byte _ _ _ _ (len2 xs.length)) at HC
  go_enter Tryd.func78, Tryd.ntmps78
  go_wp2_with fail
  refine (l1BytesF_calls (xs := len2 xs.length) HC.out.row (fun k hk => hk.2) (by simp [len2])).mono ?_
  rintro e w1 h1
  obtain ⟨A1, c1, rfl, HO1⟩ := h1.mine
  have HH := HC.out.step HO1.new
  go_wp2_with (at_builtin; refine wpList_app _ rfl (.tmp 16) (.tmp 17) _ rfl Tryd.underlying32 elt_byte flat_byte rfl rfl HO1 (HH.read HR.out hB) (by simp [len2]; omega) ?_; intro A2 n2 c2 w2 HO2)
  obtain rfl := HO2.len.1
  refine (crcSpec_calls HO2.row).mono ?_
  rintro e w3 ⟨rfl, rfl⟩
  have hcl := crc_lt (len2 xs.length ++ xs)
  have HK := HC.out.step HO2.new
  have HN := Sec.mk HK.new
  clear HC HH HO1 HO2 h1
  generalize crc (len2 xs.length ++ xs) = s at *
  have hq1 : ((UInt8.ofNat (s / 65536)).toNat : Int) = (s : Int) / 65536 % 256 := by rw [UInt8.toNat_ofNat']; omega
  have hq2 : ((UInt8.ofNat (s / 256)).toNat : Int) = (s : Int) / 256 % 256 := by rw [UInt8.toNat_ofNat']; omega
  have HF0 := Sec.mk (fun w => Row.one w 5 _ _ (be4_0 s hcl))
  have HF1 := Sec.mk (fun w => Row.one w 5 _ _ hq1)
  have HF2 := Sec.mk (fun w => Row.one w 5 _ _ hq2)
  have HF3 := Sec.mk (fun w => Row.one w 5 _ _ (u8_mod s))
  clear hq1 hq2
  go_wp2
  go_loopw [3, 5] (fun o i wr => ∃ (m : Nat) (A' : Option Addr) (n' c' : Nat), m ≤ 4 ∧ i = .int .i64 (3 - m) ∧ o = .slice A' n' c' ∧ Mine Ty.byte 5 w wr (.slice A' n' c') (len2 xs.length ++ (be4 s).take m)) (fun _ i _ => ((intOf i) + 1).toNat)
  case atStart => exact ⟨0, _, _, _, by omega, rfl, rfl, by simpa using HK⟩
  case round =>
    obtain ⟨m, A', n', c', hm, rfl, rfl, HO⟩ := hrel
    clear HK HN
    rcases (show m = 0 ∨ m = 1 ∨ m = 2 ∨ m = 3 ∨ m = 4 by omega) with rfl | rfl | rfl | rfl | rfl
    · go_wp2_with (at_builtin; refine wpList_app _ rfl (.tmp 24) (.tmp 31) _ rfl Tryd.underlying32 elt_byte flat_byte rfl rfl (HO.alloc _) (HF0.out _) (by simp [len2, be4]) ?_; intro A6 n6 c6 w6 HO6)
      go_roundw
      case rel => exact ⟨1, A6, n6, c6, by omega, by go_num, rfl, by simpa [be4] using HO6⟩
      case measure => simp [intOf]
    · go_wp2_with (at_builtin; refine wpList_app _ rfl (.tmp 24) (.tmp 31) _ rfl Tryd.underlying32 elt_byte flat_byte rfl rfl (HO.alloc _) (HF1.out _) (by simp [len2, be4]) ?_; intro A6 n6 c6 w6 HO6)
      go_roundw
      case rel => exact ⟨2, A6, n6, c6, by omega, by go_num, rfl, by simpa [be4] using HO6⟩
      case measure => simp [intOf]
    · go_wp2_with (at_builtin; refine wpList_app _ rfl (.tmp 24) (.tmp 31) _ rfl Tryd.underlying32 elt_byte flat_byte rfl rfl (HO.alloc _) (HF2.out _) (by simp [len2, be4]) ?_; intro A6 n6 c6 w6 HO6)
      go_roundw
      case rel => exact ⟨3, A6, n6, c6, by omega, by go_num, rfl, by simpa [be4] using HO6⟩
      case measure => simp [intOf]
    · go_wp2_with (at_builtin; refine wpList_app _ rfl (.tmp 24) (.tmp 31) _ rfl Tryd.underlying32 elt_byte flat_byte rfl rfl (HO.alloc _) (HF3.out _) (by simp [len2, be4]) ?_; intro A6 n6 c6 w6 HO6)
      go_roundw
      case rel => exact ⟨4, A6, n6, c6, by omega, by go_num, rfl, by simpa [be4] using HO6⟩
      case measure => simp [intOf]
    · go_wp2_with (at_builtin; refine wpList_app _ rfl (.tmp 33) (.tmp 34) _ rfl Tryd.underlying32 elt_byte flat_byte rfl rfl HO (HO.read HR.out hB) (by simp [len2, be4]; omega) ?_; intro A6 n6 c6 w6 HO6)
      go_ret
      rw [HD.out]
      exact HO6.ret
def okRec (x : Bytes) : Prop := 1 ≤ x.length ∧ x.length ≤ 2000
instance (x : Bytes) : Decidable (okRec x) := by unfold okRec; infer_instance
def okLog (xs : List Bytes) : Prop := (∀ x, x ∈ xs → okRec x) ∧ (xs.flatMap frameL).length ≤ 40000
instance (xs : List Bytes) : Decidable (okLog xs) := by unfold okLog; infer_instance
def logL (xs : List Bytes) : Bytes := if okLog xs then xs.flatMap frameL else []
theorem flatMap_step {f : Bytes → Bytes} {xs : List Bytes} {k : Nat} (h : k < xs.length) : (xs.take (k + 1)).flatMap f = (xs.take k).flatMap f ++ f xs[k] := by
  rw [List.take_succ_eq_append_getElem h, List.flatMap_append]; simp
theorem flatMap_len_le {f : Bytes → Bytes} (xs : List Bytes) (k : Nat) : ((xs.take k).flatMap f).length ≤ (xs.flatMap f).length := by
  have : xs.flatMap f = (xs.take k).flatMap f ++ (xs.drop k).flatMap f := by rw [← List.flatMap_append, List.take_append_drop]
  rw [this, List.length_append]; omega
theorem logL_bad {xs : List Bytes} {k : Nat} (h : k < xs.length) (hb : ¬ okRec xs[k]) : logL xs = [] := if_neg fun hg => hb (hg.1 _ (List.getElem_mem _))
theorem logL_big {xs : List Bytes} {k : Nat} (hb : 40000 < ((xs.take k).flatMap frameL).length) : logL xs = [] := if_neg fun hg => by have := flatMap_len_le (f := frameL) xs k; have := hg.2; omega
theorem logL_good {xs : List Bytes} (h : ∀ j, (hj : j < xs.length) → okRec xs[j]) (h2 : (xs.flatMap frameL).length ≤ 40000) : logL xs = xs.flatMap frameL := if_pos ⟨fun x hx => by obtain ⟨j, hj, rfl⟩ := List.getElem_of_mem hx; exact h j hj, h2⟩

set_option maxHeartbeats 1000000 in
set_option maxRecDepth 100000 in
theorem frameSpec_calls {A : Option Addr} {c : Nat} {xs : List Bytes} {B : Nat → Prop} {w : World} (h : Row tB w B A xs.length xs) (hB : ∀ k, B k → k < w.heap.size) :
    Calls Tryd.prog 52 #[.slice A xs.length c] w (RetOwn Ty.byte 5 w (logL xs)) := by
  have HR := Sec.mk h
  have hl := h.2.1
  clear h
  go_enter Tryd.func52, Tryd.ntmps52
  go_wp2
  go_loopw [3, 8] (fun o i wr => ∃ (k : Nat) (A' : Option Addr) (n' c' : Nat), k ≤ xs.length ∧ i = .int .i64 k ∧ o = .slice A' n' c' ∧ Mine Ty.byte 5 w wr (.slice A' n' c') ((xs.take k).flatMap frameL) ∧ Sec (∀ j, j < k → (hj : j < xs.length) → okRec xs[j]) ∧ n' ≤ 40000) (fun _ i _ => xs.length - (intOf i).toNat)
  case atStart => exact ⟨0, none, 0, 0, Nat.zero_le _, rfl, rfl, Mine.nil _ _ (Mod.refl _ _), ⟨fun j hj => absurd hj (Nat.not_lt_zero _)⟩, by omega⟩
  case round =>
    obtain ⟨k, A', n', c', hk, rfl, rfl, HO, HG, hn⟩ := hrel
    by_cases hlt : k < xs.length
    · obtain ⟨ad, A1, c1, rfl, hx0, hxc, hrow⟩ := bss_at HR.out (fun i hi => HO.new.block i (hB i hi) id) hlt
      have hxl := hrow.2.1
      have hnl := HO.len
      have HX := Sec.mk hrow
      have HS := Sec.mk (flatMap_step (f := frameL) hlt)
      have HBD := Sec.mk (logL_bad hlt)
      have HBG := Sec.mk (logL_big (xs := xs) (k := k + 1))
      have HK : Sec (okRec xs[k] ↔ 1 ≤ xs[k].length ∧ xs[k].length ≤ 2000) := ⟨Iff.rfl⟩
      have HFL := Sec.mk (frameL_len xs[k])
      have HG' : Sec (okRec xs[k] → ∀ j, j < k + 1 → (hj : j < xs.length) → okRec xs[j]) := ⟨fun h j hj hjx => by
        rcases Nat.lt_or_ge j k with h1 | h1
        · exact HG.out j h1 hjx
        · obtain rfl : j = k := by omega
          exact h⟩
      clear hrow hxc
      generalize xs[k] = x at *
      generalize (xs.take k).flatMap frameL = zs at *
      obtain ⟨rfl, hnc, hcc⟩ := hnl
      by_cases hg : 1 ≤ x.length ∧ x.length ≤ 2000
      · by_cases hbig : zs.length + 6 + x.length ≤ 40000
        · go_wp2_with fail
          refine (l2Frame_calls (HX.out) (fun k hk => Nat.lt_of_lt_of_le (hB k hk) HO.new.size) hg.1 hg.2).mono ?_
          rintro e w2 h2
          obtain ⟨A2, c2, rfl, HF⟩ := h2.mine
          clear h2
          go_wp2_with (at_builtin; refine wpList_app _ rfl (.tmp 29) (.tmp 31) _ rfl Tryd.underlying32 elt_byte flat_byte rfl rfl (HO.step HF.new) HF.row (show zs.length + (frameL x).length ≤ 34359738368 by have := HFL.out; omega) ?_; intro A3 n3 c3 w3 HO3)
          have hn3 := HO3.len.1
          rw [List.length_append, HFL.out] at hn3
          go_roundw
          case rel => exact ⟨k + 1, A3, n3, c3, by omega, by go_num, rfl, by rw [HS.out]; exact HO3, ⟨HG'.out (HK.out.2 hg)⟩, by omega⟩
          case measure => simp [intOf]; omega
        · go_wp2
          go_ret
          rw [HBG.out (by rw [HS.out, List.length_append, HFL.out]; omega)]
          exact (Mine.nil _ _ HO.new).ret
      · have hgd : x.length < 1 ∨ 2000 < x.length := by omega
        rcases hgd with hgd | hgd
        · go_wp2
          go_ret
          rw [HBD.out (fun h => hg (HK.out.1 h))]
          exact (Mine.nil _ _ HO.new).ret
        · go_wp2
          go_ret
          rw [HBD.out (fun h => hg (HK.out.1 h))]
          exact (Mine.nil _ _ HO.new).ret
    · obtain rfl : k = xs.length := by omega
      have hnl := HO.len.1
      go_wp2
      go_ret
      rw [List.take_length] at HO hnl
      rw [logL_good (fun j hj => HG.out j hj hj) (by omega)]
      exact HO.ret
set_option maxHeartbeats 1000000 in
set_option maxRecDepth 100000 in
theorem frameImpl_calls {A : Option Addr} {c : Nat} {xs : List Bytes} {B : Nat → Prop} {w : World} (h : Row tB w B A xs.length xs) (hB : ∀ k, B k → k < w.heap.size) :
    Calls Tryd.prog 56 #[.slice A xs.length c] w (RetOwn Ty.byte 5 w (logL xs)) := by
  have HR := Sec.mk h
  have hl := h.2.1
  clear h
  go_enter Tryd.func56, Tryd.ntmps56
  go_wp2
  go_loopw [3, 9] (fun o i wr => ∃ (k : Nat) (A' : Option Addr) (n' c' : Nat), k ≤ xs.length ∧ i = .int .i64 k ∧ o = .slice A' n' c' ∧ Mine Ty.byte 5 w wr (.slice A' n' c') ((xs.take k).flatMap frameL) ∧ Sec (∀ j, j < k → (hj : j < xs.length) → okRec xs[j]) ∧ n' ≤ 40000) (fun _ i _ => xs.length - (intOf i).toNat)
  case atStart => exact ⟨0, _, 0, 0, Nat.zero_le _, rfl, rfl, Mine.lit0 _ rfl (Mod.refl _ _), ⟨fun j hj => absurd hj (Nat.not_lt_zero _)⟩, by omega⟩
  case round =>
    obtain ⟨k, A', n', c', hk, rfl, rfl, HO, HG, hn⟩ := hrel
    by_cases hlt : k < xs.length
    · obtain ⟨ad, A1, c1, rfl, hx0, hxc, hrow⟩ := bss_at HR.out (fun i hi => HO.new.block i (hB i hi) id) hlt
      have hxl := hrow.2.1
      have hnl := HO.len
      have HX := Sec.mk hrow
      have HXW := Sec.mk (hrow.mod (fun _ h => h) (fun k hk => (HO.new.block k (hB k hk) id).symm))
      have HS := Sec.mk (flatMap_step (f := frameL) hlt)
      have HBD := Sec.mk (logL_bad hlt)
      have HBG := Sec.mk (logL_big (xs := xs) (k := k + 1))
      have HK : Sec (okRec xs[k] ↔ 1 ≤ xs[k].length ∧ xs[k].length ≤ 2000) := ⟨Iff.rfl⟩
      have HFL := Sec.mk (frameL_len xs[k])
      have HG' : Sec (okRec xs[k] → ∀ j, j < k + 1 → (hj : j < xs.length) → okRec xs[j]) := ⟨fun h j hj hjx => by
        rcases Nat.lt_or_ge j k with h1 | h1
        · exact HG.out j h1 hjx
        · obtain rfl : j = k := by omega
          exact h⟩
      clear hrow hxc
      generalize xs[k] = x at *
      generalize (xs.take k).flatMap frameL = zs at *
      obtain ⟨rfl, hnc, hcc⟩ := hnl
      by_cases hg : 1 ≤ x.length ∧ x.length ≤ 2000
      · go_wp2_with fail
        refine (headOf_calls (HX.out) (fun k hk => Nat.lt_of_lt_of_le (hB k hk) HO.new.size) hg.1 hg.2).mono ?_
        rintro e w2 h2
        obtain ⟨A2, c2, rfl, HF⟩ := h2.mine
        clear h2
        have HX2 := Sec.mk (HF.read HX.out (fun k hk => Nat.lt_of_lt_of_le (hB k hk) HO.new.size))
        have HFD : Sec (frameL x = headL x ++ x) := ⟨rfl⟩
        have HHL := Sec.mk (headL_len x)
        by_cases hbig : zs.length + 6 + x.length ≤ 40000
        · go_wp2_with (first
            | (at_builtin; refine wpList_app _ rfl (.tmp 21) (.tmp 23) _ rfl Tryd.underlying32 elt_byte flat_byte rfl rfl (HO.step HF.new) HF.row (show zs.length + (headL x).length ≤ 34359738368 by have := HHL.out; omega) ?_; intro A3 n3 c3 w3 HO3)
            | (at_builtin; refine wpList_app _ rfl (.tmp 24) (.tmp 25) _ rfl Tryd.underlying32 elt_byte flat_byte rfl rfl HO3 (HO3.read HXW.out hB) (show (zs ++ headL x).length + x.length ≤ 34359738368 by have := HHL.out; rw [List.length_append]; omega) ?_; intro A4 n4 c4 w4 HO4; have hn4 : n4 ≤ 40000 := by have := HO4.len.1; rw [List.length_append, List.length_append, HHL.out] at this; omega))
          go_roundw
          case rel => exact ⟨k + 1, A4, n4, c4, by omega, by go_num, rfl, by rw [HS.out, HFD.out, ← List.append_assoc]; exact HO4, ⟨HG'.out (HK.out.2 hg)⟩, by omega⟩
          case measure => simp [intOf]; omega
        · go_wp2_with (first
            | (at_builtin; refine wpList_app _ rfl (.tmp 21) (.tmp 23) _ rfl Tryd.underlying32 elt_byte flat_byte rfl rfl (HO.step HF.new) HF.row (show zs.length + (headL x).length ≤ 34359738368 by have := HHL.out; omega) ?_; intro A3 n3 c3 w3 HO3)
            | (at_builtin; refine wpList_app _ rfl (.tmp 24) (.tmp 25) _ rfl Tryd.underlying32 elt_byte flat_byte rfl rfl HO3 (HO3.read HXW.out hB) (show (zs ++ headL x).length + x.length ≤ 34359738368 by have := HHL.out; rw [List.length_append]; omega) ?_; intro A4 n4 c4 w4 HO4; have hn4 : 40000 < n4 := by have := HO4.len.1; rw [List.length_append, List.length_append, HHL.out] at this; omega))
          go_ret
          rw [HBG.out (by rw [HS.out, List.length_append, HFL.out]; omega)]
          exact (Mine.nil _ _ HO4.new).ret
      · have hgd : x.length < 1 ∨ 2000 < x.length := by omega
        rcases hgd with hgd | hgd
        · go_wp2
          go_ret
          rw [HBD.out (fun h => hg (HK.out.1 h))]
          exact (Mine.nil _ _ HO.new).ret
        · go_wp2
          go_ret
          rw [HBD.out (fun h => hg (HK.out.1 h))]
          exact (Mine.nil _ _ HO.new).ret
    · obtain rfl : k = xs.length := by omega
      have hnl := HO.len.1
      go_wp2
      go_ret
      rw [List.take_length] at HO hnl
      rw [logL_good (fun j hj => HG.out j hj hj) (by omega)]
      exact HO.ret
end Go.Proofs.YtiaknomadhgckaaDoor
