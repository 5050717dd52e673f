/- What the walks over disks share. The plain law of a crash. Operations on a disk, in plain lists. Sums over a disk, of the specification. The laws' helpers over Content. How many marks a disk holds; loads of whole disks. Three rows of one disk of the call's own. The four own rows of one disk. -/
import Derived.Test.YtkkgighgnbbgiaaDoorPk4
import Derived.Test.YtkkgighgnbbgiaaDoorPk1
import Derived.Test.YtkkgighgnbbgiaaDoorPk2
import Derived.Test.YtkkgighgnbbgiaaDoorProg
import Derived.WalkKit
import Derived.Test.YtkkgighgnbbgiaaDoorPk3
namespace Go.Proofs.YtkkgighgnbbgiaaDoor
open Go.RowKit Mem
set_option linter.unusedVariables false
set_option linter.unusedSimpArgs false
theorem valid_names {d : DiskT} (h : DiskValidL d = true) : Ord d.2.1 ∧ ∀ k, (hk : k < d.2.1.length) → 0 ≤ d.2.1[k].2 ∧ d.2.1[k].2 < d.1.length := by
  have h1 := ((DiskValidL_iff d).1 h).2.2.2.2.2.2.1
  refine ⟨inOrdL_ord h1, fun k hk => ?_⟩
  have h2 := ((inOrdL_iff _ _).1 h1).2 k hk
  exact ⟨h2.2.1, h2.2.2.1⟩
theorem valid_lens {d : DiskT} (h : DiskValidL d = true) : d.1.length ≤ 600 ∧ d.2.1.length ≤ 300 ∧ ∀ k, (hk : k < d.1.length) → d.1[k].1.length ≤ 40000 := by
  have hh := (DiskValidL_iff d).1 h
  refine ⟨hh.2.2.1, ((inOrdL_iff _ _).1 hh.2.2.2.2.2.2.1).1, fun k hk => ?_⟩
  have := hh.2.2.2.2.1 k hk
  unfold nodeOk at this
  exact (of_decide_eq_true this).1
set_option maxHeartbeats 2000000 in
set_option maxRecDepth 100000 in
theorem l1Bytes_calls {A : Option Addr} {c : Nat} {xs : Bytes} {B : Nat → Prop} {w : World} (h : Row Ty.byte w B A xs.length xs) (hB : ∀ k, B k → k < w.heap.size) (hl : xs.length ≤ 1048576) : Calls Tryd.prog 38 #[.slice A xs.length c] w (RetOwn Ty.byte 5 w xs) := by
  have HR := Sec.mk h
  have HB := Sec.mk hB
  clear h hB
  go_enter Tryd.func38, Tryd.ntmps38
  go_wp2_with (first
    | (refine wpList_mk _ rfl (.tmp 5) _ rfl Ty.byte 5 Tryd.underlying22 elt_byte 0 (fun _ => ⟨rfl, rfl⟩) xs.length rfl (by omega) ?_; intro w1 ho1; have HO1 := Sec.mk ho1; clear ho1)
    | (refine wpList_copyAll _ rfl (.tmp 7) (.tmp 8) _ _ rfl Tryd.underlying22 elt_byte rfl flat_byte rfl rfl HO1.out (HO1.out.read HR.out HB.out) ?_; intro w2 ho2; have HO2 := Sec.mk ho2; clear ho2))
  go_wp2
  go_ret
  exact HO2.out.ret
theorem fptDisk0 (p : Addr) (w : World) : (Instr.fieldAt 27 (.pointer (some p)) 0).run Tryd.prog w = .ok (.pointer (some p)) w := by go_simp
theorem fptDisk1 (p : Addr) (w : World) : (Instr.fieldAt 27 (.pointer (some p)) 1).run Tryd.prog w = .ok (.pointer (some ⟨p.block, p.off + 1, none⟩)) w := by go_simp
theorem fptEntry1D (p : Addr) (w : World) : (Instr.fieldAt 37 (.pointer (some p)) 1).run Tryd.prog w = .ok (.pointer (some ⟨p.block, p.off + 1, none⟩)) w := by go_simp
theorem fptNode0D (p : Addr) (w : World) : (Instr.fieldAt 49 (.pointer (some p)) 0).run Tryd.prog w = .ok (.pointer (some p)) w := by go_simp
theorem ldNodesD {w : World} {p : Addr} {v : Value} (h : w.cell? p = some v) : (Instr.loadAt 23 (.pointer (some p))).run Tryd.prog w = .ok v w := by go_simp
theorem ldEntsD {w : World} {p : Addr} {v : Value} (h : w.cell? p = some v) : (Instr.loadAt 24 (.pointer (some p))).run Tryd.prog w = .ok v w := by go_simp
theorem ldIntD {w : World} {p : Addr} {v : Value} (h : w.cell? p = some v) : (Instr.loadAt 3 (.pointer (some p))).run Tryd.prog w = .ok v w := by go_simp
theorem ldBytesD {w : World} {p : Addr} {v : Value} (h : w.cell? p = some v) : (Instr.loadAt 22 (.pointer (some p))).run Tryd.prog w = .ok v w := by go_simp
set_option maxHeartbeats 1000000 in
theorem l1Entries_calls {A : Option Addr} {c : Nat} {xs : EntryST} {B : Nat → Prop} {w : World} (h : Row dEntry w B A xs.length xs) (hl : xs.length ≤ 1048576) : Calls Tryd.prog 37 #[.slice A xs.length c] w (RetOwn dEntry 37 w xs) := by
  have HR := Sec.mk h
  have HO : Sec (Mine dEntry 37 w w (.slice none 0 0) ([] : EntryST)) := ⟨⟨[], Own.nil _ _ _, by simp⟩, Mod.refl _ _⟩
  clear h
  go_enter Tryd.func37, Tryd.ntmps37
  go_wp2_with (at_builtin; go_loud (refine wpList_app _ rfl (.tmp 4) (.tmp 5) _ rfl Tryd.underlying24 elt_entry flatEntry rfl rfl HO.out HR.out (show ([] : EntryST).length + xs.length ≤ 34359738368 by simp; omega) ?_; intro A2 n2 c2 w2 ho2; have HO2 := Sec.mk ho2; clear ho2))
  go_wp2
  go_ret
  exact HO2.out.ret
theorem l1Bytes_at {A : Option Addr} {n c : Nat} {xs : Bytes} {B : Nat → Prop} {w : World} (h : Row Ty.byte w B A n xs) (hB : ∀ k, B k → k < w.heap.size) (hl : xs.length ≤ 1048576) : Calls Tryd.prog 38 #[.slice A n c] w (RetOwn Ty.byte 5 w xs) := by
  obtain rfl := h.1
  exact l1Bytes_calls h hB hl
end Go.Proofs.YtkkgighgnbbgiaaDoor

namespace Go.Proofs.YtkkgighgnbbgiaaDoor
set_option linter.unusedVariables false
def runL (nodes : Int) : List EntL → List DopL → List EntL
  | l, [] => l
  | l, o :: r => runL nodes ((replayL l o nodes).getD []) r
theorem runL_snoc (nodes : Int) (o : DopL) : ∀ (p : List DopL) (l : List EntL), runL nodes l (p ++ [o]) = (replayL (runL nodes l p) o nodes).getD [] := by
  intro p
  induction p with
  | nil => intro l; rfl
  | cons a r ih => intro l; exact ih _
theorem runL_take (nodes : Int) (l : List EntL) (p : List DopL) {k : Nat} (hk : k < p.length) : runL nodes l (p.take (k + 1)) = (replayL (runL nodes l (p.take k)) p[k] nodes).getD [] := by
  rw [List.take_succ_eq_append_getElem hk, runL_snoc]
def InR (nodes : Int) (l : List EntL) : Prop := ∀ e, e ∈ l → 0 ≤ e.2 ∧ e.2 < nodes
theorem inR_of {l : List EntL} {nodes : Int} (h : inOrdL l nodes = true) : InR nodes l := by
  unfold inOrdL at h
  simp only [Bool.and_eq_true, decide_eq_true_eq, List.all_eq_true] at h
  intro e he
  exact (h.1.2 e he).2
theorem inR_out {l : List EntL} {nodes : Int} (h : InR nodes l) (n : LB) : InR nodes (outE l n) := fun e he => h e (List.mem_filter.1 he).1
theorem inR_with {l : List EntL} {nodes : Int} (h : InR nodes l) (n : LB) {k : Int} (h0 : 0 ≤ k) (h1 : k < nodes) : InR nodes (withE l n k) := by
  intro e he
  unfold withE lowE highE at he
  rcases List.mem_append.1 he with he | he
  · exact h e (List.mem_filter.1 he).1
  · rcases List.mem_cons.1 he with he | he
    · subst he; exact ⟨h0, h1⟩
    · exact h e (List.mem_filter.1 he).1
theorem inR_replay {l m : List EntL} {o : DopL} {nodes : Int} (ho : Ord l) (h : InR nodes l) (hr : replayL l o nodes = some m) : InR nodes m := by
  unfold replayL at hr
  split at hr
  · split at hr
    · rename_i hh
      rw [← Option.some.inj hr]
      exact inR_with h _ hh.2.2.1 hh.2.2.2.1
    · cases hr
  · split at hr
    · split at hr
      · rename_i hh
        rw [← Option.some.inj hr]
        obtain ⟨hl, -⟩ := (place_at ho o.2.1).1.mp hh.1
        have := h _ (List.getElem_mem hl)
        refine inR_with (inR_out h _) _ ?_ ?_
        · rw [List.getElem?_eq_getElem hl]; exact this.1
        · rw [List.getElem?_eq_getElem hl]; exact this.2
      · cases hr
    · split at hr
      · split at hr
        · rw [← Option.some.inj hr]
          exact inR_out h _
        · cases hr
      · cases hr
theorem replays_step {nodes : Int} {l names : List EntL} {p : List DopL} {k : Nat} (hk : k < p.length) (h : replaysL nodes l (p.drop k) = some names) :
    ∃ m, replayL l p[k] nodes = some m ∧ m.length ≤ 300 ∧ replaysL nodes m (p.drop (k + 1)) = some names := by
  rw [replaysL_at hk] at h
  cases hr : replayL l p[k] nodes with
  | none => rw [hr] at h; cases h
  | some m =>
    rw [hr] at h
    simp only at h
    by_cases hm : m.length ≤ 300
    · rw [if_pos hm] at h; exact ⟨m, rfl, hm, h⟩
    · rw [if_neg hm] at h; cases h
def keepN (n : NodL) (picks : List Int) (i : Nat) : Int :=
  if 0 < picks.length then (if 0 < picks[i % picks.length]?.getD 0 then n.2 + (picks[i % picks.length]?.getD 0) % ((n.1.length : Int) - n.2 + 1) else n.2) else n.2
theorem keepN_in {n : NodL} (h : nodeOk n = true) (picks : List Int) (i : Nat) : 0 ≤ keepN n picks i ∧ keepN n picks i ≤ n.1.length := by
  unfold nodeOk at h
  have h := of_decide_eq_true h
  unfold keepN
  split
  · split
    · have h1 := Int.emod_nonneg (picks[i % picks.length]?.getD 0) (b := (n.1.length : Int) - n.2 + 1) (by omega)
      have h2 := Int.emod_lt_of_pos (picks[i % picks.length]?.getD 0) (b := (n.1.length : Int) - n.2 + 1) (by omega)
      omega
    · omega
  · omega
def crashNode (nodes : List NodL) (picks : List Int) (i : Nat) (e : EntL) : NodL :=
  ((nodes[e.2.toNat]?.getD ([], 0)).1.take (keepN (nodes[e.2.toNat]?.getD ([], 0)) picks i).toNat, keepN (nodes[e.2.toNat]?.getD ([], 0)) picks i)
theorem crashNode_at {nodes : List NodL} {nd : Nat} (h : nd < nodes.length) (picks : List Int) (i : Nat) (nm : LB) : crashNode nodes picks i (nm, (nd : Int)) = (nodes[nd].1.take (keepN nodes[nd] picks i).toNat, keepN nodes[nd] picks i) := by
  have e : (nodes[((nm, (nd : Int)) : EntL).2.toNat]?.getD ([], 0)) = nodes[nd] := by
    show nodes[((nd : Int)).toNat]?.getD ([], 0) = _
    rw [Int.toNat_natCast, List.getElem?_eq_getElem h]
    rfl
  unfold crashNode
  rw [e]
def crashNs (nodes : List NodL) (picks : List Int) (l : List EntL) : List NodL := l.mapIdx (crashNode nodes picks)
def crashEs (l : List EntL) : List EntL := l.mapIdx fun i e => (e.1, (i : Int))
theorem crashNs_take (nodes : List NodL) (picks : List Int) (l : List EntL) {k : Nat} (hk : k < l.length) : crashNs nodes picks (l.take (k + 1)) = crashNs nodes picks (l.take k) ++ [crashNode nodes picks k l[k]] := by
  unfold crashNs
  rw [List.take_succ_eq_append_getElem hk, List.mapIdx_concat]
  simp [Nat.min_eq_left (Nat.le_of_lt hk)]
theorem crashEs_take (l : List EntL) {k : Nat} (hk : k < l.length) : crashEs (l.take (k + 1)) = crashEs (l.take k) ++ [(l[k].1, (k : Int))] := by
  unfold crashEs
  rw [List.take_succ_eq_append_getElem hk, List.mapIdx_concat]
  simp [Nat.min_eq_left (Nat.le_of_lt hk)]
def listAt (d : DiskL) (dirs : Int) : List EntL := runL d.1.length d.2.2.1 (d.2.2.2.1.take dirs.toNat)
def crashL (d : DiskL) (dirs : Int) (picks : List Int) : DiskL :=
  if DiskValidL d = true then (crashNs d.1 picks (listAt d dirs), crashEs (listAt d dirs), crashEs (listAt d dirs), [], d.2.2.2.2) else ([], [], [], [], 0)
theorem crashEs_len (l : List EntL) : (crashEs l).length = l.length := by simp [crashEs]
theorem crashNs_len (nodes : List NodL) (picks : List Int) (l : List EntL) : (crashNs nodes picks l).length = l.length := by simp [crashNs]
end Go.Proofs.YtkkgighgnbbgiaaDoor

namespace Go.Proofs.YtkkgighgnbbgiaaDoor
set_option linter.unusedVariables false
abbrev OpL := Int × LB × LB × LB
def nodeAt (d : DiskL) (i : Int) : NodL := d.1[i.toNat]?.getD ([], 0)
def settleL (d : DiskL) : DiskL := (d.2.1.map fun e => nodeAt d e.2, crashEs d.2.1, crashEs d.2.1, [], d.2.2.2.2)
def usedL (d : DiskL) : Nat := (d.2.1.map fun e => (nodeAt d e.2).1.length).sum
def dirL (d : DiskL) (x : DopL) : DiskL := (d.1, (replayL d.2.1 x d.1.length).getD [], d.2.2.1, d.2.2.2.1 ++ [x], d.2.2.2.2)
def withNode (d : DiskL) (i : Int) (n : NodL) : DiskL := (d.1.set i.toNat n, d.2)
def nodeOf (d : DiskL) (nm : LB) : Int := (d.2.1[placeE d.2.1 nm]?.getD ([], 0)).2
def oneL (d : DiskL) (o : OpL) : DiskL × Int :=
  if o.1 < 1 ∨ 6 < o.1 then (d, 2)
  else if o.1 = 6 then (settleL d, 0)
  else if goodL o.2.1 = false ∨ (o.1 = 4 ∧ goodL o.2.2.1 = false) then (d, 3)
  else if o.1 = 1 then
    (if 600 ≤ d.1.length ∨ 1000 ≤ d.2.2.2.1.length ∨ (hasE d.2.1 o.2.1 = false ∧ 300 ≤ d.2.1.length) then (d, 6)
     else (dirL (d.1 ++ [([], 0)], d.2) (1, o.2.1, [], (d.1.length : Int)), 0))
  else if hasE d.2.1 o.2.1 = false then (d, 4)
  else if o.1 = 2 then
    (if d.2.2.2.2 < (usedL d : Int) + (o.2.2.2.length : Int) then (d, 5)
     else if 40000 < (nodeAt d (nodeOf d o.2.1)).1.length + o.2.2.2.length ∨ 200000 < sumD d.1 + o.2.2.2.length then (d, 6)
     else (withNode d (nodeOf d o.2.1) ((nodeAt d (nodeOf d o.2.1)).1 ++ o.2.2.2, (nodeAt d (nodeOf d o.2.1)).2), 0))
  else if o.1 = 3 then (withNode d (nodeOf d o.2.1) ((nodeAt d (nodeOf d o.2.1)).1, ((nodeAt d (nodeOf d o.2.1)).1.length : Int)), 0)
  else if o.1 = 4 ∧ o.2.2.1 = o.2.1 then (d, 0)
  else if 1000 ≤ d.2.2.2.1.length then (d, 6)
  else (dirL d (o.1, o.2.1, if o.1 = 4 then o.2.2.1 else [], 0), 0)
def doL : DiskL → List OpL → Nat → DiskL × (Int × Int)
  | d, [], n => (d, ((n : Int), 0))
  | d, o :: r, n => if (oneL d o).2 = 0 then doL (oneL d o).1 r (n + 1) else (d, ((n : Int), (oneL d o).2))
def diskDoL (d : DiskL) (ops : List OpL) : DiskL × (Int × Int) :=
  if ops.length ≤ 2000 ∧ DiskValidL d = true then doL d ops 0 else (([], [], [], [], 0), (0, 1))
structure DInv (N : Nat) (d : DiskL) : Prop where
  nodes : d.1.length ≤ 600 + N
  names : d.2.1.length ≤ N
  pend : d.2.2.2.1.length ≤ 1000
  len : ∀ n, n ∈ d.1 → n.1.length ≤ 40000
  ord : Ord d.2.1
  inr : InR d.1.length d.2.1
  quota : 0 ≤ d.2.2.2.2 ∧ d.2.2.2.2 ≤ 1000000
theorem DInv.mono {N M : Nat} {d : DiskL} (h : DInv N d) (hm : N ≤ M) : DInv M d := ⟨Nat.le_trans h.nodes (by omega), Nat.le_trans h.names hm, h.pend, h.len, h.ord, h.inr, h.quota⟩
theorem DInv.of_valid {d : DiskL} (h : DiskValidL d = true) : DInv 300 d := by
  have hok := (DiskValidL_iff d).1 h
  refine ⟨by have := hok.2.2.1; omega, ((inOrdL_iff d.2.1 d.1.length).1 hok.2.2.2.2.2.2.1).1, hok.2.2.2.1, fun n hn => ?_, inOrdL_ord hok.2.2.2.2.2.2.1, inR_of hok.2.2.2.2.2.2.1, hok.1, hok.2.1⟩
  obtain ⟨k, hk, rfl⟩ := List.getElem_of_mem hn
  have := hok.2.2.2.2.1 k hk
  unfold nodeOk at this
  exact (of_decide_eq_true this).1
theorem nodeAt_len {N : Nat} {d : DiskL} (h : DInv N d) (i : Int) : (nodeAt d i).1.length ≤ 40000 := by
  unfold nodeAt
  by_cases hk : i.toNat < d.1.length
  · rw [List.getElem?_eq_getElem hk]; exact h.len _ (List.getElem_mem hk)
  · rw [List.getElem?_eq_none (by omega)]; simp
theorem ord_crash {l : List EntL} (h : Ord l) : Ord (crashEs l) := by
  unfold Ord at *
  rw [List.pairwise_iff_getElem] at *
  intro i j hi hj hij
  unfold crashEs at *
  simp only [List.getElem_mapIdx]
  exact h i j (by simpa using hi) (by simpa using hj) hij
theorem inR_crash (l : List EntL) : InR l.length (crashEs l) := by
  intro e he
  unfold crashEs at he
  obtain ⟨i, hi, rfl⟩ := List.mem_mapIdx.1 he
  exact ⟨by omega, by simp only; omega⟩
theorem InR.mono {n m : Int} {l : List EntL} (h : InR n l) (hnm : n ≤ m) : InR m l := fun e he => ⟨(h e he).1, Int.lt_of_lt_of_le (h e he).2 hnm⟩
theorem DInv.settle {N : Nat} {d : DiskL} (h : DInv N d) : DInv N (settleL d) := by
  refine ⟨?_, ?_, by simp [settleL], ?_, ord_crash h.ord, ?_, h.quota⟩
  · simp only [settleL, List.length_map]; have := h.names; omega
  · simp only [settleL, crashEs_len]; exact h.names
  · intro n hn
    obtain ⟨e, he, rfl⟩ := List.mem_map.1 hn
    exact nodeAt_len h _
  · simp only [settleL, List.length_map]
    exact inR_crash _
theorem DInv.dir {N : Nat} {d : DiskL} (h : DInv N d) (x : DopL) (hp : d.2.2.2.1.length < 1000) : DInv (N + 1) (dirL d x) := by
  have hb := h.names
  have hn := h.nodes
  cases hr : replayL d.2.1 x d.1.length with
  | none =>
    have e : dirL d x = (d.1, [], d.2.2.1, d.2.2.2.1 ++ [x], d.2.2.2.2) := by unfold dirL; rw [hr]; rfl
    rw [e]
    exact ⟨by simp only; omega, by simp, by simp; omega, h.len, List.Pairwise.nil, fun e he => (by cases he), h.quota⟩
  | some m =>
    have e : dirL d x = (d.1, m, d.2.2.1, d.2.2.2.1 ++ [x], d.2.2.2.2) := by unfold dirL; rw [hr]; rfl
    rw [e]
    exact ⟨by simp only; omega, by have := replayL_len hr; simp only; omega, by simp; omega, h.len, replayL_ord h.ord hr, inR_replay h.ord h.inr hr, h.quota⟩
theorem DInv.node {N : Nat} {d : DiskL} (h : DInv N d) (i : Int) {n : NodL} (hn : n.1.length ≤ 40000) : DInv N (withNode d i n) := by
  refine ⟨by simp only [withNode, List.length_set]; exact h.nodes, h.names, h.pend, fun m hm => ?_, h.ord, by simp only [withNode, List.length_set]; exact h.inr, h.quota⟩
  rcases List.mem_or_eq_of_mem_set hm with hm | rfl
  · exact h.len m hm
  · exact hn
theorem DInv.one {N : Nat} {d : DiskL} (h : DInv N d) (o : OpL) (hc : (oneL d o).2 = 0) : DInv (N + 1) (oneL d o).1 := by
  unfold oneL at hc ⊢
  split at hc
  · simp at hc
  rename_i h1
  rw [if_neg h1]
  split at hc
  · rename_i h2; rw [if_pos h2]; exact h.settle.mono (Nat.le_succ N)
  rename_i h2
  rw [if_neg h2]
  split at hc
  · simp at hc
  rename_i h3
  rw [if_neg h3]
  split at hc
  · rename_i h4
    rw [if_pos h4]
    split at hc
    · simp at hc
    rename_i h5
    rw [if_neg h5]
    have hn : d.1.length < 600 := by omega
    have hp : d.2.2.2.1.length < 1000 := by omega
    have hi : DInv N (d.1 ++ [([], 0)], d.2) := ⟨by simp only [List.length_append, List.length_singleton]; omega, h.names, h.pend, fun n hn => by
      rcases List.mem_append.1 hn with hn | hn
      · exact h.len n hn
      · rw [List.mem_singleton.1 hn]; simp, h.ord, by
      have := h.inr.mono (m := ((d.1 ++ [([], 0)]).length : Int)) (by simp; omega)
      exact this, h.quota⟩
    exact hi.dir _ hp
  rename_i h4
  rw [if_neg h4]
  split at hc
  · simp at hc
  rename_i h5
  rw [if_neg h5]
  split at hc
  · rename_i h6
    rw [if_pos h6]
    split at hc
    · simp at hc
    rename_i h7
    rw [if_neg h7]
    split at hc
    · simp at hc
    rename_i h8
    rw [if_neg h8]
    exact (h.node _ (by simp only [List.length_append]; omega)).mono (Nat.le_succ N)
  rename_i h6
  rw [if_neg h6]
  split at hc
  · rename_i h7
    rw [if_pos h7]
    have hh := h.node (nodeOf d o.2.1) (n := ((nodeAt d (nodeOf d o.2.1)).1, ((nodeAt d (nodeOf d o.2.1)).1.length : Int))) (nodeAt_len h (nodeOf d o.2.1))
    exact hh.mono (Nat.le_succ N)
  rename_i h7
  rw [if_neg h7]
  split at hc
  · rename_i h8; rw [if_pos h8]; exact h.mono (Nat.le_succ N)
  rename_i h8
  rw [if_neg h8]
  split at hc
  · simp at hc
  rename_i h9
  rw [if_neg h9]
  exact h.dir _ (by omega)
theorem sumD_le {N : Nat} {d : DiskL} (h : DInv N d) : sumD d.1 ≤ 40000 * d.1.length := by
  have key : ∀ l : List NodL, (∀ n, n ∈ l → n.1.length ≤ 40000) → sumD l ≤ 40000 * l.length := by
    intro l
    induction l with
    | nil => intro _; simp [sumD]
    | cons n r ih =>
      intro hl
      have h1 := ih (fun m hm => hl m (by simp [hm]))
      have h2 := hl n (by simp)
      unfold sumD at *
      simp only [List.map_cons, List.sum_cons, List.length_cons]
      omega
  exact key _ h.len
theorem sumD_take_le {l : List NodL} (h : ∀ n, n ∈ l → n.1.length ≤ 40000) : ∀ k, sumD (l.take k) ≤ 40000 * k := by
  intro k
  induction k with
  | zero => simp [sumD]
  | succ k ih =>
    by_cases hk : k < l.length
    · rw [sumD_take hk]; have := h _ (List.getElem_mem hk); omega
    · have e1 : l.take (k + 1) = l.take k := by rw [List.take_of_length_le (by omega), List.take_of_length_le (by omega)]
      rw [e1]; omega
theorem used_take {d : DiskL} {k : Nat} (hk : k < d.2.1.length) : ((d.2.1.take (k + 1)).map fun e => (nodeAt d e.2).1.length).sum = ((d.2.1.take k).map fun e => (nodeAt d e.2).1.length).sum + (nodeAt d d.2.1[k].2).1.length := by
  rw [List.take_succ_eq_append_getElem hk, List.map_append, List.sum_append]
  simp
theorem used_le {N : Nat} {d : DiskL} (h : DInv N d) : ∀ k, ((d.2.1.take k).map fun e => (nodeAt d e.2).1.length).sum ≤ 40000 * k := by
  intro k
  induction k with
  | zero => simp
  | succ k ih =>
    by_cases hk : k < d.2.1.length
    · rw [used_take hk]; have := nodeAt_len h d.2.1[k].2; omega
    · have e1 : d.2.1.take (k + 1) = d.2.1.take k := by rw [List.take_of_length_le (by omega), List.take_of_length_le (by omega)]
      rw [e1]; omega
end Go.Proofs.YtkkgighgnbbgiaaDoor

namespace Go.Proofs.YtkkgighgnbbgiaaDoor
open Go.RowKit Mem
set_option linter.unusedVariables false
set_option linter.unusedSimpArgs false
set_option maxHeartbeats 4000000 in
set_option maxRecDepth 100000 in
theorem l1Total_v {w : World} {v : Value} {d : DiskT} {N : Nat} (h : RdV true dDisk w v d) (hI : DInv N d) (hN : N ≤ 100000) : Calls Tryd.prog 43 #[v] w (Ret (.int .i64 ((sumD d.1 : Nat) : Int)) w) := by
  have HS := Sec.mk (sumD_take_le hI.len)
  have HL := Sec.mk hI.len
  have hn := hI.nodes
  clear hI
  obtain ⟨v0, v1, v2, v3, rfl, k0, k1, k2, k3⟩ := rdDisk h
  obtain ⟨nodes, names, kept, pend, quota⟩ := d
  simp only at k0 k1 k2 k3 hn HS HL ⊢
  obtain ⟨A0, c0, rfl, hc0, hr0⟩ := k0.slice
  have HR0 := Sec.mk hr0
  have HBX := Sec.mk (Blk.new w 27 [.slice A0 nodes.length c0, v1, v2, v3, .int .i64 quota])
  have HM0 := Sec.mk ((Mod.refl (fun _ => False) w).alloc (.cells #[.slice A0 nodes.length c0, v1, v2, v3, .int .i64 quota] 27))
  clear h k0 k1 k2 k3 hr0
  go_enter Tryd.func43, Tryd.ntmps43
  go_wp2
  go_loopw [3, 9] (fun t i wr => ∃ k : Nat, k ≤ nodes.length ∧ i = .int .i64 (k : Int) ∧ t = .int .i64 ((sumD (nodes.take k) : Nat) : Int) ∧ Sec (New w wr)) (fun _ i _ => nodes.length - (intOf i).toNat)
  case atStart => exact ⟨0, Nat.zero_le _, rfl, by simp [sumD], HM0⟩
  case round =>
    obtain ⟨k, hk, rfl, rfl, HM⟩ := hrel
    by_cases hlt : k < nodes.length
    · obtain ⟨bd, An, cn, rfl, n0, n1, hcc, hcm, hrow, hw⟩ := node_at (HR0.out.mod (w' := wr) (fun _ h => h) (fun k hk => HM.out.block k hk id)) (w' := wr) (fun _ _ => rfl) hlt
      have hki : (k : Int) < (nodes.length : Int) := by omega
      have HT := Sec.mk (sumD_take hlt)
      have hs := HS.out k
      have hl := HL.out _ (List.getElem_mem hlt)
      have HMA := Sec.mk (HM.out.alloc (.cells #[.slice An nodes[k].1.length cn, .int .i64 nodes[k].2] 49))
      clear hrow hw
      generalize hz : nodes[k] = z at *
      generalize sumD (nodes.take k) = s at *
      obtain ⟨dat, safe⟩ := z
      simp only at n0 n1 hcc hl HT HMA
      clear hz
      go_wp2
      go_roundw
      case rel => exact ⟨k + 1, by omega, by go_num, by rw [HT.out]; go_num, HMA⟩
      case measure => simp [intOf]; omega
    · obtain rfl : k = nodes.length := by omega
      go_wp2
      go_ret
      exact ⟨by rw [List.take_length]; rfl, HM.out⟩
set_option maxHeartbeats 4000000 in
set_option maxRecDepth 100000 in
theorem l1Used_v {w : World} {v : Value} {d : DiskT} {N : Nat} (h : RdV true dDisk w v d) (hI : DInv N d) (hN : N ≤ 100000) : Calls Tryd.prog 42 #[v] w (Ret (.int .i64 ((usedL d : Nat) : Int)) w) := by
  have HS := Sec.mk (used_le hI)
  have HL := Sec.mk (nodeAt_len hI)
  have HQ := Sec.mk hI.inr
  have hn := hI.names
  have HUT := Sec.mk (fun k (hk : k < d.2.1.length) => used_take hk)
  have HUL : Sec (usedL d = ((d.2.1.take d.2.1.length).map fun e => (nodeAt d e.2).1.length).sum) := ⟨by rw [List.take_length]; rfl⟩
  have HNA : Sec (∀ (nd : Nat) (hnl : nd < d.1.length), nodeAt d (nd : Int) = d.1[nd]) := ⟨fun nd hnl => by unfold nodeAt; rw [Int.toNat_natCast, List.getElem?_eq_getElem hnl]; rfl⟩
  clear hI
  obtain ⟨v0, v1, v2, v3, rfl, k0, k1, k2, k3⟩ := rdDisk h
  obtain ⟨A0, c0, rfl, hc0, hr0⟩ := k0.slice
  obtain ⟨A1, c1, rfl, hc1, hr1⟩ := k1.slice
  have HR0 := Sec.mk hr0
  have HR1 := Sec.mk hr1
  have HBX := Sec.mk (Blk.new w 27 [.slice A0 d.1.length c0, .slice A1 d.2.1.length c1, v2, v3, .int .i64 d.2.2.2.2])
  have HM0 := Sec.mk ((Mod.refl (fun _ => False) w).alloc (.cells #[.slice A0 d.1.length c0, .slice A1 d.2.1.length c1, v2, v3, .int .i64 d.2.2.2.2] 27))
  clear h k0 k1 k2 k3 hr0 hr1
  go_enter Tryd.func42, Tryd.ntmps42
  go_wp2
  go_loopw [3, 9] (fun t i wr => ∃ k : Nat, k ≤ d.2.1.length ∧ i = .int .i64 (k : Int) ∧ t = .int .i64 ((((d.2.1.take k).map fun e => (nodeAt d e.2).1.length).sum : Nat) : Int) ∧ Sec (Blk wr w.heap.size 27 [.slice A0 d.1.length c0, .slice A1 d.2.1.length c1, v2, v3, .int .i64 d.2.2.2.2]) ∧ Sec (New w wr)) (fun _ i _ => d.2.1.length - (intOf i).toNat)
  case atStart => exact ⟨0, Nat.zero_le _, rfl, by simp, HBX, HM0⟩
  case round =>
    obtain ⟨k, hk, rfl, rfl, HB, HM⟩ := hrel
    clear HBX HM0
    by_cases hlt : k < d.2.1.length
    · obtain ⟨ae, rfl, d0, d1, g0, g1⟩ := ent_at (HR1.out.mod (w' := wr) (fun _ h => h) (fun k hk => HM.out.block k hk id)) (w' := wr) (fun _ _ => rfl) hlt
      have hki : (k : Int) < (d.2.1.length : Int) := by omega
      have HT := Sec.mk (HUT.out k hlt)
      have hs := HS.out k
      have hin := HQ.out _ (List.getElem_mem hlt)
      have HPX : Sec (∃ q : EntryT, q = d.2.1[k]) := ⟨⟨_, rfl⟩⟩
      obtain ⟨q, hq⟩ := HPX.out
      rw [← hq] at d0 d1 g0 g1 HT hin
      clear hq HPX
      obtain ⟨nm, u⟩ := q
      simp only at d0 d1 g0 g1 hin HT
      obtain ⟨nd, hnd⟩ := Int.eq_ofNat_of_zero_le hin.1
      subst hnd
      have hnl : nd < d.1.length := by omega
      rw [HNA.out nd hnl] at HT
      have q0 : wr.cell? ⟨w.heap.size, 0, none⟩ = some (.slice A0 d.1.length c0) := HB.out.cell 0
      have hwr := HB.out.lt
      have hl := HL.out (nd : Int)
      rw [HNA.out nd hnl] at hl
      obtain ⟨bd, An, cn, rfl, n0, n1, hcc, hcm, hrow, hw⟩ := node_at (HR0.out.mod (w' := wr.alloc (.cells #[.string ⟨nm.toArray⟩, .int .i64 (nd : Int)] 37)) (fun _ h => h) (fun k hk => (HM.out.alloc _).block k hk id)) (w' := wr.alloc (.cells #[.string ⟨nm.toArray⟩, .int .i64 (nd : Int)] 37)) (fun _ _ => rfl) hnl
      have HMA := Sec.mk (HM.out.alloc (.cells #[.string ⟨nm.toArray⟩, .int .i64 (nd : Int)] 37))
      have HBA := Sec.mk (HB.out.alloc (.cells #[.string ⟨nm.toArray⟩, .int .i64 (nd : Int)] 37))
      clear hrow hw n1
      have hndi : (nd : Int) < (d.1.length : Int) := by omega
      generalize d.1[nd].1 = dat at *
      generalize ((d.2.1.take k).map fun e => (nodeAt d e.2).1.length).sum = s at *
      clear hin
      go_wp2
      go_roundw
      case rel => exact ⟨k + 1, by omega, by go_num, by rw [HT.out]; go_num, HBA, HMA⟩
      case measure => simp [intOf]; omega
    · obtain rfl : k = d.2.1.length := by omega
      go_wp2
      go_ret
      exact ⟨by rw [HUL.out]; rfl, HM.out⟩
end Go.Proofs.YtkkgighgnbbgiaaDoor

namespace Go.Proofs.YtkkgighgnbbgiaaDoor
open Go.RowKit Mem
set_option linter.unusedVariables false
set_option linter.unusedSimpArgs false
abbrev ContentT := Bool × Bytes
abbrev dContent : Ty ContentT := Ty.pair Ty.bool dBS
set_option synthInstance.maxSize 2000
theorem rdContent {w : World} {v : Value} {x : ContentT} (h : RdV true dContent w v x) : ∃ v1, v = .agg #[.bool x.1, v1] ∧ RdV false dBS w v1 x.2 := by
  obtain ⟨cs, rfl, c0, c1, rfl, h0, h1⟩ := h
  obtain rfl := h0
  obtain ⟨A1, cp1, rfl, g1⟩ := h1
  exact ⟨_, rfl, ⟨_, rfl, A1, cp1, rfl, g1⟩⟩
theorem mContent {w : World} {x : ContentT} {F1 : List Nat} {v1 : Value} (o1 : Own Ty.byte 5 w F1 v1 x.2) : dContent.M w (F1) x [.bool x.1, v1] :=
  ⟨_, _, [], _, rfl, rfl, (by simpa using o1.nd), ⟨rfl, rfl⟩, ⟨_, rfl, o1⟩⟩
theorem ofContent {w : World} {lo hi : Nat} {x : ContentT} {v1 : Value} (h : OwI Ty.byte 5 w lo hi v1 x.2) : OwV true dContent w lo hi (.agg #[.bool x.1, v1]) x := by
  obtain ⟨F, ho, hF⟩ := h
  exact ⟨_, _, rfl, mContent ho, hF⟩
end Go.Proofs.YtkkgighgnbbgiaaDoor

namespace Go.Proofs.YtkkgighgnbbgiaaDoor
open Go.RowKit Mem
set_option linter.unusedVariables false
set_option synthInstance.maxSize 2000
end Go.Proofs.YtkkgighgnbbgiaaDoor

namespace Go.Proofs.YtkkgighgnbbgiaaDoor
open Go.RowKit Mem
set_option linter.unusedVariables false
def Out3 (X : Nat → Prop) (w : World) (v0 v1 v2 : Value) (ns : NodeST) (es ks : EntryST) : Prop :=
  ∃ F0 F1 F2, Own dNode 49 w F0 v0 ns ∧ Own dEntry 37 w F1 v1 es ∧ Own dEntry 37 w F2 v2 ks ∧ (F0 ++ (F1 ++ F2)).Nodup ∧ ∀ k, k ∈ F0 ++ (F1 ++ F2) → X k
theorem nodup3 {F0 F1 F2 : List Nat} (n0 : F0.Nodup) (n1 : F1.Nodup) (n2 : F2.Nodup) (h01 : ∀ k, k ∈ F0 → k ∉ F1) (h02 : ∀ k, k ∈ F0 → k ∉ F2) (h12 : ∀ k, k ∈ F1 → k ∉ F2) : (F0 ++ (F1 ++ F2)).Nodup := by
  refine List.nodup_append.2 ⟨n0, List.nodup_append.2 ⟨n1, n2, fun a ha b hb e => h12 a ha (e ▸ hb)⟩, fun a ha b hb e => ?_⟩
  subst e
  rcases List.mem_append.1 hb with hb | hb
  · exact h01 a ha hb
  · exact h02 a ha hb
theorem nodup3_of {F0 F1 F2 : List Nat} (h : (F0 ++ (F1 ++ F2)).Nodup) : (∀ k, k ∈ F0 → k ∉ F1) ∧ (∀ k, k ∈ F0 → k ∉ F2) ∧ (∀ k, k ∈ F1 → k ∉ F2) := by
  obtain ⟨n0, n12, h0⟩ := List.nodup_append.1 h
  obtain ⟨n1, n2, h1⟩ := List.nodup_append.1 n12
  exact ⟨fun k hk hk2 => h0 k hk k (List.mem_append.2 (Or.inl hk2)) rfl, fun k hk hk2 => h0 k hk k (List.mem_append.2 (Or.inr hk2)) rfl, fun k hk hk2 => h1 k hk k hk2 rfl⟩
namespace Out3
variable {X X0 X' : Nat → Prop} {w w' : World} {v0 v1 v2 : Value} {ns : NodeST} {es ks : EntryST}
theorem nil (X : Nat → Prop) (w : World) : Out3 X w (.slice none 0 0) (.slice none 0 0) (.slice none 0 0) [] [] [] := ⟨[], [], [], Own.nil _ _ _, Own.nil _ _ _, Own.nil _ _ _, by simp, by simp⟩
theorem keep {S : Nat → Prop} (h : Out3 X w v0 v1 v2 ns es ks) (hm : Mod S w w') (hS : ∀ k, X k → ¬ S k) : Out3 X w' v0 v1 v2 ns es ks := by
  obtain ⟨F0, F1, F2, o0, o1, o2, hn, hF⟩ := h
  exact ⟨F0, F1, F2, o0.keep hm fun k hk => hS k (hF k (by simp [hk])), o1.keep hm fun k hk => hS k (hF k (by simp [hk])), o2.keep hm fun k hk => hS k (hF k (by simp [hk])), hn, hF⟩
theorem new (h : Out3 X w v0 v1 v2 ns es ks) (hm : New w w') : Out3 X w' v0 v1 v2 ns es ks := h.keep hm fun _ _ h => h
theorem wide (h : Out3 X w v0 v1 v2 ns es ks) (h1 : ∀ k, k < w.heap.size → X k → X' k) : Out3 X' w v0 v1 v2 ns es ks := by
  obtain ⟨F0, F1, F2, o0, o1, o2, hn, hF⟩ := h
  refine ⟨F0, F1, F2, o0, o1, o2, hn, fun k hk => h1 k ?_ (hF k hk)⟩
  rcases List.mem_append.1 hk with hk | hk
  · exact o0.lt k hk
  · rcases List.mem_append.1 hk with hk | hk
    · exact o1.lt k hk
    · exact o2.lt k hk
theorem len1 {A : Option Addr} {n c : Nat} (h : Out3 X w v0 (.slice A n c) v2 ns es ks) : n = es.length := by
  obtain ⟨F0, F1, F2, o0, o1, o2, hn, hF⟩ := h
  obtain ⟨A', c', hv, _⟩ := o1.form
  injection hv with _ e2 _
theorem row1 {A : Option Addr} {n c : Nat} (h : Out3 X w v0 (.slice A n c) v2 ns es ks) : Row dEntry w (· < w.heap.size) A n es := by
  obtain rfl := h.len1
  obtain ⟨F0, F1, F2, o0, o1, o2, hn, hF⟩ := h
  exact (o1.row rfl).mod (fun k hk => o1.lt k hk) (fun _ _ => rfl)
theorem put2 (h : Out3 X0 w v0 v1 v2 ns es ks) {F : List Nat} {v2' : Value} {ks' : EntryST} (ho : Own dEntry 37 w F v2' ks') (hF : ∀ k, k ∈ F → ¬ X0 k ∧ X k) (hX : ∀ k, X0 k → X k) : Out3 X w v0 v1 v2' ns es ks' := by
  obtain ⟨F0, F1, F2, o0, o1, o2, hn, hX0⟩ := h
  obtain ⟨d01, d02, d12⟩ := nodup3_of hn
  refine ⟨F0, F1, F, o0, o1, ho, nodup3 o0.nd o1.nd ho.nd d01 (fun k hk hk1 => (hF k hk1).1 (hX0 k (by simp [hk]))) (fun k hk hk1 => (hF k hk1).1 (hX0 k (by simp [hk]))), fun k hk => ?_⟩
  rcases List.mem_append.1 hk with hk | hk
  · exact hX k (hX0 k (by simp [hk]))
  · rcases List.mem_append.1 hk with hk | hk
    · exact hX k (hX0 k (by simp [hk]))
    · exact (hF k hk).2
theorem disk (h : Out3 X w v0 v1 v2 ns es ks) {q : Int} (hq : IntKind.i64.wrap q = q) {lo : Nat} (hlo : ∀ k, X k → lo ≤ k) : OwV true dDisk w lo w.heap.size (.agg #[v0, v1, v2, .slice none 0 0, .int .i64 q]) (ns, es, ks, [], q) := by
  obtain ⟨F0, F1, F2, o0, o1, o2, hn, hF⟩ := h.wide (X' := fun k => lo ≤ k ∧ k < w.heap.size) (fun k h1 h2 => ⟨hlo k h2, h1⟩)
  exact ⟨[v0, v1, v2, .slice none 0 0, .int .i64 q], F0 ++ (F1 ++ (F2 ++ ([] ++ []))), rfl, mDisk (x := (ns, es, ks, [], q)) hq o0 o1 o2 (Own.nil _ _ _) (by simpa using hn), by simpa using hF⟩
section
variable {o : Oper} {a : Act} {K : Act → World → Prop} {Q : Exit → Act → World → Prop} {z : Value}
theorem wp0 (w : World) (s x : Operand) (t : TypeId) (ho : o.op = .call { callee := .builtin .append, args := #[s, x], argTypes := #[t, t] }) (ht : Tryd.prog.underlying t = some (.slice 49)) (hE : Elt Tryd.prog 49 dNode.sz z)
    {A' : Option Addr} {c' : Nat} {y : NodeT} {G : List Nat} {news : List Value} (hs : a.eval s = v0) (hx : a.eval x = .slice A' 1 c') (h3 : Out3 X0 w v0 v1 v2 ns es ks)
    (hM : dNode.M w G y news) (hG : ∀ k, k ∈ G → ¬ X0 k ∧ X k) (hA : ∃ ad, A' = some ad ∧ ∀ j u, news[j]? = some u → w.cell? (ad.add j) = some u)
    (hX0 : ∀ k, X0 k → X k) (hX : ∀ k, w.heap.size ≤ k → X k) (hlen : ns.length + 1 ≤ 34359738368)
    (h : ∀ A' n' c' w', Out3 X w' (.slice A' n' c') v1 v2 (ns ++ [y]) es ks → Mod X0 w w' → K (a.put o.dst (.slice A' n' c')) w') : o.wp Tryd.prog a w K Q := by
  obtain ⟨F0, F1, F2, o0, o1, o2, hn, hF⟩ := h3
  obtain ⟨d01, d02, d12⟩ := nodup3_of hn
  refine wp_append w s x t ho dNode 49 ht hE hs o0 hx (Elems.one hM) rfl (fun _ => hA) (by simpa using dNode.M_nd hM) (fun k hk hk2 => by simp at hk; exact (hG k hk).1 (hF k (by simp [hk2]))) hlen ?_
  intro A2 n2 c2 w2 G2 ho3 hn2 hm2 hF2
  have l1 := o1.lt
  have l2 := o2.lt
  have hmem : ∀ k, k ∈ G2 → k ∈ F0 ∨ (¬ X0 k ∧ X k) ∨ (w.heap.size ≤ k) := fun k hk => by
    rcases hF2 k hk with h1 | h1 | h1
    · exact Or.inl h1
    · simp at h1; exact Or.inr (Or.inl (hG k h1))
    · exact Or.inr (Or.inr h1)
  refine h _ _ _ _ ⟨G2, F1, F2, ho3, o1.keep hm2 (fun k hk e => d01 k (o0.own_mem k e) hk), o2.keep hm2 (fun k hk e => d02 k (o0.own_mem k e) hk), nodup3 ho3.nd o1.nd o2.nd ?_ ?_ d12, ?_⟩ (hm2.mono fun i _ hi => hF i (by simp [o0.own_mem i hi]))
  · intro k hk hk1
    rcases hmem k hk with h1 | h1 | h1
    · exact d01 k h1 hk1
    · exact h1.1 (hF k (by simp [hk1]))
    · have := l1 k hk1; omega
  · intro k hk hk1
    rcases hmem k hk with h1 | h1 | h1
    · exact d02 k h1 hk1
    · exact h1.1 (hF k (by simp [hk1]))
    · have := l2 k hk1; omega
  · intro k hk
    rcases List.mem_append.1 hk with hk | hk
    · rcases hmem k hk with h1 | h1 | h1
      · exact hX0 k (hF k (by simp [h1]))
      · exact h1.2
      · exact hX k h1
    · exact hX0 k (hF k (List.mem_append.2 (Or.inr hk)))
theorem wp1 (w : World) (s x : Operand) (t : TypeId) (ho : o.op = .call { callee := .builtin .append, args := #[s, x], argTypes := #[t, t] }) (ht : Tryd.prog.underlying t = some (.slice 37)) (hE : Elt Tryd.prog 37 dEntry.sz z)
    {A' : Option Addr} {m c' : Nat} {ys : EntryST} {B : Nat → Prop} (hs : a.eval s = v1) (hx : a.eval x = .slice A' m c') (h3 : Out3 X w v0 v1 v2 ns es ks)
    (hy : Row dEntry w B A' m ys) (hX : ∀ k, w.heap.size ≤ k → X k) (hlen : es.length + ys.length ≤ 34359738368)
    (h : ∀ A' n' c' w', Out3 X w' v0 (.slice A' n' c') v2 ns (es ++ ys) ks → Mod X w w' → K (a.put o.dst (.slice A' n' c')) w') : o.wp Tryd.prog a w K Q := by
  obtain ⟨F0, F1, F2, o0, o1, o2, hn, hF⟩ := h3
  obtain ⟨d01, d02, d12⟩ := nodup3_of hn
  obtain ⟨news, hel, hA⟩ := hy.flat flatEntry
  refine wp_append w s x t ho dEntry 37 ht hE hs o1 hx hel hy.1 hA (by rw [flat_nil]; exact List.nodup_nil) (by rw [flat_nil]; intro k hk; cases hk) (by have := hy.1; omega) ?_
  intro A2 n2 c2 w2 G2 ho3 hn2 hm2 hF2
  have hmem : ∀ k, k ∈ G2 → k ∈ F1 ∨ w.heap.size ≤ k := fun k hk => by
    rcases hF2 k hk with h1 | h1 | h1
    · exact Or.inl h1
    · rw [flat_nil] at h1; cases h1
    · exact Or.inr h1
  refine h _ _ _ _ ⟨F0, G2, F2, o0.keep hm2 (fun k hk e => d01 k hk (o1.own_mem k e)), ho3, o2.keep hm2 (fun k hk e => d12 k (o1.own_mem k e) hk), nodup3 o0.nd ho3.nd o2.nd ?_ d02 ?_, ?_⟩ (hm2.mono fun i _ hi => hF i (by simp [o1.own_mem i hi]))
  · intro k hk hk1
    rcases hmem k hk1 with h1 | h1
    · exact d01 k hk h1
    · have := o0.lt k hk; omega
  · intro k hk hk1
    rcases hmem k hk with h1 | h1
    · exact d12 k h1 hk1
    · have := o2.lt k hk1; omega
  · intro k hk
    rcases List.mem_append.1 hk with hk | hk
    · exact hF k (by simp [hk])
    · rcases List.mem_append.1 hk with hk | hk
      · rcases hmem k hk with h1 | h1
        · exact hF k (by simp [h1])
        · exact hX k h1
      · exact hF k (by simp [hk])
theorem wp2 (w : World) (s x : Operand) (t : TypeId) (ho : o.op = .call { callee := .builtin .append, args := #[s, x], argTypes := #[t, t] }) (ht : Tryd.prog.underlying t = some (.slice 37)) (hE : Elt Tryd.prog 37 dEntry.sz z)
    {A' : Option Addr} {m c' : Nat} {ys : EntryST} {B : Nat → Prop} (hs : a.eval s = v2) (hx : a.eval x = .slice A' m c') (h3 : Out3 X w v0 v1 v2 ns es ks)
    (hy : Row dEntry w B A' m ys) (hX : ∀ k, w.heap.size ≤ k → X k) (hlen : ks.length + ys.length ≤ 34359738368)
    (h : ∀ A' n' c' w', Out3 X w' v0 v1 (.slice A' n' c') ns es (ks ++ ys) → Mod X w w' → K (a.put o.dst (.slice A' n' c')) w') : o.wp Tryd.prog a w K Q := by
  obtain ⟨F0, F1, F2, o0, o1, o2, hn, hF⟩ := h3
  obtain ⟨d01, d02, d12⟩ := nodup3_of hn
  obtain ⟨news, hel, hA⟩ := hy.flat flatEntry
  refine wp_append w s x t ho dEntry 37 ht hE hs o2 hx hel hy.1 hA (by rw [flat_nil]; exact List.nodup_nil) (by rw [flat_nil]; intro k hk; cases hk) (by have := hy.1; omega) ?_
  intro A2 n2 c2 w2 G2 ho3 hn2 hm2 hF2
  have hmem : ∀ k, k ∈ G2 → k ∈ F2 ∨ w.heap.size ≤ k := fun k hk => by
    rcases hF2 k hk with h1 | h1 | h1
    · exact Or.inl h1
    · rw [flat_nil] at h1; cases h1
    · exact Or.inr h1
  refine h _ _ _ _ ⟨F0, F1, G2, o0.keep hm2 (fun k hk e => d02 k hk (o2.own_mem k e)), o1.keep hm2 (fun k hk e => d12 k hk (o2.own_mem k e)), ho3, nodup3 o0.nd o1.nd ho3.nd d01 ?_ ?_, ?_⟩ (hm2.mono fun i _ hi => hF i (by simp [o2.own_mem i hi]))
  · intro k hk hk1
    rcases hmem k hk1 with h1 | h1
    · exact d02 k hk h1
    · have := o0.lt k hk; omega
  · intro k hk hk1
    rcases hmem k hk1 with h1 | h1
    · exact d12 k hk h1
    · have := o1.lt k hk; omega
  · intro k hk
    rcases List.mem_append.1 hk with hk | hk
    · exact hF k (by simp [hk])
    · rcases List.mem_append.1 hk with hk | hk
      · exact hF k (by simp [hk])
      · rcases hmem k hk with h1 | h1
        · exact hF k (by simp [h1])
        · exact hX k h1
variable {ops : Array Oper} {rest : List Oper}
theorem list1 (w : World) (hgd : o.guard = none) (s x : Operand) (t : TypeId) (ho : o.op = .call { callee := .builtin .append, args := #[s, x], argTypes := #[t, t] }) (ht : Tryd.prog.underlying t = some (.slice 37)) (hE : Elt Tryd.prog 37 dEntry.sz z)
    {A' : Option Addr} {m c' : Nat} {ys : EntryST} {B : Nat → Prop} (hs : a.eval s = v1) (hx : a.eval x = .slice A' m c') (h3 : Out3 X w v0 v1 v2 ns es ks)
    (hy : Row dEntry w B A' m ys) (hX : ∀ k, w.heap.size ≤ k → X k) (hlen : es.length + ys.length ≤ 34359738368)
    (h : ∀ A' n' c' w', Out3 X w' v0 (.slice A' n' c') v2 ns (es ++ ys) ks → Mod X w w' → wpList Tryd.prog ops Q rest (a.put o.dst (.slice A' n' c')) w') : wpList Tryd.prog ops Q (o :: rest) a w :=
  wpList_plain hgd fun _ hK => wp1 w s x t ho ht hE hs hx h3 hy hX hlen fun A' n' c' w' h1 h2 => hK _ _ (h A' n' c' w' h1 h2)
theorem list2 (w : World) (hgd : o.guard = none) (s x : Operand) (t : TypeId) (ho : o.op = .call { callee := .builtin .append, args := #[s, x], argTypes := #[t, t] }) (ht : Tryd.prog.underlying t = some (.slice 37)) (hE : Elt Tryd.prog 37 dEntry.sz z)
    {A' : Option Addr} {m c' : Nat} {ys : EntryST} {B : Nat → Prop} (hs : a.eval s = v2) (hx : a.eval x = .slice A' m c') (h3 : Out3 X w v0 v1 v2 ns es ks)
    (hy : Row dEntry w B A' m ys) (hX : ∀ k, w.heap.size ≤ k → X k) (hlen : ks.length + ys.length ≤ 34359738368)
    (h : ∀ A' n' c' w', Out3 X w' v0 v1 (.slice A' n' c') ns es (ks ++ ys) → Mod X w w' → wpList Tryd.prog ops Q rest (a.put o.dst (.slice A' n' c')) w') : wpList Tryd.prog ops Q (o :: rest) a w :=
  wpList_plain hgd fun _ hK => wp2 w s x t ho ht hE hs hx h3 hy hX hlen fun A' n' c' w' h1 h2 => hK _ _ (h A' n' c' w' h1 h2)
end
end Out3
theorem bldNode (A : Option Addr) (n c : Nat) (u : Int) (w : World) : (Instr.build 49 #[(0, .slice A n c), (1, .int .i64 u)]).run Tryd.prog w = .ok (.agg #[.slice A n c, .int .i64 u]) w := by go_simp
theorem bldNode1 (A : Option Addr) (n c : Nat) (u : Int) (w : World) : (Instr.buildSlice 23 1 #[(0, .agg #[.slice A n c, .int .i64 u])]).run Tryd.prog w = .ok (.slice (some ⟨w.heap.size, 0, none⟩) 1 1) (w.alloc (.cells #[.slice A n c, .int .i64 u] 49)) := by go_simp
theorem bldBytes0 (w : World) : (Instr.buildSlice 22 0 #[]).run Tryd.prog w = .ok (.slice (some ⟨w.heap.size, 0, none⟩) 0 0) (w.alloc (.cells #[] 5)) := by go_simp
theorem stNodesC {w : World} {p : Addr} {a : Value} (A : Option Addr) (n c : Nat) (h : w.cell? p = some a) (hf : w.frozen? p = false) : (Instr.storeAt 23 (.pointer (some p)) (.slice A n c)).run Tryd.prog w = .ok () (w.setCell p (.slice A n c)) := by go_simp
theorem slcBytesTo {A : Option Addr} {n c k : Nat} (hk : k ≤ c) (w : World) : (Instr.sliceAt 22 (.slice A n c) none (some (.int .i64 (k : Int))) none).run Tryd.prog w = .ok (.slice A k c) w := slice_to Tryd.underlying22 hk (by kernel_rfl)
end Go.Proofs.YtkkgighgnbbgiaaDoor

namespace Go.Proofs.YtkkgighgnbbgiaaDoor
open Go.RowKit Mem
set_option linter.unusedVariables false
def Dis4 (F0 F1 F2 F3 : List Nat) : Prop := (∀ k, k ∈ F0 → k ∉ F1 ∧ k ∉ F2 ∧ k ∉ F3) ∧ (∀ k, k ∈ F1 → k ∉ F2 ∧ k ∉ F3) ∧ (∀ k, k ∈ F2 → k ∉ F3)
theorem Dis4.upd0 {F0 F1 F2 F3 G : List Nat} (h : Dis4 F0 F1 F2 F3) (hG : ∀ k, k ∈ G → k ∈ F0 ∨ (k ∉ F1 ∧ k ∉ F2 ∧ k ∉ F3)) : Dis4 G F1 F2 F3 :=
  ⟨fun k hk => (hG k hk).elim (h.1 k) id, h.2⟩
theorem Dis4.upd1 {F0 F1 F2 F3 G : List Nat} (h : Dis4 F0 F1 F2 F3) (hG : ∀ k, k ∈ G → k ∈ F1 ∨ (k ∉ F0 ∧ k ∉ F2 ∧ k ∉ F3)) : Dis4 F0 G F2 F3 :=
  ⟨fun k hk => ⟨fun hg => (hG k hg).elim (fun h1 => (h.1 k hk).1 h1) (fun h1 => h1.1 hk), (h.1 k hk).2⟩, fun k hk => (hG k hk).elim (h.2.1 k) (fun h1 => h1.2), h.2.2⟩
theorem Dis4.upd2 {F0 F1 F2 F3 G : List Nat} (h : Dis4 F0 F1 F2 F3) (hG : ∀ k, k ∈ G → k ∈ F2 ∨ (k ∉ F0 ∧ k ∉ F1 ∧ k ∉ F3)) : Dis4 F0 F1 G F3 :=
  ⟨fun k hk => ⟨(h.1 k hk).1, fun hg => (hG k hg).elim (fun h1 => (h.1 k hk).2.1 h1) (fun h1 => h1.1 hk), (h.1 k hk).2.2⟩, fun k hk => ⟨fun hg => (hG k hg).elim (fun h1 => (h.2.1 k hk).1 h1) (fun h1 => h1.2.1 hk), (h.2.1 k hk).2⟩, fun k hk => (hG k hk).elim (h.2.2 k) (fun h1 => h1.2.2)⟩
theorem Dis4.upd3 {F0 F1 F2 F3 G : List Nat} (h : Dis4 F0 F1 F2 F3) (hG : ∀ k, k ∈ G → k ∈ F3 ∨ (k ∉ F0 ∧ k ∉ F1 ∧ k ∉ F2)) : Dis4 F0 F1 F2 G :=
  ⟨fun k hk => ⟨(h.1 k hk).1, (h.1 k hk).2.1, fun hg => (hG k hg).elim (fun h1 => (h.1 k hk).2.2 h1) (fun h1 => h1.1 hk)⟩, fun k hk => ⟨(h.2.1 k hk).1, fun hg => (hG k hg).elim (fun h1 => (h.2.1 k hk).2 h1) (fun h1 => h1.2.1 hk)⟩, fun k hk hg => (hG k hg).elim (fun h1 => h.2.2 k hk h1) (fun h1 => h1.2.2 hk)⟩
theorem Dis4.nodup {F0 F1 F2 F3 : List Nat} (h : Dis4 F0 F1 F2 F3) (n0 : F0.Nodup) (n1 : F1.Nodup) (n2 : F2.Nodup) (n3 : F3.Nodup) : (F0 ++ (F1 ++ (F2 ++ F3))).Nodup := by
  refine List.nodup_append.2 ⟨n0, List.nodup_append.2 ⟨n1, List.nodup_append.2 ⟨n2, n3, fun a ha b hb e => h.2.2 a ha (e ▸ hb)⟩, fun a ha b hb e => ?_⟩, fun a ha b hb e => ?_⟩
  · subst e
    rcases List.mem_append.1 hb with hb | hb
    · exact (h.2.1 a ha).1 hb
    · exact (h.2.1 a ha).2 hb
  · subst e
    rcases List.mem_append.1 hb with hb | hb
    · exact (h.1 a ha).1 hb
    · rcases List.mem_append.1 hb with hb | hb
      · exact (h.1 a ha).2.1 hb
      · exact (h.1 a ha).2.2 hb
def In4 (F0 F1 F2 F3 : List Nat) (k : Nat) : Prop := k ∈ F0 ∨ k ∈ F1 ∨ k ∈ F2 ∨ k ∈ F3
def Out4 (X : Nat → Prop) (w : World) (v0 v1 v2 v3 : Value) (d : DiskT) : Prop :=
  ∃ F0 F1 F2 F3, Own dNode 49 w F0 v0 d.1 ∧ Own dEntry 37 w F1 v1 d.2.1 ∧ Own dEntry 37 w F2 v2 d.2.2.1 ∧ Own dDirOp 66 w F3 v3 d.2.2.2.1 ∧ Dis4 F0 F1 F2 F3 ∧ (∀ k, In4 F0 F1 F2 F3 k → X k) ∧ IntKind.i64.wrap d.2.2.2.2 = d.2.2.2.2
namespace Out4
variable {X X0 X' : Nat → Prop} {w w' : World} {v0 v1 v2 v3 : Value} {d : DiskT}
theorem keep {S : Nat → Prop} (h : Out4 X w v0 v1 v2 v3 d) (hm : Mod S w w') (hS : ∀ k, X k → ¬ S k) : Out4 X w' v0 v1 v2 v3 d := by
  obtain ⟨F0, F1, F2, F3, o0, o1, o2, o3, hd, hX, hq⟩ := h
  exact ⟨F0, F1, F2, F3, o0.keep hm fun k hk => hS k (hX k (Or.inl hk)), o1.keep hm fun k hk => hS k (hX k (Or.inr (Or.inl hk))), o2.keep hm fun k hk => hS k (hX k (Or.inr (Or.inr (Or.inl hk)))), o3.keep hm fun k hk => hS k (hX k (Or.inr (Or.inr (Or.inr hk)))), hd, hX, hq⟩
theorem new (h : Out4 X w v0 v1 v2 v3 d) (hm : New w w') : Out4 X w' v0 v1 v2 v3 d := h.keep hm fun _ _ h => h
theorem lt {F0 F1 F2 F3 : List Nat} (o0 : Own dNode 49 w F0 v0 d.1) (o1 : Own dEntry 37 w F1 v1 d.2.1) (o2 : Own dEntry 37 w F2 v2 d.2.2.1) (o3 : Own dDirOp 66 w F3 v3 d.2.2.2.1) : ∀ k, In4 F0 F1 F2 F3 k → k < w.heap.size := by
  rintro k (hk | hk | hk | hk)
  · exact o0.lt k hk
  · exact o1.lt k hk
  · exact o2.lt k hk
  · exact o3.lt k hk
theorem wide (h : Out4 X w v0 v1 v2 v3 d) (h1 : ∀ k, k < w.heap.size → X k → X' k) : Out4 X' w v0 v1 v2 v3 d := by
  obtain ⟨F0, F1, F2, F3, o0, o1, o2, o3, hd, hX, hq⟩ := h
  exact ⟨F0, F1, F2, F3, o0, o1, o2, o3, hd, fun k hk => h1 k (lt o0 o1 o2 o3 k hk) (hX k hk), hq⟩
theorem disk (h : Out4 X w v0 v1 v2 v3 d) {lo : Nat} (hlo : ∀ k, X k → lo ≤ k) : OwV true dDisk w lo w.heap.size (.agg #[v0, v1, v2, v3, .int .i64 d.2.2.2.2]) d := by
  obtain ⟨F0, F1, F2, F3, o0, o1, o2, o3, hd, hX, hq⟩ := h
  have hlt := lt o0 o1 o2 o3
  refine ⟨[v0, v1, v2, v3, .int .i64 d.2.2.2.2], F0 ++ (F1 ++ (F2 ++ (F3 ++ []))), rfl, mDisk (x := d) hq o0 o1 o2 o3 (by simpa using hd.nodup o0.nd o1.nd o2.nd o3.nd), fun k hk => ?_⟩
  have : In4 F0 F1 F2 F3 k := by simpa [In4] using hk
  exact ⟨hlo k (hX k this), hlt k this⟩
theorem rd (h : Out4 X w v0 v1 v2 v3 d) : RdV true dDisk w (.agg #[v0, v1, v2, v3, .int .i64 d.2.2.2.2]) d := (h.disk (lo := 0) (fun _ _ => Nat.zero_le _)).rd
theorem forms (h : Out4 X w v0 v1 v2 v3 d) : ∃ A0 c0 A1 c1 A2 c2 A3 c3, v0 = .slice A0 d.1.length c0 ∧ v1 = .slice A1 d.2.1.length c1 ∧ v2 = .slice A2 d.2.2.1.length c2 ∧ v3 = .slice A3 d.2.2.2.1.length c3 ∧ d.1.length ≤ c0 ∧ d.2.1.length ≤ c1 ∧ d.2.2.1.length ≤ c2 ∧ d.2.2.2.1.length ≤ c3 := by
  obtain ⟨F0, F1, F2, F3, o0, o1, o2, o3, hd, hX, hq⟩ := h
  obtain ⟨A0, c0, e0, b0, _⟩ := o0.form
  obtain ⟨A1, c1, e1, b1, _⟩ := o1.form
  obtain ⟨A2, c2, e2, b2, _⟩ := o2.form
  obtain ⟨A3, c3, e3, b3, _⟩ := o3.form
  exact ⟨A0, c0, A1, c1, A2, c2, A3, c3, e0, e1, e2, e3, b0, b1, b2, b3⟩
theorem put1 (h : Out4 X0 w v0 v1 v2 v3 d) {F : List Nat} {v1' : Value} {es : EntryST} (ho : Own dEntry 37 w F v1' es) (hF : ∀ k, k ∈ F → ¬ X0 k ∧ X k) (hX0 : ∀ k, X0 k → X k) : Out4 X w v0 v1' v2 v3 (d.1, es, d.2.2) := by
  obtain ⟨F0, F1, F2, F3, o0, o1, o2, o3, hd, hX, hq⟩ := h
  refine ⟨F0, F, F2, F3, o0, ho, o2, o3, hd.upd1 (fun k hk => Or.inr ⟨fun h => (hF k hk).1 (hX k (Or.inl h)), fun h => (hF k hk).1 (hX k (Or.inr (Or.inr (Or.inl h)))), fun h => (hF k hk).1 (hX k (Or.inr (Or.inr (Or.inr h))))⟩), ?_, hq⟩
  rintro k (hk | hk | hk | hk)
  · exact hX0 k (hX k (Or.inl hk))
  · exact (hF k hk).2
  · exact hX0 k (hX k (Or.inr (Or.inr (Or.inl hk))))
  · exact hX0 k (hX k (Or.inr (Or.inr (Or.inr hk))))
section
variable {o : Oper} {a : Act} {K : Act → World → Prop} {Q : Exit → Act → World → Prop} {z : Value} {ops : Array Oper} {rest : List Oper}
theorem wp0 (w : World) (s x : Operand) (t : TypeId) (ho : o.op = .call { callee := .builtin .append, args := #[s, x], argTypes := #[t, t] }) (ht : Tryd.prog.underlying t = some (.slice 49))
    {A' : Option Addr} {c' : Nat} {y : NodeT} {G : List Nat} {news : List Value} (hs : a.eval s = v0) (hx : a.eval x = .slice A' 1 c') (h3 : Out4 X0 w v0 v1 v2 v3 d)
    (hM : dNode.M w G y news) (hG : ∀ k, k ∈ G → ¬ X0 k ∧ X k) (hA : ∃ ad, A' = some ad ∧ ∀ j u, news[j]? = some u → w.cell? (ad.add j) = some u)
    (hX0 : ∀ k, X0 k → X k) (hXn : ∀ k, w.heap.size ≤ k → X k) (hlen : d.1.length + 1 ≤ 34359738368)
    (h : ∀ A' n' c' w', Out4 X w' (.slice A' n' c') v1 v2 v3 (d.1 ++ [y], d.2) → Mod X0 w w' → K (a.put o.dst (.slice A' n' c')) w') : o.wp Tryd.prog a w K Q := by
  obtain ⟨F0, F1, F2, F3, o0, o1, o2, o3, hd, hX, hq⟩ := h3
  have hlt := lt o0 o1 o2 o3
  refine wp_append w s x t ho dNode 49 ht eltNode hs o0 hx (Elems.one hM) rfl (fun _ => hA) (by simpa using dNode.M_nd hM) (fun k hk hk2 => by simp at hk; exact (hG k hk).1 (hX k (Or.inl hk2))) hlen ?_
  intro A2 n2 c2 w2 G2 ho3 hn2 hm2 hF2
  have hmem : ∀ k, k ∈ G2 → k ∈ F0 ∨ (¬ X0 k ∧ X k) ∨ w.heap.size ≤ k := fun k hk => by
    rcases hF2 k hk with h1 | h1 | h1
    · exact Or.inl h1
    · simp at h1; exact Or.inr (Or.inl (hG k h1))
    · exact Or.inr (Or.inr h1)
  have hout : ∀ k, ((¬ X0 k ∧ X k) ∨ w.heap.size ≤ k) → k ∉ F1 ∧ k ∉ F2 ∧ k ∉ F3 := fun k hk => by
    refine ⟨fun h => ?_, fun h => ?_, fun h => ?_⟩
    · have h4 : In4 F0 F1 F2 F3 k := Or.inr (Or.inl h)
      rcases hk with hk | hk
      · exact hk.1 (hX k h4)
      · have := hlt k h4; omega
    · have h4 : In4 F0 F1 F2 F3 k := Or.inr (Or.inr (Or.inl h))
      rcases hk with hk | hk
      · exact hk.1 (hX k h4)
      · have := hlt k h4; omega
    · have h4 : In4 F0 F1 F2 F3 k := Or.inr (Or.inr (Or.inr h))
      rcases hk with hk | hk
      · exact hk.1 (hX k h4)
      · have := hlt k h4; omega
  refine h _ _ _ _ ⟨G2, F1, F2, F3, ho3, o1.keep hm2 (fun k hk e => (hd.1 k (o0.own_mem k e)).1 hk), o2.keep hm2 (fun k hk e => (hd.1 k (o0.own_mem k e)).2.1 hk), o3.keep hm2 (fun k hk e => (hd.1 k (o0.own_mem k e)).2.2 hk), hd.upd0 (fun k hk => (hmem k hk).imp id (hout k)), ?_, hq⟩ (hm2.mono fun i _ hi => hX i (Or.inl (o0.own_mem i hi)))
  rintro k (hk | hk)
  · rcases hmem k hk with h1 | h1 | h1
    · exact hX0 k (hX k (Or.inl h1))
    · exact h1.2
    · exact hXn k h1
  · exact hX0 k (hX k (Or.inr hk))
theorem wp3 (w : World) (s x : Operand) (t : TypeId) (ho : o.op = .call { callee := .builtin .append, args := #[s, x], argTypes := #[t, t] }) (ht : Tryd.prog.underlying t = some (.slice 66))
    {A' : Option Addr} {m c' : Nat} {ys : DirOpST} {B : Nat → Prop} (hs : a.eval s = v3) (hx : a.eval x = .slice A' m c') (h3 : Out4 X w v0 v1 v2 v3 d)
    (hy : Row dDirOp w B A' m ys) (hXn : ∀ k, w.heap.size ≤ k → X k) (hlen : d.2.2.2.1.length + ys.length ≤ 34359738368)
    (h : ∀ A' n' c' w', Out4 X w' v0 v1 v2 (.slice A' n' c') (d.1, d.2.1, d.2.2.1, d.2.2.2.1 ++ ys, d.2.2.2.2) → Mod X w w' → K (a.put o.dst (.slice A' n' c')) w') : o.wp Tryd.prog a w K Q := by
  obtain ⟨F0, F1, F2, F3, o0, o1, o2, o3, hd, hX, hq⟩ := h3
  have hlt := lt o0 o1 o2 o3
  obtain ⟨news, hel, hA⟩ := hy.flat flatDirOp
  refine wp_append w s x t ho dDirOp 66 ht eltDirOp hs o3 hx hel hy.1 hA (by rw [flat_nil]; exact List.nodup_nil) (by rw [flat_nil]; intro k hk; cases hk) (by have := hy.1; omega) ?_
  intro A2 n2 c2 w2 G2 ho3 hn2 hm2 hF2
  have hmem : ∀ k, k ∈ G2 → k ∈ F3 ∨ w.heap.size ≤ k := fun k hk => by
    rcases hF2 k hk with h1 | h1 | h1
    · exact Or.inl h1
    · rw [flat_nil] at h1; cases h1
    · exact Or.inr h1
  refine h _ _ _ _ ⟨F0, F1, F2, G2, o0.keep hm2 (fun k hk e => (hd.1 k hk).2.2 (o3.own_mem k e)), o1.keep hm2 (fun k hk e => (hd.2.1 k hk).2 (o3.own_mem k e)), o2.keep hm2 (fun k hk e => hd.2.2 k hk (o3.own_mem k e)), ho3, hd.upd3 (fun k hk => (hmem k hk).imp id (fun h1 => ⟨fun h => by have := o0.lt k h; omega, fun h => by have := o1.lt k h; omega, fun h => by have := o2.lt k h; omega⟩)), ?_, hq⟩ (hm2.mono fun i _ hi => hX i (Or.inr (Or.inr (Or.inr (o3.own_mem i hi)))))
  rintro k (hk | hk | hk | hk)
  · exact hX k (Or.inl hk)
  · exact hX k (Or.inr (Or.inl hk))
  · exact hX k (Or.inr (Or.inr (Or.inl hk)))
  · rcases hmem k hk with h1 | h1
    · exact hX k (Or.inr (Or.inr (Or.inr h1)))
    · exact hXn k h1
theorem list0 (w : World) (hgd : o.guard = none) (s x : Operand) (t : TypeId) (ho : o.op = .call { callee := .builtin .append, args := #[s, x], argTypes := #[t, t] }) (ht : Tryd.prog.underlying t = some (.slice 49))
    {A' : Option Addr} {c' : Nat} {y : NodeT} {G : List Nat} {news : List Value} (hs : a.eval s = v0) (hx : a.eval x = .slice A' 1 c') (h3 : Out4 X0 w v0 v1 v2 v3 d)
    (hM : dNode.M w G y news) (hG : ∀ k, k ∈ G → ¬ X0 k ∧ X k) (hA : ∃ ad, A' = some ad ∧ ∀ j u, news[j]? = some u → w.cell? (ad.add j) = some u)
    (hX0 : ∀ k, X0 k → X k) (hXn : ∀ k, w.heap.size ≤ k → X k) (hlen : d.1.length + 1 ≤ 34359738368)
    (h : ∀ A' n' c' w', Out4 X w' (.slice A' n' c') v1 v2 v3 (d.1 ++ [y], d.2) → Mod X0 w w' → wpList Tryd.prog ops Q rest (a.put o.dst (.slice A' n' c')) w') : wpList Tryd.prog ops Q (o :: rest) a w :=
  wpList_plain hgd fun _ hK => wp0 w s x t ho ht hs hx h3 hM hG hA hX0 hXn hlen fun A' n' c' w' h1 h2 => hK _ _ (h A' n' c' w' h1 h2)
theorem list3 (w : World) (hgd : o.guard = none) (s x : Operand) (t : TypeId) (ho : o.op = .call { callee := .builtin .append, args := #[s, x], argTypes := #[t, t] }) (ht : Tryd.prog.underlying t = some (.slice 66))
    {A' : Option Addr} {m c' : Nat} {ys : DirOpST} {B : Nat → Prop} (hs : a.eval s = v3) (hx : a.eval x = .slice A' m c') (h3 : Out4 X w v0 v1 v2 v3 d)
    (hy : Row dDirOp w B A' m ys) (hXn : ∀ k, w.heap.size ≤ k → X k) (hlen : d.2.2.2.1.length + ys.length ≤ 34359738368)
    (h : ∀ A' n' c' w', Out4 X w' v0 v1 v2 (.slice A' n' c') (d.1, d.2.1, d.2.2.1, d.2.2.2.1 ++ ys, d.2.2.2.2) → Mod X w w' → wpList Tryd.prog ops Q rest (a.put o.dst (.slice A' n' c')) w') : wpList Tryd.prog ops Q (o :: rest) a w :=
  wpList_plain hgd fun _ hK => wp3 w s x t ho ht hs hx h3 hy hXn hlen fun A' n' c' w' h1 h2 => hK _ _ (h A' n' c' w' h1 h2)
end
end Out4
theorem node_inv {w : World} {f : List Nat} {n : NodeT} {cs : List Value} (h : dNode.M w f n cs) : ∃ v, cs = [v, .int .i64 n.2] ∧ Own Ty.byte 5 w f v n.1 ∧ IntKind.i64.wrap n.2 = n.2 := by
  obtain ⟨c0, c1, f0, f1, rfl, rfl, hnd, ⟨v, rfl, ho⟩, ⟨rfl, rfl, hw⟩⟩ := h
  rw [List.append_nil]
  exact ⟨v, rfl, ho, hw⟩
namespace Out4
variable {X X0 X' : Nat → Prop} {w w' : World} {v0 v1 v2 v3 : Value} {d : DiskT}
theorem setData {A : Option Addr} {n c : Nat} (h : Out4 X0 w (.slice A n c) v1 v2 v3 d) {i : Nat} (hi : i < d.1.length) {F : List Nat} {v : Value} {xs : Bytes} (ho : Own Ty.byte 5 w F v xs) (hF : ∀ k, k ∈ F → ¬ X0 k ∧ X k) (hX0 : ∀ k, X0 k → X k) :
    ∃ g, A = some ⟨g, 0, none⟩ ∧ X0 g ∧ (∃ u, w.cell? ⟨g, i * 2, none⟩ = some u) ∧ w.frozen? ⟨g, i * 2, none⟩ = false ∧ Out4 X (w.setCell ⟨g, i * 2, none⟩ v) (.slice A n c) v1 v2 v3 (d.1.set i (xs, d.1[i].2), d.2) := by
  obtain ⟨F0, F1, F2, F3, o0, o1, o2, o3, hd, hX, hq⟩ := h
  obtain ⟨g, cs, f, rfl, hg, hgf, hfF, hM, hcl, hcell, hfz, hst⟩ := o0.elem hi
  obtain ⟨v', rfl, ho', hw⟩ := node_inv hM
  have hXg : X0 g := hX g (Or.inl hg)
  have hgF : g ∉ F := fun hk => (hF g hk).1 hXg
  have hs2 : dNode.sz = 2 := rfl
  have hc0 := hcell 0 (by rw [hs2]; decide)
  rw [hs2, Nat.add_zero] at hc0
  have hoS : Own Ty.byte 5 (w.setCell ⟨g, i * 2, none⟩ v) F v xs := ho.keep ((Mod.refl (fun k => k = g) w).setCell (p := ⟨g, i * 2, none⟩) (fun _ => rfl) v) (fun k hk e => hgF (e ▸ hk))
  obtain ⟨F', hO, -, hF'⟩ := hst 0 v (xs, d.1[i].2) (F ++ []) (by rw [hs2]; decide) (by rw [hs2, Nat.add_zero]; exact mNode (x := (xs, d.1[i].2)) hw hoS) (fun k hk => Or.inr (fun h => (hF k (by simpa using hk)).1 (hX k (Or.inl h))))
  rw [hs2, Nat.add_zero] at hO
  have hmem : ∀ k, k ∈ F' → k ∈ F0 ∨ k ∈ F := fun k hk => (hF' k hk).imp id (fun h => by simpa using h)
  have hm1 : ∀ k, k ∈ F1 ∨ k ∈ F2 ∨ k ∈ F3 → k ≠ g := fun k hk e => by
    subst e
    rcases hk with hk | hk | hk
    · exact (hd.1 _ hg).1 hk
    · exact (hd.1 _ hg).2.1 hk
    · exact (hd.1 _ hg).2.2 hk
  have hms := (Mod.refl (fun k => k = g) w).setCell (p := ⟨g, i * 2, none⟩) (fun _ => rfl) v
  refine ⟨g, rfl, hXg, ⟨_, hc0⟩, hfz _, F', F1, F2, F3, hO, o1.keep hms (fun k hk => hm1 k (Or.inl hk)), o2.keep hms (fun k hk => hm1 k (Or.inr (Or.inl hk))), o3.keep hms (fun k hk => hm1 k (Or.inr (Or.inr hk))), hd.upd0 (fun k hk => (hmem k hk).imp id (fun h1 => ⟨fun h => (hF k h1).1 (hX k (Or.inr (Or.inl h))), fun h => (hF k h1).1 (hX k (Or.inr (Or.inr (Or.inl h)))), fun h => (hF k h1).1 (hX k (Or.inr (Or.inr (Or.inr h))))⟩)), ?_, hq⟩
  rintro k (hk | hk)
  · rcases hmem k hk with h1 | h1
    · exact hX0 k (hX k (Or.inl h1))
    · exact (hF k h1).2
  · exact hX0 k (hX k (Or.inr hk))
theorem setSafe {A : Option Addr} {n c : Nat} (h : Out4 X w (.slice A n c) v1 v2 v3 d) {i : Nat} (hi : i < d.1.length) {s : Int} (hs : IntKind.i64.wrap s = s) :
    ∃ g, A = some ⟨g, 0, none⟩ ∧ X g ∧ (∃ u, w.cell? ⟨g, i * 2 + 1, none⟩ = some u) ∧ w.frozen? ⟨g, i * 2 + 1, none⟩ = false ∧ Out4 X (w.setCell ⟨g, i * 2 + 1, none⟩ (.int .i64 s)) (.slice A n c) v1 v2 v3 (d.1.set i (d.1[i].1, s), d.2) := by
  obtain ⟨F0, F1, F2, F3, o0, o1, o2, o3, hd, hX, hq⟩ := h
  obtain ⟨g, cs, f, rfl, hg, hgf, hfF, hM, hcl, hcell, hfz, hst⟩ := o0.elem hi
  obtain ⟨v', rfl, ho', hw⟩ := node_inv hM
  have hs2 : dNode.sz = 2 := rfl
  have hc0 := hcell 1 (by rw [hs2]; decide)
  rw [hs2] at hc0
  have hms := (Mod.refl (fun k => k = g) w).setCell (p := ⟨g, i * 2 + 1, none⟩) (fun _ => rfl) (.int .i64 s)
  have hoS : Own Ty.byte 5 (w.setCell ⟨g, i * 2 + 1, none⟩ (.int .i64 s)) f v' d.1[i].1 := ho'.keep hms (fun k hk e => hgf (e ▸ hk))
  obtain ⟨F', hO, -, hF'⟩ := hst 1 (.int .i64 s) (d.1[i].1, s) (f ++ []) (by rw [hs2]; decide) (by rw [hs2]; exact mNode (x := (d.1[i].1, s)) hs hoS) (fun k hk => Or.inl (by simpa using hk))
  rw [hs2] at hO
  have hmem : ∀ k, k ∈ F' → k ∈ F0 := fun k hk => (hF' k hk).elim id (fun h => hfF k (by simpa using h))
  have hm1 : ∀ k, k ∈ F1 ∨ k ∈ F2 ∨ k ∈ F3 → k ≠ g := fun k hk e => by
    subst e
    rcases hk with hk | hk | hk
    · exact (hd.1 _ hg).1 hk
    · exact (hd.1 _ hg).2.1 hk
    · exact (hd.1 _ hg).2.2 hk
  refine ⟨g, rfl, hX g (Or.inl hg), ⟨_, hc0⟩, hfz _, F', F1, F2, F3, hO, o1.keep hms (fun k hk => hm1 k (Or.inl hk)), o2.keep hms (fun k hk => hm1 k (Or.inr (Or.inl hk))), o3.keep hms (fun k hk => hm1 k (Or.inr (Or.inr hk))), hd.upd0 (fun k hk => Or.inl (hmem k hk)), ?_, hq⟩
  rintro k (hk | hk)
  · exact hX k (Or.inl (hmem k hk))
  · exact hX k (Or.inr hk)
end Out4
end Go.Proofs.YtkkgighgnbbgiaaDoor
