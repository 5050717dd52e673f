/- The plain law of a crash. -/
import Derived.Test.YtinfibggdbakoaaDiskAt
namespace Go.Proofs.Ytinfibggdbakoaa
set_option linter.unusedVariables false
/-- the names behind the first operations -/
def runL (nodes : Int) : List EntL → List DopL → List EntL
  | l, [] => l
  | l, o :: r => runL nodes ((replayL l o nodes).getD []) r
theorem runL_snoc (nodes : Int) (o : DopL) : ∀ (p : List DopL) (l : List EntL), runL nodes l (p ++ [o]) = (replayL (runL nodes l p) o nodes).getD [] := by
  intro p
  induction p with
  | nil => intro l; rfl
  | cons a r ih => intro l; exact ih _
theorem runL_take (nodes : Int) (l : List EntL) (p : List DopL) {k : Nat} (hk : k < p.length) : runL nodes l (p.take (k + 1)) = (replayL (runL nodes l (p.take k)) p[k] nodes).getD [] := by
  rw [List.take_succ_eq_append_getElem hk, runL_snoc]
/-- all nodes of a list of names are there -/
def InR (nodes : Int) (l : List EntL) : Prop := ∀ e, e ∈ l → 0 ≤ e.2 ∧ e.2 < nodes
theorem inR_of {l : List EntL} {nodes : Int} (h : inOrdL l nodes = true) : InR nodes l := by
  unfold inOrdL at h
  simp only [Bool.and_eq_true, decide_eq_true_eq, List.all_eq_true] at h
  intro e he
  exact (h.1.2 e he).2
theorem inR_out {l : List EntL} {nodes : Int} (h : InR nodes l) (n : LB) : InR nodes (outE l n) := fun e he => h e (List.mem_filter.1 he).1
theorem inR_with {l : List EntL} {nodes : Int} (h : InR nodes l) (n : LB) {k : Int} (h0 : 0 ≤ k) (h1 : k < nodes) : InR nodes (withE l n k) := by
  intro e he
  unfold withE lowE highE at he
  rcases List.mem_append.1 he with he | he
  · exact h e (List.mem_filter.1 he).1
  · rcases List.mem_cons.1 he with he | he
    · subst he; exact ⟨h0, h1⟩
    · exact h e (List.mem_filter.1 he).1
theorem inR_replay {l m : List EntL} {o : DopL} {nodes : Int} (ho : Ord l) (h : InR nodes l) (hr : replayL l o nodes = some m) : InR nodes m := by
  unfold replayL at hr
  split at hr
  · split at hr
    · rename_i hh
      rw [← Option.some.inj hr]
      exact inR_with h _ hh.2.2.1 hh.2.2.2.1
    · cases hr
  · split at hr
    · split at hr
      · rename_i hh
        rw [← Option.some.inj hr]
        obtain ⟨hl, -⟩ := (place_at ho o.2.1).1.mp hh.1
        have := h _ (List.getElem_mem hl)
        refine inR_with (inR_out h _) _ ?_ ?_
        · rw [List.getElem?_eq_getElem hl]; exact this.1
        · rw [List.getElem?_eq_getElem hl]; exact this.2
      · cases hr
    · split at hr
      · split at hr
        · rw [← Option.some.inj hr]
          exact inR_out h _
        · cases hr
      · cases hr
/-- one step of a valid replay -/
theorem replays_step {nodes : Int} {l names : List EntL} {p : List DopL} {k : Nat} (hk : k < p.length) (h : replaysL nodes l (p.drop k) = some names) :
    ∃ m, replayL l p[k] nodes = some m ∧ m.length ≤ 300 ∧ replaysL nodes m (p.drop (k + 1)) = some names := by
  rw [replaysL_at hk] at h
  cases hr : replayL l p[k] nodes with
  | none => rw [hr] at h; cases h
  | some m =>
    rw [hr] at h
    simp only at h
    by_cases hm : m.length ≤ 300
    · rw [if_pos hm] at h; exact ⟨m, rfl, hm, h⟩
    · rw [if_neg hm] at h; cases h
/-- how much of a node a crash keeps -/
def keepN (n : NodL) (picks : List Int) (i : Nat) : Int :=
  if 0 < picks.length then (if 0 < picks[i % picks.length]?.getD 0 then n.2 + (picks[i % picks.length]?.getD 0) % ((n.1.length : Int) - n.2 + 1) else n.2) else n.2
theorem keepN_in {n : NodL} (h : nodeOk n = true) (picks : List Int) (i : Nat) : 0 ≤ keepN n picks i ∧ keepN n picks i ≤ n.1.length := by
  unfold nodeOk at h
  have h := of_decide_eq_true h
  unfold keepN
  split
  · split
    · have h1 := Int.emod_nonneg (picks[i % picks.length]?.getD 0) (b := (n.1.length : Int) - n.2 + 1) (by omega)
      have h2 := Int.emod_lt_of_pos (picks[i % picks.length]?.getD 0) (b := (n.1.length : Int) - n.2 + 1) (by omega)
      omega
    · omega
  · omega
def crashNode (nodes : List NodL) (picks : List Int) (i : Nat) (e : EntL) : NodL :=
  ((nodes[e.2.toNat]?.getD ([], 0)).1.take (keepN (nodes[e.2.toNat]?.getD ([], 0)) picks i).toNat, keepN (nodes[e.2.toNat]?.getD ([], 0)) picks i)
theorem crashNode_at {nodes : List NodL} {nd : Nat} (h : nd < nodes.length) (picks : List Int) (i : Nat) (nm : LB) : crashNode nodes picks i (nm, (nd : Int)) = (nodes[nd].1.take (keepN nodes[nd] picks i).toNat, keepN nodes[nd] picks i) := by
  have e : (nodes[((nm, (nd : Int)) : EntL).2.toNat]?.getD ([], 0)) = nodes[nd] := by
    show nodes[((nd : Int)).toNat]?.getD ([], 0) = _
    rw [Int.toNat_natCast, List.getElem?_eq_getElem h]
    rfl
  unfold crashNode
  rw [e]
def crashNs (nodes : List NodL) (picks : List Int) (l : List EntL) : List NodL := l.mapIdx (crashNode nodes picks)
def crashEs (l : List EntL) : List EntL := l.mapIdx fun i e => (e.1, (i : Int))
theorem crashNs_take (nodes : List NodL) (picks : List Int) (l : List EntL) {k : Nat} (hk : k < l.length) : crashNs nodes picks (l.take (k + 1)) = crashNs nodes picks (l.take k) ++ [crashNode nodes picks k l[k]] := by
  unfold crashNs
  rw [List.take_succ_eq_append_getElem hk, List.mapIdx_concat]
  simp [Nat.min_eq_left (Nat.le_of_lt hk)]
theorem crashEs_take (l : List EntL) {k : Nat} (hk : k < l.length) : crashEs (l.take (k + 1)) = crashEs (l.take k) ++ [(l[k].1, (k : Int))] := by
  unfold crashEs
  rw [List.take_succ_eq_append_getElem hk, List.mapIdx_concat]
  simp [Nat.min_eq_left (Nat.le_of_lt hk)]
def listAt (d : DiskL) (dirs : Int) : List EntL := runL d.1.length d.2.2.1 (d.2.2.2.1.take dirs.toNat)
def crashL (d : DiskL) (dirs : Int) (picks : List Int) : DiskL :=
  if DiskValidL d = true then (crashNs d.1 picks (listAt d dirs), crashEs (listAt d dirs), crashEs (listAt d dirs), [], d.2.2.2.2) else ([], [], [], [], 0)
theorem crashEs_len (l : List EntL) : (crashEs l).length = l.length := by simp [crashEs]
theorem crashNs_len (nodes : List NodL) (picks : List Int) (l : List EntL) : (crashNs nodes picks l).length = l.length := by simp [crashNs]
end Go.Proofs.Ytinfibggdbakoaa
