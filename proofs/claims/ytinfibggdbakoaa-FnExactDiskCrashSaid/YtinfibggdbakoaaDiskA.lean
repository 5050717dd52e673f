/- Names and entries: the small functions, both sides. -/
import Derived.Test.YtinfibggdbakoaaPureDisk
import Derived.Test.YtinfibggdbakoaaSEntry
import Derived.Test.YtinfibggdbakoaaStr
import Derived.BigQuiet
import Derived.OwnWalk
namespace Go.Proofs.Ytinfibggdbakoaa
open Go.RowKit Mem
set_option linter.unusedVariables false
set_option linter.unusedSimpArgs false
theorem bl_run (xs ys : Bytes) : Op.bytesLess (⟨xs.toArray⟩ : ByteArray).toList (⟨ys.toArray⟩ : ByteArray).toList = decide (xs < ys) := by
  rw [show (⟨xs.toArray⟩ : ByteArray).toList = xs from by rw [ByteArray.toList_eq], show (⟨ys.toArray⟩ : ByteArray).toList = ys from by rw [ByteArray.toList_eq], bl_eq]
/-- the entry at k -/
theorem ent_at {w w' : World} {B : Nat → Prop} {A : Option Addr} {n : Nat} {xs : List EntryT} (h : Row dEntry w B A n xs) (hb : ∀ k, B k → w'.heap[k]? = w.heap[k]?) {k : Nat} (hk : k < xs.length) :
    ∃ ad, A = some ad ∧ w'.cell? (ad.add (k * 2)) = some (.string ⟨xs[k].1.toArray⟩) ∧ w'.cell? ⟨(ad.add (k * 2)).block, (ad.add (k * 2)).off + 1, none⟩ = some (.int .i64 xs[k].2) ∧ xs[k].1.length ≤ 9223372036854775807 ∧ IntKind.i64.wrap xs[k].2 = xs[k].2 := by
  obtain ⟨ad, cs, rfl, hK, h0, h1⟩ := h.cells_at hb hk
  obtain ⟨c0, c1, rfl, ⟨rfl, g0⟩, ⟨rfl, g1⟩⟩ := hK
  exact ⟨ad, rfl, h0 _ rfl, h1 0 _ rfl, g0, g1⟩
theorem rowEnt (w : World) {z : Bytes} {v : Int} (g0 : z.length ≤ 9223372036854775807) (g1 : IntKind.i64.wrap v = v) {g : Nat} (hg : g = w.heap.size) : Row dEntry (w.alloc (.cells #[.string ⟨z.toArray⟩, .int .i64 v] 70)) (· = g) (some ⟨g, 0, none⟩) 1 [((z, v) : EntryT)] := by
  subst hg; exact rowEntry w (x := (z, v)) g0 g1
theorem elt_entry : Elt Try.prog 70 dEntry.sz (.agg #[.string ⟨#[]⟩, .int .i64 0]) := eltEntry
theorem goodL_iff (xs : Bytes) : goodL xs = true ↔ 1 ≤ xs.length ∧ xs.length ≤ 80 ∧ ∀ j, (hj : j < xs.length) → 33 ≤ xs[j].toNat ∧ xs[j].toNat ≤ 126 := by
  unfold goodL
  simp only [Bool.and_eq_true, decide_eq_true_eq, List.all_eq_true]
  constructor
  · rintro ⟨⟨h1, h2⟩, h3⟩
    exact ⟨h1, h2, fun j hj => h3 _ (List.getElem_mem hj)⟩
  · rintro ⟨h1, h2, h3⟩
    refine ⟨⟨h1, h2⟩, fun x hx => ?_⟩
    obtain ⟨j, hj, rfl⟩ := List.getElem_of_mem hx
    exact h3 j hj
set_option maxHeartbeats 1000000 in
set_option maxRecDepth 100000 in
theorem goodS_calls (xs : Bytes) (hx : xs.length ≤ 9223372036854775807) (w : World) : Calls Try.prog 54 #[.string ⟨xs.toArray⟩] w (fun e w' => e = .returned (.bool (goodL xs)) ∧ w' = w) := by
  have hsz : (⟨xs.toArray⟩ : ByteArray).size = xs.length := by simp [ByteArray.size]
  have HI := Sec.mk (goodL_iff xs)
  have HF : Sec (¬ (1 ≤ xs.length ∧ xs.length ≤ 80 ∧ ∀ j, (hj : j < xs.length) → 33 ≤ xs[j].toNat ∧ xs[j].toNat ≤ 126) → goodL xs = false) := ⟨fun h => by
    cases hg : goodL xs with
    | false => rfl
    | true => exact absurd (HI.out.1 hg) h⟩
  generalize goodL xs = r at *
  by_cases h1 : 1 ≤ xs.length
  rotate_left
  · have HE : Sec (r = false) := ⟨HF.out (fun h => h1 h.1)⟩
    have h1i : (xs.length : Int) < 1 := by omega
    clear h1
    go_enter Try.func54, Try.ntmps54
    go_wp2
    go_ret
    exact ⟨by rw [HE.out]; rfl, rfl⟩
  by_cases h2 : xs.length ≤ 80
  rotate_left
  · have HE : Sec (r = false) := ⟨HF.out (fun h => h2 h.2.1)⟩
    have h1i : ¬ (xs.length : Int) < 1 := by omega
    have h2i : (80 : Int) < (xs.length : Int) := by omega
    clear h1 h2
    go_enter Try.func54, Try.ntmps54
    go_wp2
    go_ret
    exact ⟨by rw [HE.out]; rfl, rfl⟩
  have h1i : ¬ (xs.length : Int) < 1 := by omega
  have h2i : ¬ (80 : Int) < (xs.length : Int) := by omega
  go_enter Try.func54, Try.ntmps54
  go_wp2
  go_loop [3] (fun i => ∃ k : Nat, k ≤ xs.length ∧ i = .int .i64 (k : Int) ∧ Sec (∀ j, (hj : j < xs.length) → j < k → 33 ≤ xs[j].toNat ∧ xs[j].toNat ≤ 126)) (fun i => xs.length - (intOf i).toNat)
  case atStart => exact ⟨0, Nat.zero_le _, rfl, ⟨fun j _ h => absurd h (Nat.not_lt_zero _)⟩⟩
  case round =>
    obtain ⟨k, hk, rfl, HN⟩ := hrel
    by_cases hlt : k < xs.length
    · have hki : (k : Int) < (xs.length : Int) := by omega
      have hgx := strIdx_run xs k hlt
      have HNX : Sec (33 ≤ xs[k].toNat ∧ xs[k].toNat ≤ 126 → ∀ j, (hj : j < xs.length) → j < k + 1 → 33 ≤ xs[j].toNat ∧ xs[j].toNat ≤ 126) := ⟨fun h j hj hjk => by rcases Nat.lt_succ_iff_lt_or_eq.1 hjk with h' | rfl; exact HN.out j hj h'; exact h⟩
      have HBX : Sec (¬ (33 ≤ xs[k].toNat ∧ xs[k].toNat ≤ 126) → r = false) := ⟨fun h => HF.out (fun hh => h (hh.2.2 k hlt))⟩
      generalize xs[k].toNat = z at *
      by_cases ha : z < 33
      · have HE : Sec (r = false) := ⟨HBX.out (by omega)⟩
        have hai : (z : Int) < 33 := by omega
        go_wp2
        go_ret
        exact ⟨by rw [HE.out]; rfl, rfl⟩
      · have hai : ¬ (z : Int) < 33 := by omega
        by_cases hb : 126 < z
        · have HE : Sec (r = false) := ⟨HBX.out (by omega)⟩
          have hbi : (126 : Int) < (z : Int) := by omega
          go_wp2
          go_ret
          exact ⟨by rw [HE.out]; rfl, rfl⟩
        · have hbi : ¬ (126 : Int) < (z : Int) := by omega
          have HN' := Sec.mk (HNX.out ⟨by omega, by omega⟩)
          go_wp2
          go_round
          case rel => exact ⟨k + 1, by omega, by go_num, HN'⟩
          case measure => simp [intOf]; omega
    · obtain rfl : k = xs.length := by omega
      have HE : Sec (r = true) := ⟨HI.out.2 ⟨h1, h2, fun j hj => HN.out j hj hj⟩⟩
      go_wp2
      go_ret
      exact ⟨by rw [HE.out]; rfl, rfl⟩
set_option maxHeartbeats 1000000 in
set_option maxRecDepth 100000 in
theorem goodI_calls (xs : Bytes) (hx : xs.length ≤ 9223372036854775807) (w : World) : Calls Try.prog 60 #[.string ⟨xs.toArray⟩] w (fun e w' => e = .returned (.bool (goodL xs)) ∧ w' = w) := by
  have hsz : (⟨xs.toArray⟩ : ByteArray).size = xs.length := by simp [ByteArray.size]
  have HI := Sec.mk (goodL_iff xs)
  have HF : Sec (¬ (1 ≤ xs.length ∧ xs.length ≤ 80 ∧ ∀ j, (hj : j < xs.length) → 33 ≤ xs[j].toNat ∧ xs[j].toNat ≤ 126) → goodL xs = false) := ⟨fun h => by
    cases hg : goodL xs with
    | false => rfl
    | true => exact absurd (HI.out.1 hg) h⟩
  generalize goodL xs = r at *
  by_cases h1 : 1 ≤ xs.length
  rotate_left
  · have HE : Sec (r = false) := ⟨HF.out (fun h => h1 h.1)⟩
    have h1i : (xs.length : Int) < 1 := by omega
    clear h1
    go_enter Try.func60, Try.ntmps60
    go_wp2
    go_ret
    exact ⟨by rw [HE.out]; rfl, rfl⟩
  by_cases h2 : xs.length ≤ 80
  rotate_left
  · have HE : Sec (r = false) := ⟨HF.out (fun h => h2 h.2.1)⟩
    have h1i : ¬ (xs.length : Int) < 1 := by omega
    have h2i : (80 : Int) < (xs.length : Int) := by omega
    clear h1 h2
    go_enter Try.func60, Try.ntmps60
    go_wp2
    go_ret
    exact ⟨by rw [HE.out]; rfl, rfl⟩
  have h1i : ¬ (xs.length : Int) < 1 := by omega
  have h2i : ¬ (80 : Int) < (xs.length : Int) := by omega
  go_enter Try.func60, Try.ntmps60
  go_wp2
  go_loop [14] (fun i => ∃ k : Nat, k ≤ xs.length ∧ i = .int .i64 (k : Int) ∧ Sec (∀ j, (hj : j < xs.length) → j < k → 33 ≤ xs[j].toNat ∧ xs[j].toNat ≤ 126)) (fun i => xs.length - (intOf i).toNat)
  case atStart => exact ⟨0, Nat.zero_le _, rfl, ⟨fun j _ h => absurd h (Nat.not_lt_zero _)⟩⟩
  case round =>
    obtain ⟨k, hk, rfl, HN⟩ := hrel
    by_cases hlt : k < xs.length
    · have hki : (k : Int) < (xs.length : Int) := by omega
      have hgx := strIdx_run xs k hlt
      have HNX : Sec (33 ≤ xs[k].toNat ∧ xs[k].toNat ≤ 126 → ∀ j, (hj : j < xs.length) → j < k + 1 → 33 ≤ xs[j].toNat ∧ xs[j].toNat ≤ 126) := ⟨fun h j hj hjk => by rcases Nat.lt_succ_iff_lt_or_eq.1 hjk with h' | rfl; exact HN.out j hj h'; exact h⟩
      have HBX : Sec (¬ (33 ≤ xs[k].toNat ∧ xs[k].toNat ≤ 126) → r = false) := ⟨fun h => HF.out (fun hh => h (hh.2.2 k hlt))⟩
      generalize xs[k].toNat = z at *
      by_cases ha : z < 33
      · have HE : Sec (r = false) := ⟨HBX.out (by omega)⟩
        have hai : (z : Int) < 33 := by omega
        go_wp2
        go_ret
        exact ⟨by rw [HE.out]; rfl, rfl⟩
      · have hai : ¬ (z : Int) < 33 := by omega
        by_cases hb : 126 < z
        · have HE : Sec (r = false) := ⟨HBX.out (by omega)⟩
          have hbi : (126 : Int) < (z : Int) := by omega
          go_wp2
          go_ret
          exact ⟨by rw [HE.out]; rfl, rfl⟩
        · have hbi : ¬ (126 : Int) < (z : Int) := by omega
          have HN' := Sec.mk (HNX.out ⟨by omega, by omega⟩)
          go_wp2
          go_round
          case rel => exact ⟨k + 1, by omega, by go_num, HN'⟩
          case measure => simp [intOf]; omega
    · obtain rfl : k = xs.length := by omega
      have HE : Sec (r = true) := ⟨HI.out.2 ⟨h1, h2, fun j hj => HN.out j hj hj⟩⟩
      go_wp2
      go_ret
      exact ⟨by rw [HE.out]; rfl, rfl⟩
theorem findG_at (n : LB) {l : List EntL} {k : Nat} (hk : k < l.length) : findG n (l.drop k) k = if l[k].1 = n then (k : Int) else findG n (l.drop (k + 1)) (k + 1) := by
  rw [List.drop_eq_getElem_cons hk]; rfl
set_option maxHeartbeats 1000000 in
set_option maxRecDepth 100000 in
theorem l1Find_calls {A : Option Addr} {c : Nat} {xs : List EntryT} {B : Nat → Prop} {w : World} (h : Row dEntry w B A xs.length xs) (nm : Bytes) : Calls Try.prog 38 #[.slice A xs.length c, .string ⟨nm.toArray⟩] w (fun e w' => e = .returned (.int .i64 (findE xs nm)) ∧ w' = w) := by
  have hmx := h.2.1
  have HR := Sec.mk h
  have HF : Sec (findE xs nm = findG nm (xs.drop 0) 0) := ⟨rfl⟩
  generalize findE xs nm = r at *
  clear h
  go_enter Try.func38, Try.ntmps38
  go_wp2
  go_loop [8] (fun i => ∃ k : Nat, k ≤ xs.length ∧ i = .int .i64 (k : Int) ∧ Sec (r = findG nm (xs.drop k) k)) (fun i => xs.length - (intOf i).toNat)
  case atStart => exact ⟨0, Nat.zero_le _, rfl, HF⟩
  case round =>
    obtain ⟨k, hk, rfl, HN⟩ := hrel
    by_cases hlt : k < xs.length
    · obtain ⟨ad, rfl, h0, h1, _, _⟩ := ent_at HR.out (w' := w) (fun _ _ => rfl) hlt
      have HS := Sec.mk (HN.out.trans (findG_at nm hlt))
      have hki : (k : Int) < (xs.length : Int) := by omega
      generalize xs[k].1 = z at *
      by_cases he : z = nm
      · have HE : Sec (r = (k : Int)) := ⟨HS.out.trans (if_pos he)⟩
        have hz : (z == nm) = true := by simp [he]
        clear he
        go_wp2
        go_ret
        exact ⟨by rw [HE.out]; rfl, rfl⟩
      · have HE : Sec (r = findG nm (xs.drop (k + 1)) (k + 1)) := ⟨HS.out.trans (if_neg he)⟩
        have hz : (z == nm) = false := by simpa using he
        clear he
        go_wp2
        go_round
        case rel => exact ⟨k + 1, by omega, by go_num, HE⟩
        case measure => simp [intOf]; omega
    · obtain rfl : k = xs.length := by omega
      have HE : Sec (r = -1) := ⟨by rw [HN.out, List.drop_length]; rfl⟩
      go_wp2
      go_ret
      exact ⟨by rw [HE.out]; rfl, rfl⟩
theorem hasNode_take {l : List EntL} {k : Nat} {v : Int} (hk : k < l.length) : hasNode (l.take (k + 1)) v = (hasNode (l.take k) v || decide (l[k].2 = v)) := by
  unfold hasNode
  rw [List.take_succ_eq_append_getElem hk, List.any_append]; simp only [List.any_cons, List.any_nil, Bool.or_false]
theorem hasNode_mem {l : List EntL} {k : Nat} (hk : k < l.length) : hasNode l l[k].2 = true := by
  unfold hasNode
  rw [List.any_eq_true]
  exact ⟨l[k], List.getElem_mem hk, by simp⟩
set_option maxHeartbeats 1000000 in
set_option maxRecDepth 100000 in
theorem boundTo_calls {A : Option Addr} {c : Nat} {xs : List EntryT} {B : Nat → Prop} {w : World} (h : Row dEntry w B A xs.length xs) (hB : ∀ k, B k → k < w.heap.size) (v : Int) : Calls Try.prog 63 #[.slice A xs.length c, .int .i64 v] w (Ret (.bool (hasNode xs v)) w) := by
  have hmx := h.2.1
  have HR := Sec.mk h
  have HB := Sec.mk hB
  have HT := Sec.mk (fun k (hk : k < xs.length) (hv : xs[k].2 = v) => (hv ▸ hasNode_mem hk : hasNode xs v = true))
  have HF : Sec (hasNode (xs.take xs.length) v = hasNode xs v) := ⟨by rw [List.take_length]⟩
  generalize hasNode xs v = r at *
  clear h hB
  go_enter Try.func63, Try.ntmps63
  go_wp2
  go_loopw [9] (fun i wr => ∃ k : Nat, k ≤ xs.length ∧ i = .int .i64 (k : Int) ∧ Sec (hasNode (xs.take k) v = false) ∧ Sec (New w wr)) (fun i _ => xs.length - (intOf i).toNat)
  case atStart => exact ⟨0, Nat.zero_le _, rfl, ⟨rfl⟩, ⟨Mod.refl _ _⟩⟩
  case round =>
    obtain ⟨k, hk, rfl, HN, HM⟩ := hrel
    by_cases hlt : k < xs.length
    · obtain ⟨ad, rfl, h0, h1, _, _⟩ := ent_at HR.out (w' := wr) (fun i hi => HM.out.block i (HB.out i hi) id) hlt
      have HS := Sec.mk (hasNode_take (v := v) hlt)
      have HTk := Sec.mk (HT.out k hlt)
      have hki : (k : Int) < (xs.length : Int) := by omega
      have HM2 := Sec.mk (HM.out.alloc (.cells #[.string ⟨xs[k].1.toArray⟩, .int .i64 xs[k].2] 70))
      generalize xs[k].1 = nm at *
      generalize xs[k].2 = z at *
      by_cases he : z = v
      · have HE := Sec.mk (HTk.out he)
        have hz : (z == v) = true := by simp [he]
        clear he
        go_wp2
        go_ret
        exact ⟨by rw [HE.out]; rfl, HM2.out⟩
      · have hz : (z == v) = false := by simpa using he
        have HN' : Sec (hasNode (xs.take (k + 1)) v = false) := ⟨by rw [HS.out, HN.out, decide_eq_false he]; rfl⟩
        clear he
        go_wp2
        go_roundw
        case rel => exact ⟨k + 1, by omega, by go_num, HN', HM2⟩
        case measure => simp [intOf]; omega
    · obtain rfl : k = xs.length := by omega
      have HE : Sec (r = false) := ⟨HF.out.symm.trans HN.out⟩
      go_wp2
      go_ret
      exact ⟨by rw [HE.out]; rfl, HM.out⟩
theorem out_take {l : List EntL} {k : Nat} {n : LB} (hk : k < l.length) : outE (l.take (k + 1)) n = outE (l.take k) n ++ (if l[k].1 = n then [] else [l[k]]) := by
  unfold outE
  rw [List.take_succ_eq_append_getElem hk, List.filter_append]
  congr 1
  by_cases h : l[k].1 = n
  · rw [if_pos h, List.filter_cons_of_neg (by simpa using h)]; rfl
  · rw [if_neg h, List.filter_cons_of_pos (by simpa using h)]; rfl
set_option maxHeartbeats 1000000 in
set_option maxRecDepth 100000 in
theorem l1Without_calls {A : Option Addr} {c : Nat} {xs : List EntryT} {B : Nat → Prop} {w : World} (h : Row dEntry w B A xs.length xs) (hB : ∀ k, B k → k < w.heap.size) (hl : xs.length ≤ 1048576) (nm : Bytes) : Calls Try.prog 56 #[.slice A xs.length c, .string ⟨nm.toArray⟩] w (RetOwn dEntry 70 w (outE xs nm)) := by
  have HR := Sec.mk h
  have HB := Sec.mk hB
  clear h hB
  go_enter Try.func56, Try.ntmps56
  go_wp2
  go_loopw [5, 10] (fun o i wr => ∃ (k : Nat) (A' : Option Addr) (n' c' : Nat), k ≤ xs.length ∧ i = .int .i64 (k : Int) ∧ o = .slice A' n' c' ∧ Sec (Mine dEntry 70 w wr (.slice A' n' c') (outE (xs.take k) nm))) (fun _ i _ => xs.length - (intOf i).toNat)
  case atStart => exact ⟨0, none, 0, 0, Nat.zero_le _, rfl, rfl, ⟨Mine.nil _ _ (Mod.refl _ _)⟩⟩
  case round =>
    obtain ⟨k, A', n', c', hk, rfl, rfl, HO⟩ := hrel
    by_cases hlt : k < xs.length
    · obtain ⟨ad, rfl, h0, h1, hn, hw⟩ := ent_at HR.out (w' := wr) (fun i hi => HO.out.new.block i (HB.out i hi) id) hlt
      have HS := Sec.mk (out_take (n := nm) hlt)
      have hol := outE_len (xs.take k) nm
      rw [List.length_take] at hol
      have hki : (k : Int) < (xs.length : Int) := by omega
      have HN := Sec.mk hn
      have HW := Sec.mk hw
      obtain ⟨⟨z, v⟩, hx⟩ : ∃ q, q = xs[k] := ⟨_, rfl⟩
      rw [← hx] at h0 h1 HS HN HW
      clear hx hn hw
      simp only at h0 h1 HS HN HW
      generalize hacc : outE (xs.take k) nm = acc at *
      have HO2 := Sec.mk (HO.out.alloc (.cells #[.string ⟨z.toArray⟩, .int .i64 v] 70))
      clear HO hacc
      by_cases he : z = nm
      · have hz : (z == nm) = true := by simp [he]
        have HA : Sec (outE (xs.take (k + 1)) nm = acc) := ⟨by rw [HS.out, if_pos he, List.append_nil]⟩
        clear he
        go_wp2
        go_roundw
        case rel => exact ⟨k + 1, A', n', c', by omega, by go_num, rfl, ⟨by rw [HA.out]; exact HO2.out⟩⟩
        case measure => simp [intOf]; omega
      · have hz : (z == nm) = false := by simpa using he
        have HA : Sec (outE (xs.take (k + 1)) nm = acc ++ [(z, v)]) := ⟨by rw [HS.out, if_neg he]⟩
        clear he
        go_wp2_with (at_builtin; go_loud (refine wpList_app _ rfl (.tmp 18) (.tmp 20) _ rfl Try.underlying30 elt_entry flatEntry rfl rfl (HO2.out.alloc _) (rowEnt _ HN.out HW.out (by simp)) (show acc.length + [((z, v) : EntryT)].length ≤ 34359738368 by simp only [List.length_singleton]; omega) ?_; intro A6 n6 c6 w6 HO6))
        have HO6' := Sec.mk HO6
        clear HO6
        go_roundw
        case rel => exact ⟨k + 1, A6, n6, c6, by omega, by go_num, rfl, ⟨by rw [HA.out]; exact HO6'.out⟩⟩
        case measure => simp [intOf]; omega
    · obtain rfl : k = xs.length := by omega
      rw [List.take_length] at HO
      go_wp2
      go_ret
      exact HO.out.ret
end Go.Proofs.Ytinfibggdbakoaa
