/- The prefixes of a log hold just the whole records. -/
import Derived.Test.YtciaoedjiggonaaPureLog
namespace Go.Proofs.Ytciaoedjiggonaa
set_option linter.unusedVariables false
open Mem
theorem firstN_frame {r : Bytes} (hr : okRec r) {p : Bytes} (h : p.take 2 = (frameL r).take 2) (h2 : 2 ≤ p.length) : firstN p = r.length := by
  have e : (frameL r).take 2 = len2 r.length := rfl
  rw [e] at h
  match p, h2 with
  | a :: b :: q, _ =>
    have h' : [a, b] = [UInt8.ofNat (r.length / 256), UInt8.ofNat r.length] := by simpa [len2] using h
    injection h' with h3 h4
    injection h4 with h4 _
    subst h3; subst h4
    unfold firstN
    simp only [List.getD_cons_zero, List.getD_cons_succ]
    rw [UInt8.toNat_ofNat', UInt8.toNat_ofNat']
    have := hr.2
    omega
theorem unfr_frame (f : Nat) {r : Bytes} (hr : okRec r) (rest : Bytes) : unfr (f + 1) (frameL r ++ rest) = (r :: (unfr f rest).1, 6 + r.length + (unfr f rest).2) := by
  have hl := frameL_len r
  have hn : firstN (frameL r ++ rest) = r.length := firstN_frame hr (by rw [List.take_append_of_le_length (by omega)]) (by rw [List.length_append]; omega)
  have hrec : recOf (frameL r ++ rest) = r := by
    unfold recOf
    rw [hn, ← hl, List.take_left' rfl]
    unfold frameL
    rw [List.drop_left' (headL_len r)]
  have hok : okFirst (frameL r ++ rest) := by
    refine ⟨by rw [List.length_append]; omega, by rw [hn]; exact hr.1, by rw [hn]; exact hr.2, by rw [hn, List.length_append]; omega, ?_⟩
    rw [hrec, List.take_append_of_le_length (by omega)]
    unfold frameL
    rw [List.take_left' (headL_len r)]
  rw [unfr_some hok, hrec, hn, ← hl, List.drop_left' rfl]
theorem part_no {r : Bytes} (hr : okRec r) {n : Nat} (hn : n < 6 + r.length) (rest : Bytes) : ¬ okFirst ((frameL r ++ rest).take n) := by
  have hl := frameL_len r
  intro hok
  have h6 := hok.1
  have h4 := hok.2.2.2.1
  rw [List.length_take] at h6
  have hf : firstN ((frameL r ++ rest).take n) = r.length := by
    refine firstN_frame hr ?_ (by rw [List.length_take]; omega)
    rw [List.take_take, show min 2 n = 2 by omega, List.take_append_of_le_length (by omega)]
  rw [hf, List.length_take] at h4
  omega
/-- where the first k frames end -/
def endOf (recs : List Bytes) (k : Nat) : Nat := ((recs.take k).flatMap frameL).length
theorem endOf_zero (recs : List Bytes) : endOf recs 0 = 0 := rfl
theorem endOf_succ (recs : List Bytes) {k : Nat} (h : k < recs.length) : endOf recs (k + 1) = endOf recs k + 6 + recs[k].length := by
  unfold endOf
  rw [flatMap_step h, List.length_append, frameL_len]; omega
theorem endOf_all (recs : List Bytes) : endOf recs recs.length = (recs.flatMap frameL).length := by unfold endOf; rw [List.take_length]
theorem endOf_le (recs : List Bytes) (k : Nat) : endOf recs k ≤ (recs.flatMap frameL).length := flatMap_len_le recs k
theorem unfr_prefix : ∀ (recs : List Bytes), (∀ r, r ∈ recs → okRec r) → ∀ (k n f : Nat), k ≤ recs.length → endOf recs k ≤ n → (k < recs.length → n < endOf recs (k + 1)) → n ≤ f →
    unfr f ((recs.flatMap frameL).take n) = (recs.take k, endOf recs k) := by
  intro recs
  induction recs with
  | nil =>
    intro _ k n f hk _ _ _
    obtain rfl : k = 0 := by simpa using hk
    rw [unfr_none (fun h => by have := h.1; simp at this)]
    rfl
  | cons r rs ih =>
    intro hok k n f hk h1 h2 hf
    have hr := hok r (List.mem_cons_self ..)
    have hl := frameL_len r
    rw [List.flatMap_cons]
    cases k with
    | zero =>
      have h3 : n < endOf (r :: rs) 1 := h2 (by simp)
      have e1 : endOf (r :: rs) 1 = 6 + r.length := by unfold endOf; simp [hl]
      rw [unfr_none (part_no hr (by omega) _)]
      rfl
    | succ k =>
      have e1 : ∀ k, endOf (r :: rs) (k + 1) = 6 + r.length + endOf rs k := fun k => by unfold endOf; simp [hl]
      rw [e1] at h1
      obtain ⟨f, rfl⟩ : ∃ f', f = f' + 1 := ⟨f - 1, by omega⟩
      have ht : (frameL r ++ rs.flatMap frameL).take n = frameL r ++ (rs.flatMap frameL).take (n - (6 + r.length)) := by
        rw [List.take_append, List.take_of_length_le (by omega), hl]
      rw [ht, unfr_frame f hr, ih (fun x hx => hok x (List.mem_cons_of_mem _ hx)) k (n - (6 + r.length)) f (by simpa using hk) (by omega) (fun hlt => by have := h2 (by simpa using hlt); rw [e1] at this; omega) (by omega), e1]
      rfl
theorem UnframeL_prefix {recs : List Bytes} (hok : okLog recs) {k n : Nat} (hk : k ≤ recs.length) (h1 : endOf recs k ≤ n) (h2 : k < recs.length → n < endOf recs (k + 1)) (hn : n ≤ (recs.flatMap frameL).length) :
    UnframeL ((recs.flatMap frameL).take n) = (recs.take k, (endOf recs k : Int)) := by
  unfold UnframeL
  have hle := hok.2
  have hlen : ((recs.flatMap frameL).take n).length = n := by rw [List.length_take]; omega
  rw [if_neg (by rw [hlen]; omega), hlen, unfr_prefix recs hok.1 k n n hk h1 h2 (Nat.le_refl _)]
end Go.Proofs.Ytciaoedjiggonaa
