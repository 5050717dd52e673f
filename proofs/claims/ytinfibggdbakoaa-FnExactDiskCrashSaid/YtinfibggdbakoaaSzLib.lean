/- What the laws' sizes come to; rows in ranges one behind the other. -/
import Derived.Test.YtinfibggdbakoaaValB
namespace Go.Proofs.Ytinfibggdbakoaa
open Go.RowKit Mem
set_option linter.unusedVariables false
def SzR (w : World) (left : Int) (s : Nat) (e : Ending) (w' : World) : Prop := e = .returned (.int .i64 (if left < (s : Int) then -1 else left - (s : Int))) ∧ New w w'
theorem owSl_form {α : Type} {d : Ty α} {e : TypeId} {w : World} {lo hi : Nat} {v : Value} {xs : List α} (h : OwV false (Ty.slice e d) w lo hi v xs) : ∃ A c, v = .slice A xs.length c := by
  obtain ⟨A, c, F, rfl, _⟩ := h.slice
  exact ⟨A, c, rfl⟩
theorem szByteS_s {w : World} {v : Value} {x : Bytes} (h : RdV false dBS w v x) (left : Int) (h0 : 0 ≤ left) (h1 : left ≤ 1048576) : Calls Try.prog 70 #[v, .int .i64 left] w (SzR w left (szBS x)) :=
  (szByteS_v h left h0 h1).mono fun e w' ⟨h1, h2⟩ => ⟨h1, h2 ▸ Mod.refl _ _⟩
theorem sz_set (w : World) (p : Addr) (v : Value) : (w.setCell p v).heap.size = w.heap.size := by simp [World.setCell]
theorem nd2 {F0 F1 : List Nat} {l0 u0 l1 u1 : Nat} (n0 : F0.Nodup) (r0 : ∀ k, k ∈ F0 → l0 ≤ k ∧ k < u0) (n1 : F1.Nodup) (r1 : ∀ k, k ∈ F1 → l1 ≤ k ∧ k < u1) (h01 : u0 ≤ l1) : (F0 ++ F1).Nodup :=
  List.nodup_append.2 ⟨n0, n1, fun p hp q hq e => by subst e; have := r0 p hp; have := r1 p hq; omega⟩
theorem nd4 {F0 F1 F2 F3 : List Nat} {l0 u0 l1 u1 l2 u2 l3 u3 : Nat} (n0 : F0.Nodup) (r0 : ∀ k, k ∈ F0 → l0 ≤ k ∧ k < u0) (n1 : F1.Nodup) (r1 : ∀ k, k ∈ F1 → l1 ≤ k ∧ k < u1)
    (n2 : F2.Nodup) (r2 : ∀ k, k ∈ F2 → l2 ≤ k ∧ k < u2) (n3 : F3.Nodup) (r3 : ∀ k, k ∈ F3 → l3 ≤ k ∧ k < u3) (h01 : u0 ≤ l1) (h12 : u1 ≤ l2) (h23 : u2 ≤ l3) (hl1 : l1 ≤ u1) (hl2 : l2 ≤ u2) :
    (F0 ++ (F1 ++ (F2 ++ (F3 ++ ([] : List Nat))))).Nodup := by
  rw [List.append_nil]
  refine List.nodup_append.2 ⟨n0, List.nodup_append.2 ⟨n1, List.nodup_append.2 ⟨n2, n3, fun p hp q hq e => ?_⟩, fun p hp q hq e => ?_⟩, fun p hp q hq e => ?_⟩
  · subst e; have := r2 p hp; have := r3 p hq; omega
  · subst e; have := r1 p hp
    rcases List.mem_append.1 hq with h | h
    · have := r2 p h; omega
    · have := r3 p h; omega
  · subst e; have := r0 p hp
    rcases List.mem_append.1 hq with h | h
    · have := r1 p h; omega
    · rcases List.mem_append.1 h with h | h
      · have := r2 p h; omega
      · have := r3 p h; omega
end Go.Proofs.Ytinfibggdbakoaa
