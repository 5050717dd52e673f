/- The walks over lines and marks. -/
import Derived.Test.YtciiejkfppnimaaBytes
import Derived.Test.YtciiejkfppnimaaPureMbox
import Derived.Lib.SlBytesConst
namespace Go.Proofs.Ytciiejkfppnimaa
open Go.RowKit Mem
set_option linter.unusedVariables false

theorem str_eq (xs ys : Bytes) : ((⟨xs.toArray⟩ : ByteArray) = ⟨ys.toArray⟩) = (xs = ys) := by simp
set_option maxHeartbeats 400000 in
theorem bytesEqual_calls {A A' : Option Addr} {n m c c' : Nat} {xs ys : Bytes} {B B' : Nat → Prop} {w : World} (h : Row Ty.byte w B A n xs) (h' : Row Ty.byte w B' A' m ys) :
    Calls Try.prog 43 #[.slice A n c, .slice A' m c'] w fun e w' => e = .returned (.bool (decide (xs = ys))) ∧ w' = w := by
  have h1 := h.conv (P := Try.prog) Try.underlying22 Try.underlying5 Try.underlying9 c
  have h2 := h'.conv (P := Try.prog) Try.underlying22 Try.underlying5 Try.underlying9 c'
  clear h h'
  by_cases he : xs = ys
  · subst he
    go_enter Try.func43, Try.ntmps43
    go_wp2
    go_ret
    exact ⟨by simp, rfl⟩
  · have hz : (xs == ys) = false := by simpa using he
    have HE := Sec.mk he
    clear he
    go_enter Try.func43, Try.ntmps43
    go_wp2
    go_ret
    exact ⟨by simp [HE.out], rfl⟩
set_option maxHeartbeats 400000 in
set_option maxRecDepth 100000 in
theorem bytesHasPrefix_calls {A A' : Option Addr} {n c m c' : Nat} {xs ys : Bytes} {B B' : Nat → Prop} {w : World} (h : Row Ty.byte w B A n xs) (hc : n ≤ c) (h' : Row Ty.byte w B' A' m ys) :
    Calls Try.prog 28 #[.slice A n c, .slice A' m c'] w fun e w' => e = .returned (.bool (decide (xs.take m = ys))) ∧ w' = w := by
  have hl := h.2.1
  have hl' := h'.2.1
  have hxl := h.1
  have hyl := h'.1
  have HR := Sec.mk h
  have HR' := Sec.mk h'
  have HN : Sec (¬ m ≤ n → xs.take m ≠ ys) := ⟨fun hm e => hm (by have := congrArg List.length e; rw [List.length_take] at this; omega)⟩
  clear h h' hxl hyl
  by_cases hm : m ≤ n
  · go_enter Try.func28, Try.ntmps28
    go_wp2_with fail
    refine (bytesEqual_calls (HR.out.take hm) HR'.out).mono ?_
    rintro e w1 ⟨rfl, rfl⟩
    have HBB : Sec (∃ bb, decide (xs.take m = ys) = bb) := ⟨⟨_, rfl⟩⟩
    obtain ⟨bb, hbb⟩ := HBB.out
    rw [hbb]
    have HBC := Sec.mk hbb
    clear hbb HBB
    go_wp2
    go_ret
    rw [HBC.out]
    exact ⟨by simp, rfl⟩
  · go_enter Try.func28, Try.ntmps28
    go_wp2
    go_ret
    exact ⟨by simp [HN.out hm], rfl⟩

set_option maxHeartbeats 400000 in
set_option maxRecDepth 100000 in
theorem quotes_calls {A : Option Addr} {c : Nat} {xs : Bytes} {B : Nat → Prop} {w : World} (h : Row Ty.byte w B A xs.length xs) (hB : ∀ k, B k → k < w.heap.size) (hc : xs.length ≤ c) (hl : xs.length ≤ 34359738368) :
    Calls Try.prog 25 #[.slice A xs.length c] w (Ret (.int .i64 (marks xs)) w) := by
  have HR := Sec.mk h
  clear h
  go_enter Try.func25, Try.ntmps25
  go_wp2
  go_loop [3] (fun i => ∃ k : Nat, k ≤ gts xs ∧ i = .int .i64 k) (fun i => xs.length - (intOf i).toNat)
  case atStart => exact ⟨0, Nat.zero_le _, rfl⟩
  case round =>
    obtain ⟨k, hk, rfl⟩ := hrel
    have hg := gts_le xs
    by_cases hkg : k < gts xs
    · obtain ⟨ad, rfl, hx⟩ := HR.out.byte_at (fun i hi => rfl) (k := k) (by omega)
      rw [gts_at xs k (by omega) hkg] at hx
      have hlt : k < xs.length := by omega
      go_wp2
      go_round
      case rel => exact ⟨k + 1, by omega, by go_num⟩
      case measure => simp [intOf]; omega
    · obtain rfl : k = gts xs := by omega
      have HF : Sec (isFrom (xs.drop (gts xs)) = decide ((xs.drop (gts xs)).take 5 = fromB)) := ⟨rfl⟩
      have HD : Sec ((xs.take xs.length).drop (gts xs) = xs.drop (gts xs)) := ⟨by rw [List.take_length]⟩
      by_cases hlt : gts xs < xs.length
      · obtain ⟨ad, rfl, hx⟩ := HR.out.byte_at (fun i hi => rfl) hlt
        have hne : ((xs[gts xs].toNat : Int) == 62) = false := by
          have := gts_end xs hlt
          simp only [beq_eq_false_iff_ne, ne_eq]
          intro h
          exact this (UInt8.toNat_inj.1 (by simpa using (by omega : xs[gts xs].toNat = 62)))
        have kc := fun (w : World) (C : Array Value) (n c : Nat) => Lib.run_convert_bytes_const (P := Try.prog) w 22 5 C n c Try.underlying22 Try.underlying5
        have HCUT := Sec.mk (HR.out.cut1 (k := gts xs) (m := xs.length) (by omega) (Nat.le_refl _))
        go_wp2_with fail
        clear kc
        refine (bytesHasPrefix_calls (n := xs.length - gts xs) (c := c - gts xs) (m := 5) (c' := 5) (ys := fromB) (B := B) (B' := (· = w.heap.size)) (HCUT.out.mod (fun _ h => h) (fun k hk => Below.heap_alloc _ _ _ (hB k hk))) (by omega) (Row.const w 5 _ fromB (by decide))).mono ?_
        rintro e w1 ⟨rfl, rfl⟩
        rw [HD.out]
        by_cases hf : (xs.drop (gts xs)).take 5 = fromB
        · have hd : decide ((xs.drop (gts xs)).take 5 = fromB) = true := decide_eq_true hf
          have HX := Sec.mk hf
          clear hf
          go_wp2
          go_ret
          exact ⟨by simp [marks, HF.out, HX.out], (Mod.refl _ _).alloc _⟩
        · have hd : decide ((xs.drop (gts xs)).take 5 = fromB) = false := decide_eq_false hf
          have HX := Sec.mk hf
          clear hf
          go_wp2
          go_ret
          exact ⟨by simp [marks, HF.out, HX.out], (Mod.refl _ _).alloc _⟩
      · have hge : xs.length ≤ gts xs := by omega
        have kc := fun (w : World) (C : Array Value) (n c : Nat) => Lib.run_convert_bytes_const (P := Try.prog) w 22 5 C n c Try.underlying22 Try.underlying5
        have HX : Sec (isFrom (xs.drop (gts xs)) = false) := ⟨by
          cases hf : isFrom (xs.drop (gts xs)) with
          | false => rfl
          | true => have := isFrom_len hf; rw [List.length_drop] at this; omega⟩
        clear hlt hkg
        go_wp2_with fail
        all_goals
          refine (bytesHasPrefix_calls (n := 0) (m := 5) (c' := 5) (xs := []) (ys := fromB) (B := fun _ => False) (B' := (· = w.heap.size)) (Row.none_ _ _ _ _) (Nat.zero_le _) (Row.const w 5 _ fromB (by decide))).mono ?_
          rintro e w1 ⟨rfl, rfl⟩
          rw [show decide (([] : Bytes).take 5 = fromB) = false from by decide]
          clear kc
          go_wp2
          go_ret
          exact ⟨by simp [marks, HX.out], (Mod.refl _ _).alloc _⟩
end Go.Proofs.Ytciiejkfppnimaa
