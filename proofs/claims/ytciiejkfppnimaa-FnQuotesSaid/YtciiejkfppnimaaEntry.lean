/- MboxEntry of the program and of the specification. -/
import Derived.Test.YtciiejkfppnimaaQuote
import Derived.Test.YtciiejkfppnimaaSQuote
namespace Go.Proofs.Ytciiejkfppnimaa
open Go.RowKit Mem
set_option linter.unusedVariables false

def fromLine : List UInt8 := [70, 114, 111, 109, 32, 109, 97, 105, 108, 10]
def bare (t : List UInt8) : Bool := match t.getLast? with | some b => b != 10 | none => false
def entry (t : List UInt8) : List UInt8 := if 8000 < t.length then [] else fromLine ++ quote t ++ (if bare t then [10] else []) ++ [10]
theorem quoteL_ge (l : List UInt8) : l.length ≤ (quoteL l).length := by unfold quoteL; split <;> simp
theorem flatMap_ge : ∀ ls : List (List UInt8), ls.flatten.length ≤ (ls.flatMap quoteL).length
  | [] => by simp
  | l :: ls => by
    have := flatMap_ge ls
    have := quoteL_ge l
    simp only [List.flatMap_cons, List.length_append, List.flatten_cons]
    omega
theorem quote_ge (t : List UInt8) : t.length ≤ (quote t).length := by
  have := flatMap_ge (lines t)
  rw [lines_flat] at this
  exact this
theorem quote_nil : quote [] = [] := rfl
theorem bare_nil : bare [] = false := rfl
theorem bare_at (t : List UInt8) (h : 0 < t.length) : bare t = (t[t.length - 1] != 10) := by
  unfold bare
  rw [List.getLast?_eq_getElem?, List.getElem?_eq_getElem (by omega)]
theorem entry_len (t : List UInt8) : (entry t).length ≤ t.length + t.length + 12 := by
  unfold entry
  split
  · simp
  · have := quote_len t
    simp only [List.length_append]
    have : (if bare t = true then ([10] : List UInt8) else []).length ≤ 1 := by split <;> simp
    simp [fromLine]; omega

theorem u8_ne10 (b : UInt8) : ((b.toNat : Int) != 10) = (b != 10) := by
  by_cases h : b = 10
  · subst h; rfl
  · have h1 : (b != 10) = true := by simpa using h
    rw [h1]
    simp only [bne_iff_ne, ne_eq]
    intro h2
    exact h (UInt8.toNat_inj.1 (by simpa using (by omega : b.toNat = 10)))
set_option maxHeartbeats 400000 in
set_option maxRecDepth 100000 in
theorem entryImpl_calls {A : Option Addr} {c : Nat} {xs : Bytes} {B : Nat → Prop} {w : World} (h : Row Ty.byte w B A xs.length xs) (hB : ∀ k, B k → k < w.heap.size) (hc : xs.length ≤ c) (hl : xs.length ≤ 4294967296) :
    Calls Try.prog 10 #[.slice A xs.length c] w (RetOwn Ty.byte 5 w (entry xs)) := by
  have HR := Sec.mk h
  clear h
  have kc := fun (w : World) (C : Array Value) (n c : Nat) => Lib.run_convert_bytes_const (P := Try.prog) w 22 5 C n c Try.underlying22 Try.underlying5
  by_cases hbig : 8000 < xs.length
  · have HE : Sec (entry xs = []) := ⟨by unfold entry; rw [if_pos hbig]⟩
    go_enter Try.func10, Try.ntmps10
    go_wp2
    go_ret
    rw [HE.out]
    exact RetOwn.of (Own.nil _ _ _) (by simp) (Mod.refl _ _)
  · have HE : Sec (entry xs = fromLine ++ quote xs ++ (if bare xs then [10] else []) ++ [10]) := ⟨by unfold entry; rw [if_neg hbig]⟩
    go_enter Try.func10, Try.ntmps10
    go_wp2_with fail
    clear kc
    refine (quoteImpl_calls (B := B) (HR.out.mod (fun _ h => h) (fun k hk => Below.heap_alloc _ _ _ (hB k hk))) (fun k hk => by have := hB k hk; simp; omega) hc hl).mono ?_
    rintro e w1 ⟨A1, c1, F1, rfl, ho1, hf1, hm1⟩
    have HO1 := Sec.mk ho1; have HF1 := Sec.mk hf1; have HM1 := Sec.mk (((Mod.refl (fun _ => False) w).alloc _).transN hm1)
    have HC := Sec.mk ((Row.const w 5 (10, 11) fromLine (by decide)).mod (fun _ h => h) (fun k hk => hm1.block k (by subst hk; simp) id))
    have HLQ := Sec.mk (quote_len xs)
    have hs1 : w.heap.size < w1.heap.size := by have := hm1.size; simp at this; omega
    clear ho1 hf1 hm1
    by_cases h0 : xs = []
    · subst h0
      rw [quote_nil] at HO1 HE HLQ
      rw [quote_nil]
      have HB := Sec.mk bare_nil
      go_wp2_with (first | (at_builtin; refine wpList_append_zero _ rfl (.tmp 9) (.tmp 11) _ rfl Try.underlying22 elt_byte rfl rfl (by omega) ?_) | (at_builtin; refine wpList_append_full _ rfl (.tmp 28) (.tmp 29) _ rfl Ty.byte 5 Try.underlying22 elt_byte flat_byte (n := 10) rfl (HC.out.mod (fun _ h => h) (fun k hk => Below.heap_alloc _ _ _ (by subst hk; exact hs1))) (by omega) rfl (Elems.byte1 _ 10 10 rfl) rfl (by omega) (fun _ => ⟨_, rfl, cell_one_new _ _ _⟩) List.nodup_nil (by omega) ?_; intro A3 n3 c3 w3 F3 ho3 hn3 hm3 hF3; have HO3 := Sec.mk ho3; have HF3 := Sec.mk hF3; have HM3 := Sec.mk hm3; clear ho3 hn3 hm3 hF3))
      go_ret
      rw [HE.out, HB.out]
      exact RetOwn.of HO3.out (far_app (HM1.out.alloc _) (F := []) (by simp) (by simp) (fun k hk => .inr (HF3.out k hk))) ((HM1.out.alloc _).transN HM3.out)
    · have hx0 : 0 < xs.length := List.length_pos_iff.2 h0
      have hq0 : 0 < (quote xs).length := by
        have := quote_ge xs
        omega
      have hq1 : (quote xs).length ≤ 16000 := by have := HLQ.out; omega
      clear h0 HLQ
      generalize quote xs = qs at *
      obtain ⟨ad, rfl, hx⟩ := HR.out.byte_at (fun i hi => rfl) (k := xs.length - 1) (by omega)
      have HBA := Sec.mk (bare_at xs hx0)
      have hbn := u8_ne10 xs[xs.length - 1]
      generalize xs[xs.length - 1] = b at *
      rw [← HBA.out] at hbn
      have HX : Sec (∀ W, New w W → W.cell? (ad.add (xs.length - 1)) = some (.int .u8 (b.toNat : Int))) := ⟨fun W h => h.cell_of hx⟩
      clear hx HBA
      by_cases hb : bare xs = true
      · rw [hb] at HE hbn
        clear hb
        go_wp2_with (first
          | (at_builtin; obtain ⟨news, hE, hA⟩ := (HO1.out.row rfl).flat flat_byte; refine wpList_append_full _ rfl (.tmp 9) (.tmp 11) _ rfl Ty.byte 5 Try.underlying22 elt_byte flat_byte (n := 10) rfl HC.out (by omega) rfl hE rfl hq0 hA (by rw [flat_nil]; exact List.nodup_nil) (by omega) ?_; intro A3 n3 c3 w3 F3 ho3 hn3 hm3 hF3; rw [flat_nil] at hF3; have HO3 := Sec.mk ho3; have HF3 := Sec.mk (far_app HM1.out (F := []) (by simp) (by simp) (fun k hk => .inr (hF3 k hk))); have HM3 := Sec.mk (HM1.out.transN hm3); have hx3 := HX.out w3 HM3.out; clear ho3 hn3 hm3 hF3 hE hA)
          | (at_builtin; refine wpList_append _ rfl (.tmp 25) (.tmp 26) _ rfl Ty.byte 5 Try.underlying22 elt_byte (v := .slice A3 n3 c3) rfl (HO3.out.new ((Mod.refl _ _).alloc _)) rfl (Elems.byte1 _ 10 10 rfl) rfl (fun _ => ⟨_, rfl, cell_one_new _ _ _⟩) List.nodup_nil (by intro k hk; cases hk) (by simp only [List.length_append, fromLine, List.length_cons, List.length_nil]; omega) ?_; intro A5 n5 c5 w5 F5 ho5 hn5 hm5 hF5; have HO5 := Sec.mk ho5; have HF5 := Sec.mk (far_app (HM3.out.alloc _) HF3.out (by simp) hF5); have HM5 := Sec.mk (New.app (HM3.out.alloc _) (HO3.out.new ((Mod.refl _ _).alloc _)) HF3.out hm5); clear ho5 hn5 hm5 hF5)
          | (at_builtin; refine wpList_append _ rfl (.tmp 28) (.tmp 29) _ rfl Ty.byte 5 Try.underlying22 elt_byte (v := .slice A5 n5 c5) rfl (HO5.out.new ((Mod.refl _ _).alloc _)) rfl (Elems.byte1 _ 10 10 rfl) rfl (fun _ => ⟨_, rfl, cell_one_new _ _ _⟩) List.nodup_nil (by intro k hk; cases hk) (by simp only [List.length_append, fromLine, List.length_cons, List.length_nil]; omega) ?_; intro A6 n6 c6 w6 F6 ho6 hn6 hm6 hF6; have HO6 := Sec.mk ho6; have HF6 := Sec.mk (far_app (HM5.out.alloc _) HF5.out (by simp) hF6); have HM6 := Sec.mk (New.app (HM5.out.alloc _) (HO5.out.new ((Mod.refl _ _).alloc _)) HF5.out hm6); clear ho6 hn6 hm6 hF6))
        go_ret
        rw [HE.out]
        exact RetOwn.of HO6.out HF6.out HM6.out
      · have hb' : bare xs = false := by simpa using hb
        rw [hb'] at HE hbn
        clear hb hb'
        go_wp2_with (first
          | (at_builtin; obtain ⟨news, hE, hA⟩ := (HO1.out.row rfl).flat flat_byte; refine wpList_append_full _ rfl (.tmp 9) (.tmp 11) _ rfl Ty.byte 5 Try.underlying22 elt_byte flat_byte (n := 10) rfl HC.out (by omega) rfl hE rfl hq0 hA (by rw [flat_nil]; exact List.nodup_nil) (by omega) ?_; intro A3 n3 c3 w3 F3 ho3 hn3 hm3 hF3; rw [flat_nil] at hF3; have HO3 := Sec.mk ho3; have HF3 := Sec.mk (far_app HM1.out (F := []) (by simp) (by simp) (fun k hk => .inr (hF3 k hk))); have HM3 := Sec.mk (HM1.out.transN hm3); have hx3 := HX.out w3 HM3.out; clear ho3 hn3 hm3 hF3 hE hA)
          | (at_builtin; refine wpList_append _ rfl (.tmp 28) (.tmp 29) _ rfl Ty.byte 5 Try.underlying22 elt_byte (v := .slice A3 n3 c3) rfl (HO3.out.new ((Mod.refl _ _).alloc _)) rfl (Elems.byte1 _ 10 10 rfl) rfl (fun _ => ⟨_, rfl, cell_one_new _ _ _⟩) List.nodup_nil (by intro k hk; cases hk) (by simp only [List.length_append, fromLine, List.length_cons, List.length_nil]; omega) ?_; intro A6 n6 c6 w6 F6 ho6 hn6 hm6 hF6; have HO6 := Sec.mk ho6; have HF6 := Sec.mk (far_app (HM3.out.alloc _) HF3.out (by simp) hF6); have HM6 := Sec.mk (New.app (HM3.out.alloc _) (HO3.out.new ((Mod.refl _ _).alloc _)) HF3.out hm6); clear ho6 hn6 hm6 hF6))
        go_ret
        rw [HE.out]
        have := HO6.out
        exact RetOwn.of (by simpa using this) HF6.out HM6.out
end Go.Proofs.Ytciiejkfppnimaa
