/- Lines, Quote and Unquote of the specification. -/
import Derived.Test.YtciaoedjiggonaaMbox
namespace Go.Proofs.Ytciaoedjiggonaa
open Go.RowKit Mem
set_option linter.unusedVariables false

theorem elt_bytes : Elt Try.prog 22 1 (.slice none 0 0) := Elt.of (b := 24) (by kernel_rfl) rfl (by decide) (by decide)
theorem linesAux_nl (b : UInt8) (bs cur : List UInt8) : linesAux (b :: bs) cur = if b = 10 then (cur ++ [b]) :: linesAux bs [] else linesAux bs (cur ++ [b]) := rfl

set_option maxHeartbeats 400000 in
set_option maxRecDepth 100000 in
theorem l3Lines_calls {A : Option Addr} {c : Nat} {xs : Bytes} {B : Nat → Prop} {w : World} (h : Row Ty.byte w B A xs.length xs) (hB : ∀ k, B k → k < w.heap.size) (hc : xs.length ≤ c) (hl : xs.length ≤ 4294967296) :
    Calls Try.prog 58 #[.slice A xs.length c] w fun e w' => ∃ A' n' c' F hs, e = .returned (.slice A' n' c') ∧ Own Ty.hdr 22 w' F (.slice A' n' c') hs ∧ n' = hs.length ∧ (∀ k, k ∈ F → w.heap.size ≤ k) ∧ New w w' ∧ Hdrs w B hs (lines xs) := by
  have HR := Sec.mk h
  clear h
  go_enter Try.func58, Try.ntmps58
  go_wp2
  go_loopw [3, 4, 8] (fun o f i wr => ∃ (k from_ : Nat) (A' : Option Addr) (n' c' : Nat) (F : List Nat) (hs : List Hdr) (ls : List Bytes), k ≤ xs.length ∧ from_ ≤ k ∧ i = .int .i64 k ∧ f = .int .i64 from_ ∧ o = .slice A' n' c' ∧ Sec (Own Ty.hdr 22 wr F (.slice A' n' c') hs) ∧ Sec (∀ k, k ∈ F → w.heap.size ≤ k) ∧ Sec (New w wr) ∧ Sec (Hdrs w B hs ls) ∧ Sec (lines xs = ls ++ linesAux (xs.drop k) ((xs.take k).drop from_)) ∧ hs.length ≤ k) (fun _ _ i _ => xs.length - (intOf i).toNat)
  case atStart => exact ⟨0, 0, none, 0, 0, [], [], [], Nat.zero_le _, Nat.le_refl _, rfl, rfl, rfl, ⟨Own.nil _ _ _⟩, ⟨by simp⟩, ⟨Mod.refl _ _⟩, ⟨Hdrs.nil _ _⟩, ⟨by simp [lines]⟩, by simp⟩
  case round =>
    obtain ⟨k, from_, A', n', c', F, hs, ls, hk, hfk, rfl, rfl, rfl, HO, HF, HM, HH, HL, hsk⟩ := hrel
    by_cases hlt : k < xs.length
    · obtain ⟨ad, rfl, hx⟩ := HR.out.byte_at (fun i hi => HM.out.block i (hB i hi) id) hlt
      have HD : Sec (xs.drop k = xs[k] :: xs.drop (k + 1)) := ⟨List.drop_eq_getElem_cons hlt⟩
      have HT : Sec ((xs.take (k + 1)).drop from_ = (xs.take k).drop from_ ++ [xs[k]]) := ⟨by
        rw [List.take_succ_eq_append_getElem hlt, List.drop_append_of_le_length (by rw [List.length_take]; omega)]⟩
      by_cases hb : xs[k] = 10
      · have hbb : ((xs[k].toNat : Int) == 10) = true := by rw [hb]; rfl
        have HB10 := Sec.mk hb
        have HCUT := Sec.mk (HR.out.cut1 (k := from_) (m := k + 1) (by omega) (by omega))
        clear hb
        go_wp2_with (at_builtin; refine wpList_append _ rfl (.tmp 16) (.tmp 22) _ rfl Ty.hdr 22 Try.underlying23 elt_bytes (v := .slice A' n' c') rfl (HO.out.new ((Mod.refl _ _).alloc _)) rfl (Elems.one (x := (⟨some (ad.add from_), k + 1 - from_, c - from_⟩ : Hdr)) (f := []) ⟨rfl, rfl⟩) rfl (fun _ => ⟨_, rfl, cell_one_new _ _ _⟩) List.nodup_nil (by intro k hk; cases hk) (by simp; omega) ?_; intro A2 n2 c2 w2 F2 ho2 hn2 hm2 hF2; clear hn2; have HO2 := Sec.mk ho2; have HF2 := Sec.mk hF2; have HM2 := Sec.mk hm2; clear ho2 hF2 hm2)
        have HM3 := Sec.mk (New.app (HM.out.alloc _) (HO.out.new ((Mod.refl _ _).alloc _)) HF.out HM2.out)
        have HF3 := Sec.mk (far_app (HM.out.alloc _) HF.out (by simp) HF2.out)
        clear HM2 HF2
        go_roundw
        case rel => exact ⟨k + 1, k + 1, A2, n2, c2, F2, _, ls ++ [(xs.take (k + 1)).drop from_], by omega, Nat.le_refl _, by go_num, by go_num, rfl, HO2, HF3, HM3, ⟨HH.out.snoc (by simp; omega) (by show k + 1 - from_ ≤ c - from_; omega) HCUT.out⟩, ⟨by rw [HL.out, HD.out, linesAux_nl, if_pos HB10.out, HT.out]; simp⟩, by simp; omega⟩
        case measure => simp [intOf]; omega
      · have hbb : ((xs[k].toNat : Int) == 10) = false := by
          simp only [beq_eq_false_iff_ne, ne_eq]
          intro h
          exact hb (UInt8.toNat_inj.1 (by simpa using (by omega : xs[k].toNat = 10)))
        have HB10 := Sec.mk hb
        clear hb
        go_wp2
        go_roundw
        case rel => exact ⟨k + 1, from_, A', n', c', F, hs, ls, by omega, by omega, by go_num, rfl, rfl, HO, HF, HM, HH, ⟨by rw [HL.out, HD.out, linesAux_nl, if_neg HB10.out, HT.out]⟩, by omega⟩
        case measure => simp [intOf]; omega
    · obtain rfl : k = xs.length := by omega
      have HL2 : Sec (lines xs = ls ++ (if xs.drop from_ = [] then [] else [xs.drop from_])) := ⟨by
        have := HL.out
        rw [List.drop_length, List.take_length] at this
        exact this⟩
      by_cases hf : from_ < xs.length
      · have hne : xs.drop from_ ≠ [] := fun e => by have := congrArg List.length e; rw [List.length_drop] at this; simp at this; omega
        have HNE := Sec.mk hne
        clear hne
        obtain ⟨ad, rfl⟩ : ∃ ad, A = some ad := by
          obtain ⟨ad, h, _⟩ := HR.out.2.2 (by omega)
          exact ⟨ad, h⟩
        have HCUT := Sec.mk (HR.out.cut1 (k := from_) (m := xs.length) (by omega) (Nat.le_refl _))
        go_wp2_with (at_builtin; refine wpList_append _ rfl (.tmp 31) (.tmp 35) _ rfl Ty.hdr 22 Try.underlying23 elt_bytes (v := .slice A' n' c') rfl (HO.out.new ((Mod.refl _ _).alloc _)) rfl (Elems.one (x := (⟨some (ad.add from_), xs.length - from_, c - from_⟩ : Hdr)) (f := []) ⟨rfl, rfl⟩) rfl (fun _ => ⟨_, rfl, cell_one_new _ _ _⟩) List.nodup_nil (by intro k hk; cases hk) (by simp; omega) ?_; intro A2 n2 c2 w2 F2 ho2 hn2 hm2 hF2; have HN2 := Sec.mk hn2; clear hn2; have HO2 := Sec.mk ho2; have HF2 := Sec.mk hF2; have HM2 := Sec.mk hm2; clear ho2 hF2 hm2)
        go_ret
        refine ⟨A2, n2, c2, F2, _, rfl, HO2.out, HN2.out, far_app (HM.out.alloc _) HF.out (by simp) HF2.out, New.app (HM.out.alloc _) (HO.out.new ((Mod.refl _ _).alloc _)) HF.out HM2.out, ?_⟩
        rw [HL2.out, if_neg HNE.out]
        have := HCUT.out
        rw [List.take_length] at this
        exact HH.out.snoc (by simp) (by show xs.length - from_ ≤ c - from_; omega) this
      · have he : xs.drop from_ = [] := List.drop_eq_nil_of_le (by omega)
        have HE := Sec.mk he
        clear he
        obtain ⟨A3, c3, hv, _⟩ := HO.out.form
        have hn3 : n' = hs.length := by injection hv
        have HN3 := Sec.mk hn3
        clear hv hn3
        go_wp2
        go_ret
        refine ⟨A', n', c', F, hs, rfl, HO.out, HN3.out, HF.out, HM.out, ?_⟩
        rw [HL2.out, if_pos HE.out, List.append_nil]
        exact HH.out

end Go.Proofs.Ytciaoedjiggonaa
