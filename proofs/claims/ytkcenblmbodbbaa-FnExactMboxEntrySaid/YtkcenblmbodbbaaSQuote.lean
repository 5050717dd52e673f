/- Lines, Quote and Unquote of the specification. -/
import Derived.Test.YtkcenblmbodbbaaMbox
namespace Go.Proofs.Ytkcenblmbodbbaa
open Go.RowKit Mem
set_option linter.unusedVariables false

theorem elt_bytes : Elt Try.prog 23 1 (.slice none 0 0) := Elt.of (b := 24) (by kernel_rfl) rfl (by decide) (by decide)
theorem linesAux_nl (b : UInt8) (bs cur : List UInt8) : linesAux (b :: bs) cur = if b = 10 then (cur ++ [b]) :: linesAux bs [] else linesAux bs (cur ++ [b]) := rfl

set_option maxHeartbeats 400000 in
set_option maxRecDepth 100000 in
theorem l3Lines_calls {A : Option Addr} {c : Nat} {xs : Bytes} {B : Nat → Prop} {w : World} (h : Row Ty.byte w B A xs.length xs) (hB : ∀ k, B k → k < w.heap.size) (hc : xs.length ≤ c) (hl : xs.length ≤ 4294967296) :
    Calls Try.prog 87 #[.slice A xs.length c] w fun e w' => ∃ A' n' c' F hs, e = .returned (.slice A' n' c') ∧ Own Ty.hdr 23 w' F (.slice A' n' c') hs ∧ n' = hs.length ∧ (∀ k, k ∈ F → w.heap.size ≤ k) ∧ New w w' ∧ Hdrs w B hs (lines xs) := by
  have HR := Sec.mk h
  clear h
  go_enter Try.func87, Try.ntmps87
  go_wp2
  go_loopw [3, 4, 8] (fun o f i wr => ∃ (k from_ : Nat) (A' : Option Addr) (n' c' : Nat) (F : List Nat) (hs : List Hdr) (ls : List Bytes), k ≤ xs.length ∧ from_ ≤ k ∧ i = .int .i64 k ∧ f = .int .i64 from_ ∧ o = .slice A' n' c' ∧ Sec (Own Ty.hdr 23 wr F (.slice A' n' c') hs) ∧ Sec (∀ k, k ∈ F → w.heap.size ≤ k) ∧ Sec (New w wr) ∧ Sec (Hdrs w B hs ls) ∧ Sec (lines xs = ls ++ linesAux (xs.drop k) ((xs.take k).drop from_)) ∧ hs.length ≤ k) (fun _ _ i _ => xs.length - (intOf i).toNat)
  case atStart => exact ⟨0, 0, none, 0, 0, [], [], [], Nat.zero_le _, Nat.le_refl _, rfl, rfl, rfl, ⟨Own.nil _ _ _⟩, ⟨by simp⟩, ⟨Mod.refl _ _⟩, ⟨Hdrs.nil _ _⟩, ⟨by simp [lines]⟩, by simp⟩
  case round =>
    obtain ⟨k, from_, A', n', c', F, hs, ls, hk, hfk, rfl, rfl, rfl, HO, HF, HM, HH, HL, hsk⟩ := hrel
    by_cases hlt : k < xs.length
    · obtain ⟨ad, rfl, hx⟩ := HR.out.byte_at (fun i hi => HM.out.block i (hB i hi) id) hlt
      have HD : Sec (xs.drop k = xs[k] :: xs.drop (k + 1)) := ⟨List.drop_eq_getElem_cons hlt⟩
      have HT : Sec ((xs.take (k + 1)).drop from_ = (xs.take k).drop from_ ++ [xs[k]]) := ⟨by
        rw [List.take_succ_eq_append_getElem hlt, List.drop_append_of_le_length (by rw [List.length_take]; omega)]⟩
      by_cases hb : xs[k] = 10
      · have hbb : ((xs[k].toNat : Int) == 10) = true := by rw [hb]; rfl
        have HB10 := Sec.mk hb
        have HCUT := Sec.mk (HR.out.cut1 (k := from_) (m := k + 1) (by omega) (by omega))
        clear hb
        go_wp2_with (at_builtin; refine wpList_append _ rfl (.tmp 16) (.tmp 22) _ rfl Ty.hdr 23 Try.underlying37 elt_bytes (v := .slice A' n' c') rfl (HO.out.new ((Mod.refl _ _).alloc _)) rfl (Elems.one (x := (⟨some (ad.add from_), k + 1 - from_, c - from_⟩ : Hdr)) (f := []) ⟨rfl, rfl⟩) rfl (fun _ => ⟨_, rfl, cell_one_new _ _ _⟩) List.nodup_nil (by intro k hk; cases hk) (by simp; omega) ?_; intro A2 n2 c2 w2 F2 ho2 hn2 hm2 hF2; clear hn2; have HO2 := Sec.mk ho2; have HF2 := Sec.mk hF2; have HM2 := Sec.mk hm2; clear ho2 hF2 hm2)
        have HM3 := Sec.mk (New.app (HM.out.alloc _) (HO.out.new ((Mod.refl _ _).alloc _)) HF.out HM2.out)
        have HF3 := Sec.mk (far_app (HM.out.alloc _) HF.out (by simp) HF2.out)
        clear HM2 HF2
        go_roundw
        case rel => exact ⟨k + 1, k + 1, A2, n2, c2, F2, _, ls ++ [(xs.take (k + 1)).drop from_], by omega, Nat.le_refl _, by go_num, by go_num, rfl, HO2, HF3, HM3, ⟨HH.out.snoc (by simp; omega) (by show k + 1 - from_ ≤ c - from_; omega) HCUT.out⟩, ⟨by rw [HL.out, HD.out, linesAux_nl, if_pos HB10.out, HT.out]; simp⟩, by simp; omega⟩
        case measure => simp [intOf]; omega
      · have hbb : ((xs[k].toNat : Int) == 10) = false := by
          simp only [beq_eq_false_iff_ne, ne_eq]
          intro h
          exact hb (UInt8.toNat_inj.1 (by simpa using (by omega : xs[k].toNat = 10)))
        have HB10 := Sec.mk hb
        clear hb
        go_wp2
        go_roundw
        case rel => exact ⟨k + 1, from_, A', n', c', F, hs, ls, by omega, by omega, by go_num, rfl, rfl, HO, HF, HM, HH, ⟨by rw [HL.out, HD.out, linesAux_nl, if_neg HB10.out, HT.out]⟩, by omega⟩
        case measure => simp [intOf]; omega
    · obtain rfl : k = xs.length := by omega
      have HL2 : Sec (lines xs = ls ++ (if xs.drop from_ = [] then [] else [xs.drop from_])) := ⟨by
        have := HL.out
        rw [List.drop_length, List.take_length] at this
        exact this⟩
      by_cases hf : from_ < xs.length
      · have hne : xs.drop from_ ≠ [] := fun e => by have := congrArg List.length e; rw [List.length_drop] at this; simp at this; omega
        have HNE := Sec.mk hne
        clear hne
        obtain ⟨ad, rfl⟩ : ∃ ad, A = some ad := by
          obtain ⟨ad, h, _⟩ := HR.out.2.2 (by omega)
          exact ⟨ad, h⟩
        have HCUT := Sec.mk (HR.out.cut1 (k := from_) (m := xs.length) (by omega) (Nat.le_refl _))
        go_wp2_with (at_builtin; refine wpList_append _ rfl (.tmp 31) (.tmp 35) _ rfl Ty.hdr 23 Try.underlying37 elt_bytes (v := .slice A' n' c') rfl (HO.out.new ((Mod.refl _ _).alloc _)) rfl (Elems.one (x := (⟨some (ad.add from_), xs.length - from_, c - from_⟩ : Hdr)) (f := []) ⟨rfl, rfl⟩) rfl (fun _ => ⟨_, rfl, cell_one_new _ _ _⟩) List.nodup_nil (by intro k hk; cases hk) (by simp; omega) ?_; intro A2 n2 c2 w2 F2 ho2 hn2 hm2 hF2; have HN2 := Sec.mk hn2; clear hn2; have HO2 := Sec.mk ho2; have HF2 := Sec.mk hF2; have HM2 := Sec.mk hm2; clear ho2 hF2 hm2)
        go_ret
        refine ⟨A2, n2, c2, F2, _, rfl, HO2.out, HN2.out, far_app (HM.out.alloc _) HF.out (by simp) HF2.out, New.app (HM.out.alloc _) (HO.out.new ((Mod.refl _ _).alloc _)) HF.out HM2.out, ?_⟩
        rw [HL2.out, if_neg HNE.out]
        have := HCUT.out
        rw [List.take_length] at this
        exact HH.out.snoc (by simp) (by show xs.length - from_ ≤ c - from_; omega) this
      · have he : xs.drop from_ = [] := List.drop_eq_nil_of_le (by omega)
        have HE := Sec.mk he
        clear he
        obtain ⟨A3, c3, hv, _⟩ := HO.out.form
        have hn3 : n' = hs.length := by injection hv
        have HN3 := Sec.mk hn3
        clear hv hn3
        go_wp2
        go_ret
        refine ⟨A', n', c', F, hs, rfl, HO.out, HN3.out, HF.out, HM.out, ?_⟩
        rw [HL2.out, if_pos HE.out, List.append_nil]
        exact HH.out

set_option maxHeartbeats 400000 in
set_option maxRecDepth 100000 in
theorem quoteSpec_calls {A : Option Addr} {c : Nat} {xs : Bytes} {B : Nat → Prop} {w : World} (h : Row Ty.byte w B A xs.length xs) (hB : ∀ k, B k → k < w.heap.size) (hc : xs.length ≤ c) (hl : xs.length ≤ 4294967296) :
    Calls Try.prog 29 #[.slice A xs.length c] w (RetOwn Ty.byte 5 w (quote xs)) := by
  have HR := Sec.mk h
  clear h
  go_enter Try.func29, Try.ntmps29
  go_wp2_with fail
  refine (l3Lines_calls HR.out hB hc hl).mono ?_
  rintro e w1 ⟨A1, n1, c1, F1, hs, rfl, ho1, hn1, hF1, hm1, hh1⟩
  have HO1 := Sec.mk ho1; have HF1 := Sec.mk hF1; have HM1 := Sec.mk hm1; have HH1 := Sec.mk hh1
  obtain rfl : n1 = (lines xs).length := by rw [hn1, hh1.1]
  clear ho1 hn1 hF1 hm1 hh1
  have hcnt := lines_count xs
  go_wp2
  go_loopw [3, 9] (fun o i wr => ∃ (k : Nat) (A' : Option Addr) (n' c' : Nat) (F : List Nat), k ≤ (lines xs).length ∧ i = .int .i64 k ∧ o = .slice A' n' c' ∧ Sec (Own Ty.byte 5 wr F (.slice A' n' c') (((lines xs).take k).flatMap quoteL)) ∧ Sec (∀ k, k ∈ F → w1.heap.size ≤ k) ∧ Sec (New w1 wr)) (fun _ i _ => (lines xs).length - (intOf i).toNat)
  case atStart => exact ⟨0, none, 0, 0, [], Nat.zero_le _, rfl, rfl, ⟨Own.nil _ _ _⟩, ⟨by simp⟩, ⟨Mod.refl _ _⟩⟩
  case round =>
    obtain ⟨k, A', n', c', F, hk, rfl, rfl, HO, HF, HM⟩ := hrel
    by_cases hlt : k < (lines xs).length
    · have HI := Sec.mk (List.getElem?_eq_getElem hlt)
      obtain ⟨ad, A2, c2, rfl, hx, hc2, hr2⟩ := HH1.out.at_ (HO1.out.new HM.out |>.row rfl) hlt
      have HP := Sec.mk (lines_prefix quoteL_len HI.out)
      have HS := Sec.mk (flatMap_snoc (f := quoteL) HI.out)
      have HR2 := Sec.mk (hr2.mod (fun _ h => h) (fun k hk => (HM.out.block k (Nat.lt_of_lt_of_le (hB k hk) HM1.out.size) id).trans (HM1.out.block k (hB k hk) id)))
      clear hr2
      generalize (lines xs)[k] = l at *
      have hll : l.length ≤ 8589934592 := by have := HP.out; omega
      go_wp2_with fail
      refine (l3Marks_calls HR2.out hc2 (by omega)).mono ?_
      rintro e w2 ⟨rfl, rfl⟩
      by_cases hm : 0 ≤ marks l
      · have HQL : Sec (quoteL l = [62] ++ l) := ⟨by unfold quoteL; rw [if_pos hm]; rfl⟩
        go_wp2_with (first
          | (at_builtin; refine wpList_append _ rfl (.tmp 16) (.tmp 17) _ rfl Ty.byte 5 Try.underlying23 elt_byte (v := .slice A' n' c') rfl (HO.out.new ((Mod.refl _ _).alloc _)) rfl (Elems.byte1 _ 62 62 rfl) rfl (fun _ => ⟨_, rfl, cell_one_new _ _ _⟩) List.nodup_nil (by intro k hk; cases hk) (by have := HP.out; (try simp only [List.length_append, List.length_cons, List.length_nil]); omega) ?_; intro A3 n3 c3 w3 F3 ho3 hn3 hm3 hF3; clear hn3; have HO3 := Sec.mk ho3; have HM3 := Sec.mk (New.app (HM.out.alloc _) (HO.out.new ((Mod.refl _ _).alloc _)) HF.out hm3); have HF3 := Sec.mk (far_app (HM.out.alloc _) HF.out (by simp) hF3); have HR3 := Sec.mk (HR2.out.mod (fun _ h => h) (fun k hk => (HM3.out.block k (Nat.lt_of_lt_of_le (hB k hk) HM1.out.size) id).trans (HM.out.block k (Nat.lt_of_lt_of_le (hB k hk) HM1.out.size) id).symm)); clear ho3 hm3 hF3)
          | (at_builtin; obtain ⟨news, hE, hA⟩ := HR3.out.flat flat_byte; refine wpList_append _ rfl (.tmp 19) (.tmp 20) _ rfl Ty.byte 5 Try.underlying23 elt_byte (v := .slice A3 n3 c3) rfl HO3.out rfl hE rfl hA (by rw [flat_nil]; exact List.nodup_nil) (by rw [flat_nil]; intro k hk; cases hk) (by have := HP.out; (try simp only [List.length_append, List.length_cons, List.length_nil]); omega) ?_; intro A4 n4 c4 w4 F4 ho4 hn4 hm4 hF4; clear hn4 hE hA; rw [flat_nil] at hF4; have HO4 := Sec.mk ho4; have HM4 := Sec.mk (New.app HM3.out HO3.out HF3.out hm4); have HF4 := Sec.mk (far_app HM3.out HF3.out (by simp) hF4); clear ho4 hm4 hF4))
        go_roundw
        case rel => exact ⟨k + 1, A4, n4, c4, F4, by omega, by go_num, rfl, ⟨by rw [HS.out, HQL.out, ← List.append_assoc]; exact HO4.out⟩, HF4, HM4⟩
        case measure => simp [intOf]; omega
      · have HQL : Sec (quoteL l = l) := ⟨by unfold quoteL; rw [if_neg hm]⟩
        go_wp2_with (at_builtin; obtain ⟨news, hE, hA⟩ := HR2.out.flat flat_byte; refine wpList_append _ rfl (.tmp 19) (.tmp 20) _ rfl Ty.byte 5 Try.underlying23 elt_byte (v := .slice A' n' c') rfl HO.out rfl hE rfl hA (by rw [flat_nil]; exact List.nodup_nil) (by rw [flat_nil]; intro k hk; cases hk) (by have := HP.out; (try simp only [List.length_append, List.length_cons, List.length_nil]); omega) ?_; intro A4 n4 c4 w4 F4 ho4 hn4 hm4 hF4; clear hn4 hE hA; rw [flat_nil] at hF4; have HO4 := Sec.mk ho4; have HM4 := Sec.mk (New.app HM.out HO.out HF.out hm4); have HF4 := Sec.mk (far_app HM.out HF.out (by simp) hF4); clear ho4 hm4 hF4)
        go_roundw
        case rel => exact ⟨k + 1, A4, n4, c4, F4, by omega, by go_num, rfl, ⟨by rw [HS.out, HQL.out]; exact HO4.out⟩, HF4, HM4⟩
        case measure => simp [intOf]; omega
    · obtain rfl : k = (lines xs).length := by omega
      go_wp2
      go_ret
      have := HO.out
      rw [List.take_length] at this
      exact RetOwn.of this (fun k hk => Nat.le_trans HM1.out.size (HF.out k hk)) (HM1.out.transN HM.out)
end Go.Proofs.Ytkcenblmbodbbaa
