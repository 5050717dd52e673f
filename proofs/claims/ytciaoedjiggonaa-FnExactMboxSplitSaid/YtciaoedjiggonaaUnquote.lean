/- Unquote of the program and of the specification. -/
import Derived.Test.YtciaoedjiggonaaEachU
import Derived.Test.YtciaoedjiggonaaQuote
import Derived.Test.YtciaoedjiggonaaSQuote
namespace Go.Proofs.Ytciaoedjiggonaa
open Go.RowKit Mem
set_option linter.unusedVariables false

theorem marks_pos {l : List UInt8} (h : 0 < marks l) : 6 ≤ l.length := by
  unfold marks at h
  split at h
  · rename_i hf
    have := isFrom_len hf
    rw [List.length_drop] at this
    omega
  · omega
theorem tail_row {w : World} {B : Nat → Prop} {ad : Addr} {l : Bytes} (h : Row Ty.byte w B (some ad) l.length l) (h0 : 0 < l.length) : Row Ty.byte w B (some (ad.add 1)) (l.length - 1) l.tail := by
  have := h.cut1 (k := 1) (m := l.length) h0 (Nat.le_refl _)
  rw [List.take_length, List.drop_one] at this
  exact this

set_option maxHeartbeats 400000 in
set_option maxRecDepth 100000 in
theorem unquote1_calls {w0 w : World} {g n c' : Nat} {A' : Option Addr} {l zs : Bytes} {B : Nat → Prop} (hB : ∀ k, B k → k < w0.heap.size) (hr : Row Ty.byte w B A' n l) (hln : l.length = n) (hc : n ≤ c') (hq : QI w0 g zs w) (hlen : zs.length + n + 1 ≤ 34359738368) :
    Calls Try.prog 44 #[.slice A' n c', .pointer (some ⟨g, 0, none⟩)] w (fun e w'' => e = .returned (.tuple #[]) ∧ QI w0 g (zs ++ unquoteL l) w'') := by
  subst hln
  obtain ⟨A1, n1, c1, F, hq⟩ := hq
  have HR := Sec.mk hr
  have HQ := Sec.mk hq
  clear hr hq
  have hnw : w0.heap.size ≤ w.heap.size := HQ.out.new.size
  go_enter Try.func44, Try.ntmps44
  go_wp2_with fail
  refine (quotes_calls HR.out (fun k hk => Nat.lt_of_lt_of_le (hB k hk) hnw) hc (by omega)).mono ?_
  rintro e w1 ⟨rfl, hm1⟩
  have HQ1 := Sec.mk (HQ.out.move hm1)
  have HR1 := Sec.mk (HQ.out.row HQ1.out.new hB HR.out)
  clear hm1 HR HQ hnw
  have hv := (HQ1.out.blk.cell 0).trans rfl
  have hfz := HQ1.out.blk.frozen 0
  by_cases hm : 0 < marks l
  · have HQL : Sec (unquoteL l = l.tail) := ⟨by unfold unquoteL; rw [if_pos hm]⟩
    have hl0 := marks_pos hm
    obtain ⟨ad, rfl⟩ : ∃ ad, A' = some ad := by obtain ⟨ad, h, _⟩ := HR1.out.2.2 (by omega); exact ⟨ad, h⟩
    obtain ⟨news, hE, hA⟩ := (tail_row HR1.out (by omega)).flat flat_byte
    have HE := Sec.mk hE; have HA := Sec.mk hA
    clear hE hA
    go_wp2_with (at_builtin; refine wpList_append _ rfl (.tmp 8) (.tmp 9) _ rfl Ty.byte 5 Try.underlying22 elt_byte rfl HQ1.out.own rfl HE.out (by rw [List.length_tail]) HA.out (by rw [flat_nil]; exact List.nodup_nil) (by rw [flat_nil]; intro k hk; cases hk) (by omega) ?_; intro A2 n2 c2 w2 F2 ho2 hn2 hm2 hF2; clear hn2; rw [flat_nil] at hF2; obtain ⟨hb2, hq2⟩ := HQ1.out.app ho2 hm2 hF2; have hv2 := (hb2.cell 0).trans rfl; have hfz2 := hb2.frozen 0; have HQ2 := Sec.mk hq2; clear ho2 hm2 hF2 hb2 hq2)
    go_end0
    exact ⟨rfl, by rw [HQL.out]; exact ⟨_, _, _, _, HQ2.out⟩⟩
  · have HQL : Sec (unquoteL l = l) := ⟨by unfold unquoteL; rw [if_neg hm]⟩
    obtain ⟨news, hE, hA⟩ := HR1.out.flat flat_byte
    have HE := Sec.mk hE; have HA := Sec.mk hA
    clear hE hA
    go_wp2_with (at_builtin; refine wpList_append _ rfl (.tmp 8) (.tmp 9) _ rfl Ty.byte 5 Try.underlying22 elt_byte rfl HQ1.out.own rfl HE.out rfl HA.out (by rw [flat_nil]; exact List.nodup_nil) (by rw [flat_nil]; intro k hk; cases hk) (by omega) ?_; intro A2 n2 c2 w2 F2 ho2 hn2 hm2 hF2; clear hn2; rw [flat_nil] at hF2; obtain ⟨hb2, hq2⟩ := HQ1.out.app ho2 hm2 hF2; have hv2 := (hb2.cell 0).trans rfl; have hfz2 := hb2.frozen 0; have HQ2 := Sec.mk hq2; clear ho2 hm2 hF2 hb2 hq2)
    go_end0
    exact ⟨rfl, by rw [HQL.out]; exact ⟨_, _, _, _, HQ2.out⟩⟩

set_option maxHeartbeats 400000 in
set_option maxRecDepth 100000 in
theorem unquoteImpl_calls {A : Option Addr} {c : Nat} {xs : Bytes} {B : Nat → Prop} {w : World} (h : Row Ty.byte w B A xs.length xs) (hB : ∀ k, B k → k < w.heap.size) (hc : xs.length ≤ c) (hl : xs.length ≤ 4294967296) :
    Calls Try.prog 11 #[.slice A xs.length c] w (RetOwn Ty.byte 5 w (unquote xs)) := by
  have HR := Sec.mk h
  clear h
  go_enter Try.func11, Try.ntmps11
  go_wp2_with fail
  refine (eachLineU (B := B) (fun i w' => QI w (w.heap.size + 1) (((lines xs).take i).flatMap unquoteL) w') (by omega) hc (QI.start w) (fun i w' h => h.row (w := w) hB HR.out) ?_).mono ?_
  · intro i w' l n A' c' hi hln hq hr hc'
    have hlen := lines_prefix (c := 0) unquoteL_len hi
    refine (unquote1_calls hB hr hln hc' hq (by omega)).mono ?_
    rintro e w'' ⟨rfl, hq'⟩
    exact ⟨rfl, by rw [flatMap_snoc hi]; exact hq'⟩
  · rintro e w1 ⟨rfl, hq1⟩
    rw [List.take_length] at hq1
    obtain ⟨A1, n1, c1, F, hq⟩ := hq1
    have HQ := Sec.mk hq
    have hv := (hq.blk.cell 0).trans rfl
    clear hq
    go_wp2
    go_ret
    exact RetOwn.of HQ.out.own (fun k hk => (HQ.out.far k hk).1) HQ.out.new

set_option maxHeartbeats 400000 in
set_option maxRecDepth 100000 in
theorem unquoteSpec_calls {A : Option Addr} {c : Nat} {xs : Bytes} {B : Nat → Prop} {w : World} (h : Row Ty.byte w B A xs.length xs) (hB : ∀ k, B k → k < w.heap.size) (hc : xs.length ≤ c) (hl : xs.length ≤ 4294967296) :
    Calls Try.prog 89 #[.slice A xs.length c] w (RetOwn Ty.byte 5 w (unquote xs)) := by
  have HR := Sec.mk h
  clear h
  go_enter Try.func89, Try.ntmps89
  go_wp2_with fail
  refine (l3Lines_calls HR.out hB hc hl).mono ?_
  rintro e w1 ⟨A1, n1, c1, F1, hs, rfl, ho1, hn1, hF1, hm1, hh1⟩
  have HO1 := Sec.mk ho1; have HF1 := Sec.mk hF1; have HM1 := Sec.mk hm1; have HH1 := Sec.mk hh1
  obtain rfl : n1 = (lines xs).length := by rw [hn1, hh1.1]
  clear ho1 hn1 hF1 hm1 hh1
  have hcnt := lines_count xs
  go_wp2
  go_loopw [3, 5, 9] (fun o _ i wr => ∃ (k : Nat) (A' : Option Addr) (n' c' : Nat) (F : List Nat), k ≤ (lines xs).length ∧ i = .int .i64 k ∧ o = .slice A' n' c' ∧ Sec (Own Ty.byte 5 wr F (.slice A' n' c') (((lines xs).take k).flatMap unquoteL)) ∧ Sec (∀ k, k ∈ F → w1.heap.size ≤ k) ∧ Sec (New w1 wr)) (fun _ _ i _ => (lines xs).length - (intOf i).toNat)
  case atStart => exact ⟨0, none, 0, 0, [], Nat.zero_le _, rfl, rfl, ⟨Own.nil _ _ _⟩, ⟨by simp⟩, ⟨Mod.refl _ _⟩⟩
  case round =>
    obtain ⟨k, A', n', c', F, hk, rfl, rfl, HO, HF, HM⟩ := hrel
    by_cases hlt : k < (lines xs).length
    · have HI := Sec.mk (List.getElem?_eq_getElem hlt)
      obtain ⟨ad, A2, c2, rfl, hx, hc2, hr2⟩ := HH1.out.at_ (HO1.out.new HM.out |>.row rfl) hlt
      have HP := Sec.mk (lines_prefix (c := 0) unquoteL_len HI.out)
      have HS := Sec.mk (flatMap_snoc (f := unquoteL) HI.out)
      have HR2 := Sec.mk (hr2.mod (fun _ h => h) (fun k hk => (HM.out.block k (Nat.lt_of_lt_of_le (hB k hk) HM1.out.size) id).trans (HM1.out.block k (hB k hk) id)))
      clear hr2
      generalize (lines xs)[k] = l at *
      have hll : l.length ≤ 8589934592 := by have := HP.out; omega
      go_wp2_with fail
      refine (l3Marks_calls HR2.out hc2 (by omega)).mono ?_
      rintro e w2 ⟨rfl, rfl⟩
      by_cases hm : 0 < marks l
      · have HQL : Sec (unquoteL l = l.tail) := ⟨by unfold unquoteL; rw [if_pos hm]⟩
        have hl0 := marks_pos hm
        obtain ⟨ad2, rfl⟩ : ∃ ad, A2 = some ad := by obtain ⟨ad, h, _⟩ := HR2.out.2.2 (by omega); exact ⟨ad, h⟩
        go_wp2_with (at_builtin; obtain ⟨news, hE, hA⟩ := (tail_row HR2.out (by omega)).flat flat_byte; refine wpList_append _ rfl (.tmp 18) (.tmp 19) _ rfl Ty.byte 5 Try.underlying22 elt_byte (v := .slice A' n' c') rfl HO.out rfl hE (by rw [List.length_tail]) hA (by rw [flat_nil]; exact List.nodup_nil) (by rw [flat_nil]; intro k hk; cases hk) (by have := HP.out; omega) ?_; intro A4 n4 c4 w4 F4 ho4 hn4 hm4 hF4; clear hn4 hE hA; rw [flat_nil] at hF4; have HO4 := Sec.mk ho4; have HM4 := Sec.mk (New.app HM.out HO.out HF.out hm4); have HF4 := Sec.mk (far_app HM.out HF.out (by simp) hF4); clear ho4 hm4 hF4)
        go_roundw
        case rel => exact ⟨k + 1, A4, n4, c4, F4, by omega, by go_num, rfl, ⟨by rw [HS.out, HQL.out]; exact HO4.out⟩, HF4, HM4⟩
        case measure => simp [intOf]; omega
      · have HQL : Sec (unquoteL l = l) := ⟨by unfold unquoteL; rw [if_neg hm]⟩
        go_wp2_with (at_builtin; obtain ⟨news, hE, hA⟩ := HR2.out.flat flat_byte; refine wpList_append _ rfl (.tmp 18) (.tmp 19) _ rfl Ty.byte 5 Try.underlying22 elt_byte (v := .slice A' n' c') rfl HO.out rfl hE rfl hA (by rw [flat_nil]; exact List.nodup_nil) (by rw [flat_nil]; intro k hk; cases hk) (by have := HP.out; omega) ?_; intro A4 n4 c4 w4 F4 ho4 hn4 hm4 hF4; clear hn4 hE hA; rw [flat_nil] at hF4; have HO4 := Sec.mk ho4; have HM4 := Sec.mk (New.app HM.out HO.out HF.out hm4); have HF4 := Sec.mk (far_app HM.out HF.out (by simp) hF4); clear ho4 hm4 hF4)
        go_roundw
        case rel => exact ⟨k + 1, A4, n4, c4, F4, by omega, by go_num, rfl, ⟨by rw [HS.out, HQL.out]; exact HO4.out⟩, HF4, HM4⟩
        case measure => simp [intOf]; omega
    · obtain rfl : k = (lines xs).length := by omega
      go_wp2
      go_ret
      have := HO.out
      rw [List.take_length] at this
      exact RetOwn.of this (fun k hk => Nat.le_trans HM1.out.size (HF.out k hk)) (HM1.out.transN HM.out)
end Go.Proofs.Ytciaoedjiggonaa
