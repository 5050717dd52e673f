/- Unquote of the program and of the specification. -/
import Derived.Test.YtciiejkfppnimaaEachU
import Derived.Test.YtciiejkfppnimaaQuote
import Derived.Test.YtciiejkfppnimaaSQuote
namespace Go.Proofs.Ytciiejkfppnimaa
open Go.RowKit Mem
set_option linter.unusedVariables false

theorem marks_pos {l : List UInt8} (h : 0 < marks l) : 6 ≤ l.length := by
  unfold marks at h
  split at h
  · rename_i hf
    have := isFrom_len hf
    rw [List.length_drop] at this
    omega
  · omega
theorem tail_row {w : World} {B : Nat → Prop} {ad : Addr} {l : Bytes} (h : Row Ty.byte w B (some ad) l.length l) (h0 : 0 < l.length) : Row Ty.byte w B (some (ad.add 1)) (l.length - 1) l.tail := by
  have := h.cut1 (k := 1) (m := l.length) h0 (Nat.le_refl _)
  rw [List.take_length, List.drop_one] at this
  exact this

set_option maxHeartbeats 400000 in
set_option maxRecDepth 100000 in
theorem unquote1_calls {w0 w : World} {g n c' : Nat} {A' : Option Addr} {l zs : Bytes} {B : Nat → Prop} (hB : ∀ k, B k → k < w0.heap.size) (hr : Row Ty.byte w B A' n l) (hln : l.length = n) (hc : n ≤ c') (hq : QI w0 g zs w) (hlen : zs.length + n + 1 ≤ 34359738368) :
    Calls Try.prog 24 #[.slice A' n c', .pointer (some ⟨g, 0, none⟩)] w (fun e w'' => e = .returned (.tuple #[]) ∧ QI w0 g (zs ++ unquoteL l) w'') := by
  subst hln
  obtain ⟨A1, n1, c1, F, hq⟩ := hq
  have HR := Sec.mk hr
  have HQ := Sec.mk hq
  clear hr hq
  have hnw : w0.heap.size ≤ w.heap.size := HQ.out.new.size
  go_enter Try.func24, Try.ntmps24
  go_wp2_with fail
  refine (quotes_calls HR.out (fun k hk => Nat.lt_of_lt_of_le (hB k hk) hnw) hc (by omega)).mono ?_
  rintro e w1 ⟨rfl, hm1⟩
  have HQ1 := Sec.mk (HQ.out.move hm1)
  have HR1 := Sec.mk (HQ.out.row HQ1.out.new hB HR.out)
  clear hm1 HR HQ hnw
  have hv := (HQ1.out.blk.cell 0).trans rfl
  have hfz := HQ1.out.blk.frozen 0
  by_cases hm : 0 < marks l
  · have HQL : Sec (unquoteL l = l.tail) := ⟨by unfold unquoteL; rw [if_pos hm]⟩
    have hl0 := marks_pos hm
    obtain ⟨ad, rfl⟩ : ∃ ad, A' = some ad := by obtain ⟨ad, h, _⟩ := HR1.out.2.2 (by omega); exact ⟨ad, h⟩
    obtain ⟨news, hE, hA⟩ := (tail_row HR1.out (by omega)).flat flat_byte
    have HE := Sec.mk hE; have HA := Sec.mk hA
    clear hE hA
    go_wp2_with (at_builtin; refine wpList_append _ rfl (.tmp 8) (.tmp 9) _ rfl Ty.byte 5 Try.underlying22 elt_byte rfl HQ1.out.own rfl HE.out (by rw [List.length_tail]) HA.out (by rw [flat_nil]; exact List.nodup_nil) (by rw [flat_nil]; intro k hk; cases hk) (by omega) ?_; intro A2 n2 c2 w2 F2 ho2 hn2 hm2 hF2; clear hn2; rw [flat_nil] at hF2; obtain ⟨hb2, hq2⟩ := HQ1.out.app ho2 hm2 hF2; have hv2 := (hb2.cell 0).trans rfl; have hfz2 := hb2.frozen 0; have HQ2 := Sec.mk hq2; clear ho2 hm2 hF2 hb2 hq2)
    go_end0
    exact ⟨rfl, by rw [HQL.out]; exact ⟨_, _, _, _, HQ2.out⟩⟩
  · have HQL : Sec (unquoteL l = l) := ⟨by unfold unquoteL; rw [if_neg hm]⟩
    obtain ⟨news, hE, hA⟩ := HR1.out.flat flat_byte
    have HE := Sec.mk hE; have HA := Sec.mk hA
    clear hE hA
    go_wp2_with (at_builtin; refine wpList_append _ rfl (.tmp 8) (.tmp 9) _ rfl Ty.byte 5 Try.underlying22 elt_byte rfl HQ1.out.own rfl HE.out rfl HA.out (by rw [flat_nil]; exact List.nodup_nil) (by rw [flat_nil]; intro k hk; cases hk) (by omega) ?_; intro A2 n2 c2 w2 F2 ho2 hn2 hm2 hF2; clear hn2; rw [flat_nil] at hF2; obtain ⟨hb2, hq2⟩ := HQ1.out.app ho2 hm2 hF2; have hv2 := (hb2.cell 0).trans rfl; have hfz2 := hb2.frozen 0; have HQ2 := Sec.mk hq2; clear ho2 hm2 hF2 hb2 hq2)
    go_end0
    exact ⟨rfl, by rw [HQL.out]; exact ⟨_, _, _, _, HQ2.out⟩⟩

set_option maxHeartbeats 400000 in
set_option maxRecDepth 100000 in
theorem unquoteImpl_calls {A : Option Addr} {c : Nat} {xs : Bytes} {B : Nat → Prop} {w : World} (h : Row Ty.byte w B A xs.length xs) (hB : ∀ k, B k → k < w.heap.size) (hc : xs.length ≤ c) (hl : xs.length ≤ 4294967296) :
    Calls Try.prog 8 #[.slice A xs.length c] w (RetOwn Ty.byte 5 w (unquote xs)) := by
  have HR := Sec.mk h
  clear h
  go_enter Try.func8, Try.ntmps8
  go_wp2_with fail
  refine (eachLineU (B := B) (fun i w' => QI w (w.heap.size + 1) (((lines xs).take i).flatMap unquoteL) w') (by omega) hc (QI.start w) (fun i w' h => h.row (w := w) hB HR.out) ?_).mono ?_
  · intro i w' l n A' c' hi hln hq hr hc'
    have hlen := lines_prefix (c := 0) unquoteL_len hi
    refine (unquote1_calls hB hr hln hc' hq (by omega)).mono ?_
    rintro e w'' ⟨rfl, hq'⟩
    exact ⟨rfl, by rw [flatMap_snoc hi]; exact hq'⟩
  · rintro e w1 ⟨rfl, hq1⟩
    rw [List.take_length] at hq1
    obtain ⟨A1, n1, c1, F, hq⟩ := hq1
    have HQ := Sec.mk hq
    have hv := (hq.blk.cell 0).trans rfl
    clear hq
    go_wp2
    go_ret
    exact RetOwn.of HQ.out.own (fun k hk => (HQ.out.far k hk).1) HQ.out.new

end Go.Proofs.Ytciiejkfppnimaa
