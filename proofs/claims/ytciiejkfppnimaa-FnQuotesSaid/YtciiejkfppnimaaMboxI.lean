/- The program's MboxSplit. -/
import Derived.Test.YtciiejkfppnimaaMboxS
import Derived.Test.YtciiejkfppnimaaPureSplitN
import Derived.Test.YtciiejkfppnimaaEachM
import Derived.Test.YtciiejkfppnimaaQuote
namespace Go.Proofs.Ytciiejkfppnimaa
open Go.RowKit Mem
set_option linter.unusedVariables false
abbrev dI : Ty Int := Ty.int .i64
theorem elt_int : Elt Try.prog 3 dI.sz (.int .i64 0) := Elt.of (b := 8) (by kernel_rfl) rfl (by decide) (by decide)
/-- the captured places and the captured number, younger than w0 -/
structure SF (w0 : World) (S T : Nat) (v : Value) (F : List Nat) (ss : List Int) (a : Int) (w : World) : Prop where
  blkS : Blk w S 24 [v]
  blkT : Blk w T 3 [.int .i64 a]
  own : Own dI 3 w F v ss
  far : ∀ k, k ∈ F → w0.heap.size ≤ k ∧ k ≠ S ∧ k ≠ T
  baseS : w0.heap.size ≤ S
  baseT : w0.heap.size ≤ T
  ne : S ≠ T
  new : New w0 w
def SI (w0 : World) (S T : Nat) (ss : List Int) (a : Int) (w : World) : Prop := ∃ A n c F, SF w0 S T (.slice A n c) F ss a w
theorem SF.move {w0 w w' : World} {S T : Nat} {v : Value} {F : List Nat} {ss : List Int} {a : Int} (h : SF w0 S T v F ss a w) (hm : New w w') : SF w0 S T v F ss a w' :=
  ⟨h.blkS.mod hm id, h.blkT.mod hm id, h.own.new hm, h.far, h.baseS, h.baseT, h.ne, h.new.transN hm⟩
theorem SF.setT {w0 w : World} {S T : Nat} {v : Value} {F : List Nat} {ss : List Int} {a : Int} (h : SF w0 S T v F ss a w) (b : Int) : SF w0 S T v F ss b (w.setCell ⟨T, 0, none⟩ (.int .i64 b)) :=
  ⟨h.blkS.far (fun e => h.ne e) _, by simpa using h.blkT.set_ 0 (.int .i64 b), h.own.mod (fun k hk => Below.heap_setCell _ _ _ _ (h.far k hk).2.2), h.far, h.baseS, h.baseT, h.ne, h.new.setCell (fun hl => by have := h.baseT; simp at hl; omega) _⟩
theorem SF.app {w0 w w' : World} {S T : Nat} {v : Value} {F F' : List Nat} {ss ss' : List Int} {a : Int} {A' : Option Addr} {n' c' : Nat} (h : SF w0 S T v F ss a w)
    (ho' : Own dI 3 w' F' (.slice A' n' c') ss') (hm : Mod (fun k => v.ownBlock = some k) w w') (hF' : ∀ k, k ∈ F' → k ∈ F ∨ k ∈ ([] : List Nat) ∨ w.heap.size ≤ k) :
    SF w0 S T v F ss a w → Blk w' S 24 [v] ∧ Blk w' T 3 [.int .i64 a] ∧ SF w0 S T (.slice A' n' c') F' ss' a (w'.setCell ⟨S, 0, none⟩ (.slice A' n' c')) := fun _ => by
  have hS : Blk w' S 24 [v] := h.blkS.mod hm (fun e => (h.far S (h.own.own_mem S e)).2.1 rfl)
  have hT : Blk w' T 3 [.int .i64 a] := h.blkT.mod hm (fun e => (h.far T (h.own.own_mem T e)).2.2 rfl)
  have hF2 : ∀ k, k ∈ F' → w0.heap.size ≤ k ∧ k ≠ S ∧ k ≠ T := fun k hk => by
    rcases hF' k hk with h1 | h1 | h1
    · exact h.far k h1
    · cases h1
    · have := h.blkS.lt; have := h.blkT.lt; have := h.new.size; omega
  have hbS := h.baseS
  refine ⟨hS, hT, by simpa using hS.set_ 0 (.slice A' n' c'), hT.far (fun e => h.ne e.symm) _, ho'.mod (fun k hk => Below.heap_setCell _ _ _ _ (hF2 k hk).2.1), hF2, h.baseS, h.baseT, h.ne, ?_⟩
  exact (h.new.trans hm (fun i hi hlt => by have := (h.far i (h.own.own_mem i hi)).1; omega)).setCell (fun h => by simp at h; omega) _
theorem SF.row {w0 w w' : World} {S T : Nat} {v : Value} {F : List Nat} {ss : List Int} {a : Int} {B : Nat → Prop} {A' : Option Addr} {n : Nat} {l : Bytes} (h : SF w0 S T v F ss a w) (h' : New w0 w') (hB : ∀ k, B k → k < w0.heap.size) (hr : Row Ty.byte w B A' n l) : Row Ty.byte w' B A' n l :=
  hr.mod (fun _ h => h) fun k hk => (h'.block k (hB k hk) id).trans (h.new.block k (hB k hk) id).symm
set_option maxHeartbeats 1000000 in
set_option maxRecDepth 100000 in
theorem mbox1_calls {w0 w : World} {S T n c' a : Nat} {A' : Option Addr} {l : Bytes} {ss : List Int} {B : Nat → Prop} (hB : ∀ k, B k → k < w0.heap.size) (hr : Row Ty.byte w B A' n l) (hln : l.length = n) (hc : n ≤ c') (hq : SI w0 S T ss a w) (hlen : a + n ≤ 34359738368) (hsl : ss.length ≤ 1048576) {ss2 : List Int} (hss : ss2 = ss ++ if marks l = 0 then [(a : Int)] else []) :
    Calls Try.prog 27 #[.slice A' n c', .pointer (some ⟨S, 0, none⟩), .pointer (some ⟨T, 0, none⟩)] w (fun e w'' => e = .returned (.tuple #[]) ∧ SI w0 S T ss2 ((a + n : Nat) : Int) w'') := by
  subst hln
  obtain ⟨A1, n1, c1, F, hq⟩ := hq
  have HR := Sec.mk hr
  have HQ := Sec.mk hq
  have HSS := Sec.mk hss
  clear hr hq hss
  have hnw : w0.heap.size ≤ w.heap.size := HQ.out.new.size
  go_enter Try.func27, Try.ntmps27
  go_wp2_with fail
  refine (quotes_calls HR.out (fun k hk => Nat.lt_of_lt_of_le (hB k hk) hnw) hc (by omega)).mono ?_
  rintro e w1 ⟨rfl, hm1⟩
  have HQ1 := Sec.mk (HQ.out.move hm1)
  clear hm1 HR HQ hnw
  have hv := (HQ1.out.blkS.cell 0).trans rfl
  have hfz := HQ1.out.blkS.frozen 0
  have hvT := (HQ1.out.blkT.cell 0).trans rfl
  have hfT := HQ1.out.blkT.frozen 0
  by_cases hm : marks l = 0
  · have hmb : (marks l == 0) = true := by simp [hm]
    have HIF : Sec (ss2 = ss ++ [(a : Int)]) := ⟨by rw [HSS.out, if_pos hm]⟩
    clear hm HSS
    go_wp2_with (at_builtin; refine wpList_append _ rfl (.tmp 7) (.tmp 9) _ rfl dI 3 Try.underlying24 elt_int rfl (HQ1.out.move ((Mod.refl _ _).alloc _)).own rfl (Elems.one (x := (a : Int)) ⟨rfl, rfl, wrap64 (by omega) (by omega)⟩) rfl (fun _ => ⟨_, rfl, cell_one_new _ _ _⟩) List.nodup_nil (by intro k hk; cases hk) (by omega) ?_; intro A2 n2 c2 w2 F2 ho2 hn2 hm2 hF2; clear hn2; obtain ⟨hb2, hb3, hq2⟩ := (HQ1.out.move ((Mod.refl _ _).alloc _)).app ho2 hm2 hF2 (HQ1.out.move ((Mod.refl _ _).alloc _)); have hv2 := (hb2.cell 0).trans rfl; have hfz2 := hb2.frozen 0; have HQ2 := Sec.mk hq2; have hvT2 : (w2.setCell ⟨S, 0, none⟩ (.slice A2 n2 c2)).cell? ⟨T, 0, none⟩ = some (.int .i64 (a : Int)) := hq2.blkT.cell 0; have hfT2 : (w2.setCell ⟨S, 0, none⟩ (.slice A2 n2 c2)).frozen? ⟨T, 0, none⟩ = false := hq2.blkT.frozen 0; clear ho2 hm2 hF2 hb2 hb3 hq2 hv hfz hvT hfT)
    go_end0
    refine ⟨rfl, ?_⟩
    rw [HIF.out]
    exact ⟨_, _, _, _, HQ2.out.setT _⟩
  · have hmb : (marks l == 0) = false := by simpa using hm
    have HIF : Sec (ss2 = ss) := ⟨by rw [HSS.out, if_neg hm, List.append_nil]⟩
    clear hm HSS
    go_wp2
    go_end0
    refine ⟨rfl, ?_⟩
    rw [HIF.out]
    exact ⟨_, _, _, _, HQ1.out.setT _⟩
theorem rowFM (w : World) (e : TypeId) (fr : Nat × Nat) : Row Ty.byte (w.alloc (.cells #[.int .u8 70, .int .u8 114, .int .u8 111, .int .u8 109, .int .u8 32, .int .u8 109, .int .u8 97, .int .u8 105, .int .u8 108, .int .u8 10] e fr)) (· = w.heap.size) (some ⟨w.heap.size, 0, none⟩) 10 fromMail := Row.const w e fr fromMail (by decide)
/-- what the loop over the lines holds -/
theorem mboxLines {A : Option Addr} {c : Nat} {xs : Bytes} {B : Nat → Prop} {w0 w : World} {S T : Nat} (h : Row Ty.byte w0 B A xs.length xs) (hB : ∀ k, B k → k < w0.heap.size) (hl : xs.length ≤ 40000) (hc : xs.length ≤ c) (hs : SI w0 S T [] 0 w) :
    Calls Try.prog 23 #[.slice A xs.length c, .func (.func 27) #[] #[.pointer (some ⟨S, 0, none⟩), .pointer (some ⟨T, 0, none⟩)]] w (fun e w' => e = .returned (.tuple #[]) ∧ ∃ a, SI w0 S T ((startsL (lines xs) 0).map fun s : Nat => (s : Int)) a w') := by
  have hfl : (lines xs).flatten.length = xs.length := by rw [lines_flat]
  refine (eachLineM (B := B) (fun i w' => SI w0 S T ((startsL ((lines xs).take i) 0).map fun s : Nat => (s : Int)) ((((lines xs).take i).flatten.length : Nat) : Int) w') (by omega) hc ?_ (fun i w' h' => by obtain ⟨_, _, _, _, hq⟩ := h'; exact h.mod (fun _ h => h) (fun k hk => hq.new.block k (hB k hk) id)) ?_).mono ?_
  · simpa [startsL] using hs
  · intro i w' l n A' c' hi hln hq hr hc'
    obtain ⟨h1, h2⟩ := startsL_step hi
    have hle := take_at_len hi
    have hcn : (startsL ((lines xs).take i) 0).length ≤ xs.length := by
      have hcc : ∀ (r : List Bytes) (a : Nat), (startsL r a).length ≤ r.length := by
        intro r
        induction r with
        | nil => intro a; simp [startsL]
        | cons l r ih =>
          intro a
          rw [show startsL (l :: r) a = if marks l = 0 then a :: startsL r (a + l.length) else startsL r (a + l.length) from rfl]
          have := ih (a + l.length)
          split <;> simp <;> omega
      have := hcc ((lines xs).take i) 0
      have h3 := lines_count xs
      rw [List.length_take] at this; omega
    rw [h2]
    have hss : (startsL ((lines xs).take (i + 1)) 0).map (fun s : Nat => (s : Int)) = (startsL ((lines xs).take i) 0).map (fun s : Nat => (s : Int)) ++ if marks l = 0 then [((((lines xs).take i).flatten.length : Nat) : Int)] else [] := by
      rw [h1, List.map_append]; congr 1; split <;> rfl
    rw [hln]
    exact mbox1_calls hB hr hln hc' hq (by omega) (by rw [List.length_map]; omega) hss
  · rintro e w' ⟨rfl, h'⟩
    rw [List.take_length] at h'
    exact ⟨rfl, _, h'⟩
theorem SI.start (w0 : World) : SI w0 (w0.heap.size + 1) (w0.heap.size + 2) [] 0 (((w0.alloc (.cells #[] 3)).alloc (.cells #[.slice (some ⟨w0.heap.size, 0, none⟩) 0 0] 24)).alloc (.cells #[.int .i64 0] 3)) := by
  obtain ⟨⟨F, ho, hF⟩, hn⟩ := Mine.empty dI 3 rfl (Mod.refl _ w0)
  have hs : (w0.alloc (.cells #[] 3)).heap.size = w0.heap.size + 1 := by simp
  have hS := (Blk.new (w0.alloc (.cells #[] 3)) 24 [.slice (some ⟨w0.heap.size, 0, none⟩) 0 0]).alloc (.cells #[.int .i64 0] 3)
  have hT := Blk.new ((w0.alloc (.cells #[] 3)).alloc (.cells #[.slice (some ⟨w0.heap.size, 0, none⟩) 0 0] 24)) 3 [.int .i64 0]
  rw [hs] at hS
  rw [show ((w0.alloc (.cells #[] 3)).alloc (.cells #[.slice (some ⟨w0.heap.size, 0, none⟩) 0 0] 24)).heap.size = w0.heap.size + 2 by simp] at hT
  exact ⟨_, _, _, F, hS, hT, (ho.new ((Mod.refl _ _).alloc _)).new ((Mod.refl _ _).alloc _), fun k hk => ⟨hF k hk, by have := ho.lt k hk; omega, by have := ho.lt k hk; omega⟩, by omega, by omega, by omega, (hn.alloc _).alloc _⟩
set_option maxHeartbeats 4000000 in
set_option maxRecDepth 100000 in
theorem mboxImpl_calls {A : Option Addr} {c : Nat} {xs : Bytes} {B : Nat → Prop} {w : World} (h : Row Ty.byte w B A xs.length xs) (hB : ∀ k, B k → k < w.heap.size) (hc : xs.length ≤ c) :
    Calls Try.prog 11 #[.slice A xs.length c] w (RetV true dSpans w (MboxL xs)) := by
  have hmx := h.2.1
  have HR := Sec.mk h
  have HB := Sec.mk hB
  have HR0 := Sec.mk (Blk.new w 29 [.bool false, .slice none 0 0])
  clear h hB
  by_cases hbig : 40000 < xs.length
  · have HE := Sec.mk (MboxL_big hbig)
    go_enter Try.func11, Try.ntmps11
    go_wp2
    refine bodyPost_ret (results_blk rfl rfl HR0.out Try.underlying29 (by kernel_rfl)) rfl ?_
    exact retBad (l := []) HE.out ((Mod.refl _ _).alloc _)
  have HML := Sec.mk (MboxL_prog hbig)
  have hbi : ¬ (40000 : Int) < (xs.length : Int) := by omega
  have hlen : xs.length ≤ 40000 := by omega
  clear hbig
  go_enter Try.func11, Try.ntmps11
  go_wp2_with fail
  have HM0 := Sec.mk ((Mod.refl (fun _ => False) w).alloc (.cells #[.bool false, .slice none 0 0] 29))
  have HRA := Sec.mk (HR.out.mod (w' := w.alloc (.cells #[.bool false, .slice none 0 0] 29)) (fun _ h => h) (fun k hk => HM0.out.block k (HB.out k hk) id))
  have HSI := Sec.mk (SI.start (w.alloc (.cells #[.bool false, .slice none 0 0] 29)))
  rw [show (w.alloc (.cells #[.bool false, .slice none 0 0] 29)).heap.size = w.heap.size + 1 by simp] at HSI
  refine (mboxLines HRA.out (fun k hk => Nat.lt_of_lt_of_le (HB.out k hk) HM0.out.size) hlen hc HSI.out).mono ?_
  rintro e w1 ⟨rfl, a, A1, n1, c1, F, hSF⟩
  have HRR := Sec.mk (HR0.out.mod hSF.new id)
  have HM1 := Sec.mk (HM0.out.transN hSF.new)
  have HT := Sec.mk (fun k s h => starts_at (t := xs) (k := k) (s := s) h)
  have hsl := starts_len xs
  generalize startsL (lines xs) 0 = st at *
  obtain ⟨A1', c1', hv1, hcc1, hcm1⟩ := hSF.own.form
  injection hv1 with hv1 hv2 hv3
  rw [List.length_map] at hv2
  subst hv2
  have HSF := Sec.mk hSF
  have kS : w1.cell? ⟨w.heap.size + 1 + 1, 0, none⟩ = some (.slice A1 st.length c1) := hSF.blkS.cell 0
  have hs1 : w.heap.size + 1 + 1 < w1.heap.size := by have := hSF.blkS.lt; omega
  have HFS : Sec (∀ k, k ∈ F → w.heap.size + 1 ≤ k ∧ k < w1.heap.size) := ⟨fun k hk => ⟨by have := (hSF.far k hk).1; simp at this; exact this, hSF.own.lt k hk⟩⟩
  clear hSF hv1 hv3 HSI HR0 HRA HM0 hcc1
  by_cases hx0 : xs.length = 0
  · have hst : st = [] := List.eq_nil_of_length_eq_zero (by omega)
    subst hst
    have hx : xs = [] := List.eq_nil_of_length_eq_zero hx0
    have HG : Sec (MboxL xs = (true, [])) := ⟨by rw [HML.out, if_pos (.inl hx)]; rfl⟩
    have kS0 : w1.cell? ⟨w.heap.size + 1 + 1, 0, none⟩ = some (.slice A1 0 c1) := kS
    have hx0i : ¬ (0 : Int) < (xs.length : Int) := by omega
    clear kS hx hx0
    have HO := Sec.mk (Blk.new w1 29 [.bool true, .slice none 0 0])
    have HM2 := Sec.mk (HM1.out.alloc (.cells #[.bool true, .slice none 0 0] 29))
    have HRW := Sec.mk (HRR.out.alloc (.cells #[.bool true, .slice none 0 0] 29))
    have hW : (w1.alloc (.cells #[.bool true, .slice none 0 0] 29)).heap.size = w1.heap.size + 1 := by simp
    clear HM1 HRR HML HSF
    go_wp2
    generalize w1.alloc (.cells #[.bool true, .slice none 0 0] 29) = W1 at *
    generalize w1.heap.size = O at *
    go_loopw [37] (fun i wr => i = .int .i64 0 ∧ wr = W1) (fun i _ => 1)
    case atStart => exact ⟨rfl, rfl⟩
    case round =>
      obtain ⟨rfl, rfl⟩ := hrel
      have k0 : wr.cell? ⟨O, 0, none⟩ = some (.bool true) := HO.out.cell 0
      have k1 : wr.cell? ⟨O, 1, none⟩ = some (.slice none 0 0) := HO.out.cell 1
      have hc0 : wr.cell? ⟨w.heap.size, 0, none⟩ = some (.bool false) := HRW.out.cell 0
      have hc1 : wr.cell? ⟨w.heap.size, 1, none⟩ = some (.slice none 0 0) := HRW.out.cell 1
      have hf0 : wr.frozen? ⟨w.heap.size, 0, none⟩ = false := HRW.out.frozen 0
      have hf1 : wr.frozen? ⟨w.heap.size, 1, none⟩ = false := HRW.out.frozen 1
      go_wp2
      refine bodyPost_ret (results_blk rfl rfl ((HRW.out.set_ 0 (.bool true)).set_ 1 (.slice none 0 0)) Try.underlying29 (by kernel_rfl)) rfl ?_
      rw [HG.out]
      exact retGood (lo := w.heap.size + 1) (Own.nil _ _ _) (by simp) (by omega) (by omega) HM2.out
  have hx0i : (0 : Int) < (xs.length : Int) := by omega
  obtain ⟨ad, rfl⟩ : ∃ ad, A = some ad := by obtain ⟨ad, h, _⟩ := HR.out.2.2 (by omega); exact ⟨ad, h⟩
  cases st with
  | nil =>
    have HBAD : Sec (MboxL xs = (false, [])) := ⟨by rw [HML.out, if_neg (fun h => h.elim (fun h => hx0 (by rw [h]; rfl)) (fun h => by cases h))]⟩
    have kS0 : w1.cell? ⟨w.heap.size + 1 + 1, 0, none⟩ = some (.slice A1 0 c1) := kS
    have hc0 : w1.cell? ⟨w.heap.size, 0, none⟩ = some (.bool false) := HRR.out.cell 0
    have hc1 : w1.cell? ⟨w.heap.size, 1, none⟩ = some (.slice none 0 0) := HRR.out.cell 1
    have hf0 : w1.frozen? ⟨w.heap.size, 0, none⟩ = false := HRR.out.frozen 0
    have hf1 : w1.frozen? ⟨w.heap.size, 1, none⟩ = false := HRR.out.frozen 1
    clear kS
    go_wp2
    refine bodyPost_ret (results_blk rfl rfl ((HRR.out.set_ 0 (.bool false)).set_ 1 (.slice none 0 0)) Try.underlying29 (by kernel_rfl)) rfl ?_
    exact retBad (l := []) HBAD.out ((HM1.out.setCell (fun h => absurd h (by simp)) _).setCell (fun h => absurd h (by simp)) _)
  | cons s0 sr =>
    obtain ⟨g, rfl, hgF, hcell, -, -⟩ := HSF.out.own.int_elem (j := 0) (by simp)
    simp only [List.map_cons, List.getElem_cons_zero] at hcell
    by_cases h00 : s0 = 0
    · subst h00
      generalize hst : 0 :: sr = st at *
      have hpos : ((st.length : Int) == 0) = false := by rw [← hst]; simp; omega
      have hpos2 : (0 : Int) < (st.length : Int) := by rw [← hst]; simp
      go_wp2
      have hh0 : st.head? = some 0 := by rw [← hst]; rfl
      have HG : Sec (MboxL xs = match entG xs st [] with | some l => (true, l) | none => (false, [])) := ⟨by rw [HML.out, if_pos (.inr hh0)]; cases entG xs st [] <;> rfl⟩
      have HO := Sec.mk (Blk.new w1 29 [.bool true, .slice none 0 0])
      have HSW := Sec.mk (HSF.out.move ((Mod.refl _ _).alloc (.cells #[.bool true, .slice none 0 0] 29)))
      have HM2 := Sec.mk (HM1.out.alloc (.cells #[.bool true, .slice none 0 0] 29))
      have HRW := Sec.mk (HRR.out.alloc (.cells #[.bool true, .slice none 0 0] 29))
      have hW : (w1.alloc (.cells #[.bool true, .slice none 0 0] 29)).heap.size = w1.heap.size + 1 := by simp
      clear HSF HM1 HRR HML hst hh0 hcell hpos hx0 hx0i kS
      generalize w1.alloc (.cells #[.bool true, .slice none 0 0] 29) = W1 at *
      generalize w1.heap.size = O at *
      go_loopw [37] (fun i wr => ∃ (k : Nat) (acc : List SpanT) (A2 : Option Addr) (n2 c2 : Nat) (G : List Nat), k ≤ st.length ∧ i = .int .i64 (k : Int) ∧ acc.length ≤ k ∧
        Sec (Blk wr O 29 [.bool true, .slice A2 n2 c2]) ∧ Sec (Own dSpan 32 wr G (.slice A2 n2 c2) acc) ∧ Sec (∀ k, k ∈ G → W1.heap.size ≤ k) ∧ Sec (Mod (· = O) W1 wr) ∧ Sec (entG xs st [] = entG xs (st.drop k) acc)) (fun i _ => st.length - (intOf i).toNat)
      case atStart => exact ⟨0, [], none, 0, 0, [], Nat.zero_le _, rfl, Nat.le_refl _, HO, ⟨Own.nil _ _ _⟩, ⟨by simp⟩, ⟨Mod.refl _ _⟩, ⟨by rw [List.drop_zero]⟩⟩
      case round =>
        obtain ⟨k, acc, A2, n2, c2, G, hk, rfl, hal, HO, HA, HGF, HM, HE⟩ := hrel
        have HSr : Sec (Own dI 3 wr F (.slice (some ⟨g, 0, none⟩) st.length c1) (st.map fun s : Nat => (s : Int))) := ⟨HSW.out.own.keep HM.out (fun q hq h => by have := HFS.out q hq; omega)⟩
        have kS : wr.cell? ⟨w.heap.size + 1 + 1, 0, none⟩ = some (.slice (some ⟨g, 0, none⟩) st.length c1) := (HSW.out.blkS.mod HM.out (fun h => by omega)).cell 0
        have HRr := Sec.mk (HRW.out.mod HM.out (fun h => by omega))
        have HMr := Sec.mk (HM2.out.trans HM.out (fun i hi hl => by omega))
        by_cases hlt : k < st.length
        · have HS := Sec.mk (entG_step (t := xs) (acc := acc) (List.getElem?_eq_getElem hlt))
          have hSA : Sec (stopAt xs st k = (st[k + 1]?).getD xs.length) := ⟨rfl⟩
          have HTk := Sec.mk (HT.out k _ (List.getElem?_eq_getElem hlt))
          obtain ⟨g', hA, -, hcell, -, -⟩ := HSr.out.int_elem (j := k) (by rw [List.length_map]; exact hlt)
          injection hA with hA
          injection hA with hA
          subst hA
          rw [List.getElem_map] at hcell
          have hki : (k : Int) < (st.length : Int) := by omega
          have hs5 := HTk.out.1
          by_cases hk1 : k + 1 < st.length
          · have hk1i : (k : Int) + 1 < (st.length : Int) := by omega
            obtain ⟨g', hA, -, hcell2, -, -⟩ := HSr.out.int_elem (j := k + 1) (by rw [List.length_map]; exact hk1)
            injection hA with hA
            injection hA with hA
            subst hA
            rw [List.getElem_map] at hcell2
            have hsp : stopAt xs st k = st[k + 1] := by rw [hSA.out, List.getElem?_eq_getElem hk1]; rfl
            have hse := HTk.out.2 _ (List.getElem?_eq_getElem hk1)
            have hse5 : st[k + 1] ≤ xs.length := by omega
            rw [hsp] at HS
            clear hSA HTk hsp
            generalize st[k + 1] = e at *
            generalize st[k] = s at *
            have hse1 : (s : Int) ≤ (e : Int) := by omega
            have hse2 : (e : Int) ≤ (c : Int) := by omega
            have hcs : ¬ c = s := by omega
            have HPL := Sec.mk (pieceOf_len (t := xs) (s := s) (e := e) (by omega) (by omega))
            have HROW : Sec (∀ W, New wr W → Row Ty.byte W B (some (ad.add s)) (pieceOf xs s e).length (pieceOf xs s e)) := ⟨fun W hW => by
              have h1 := ((HR.out.mod (w' := W) (fun _ h => h) (fun q hq => (hW.block q (Nat.lt_of_lt_of_le (HB.out q hq) HMr.out.size) id).trans (HMr.out.block q (HB.out q hq) id))).cut1 (k := s) (m := e) (by omega) (by omega))
              rw [HPL.out]; exact h1⟩
            have HBW : Sec (∀ W, New wr W → ∀ q, B q → q < W.heap.size) := ⟨fun W hW q hq => by have := HB.out q hq; have := HMr.out.size; have := hW.size; omega⟩
            have HBAD : Sec (¬ entryOk (pieceOf xs s e) → MboxL xs = (false, [])) := ⟨fun h => by rw [HG.out, HE.out, HS.out, if_neg h]⟩
            have HOKK : Sec (entryOk (pieceOf xs s e) → entG xs st [] = entG xs (st.drop (k + 1)) (acc ++ [((s : Int), (e : Int), unquote (innerOf (pieceOf xs s e)))])) := ⟨fun h => by rw [HE.out, HS.out, if_pos h]⟩
            clear HE HS
            have kc := fun (w : World) (C : Array Value) (n c : Nat) => Lib.run_convert_bytes_const (P := Try.prog) w 22 5 C n c Try.underlying22 Try.underlying5
            generalize pieceOf xs s e = p at *
            have hpc : p.length ≤ c - s := by have := HPL.out; omega
            have hpl0 : p.length ≤ 40000 := by have := HPL.out; omega
            go_wp2_with fail
            clear kc
            generalize ad.add s = ad2 at *
            rw [← HPL.out]
            refine (bytesHasPrefix_calls (n := p.length) (m := 10) (c' := 10) (ys := fromMail) (B := B) (B' := (· = wr.heap.size)) (HROW.out _ ((Mod.refl _ _).alloc _)) hpc (rowFM wr 5 _)).mono ?_
            rintro en w2 ⟨rfl, hw2⟩
            have hm2 : Sec (New wr w2) := ⟨by rw [hw2]; exact (Mod.refl _ _).alloc _⟩
            clear hw2
            have HR2 := Sec.mk (HRr.out.mod hm2.out id)
            have HM2 := Sec.mk (HMr.out.transN hm2.out)
            by_cases hpf : p.take 10 = fromMail
            rotate_left
            · rw [decide_eq_false hpf]
              have HPF := Sec.mk hpf
              clear hpf
              have HBX := Sec.mk (HBAD.out (fun h => HPF.out h.2.1))
              have hc0 : w2.cell? ⟨w.heap.size, 0, none⟩ = some (.bool false) := HR2.out.cell 0
              have hc1 : w2.cell? ⟨w.heap.size, 1, none⟩ = some (.slice none 0 0) := HR2.out.cell 1
              have hf0 : w2.frozen? ⟨w.heap.size, 0, none⟩ = false := HR2.out.frozen 0
              have hf1 : w2.frozen? ⟨w.heap.size, 1, none⟩ = false := HR2.out.frozen 1
              go_wp2
              refine bodyPost_ret (results_blk rfl rfl ((HR2.out.set_ 0 (.bool false)).set_ 1 (.slice none 0 0)) Try.underlying29 (by kernel_rfl)) rfl ?_
              exact retBad (l := []) HBX.out ((HM2.out.setCell (fun h => absurd h (by simp)) _).setCell (fun h => absurd h (by simp)) _)
            rw [decide_eq_true hpf]
            have HPF := Sec.mk hpf
            clear hpf
            by_cases h10 : p.length ≤ 10
            · have h10i : (p.length : Int) ≤ 10 := by omega
              have HBX := Sec.mk (HBAD.out (fun h => by have := h.1; omega))
              have hc0 : w2.cell? ⟨w.heap.size, 0, none⟩ = some (.bool false) := HR2.out.cell 0
              have hc1 : w2.cell? ⟨w.heap.size, 1, none⟩ = some (.slice none 0 0) := HR2.out.cell 1
              have hf0 : w2.frozen? ⟨w.heap.size, 0, none⟩ = false := HR2.out.frozen 0
              have hf1 : w2.frozen? ⟨w.heap.size, 1, none⟩ = false := HR2.out.frozen 1
              go_wp2
              refine bodyPost_ret (results_blk rfl rfl ((HR2.out.set_ 0 (.bool false)).set_ 1 (.slice none 0 0)) Try.underlying29 (by kernel_rfl)) rfl ?_
              exact retBad (l := []) HBX.out ((HM2.out.setCell (fun h => absurd h (by simp)) _).setCell (fun h => absurd h (by simp)) _)
            have h10i : ¬ (p.length : Int) ≤ 10 := by omega
            have HRP := Sec.mk (HROW.out w2 hm2.out)
            by_cases hen : endNl p
            rotate_left
            · have HEN := Sec.mk hen
              have hd := decide_eq_false hen
              go_wp2_with fail
              refine (endsLine_calls HRP.out false hd).mono ?_
              rintro en w3 ⟨rfl, rfl⟩
              clear hen hd
              have HBX := Sec.mk (HBAD.out (fun h => HEN.out ⟨fun e => by rw [e] at h10; simp at h10, h.2.2.1⟩))
              have hc0 : w3.cell? ⟨w.heap.size, 0, none⟩ = some (.bool false) := HR2.out.cell 0
              have hc1 : w3.cell? ⟨w.heap.size, 1, none⟩ = some (.slice none 0 0) := HR2.out.cell 1
              have hf0 : w3.frozen? ⟨w.heap.size, 0, none⟩ = false := HR2.out.frozen 0
              have hf1 : w3.frozen? ⟨w.heap.size, 1, none⟩ = false := HR2.out.frozen 1
              go_wp2
              refine bodyPost_ret (results_blk rfl rfl ((HR2.out.set_ 0 (.bool false)).set_ 1 (.slice none 0 0)) Try.underlying29 (by kernel_rfl)) rfl ?_
              exact retBad (l := []) HBX.out ((HM2.out.setCell (fun h => absurd h (by simp)) _).setCell (fun h => absurd h (by simp)) _)
            have hd := decide_eq_true hen
            have HLAST := Sec.mk hen.2
            go_wp2_with fail
            refine (endsLine_calls HRP.out true hd).mono ?_
            rintro en w3 ⟨rfl, rfl⟩
            clear hen hd
            have hb1 : (10 : Int) ≤ (p.length : Int) - 1 := by omega
            have hb2 : (p.length : Int) - 1 ≤ (p.length : Int) := by omega
            have hrow := HRP.out.cut1 (k := 10) (m := p.length - 1) (by omega) (by omega)
            have HIN : Sec (innerOf p = (p.take (p.length - 1)).drop 10) := ⟨rfl⟩
            have hil : ((p.take (p.length - 1)).drop 10).length = p.length - 1 - 10 := by rw [List.length_drop, List.length_take]; omega
            rw [← HIN.out] at hrow hil
            rw [show ad2.add 10 = ⟨ad2.block, ad2.off + 10, none⟩ from by unfold Addr.add; rw [if_neg (by decide)]] at hrow
            rw [← hil] at hrow
            have HIN2 := Sec.mk hrow
            have hili : (innerOf p).length = p.length - 1 - 10 := hil
            have HOK : Sec (entryOk p ↔ (innerOf p = [] ∨ (innerOf p)[(innerOf p).length - 1]? = some 10)) := ⟨⟨fun h => h.2.2.2, fun h => ⟨by omega, HPF.out, HLAST.out, h⟩⟩⟩
            clear hrow HIN hil HROW
            generalize innerOf p = inn at *
            have hp1 : (p.length : Int) - 1 ≤ (p.length : Int) := by omega
            have HO2 := Sec.mk (HO.out.mod hm2.out id)
            have HA2 := Sec.mk (HA.out.new hm2.out)
            have HB2 := Sec.mk (HBW.out w3 hm2.out)
            by_cases hin0 : inn = []
            · have hokk : entryOk p := HOK.out.2 (.inl hin0)
              have hz : p.length - 1 - 10 = 0 := by rw [← hili, hin0]; rfl
              have hz0 : ¬ (0 : Int) < ((p.length - 1 - 10 : Nat) : Int) := by omega
              subst hin0
              go_wp2
              clear hili
              have HYES := Sec.mk (HOKK.out hokk)
              have HSSx : Sec (∀ W, New w3 W → W.cell? ⟨O, 1, none⟩ = some (.slice A2 n2 c2)) := ⟨fun W h => (HO2.out.mod h id).cell 1⟩
              have HSS : Sec (w3.drew.cell? ⟨O, 1, none⟩ = some (.slice A2 n2 c2)) := ⟨HO2.out.cell 1⟩
              refine reg_start [10] (fun W => Sec (W.cell? ⟨O, 1, none⟩ = some (.slice A2 n2 c2))) (by kernel_rfl) ?_
              refine reg_take (.pointer (some ⟨O, 1, none⟩)) (i := 0) (n := 88) HSS rfl (by kernel_rfl) (by kernel_rfl) (by kernel_rfl) (by kernel_rfl) (fun _ _ _ h => h) (fun W hW => exec_field rfl rfl (spansField1 _ _)) ?_
              simp only [Act.put, List.setIfInBounds_toArray, List.set_cons_zero, List.set_cons_succ]
              refine reg_take (.slice A2 n2 c2) (i := 1) (n := 89) HSS rfl (by kernel_rfl) (by kernel_rfl) (by kernel_rfl) (by kernel_rfl) (fun _ _ _ h => h) (fun W hW => exec_load rfl rfl (loadSpanS hW.out)) ?_
              simp only [Act.put, List.setIfInBounds_toArray, List.set_cons_zero, List.set_cons_succ]
              refine reg_take (.int .i64 (s : Int)) (i := 2) (n := 90) HSS rfl (by kernel_rfl) (by kernel_rfl) (by kernel_rfl) (by kernel_rfl) (fun _ _ _ h => h) (fun W hW => exec_move rfl rfl) ?_
              simp only [Act.put, List.setIfInBounds_toArray, List.set_cons_zero, List.set_cons_succ]
              refine reg_take (.int .i64 (e : Int)) (i := 3) (n := 91) HSS rfl (by kernel_rfl) (by kernel_rfl) (by kernel_rfl) (by kernel_rfl) (fun _ _ _ h => h) (fun W hW => exec_move rfl rfl) ?_
              simp only [Act.put, List.setIfInBounds_toArray, List.set_cons_zero, List.set_cons_succ]
              refine reg_take (.slice (some { block := ad2.block, off := ad2.off + 10 }) 0 (c - s - 10)) (i := 4) (n := 92) HSS rfl (by kernel_rfl) (by kernel_rfl) (by kernel_rfl) (by kernel_rfl) (fun _ _ _ h => h) (fun W hW => exec_move rfl rfl) ?_
              simp only [Act.put, List.setIfInBounds_toArray, List.set_cons_zero, List.set_cons_succ]
              refine reg_step (i := 5) rfl (by kernel_rfl) (fun K hK => ?_)
              have HRD : Sec (Row Ty.byte w3.drew B (some { block := ad2.block, off := ad2.off + 10 }) (List.length []) []) := ⟨HIN2.out.mod (fun _ h => h) (fun _ _ => rfl)⟩
              refine wp_call (n := 93) (vals := [.slice (some { block := ad2.block, off := ad2.off + 10 }) 0 (c - s - 10)]) rfl rfl rfl (by kernel_rfl) (unquoteImpl_calls (xs := []) HRD.out HB2.out (Nat.zero_le _) (Nat.zero_le _)) ?_
              rintro en w7 hret
              obtain ⟨A3, c3, rfl, HMN⟩ := RetOwn.mine hret
              obtain ⟨⟨F3, ho3, hF3⟩, hn3⟩ := HMN
              have hn3' : New w3 w7 := (Mod.refl _ _).drew.trans hn3 (fun _ h _ => h)
              refine ⟨_, rfl, hK.out _ _ (fun _ => ⟨HSSx.out _ hn3'⟩) ?_⟩
              clear hK K
              simp only [Act.put, List.setIfInBounds_toArray, List.set_cons_zero, List.set_cons_succ]
              have hs3 := hn3'.size
              have HSS : Sec (w7.cell? ⟨O, 1, none⟩ = some (.slice A2 n2 c2)) := ⟨HSSx.out _ hn3'⟩
              refine reg_take (.agg #[.int .i64 (s : Int), .int .i64 (e : Int), .slice A3 (unquote []).length c3]) (i := 6) (n := 94) HSS rfl (by kernel_rfl) (by kernel_rfl) (by kernel_rfl) (by kernel_rfl) (fun _ _ _ h => h) (fun W hW => exec_build (parts := [(0, .tmp 90), (1, .tmp 91), (2, .tmp 93)]) rfl rfl (buildSpan _ _ _ _ _ _)) ?_
              simp only [Act.put, List.setIfInBounds_toArray, List.set_cons_zero, List.set_cons_succ]
              refine reg_step (i := 7) rfl (by kernel_rfl) (fun K hK => ?_)
              refine wp_valw (n := 95) (v := .slice (some ⟨w7.heap.size, 0, none⟩) 1 1) (w' := w7.alloc (.cells #[.int .i64 (s : Int), .int .i64 (e : Int), .slice A3 (unquote []).length c3] 32)) ?_ rfl ?_
              · refine exec_buildSlice (parts := [(0, .tmp 94)]) (vs := [(0, .agg #[.int .i64 (s : Int), .int .i64 (e : Int), .slice A3 (unquote []).length c3])]) rfl rfl (buildSpan1 _ _ _ _ _ _)
              refine hK.out _ _ (fun _ => ⟨HSSx.out _ (hn3'.alloc _)⟩) ?_
              clear hK K
              simp only [Act.put, List.setIfInBounds_toArray, List.set_cons_zero, List.set_cons_succ]
              refine reg_step (i := 8) rfl (by kernel_rfl) (fun K hK => ?_)
              have hn4 : New w3 (w7.alloc (.cells #[.int .i64 (s : Int), .int .i64 (e : Int), .slice A3 (unquote []).length c3] 32)) := hn3'.alloc _
              have hG2 : ∀ k, k ∈ G → k < w3.heap.size := HA2.out.lt
              have hspan : dSpan.M (w7.alloc (.cells #[.int .i64 (s : Int), .int .i64 (e : Int), .slice A3 (unquote []).length c3] 32)) F3 ((s : Int), (e : Int), unquote []) [.int .i64 (s : Int), .int .i64 (e : Int), .slice A3 (unquote []).length c3] :=
                mSpan (wrap64 (by dsimp only; omega) (by dsimp only; omega)) (wrap64 (by dsimp only; omega) (by dsimp only; omega)) (ho3.new ((Mod.refl _ _).alloc _))
              refine wp_append _ (.tmp 89) (.tmp 95) _ rfl dSpan 32 Try.underlying27 eltSpan rfl (HA2.out.new hn4) rfl (Elems.one hspan) rfl (fun _ => lit_cells _ _ _ rfl) (by simpa using ho3.nd) (fun k hk hk2 => by simp at hk; have h1 : w3.heap.size ≤ k := hF3 k hk; have h2 := hG2 k hk2; omega) (by omega) ?_
              intro A4 n4 c4 w8 F4 ho4 hn4' hm4 hF4'
              have hm24 : Mod (fun k => k ∈ G) w3 w8 := (hn4.ofNew).trans (hm4.mono (fun i _ hi => (HA2.out.own_mem i hi))) (fun _ h _ => h)
              have HOG : O ∉ G := fun h => by have := HGF.out _ h; omega
              have HB4 := HO2.out.mod hm24 HOG
              have hs4 := hm4.size
              simp at hs4
              refine hK.out _ _ (fun _ => ⟨HB4.cell 1⟩) ?_
              clear hK K
              simp only [Act.put, List.setIfInBounds_toArray, List.set_cons_zero, List.set_cons_succ]
              refine reg_step (i := 9) rfl (by kernel_rfl) (fun K hK => ?_)
              refine wp_val (n := 97) (v := .pointer (some ⟨O, 1, none⟩)) (exec_field rfl rfl (spansField1 _ _)) rfl (hK.out _ _ (fun _ => ⟨HB4.cell 1⟩) ?_)
              clear hK K
              simp only [Act.put, List.setIfInBounds_toArray, List.set_cons_zero, List.set_cons_succ]
              refine reg_step (i := 10) rfl (by kernel_rfl) (fun K hK => ?_)
              refine wp_store rfl rfl rfl rfl (storeSpanS (HB4.cell 1) (HB4.frozen 1)) (hK.out _ _ (fun h => absurd (List.mem_singleton.2 rfl) h) ?_)
              clear hK K
              refine reg_done (by kernel_rfl) ?_ _
              have HB5 := HB4.set_ 1 (.slice A4 n4 c4)
              simp only [List.set_cons_zero, List.set_cons_succ] at HB5
              have hF4o : ∀ k, k ∈ F4 → k ∈ G ∨ w3.heap.size ≤ k := fun k hk => by
                rcases hF4' k hk with h | h | h
                · exact .inl h
                · simp at h; have h1 : w3.heap.size ≤ k := hF3 k h; exact .inr h1
                · simp at h; exact .inr (by omega)
              have hOF4 : O ∉ F4 := fun h => by rcases hF4o O h with h | h; exact HOG h; have := HO2.out.lt; omega
              have HO5 := ho4.mod (w' := w8.setCell ⟨O, 1, none⟩ (.slice A4 n4 c4)) (fun k hk => Below.heap_setCell _ _ _ _ (fun h => hOF4 ((show k = O from h) ▸ hk)))
              have HM5 : Mod (· = O) W1 (w8.setCell ⟨O, 1, none⟩ (.slice A4 n4 c4)) := ((HM.out.transN hm2.out).trans hm24 (fun i hi hl => by have := HGF.out i hi; omega)).setCell (fun _ => rfl) _
              have HX5 := Sec.mk HO5; have HX6 := Sec.mk HB5; have HX7 := Sec.mk HM5
              have HF5 : Sec (∀ k, k ∈ F4 → W1.heap.size ≤ k) := ⟨fun k hk => by rcases hF4o k hk with h | h; exact HGF.out k h; have := HM.out.size; have := hm2.out.size; omega⟩
              clear HB4 HB5 HO5 HM5 hm24 hm4 ho4 ho3 hn4'
              go_wp2
              go_roundw
              case rel => exact ⟨k + 1, acc ++ [((s : Int), (e : Int), unquote [])], A4, n4, c4, F4, by omega, by go_num, by simp; omega, HX6, HX5, HF5, HX7, HYES⟩
              case measure => simp [intOf]; omega
            have hz1 : (0 : Int) < ((p.length - 1 - 10 : Nat) : Int) := by
              have : inn.length ≠ 0 := fun h => hin0 (List.eq_nil_of_length_eq_zero h)
              omega
            by_cases hei : endNl inn
            rotate_left
            · have HEN := Sec.mk hei
              have HI0 := Sec.mk hin0
              have hd := decide_eq_false hei
              go_wp2_with fail
              rw [← hili]
              refine (endsLine_calls HIN2.out false hd).mono ?_
              rintro en w4 ⟨rfl, rfl⟩
              clear hei hd hin0
              have HBX := Sec.mk (HBAD.out (fun h => (HOK.out.1 h).elim HI0.out (fun h => HEN.out ⟨HI0.out, h⟩)))
              have hc0 : w4.cell? ⟨w.heap.size, 0, none⟩ = some (.bool false) := HR2.out.cell 0
              have hc1 : w4.cell? ⟨w.heap.size, 1, none⟩ = some (.slice none 0 0) := HR2.out.cell 1
              have hf0 : w4.frozen? ⟨w.heap.size, 0, none⟩ = false := HR2.out.frozen 0
              have hf1 : w4.frozen? ⟨w.heap.size, 1, none⟩ = false := HR2.out.frozen 1
              go_wp2
              refine bodyPost_ret (results_blk rfl rfl ((HR2.out.set_ 0 (.bool false)).set_ 1 (.slice none 0 0)) Try.underlying29 (by kernel_rfl)) rfl ?_
              exact retBad (l := []) HBX.out ((HM2.out.setCell (fun h => absurd h (by simp)) _).setCell (fun h => absurd h (by simp)) _)
            have hokk : entryOk p := HOK.out.2 (.inr hei.2)
            have hd := decide_eq_true hei
            go_wp2_with fail
            rw [← hili]
            refine (endsLine_calls HIN2.out true hd).mono ?_
            rintro en w4 ⟨rfl, rfl⟩
            clear hei hd hin0
            go_wp2
            have HYES := Sec.mk (HOKK.out hokk)
            have HSSx : Sec (∀ W, New w4 W → W.cell? ⟨O, 1, none⟩ = some (.slice A2 n2 c2)) := ⟨fun W h => (HO2.out.mod h id).cell 1⟩
            have HSS : Sec (w4.drew.cell? ⟨O, 1, none⟩ = some (.slice A2 n2 c2)) := ⟨HO2.out.cell 1⟩
            refine reg_start [10] (fun W => Sec (W.cell? ⟨O, 1, none⟩ = some (.slice A2 n2 c2))) (by kernel_rfl) ?_
            refine reg_take (.pointer (some ⟨O, 1, none⟩)) (i := 0) (n := 88) HSS rfl (by kernel_rfl) (by kernel_rfl) (by kernel_rfl) (by kernel_rfl) (fun _ _ _ h => h) (fun W hW => exec_field rfl rfl (spansField1 _ _)) ?_
            simp only [Act.put, List.setIfInBounds_toArray, List.set_cons_zero, List.set_cons_succ]
            refine reg_take (.slice A2 n2 c2) (i := 1) (n := 89) HSS rfl (by kernel_rfl) (by kernel_rfl) (by kernel_rfl) (by kernel_rfl) (fun _ _ _ h => h) (fun W hW => exec_load rfl rfl (loadSpanS hW.out)) ?_
            simp only [Act.put, List.setIfInBounds_toArray, List.set_cons_zero, List.set_cons_succ]
            refine reg_take (.int .i64 (s : Int)) (i := 2) (n := 90) HSS rfl (by kernel_rfl) (by kernel_rfl) (by kernel_rfl) (by kernel_rfl) (fun _ _ _ h => h) (fun W hW => exec_move rfl rfl) ?_
            simp only [Act.put, List.setIfInBounds_toArray, List.set_cons_zero, List.set_cons_succ]
            refine reg_take (.int .i64 (e : Int)) (i := 3) (n := 91) HSS rfl (by kernel_rfl) (by kernel_rfl) (by kernel_rfl) (by kernel_rfl) (fun _ _ _ h => h) (fun W hW => exec_move rfl rfl) ?_
            simp only [Act.put, List.setIfInBounds_toArray, List.set_cons_zero, List.set_cons_succ]
            refine reg_take (.slice (some { block := ad2.block, off := ad2.off + 10 }) (List.length p - 1 - 10) (c - s - 10)) (i := 4) (n := 92) HSS rfl (by kernel_rfl) (by kernel_rfl) (by kernel_rfl) (by kernel_rfl) (fun _ _ _ h => h) (fun W hW => exec_move rfl rfl) ?_
            simp only [Act.put, List.setIfInBounds_toArray, List.set_cons_zero, List.set_cons_succ]
            refine reg_step (i := 5) rfl (by kernel_rfl) (fun K hK => ?_)
            have HRD : Sec (Row Ty.byte w4.drew B (some { block := ad2.block, off := ad2.off + 10 }) (List.length inn) inn) := ⟨HIN2.out.mod (fun _ h => h) (fun _ _ => rfl)⟩
            refine wp_call (n := 93) (vals := [.slice (some { block := ad2.block, off := ad2.off + 10 }) (List.length p - 1 - 10) (c - s - 10)]) rfl rfl rfl (by kernel_rfl) (by rw [← hili]; exact unquoteImpl_calls HRD.out HB2.out (by omega) (by omega)) ?_
            rintro en w7 hret
            obtain ⟨A3, c3, rfl, HMN⟩ := RetOwn.mine hret
            obtain ⟨⟨F3, ho3, hF3⟩, hn3⟩ := HMN
            have hn3' : New w4 w7 := (Mod.refl _ _).drew.trans hn3 (fun _ h _ => h)
            refine ⟨_, rfl, hK.out _ _ (fun _ => ⟨HSSx.out _ hn3'⟩) ?_⟩
            clear hK K
            simp only [Act.put, List.setIfInBounds_toArray, List.set_cons_zero, List.set_cons_succ]
            have hs3 := hn3'.size
            have HSS : Sec (w7.cell? ⟨O, 1, none⟩ = some (.slice A2 n2 c2)) := ⟨HSSx.out _ hn3'⟩
            refine reg_take (.agg #[.int .i64 (s : Int), .int .i64 (e : Int), .slice A3 (unquote inn).length c3]) (i := 6) (n := 94) HSS rfl (by kernel_rfl) (by kernel_rfl) (by kernel_rfl) (by kernel_rfl) (fun _ _ _ h => h) (fun W hW => exec_build (parts := [(0, .tmp 90), (1, .tmp 91), (2, .tmp 93)]) rfl rfl (buildSpan _ _ _ _ _ _)) ?_
            simp only [Act.put, List.setIfInBounds_toArray, List.set_cons_zero, List.set_cons_succ]
            refine reg_step (i := 7) rfl (by kernel_rfl) (fun K hK => ?_)
            refine wp_valw (n := 95) (v := .slice (some ⟨w7.heap.size, 0, none⟩) 1 1) (w' := w7.alloc (.cells #[.int .i64 (s : Int), .int .i64 (e : Int), .slice A3 (unquote inn).length c3] 32)) ?_ rfl ?_
            · refine exec_buildSlice (parts := [(0, .tmp 94)]) (vs := [(0, .agg #[.int .i64 (s : Int), .int .i64 (e : Int), .slice A3 (unquote inn).length c3])]) rfl rfl (buildSpan1 _ _ _ _ _ _)
            refine hK.out _ _ (fun _ => ⟨HSSx.out _ (hn3'.alloc _)⟩) ?_
            clear hK K
            simp only [Act.put, List.setIfInBounds_toArray, List.set_cons_zero, List.set_cons_succ]
            refine reg_step (i := 8) rfl (by kernel_rfl) (fun K hK => ?_)
            have hn4 : New w4 (w7.alloc (.cells #[.int .i64 (s : Int), .int .i64 (e : Int), .slice A3 (unquote inn).length c3] 32)) := hn3'.alloc _
            have hG2 : ∀ k, k ∈ G → k < w4.heap.size := HA2.out.lt
            have hspan : dSpan.M (w7.alloc (.cells #[.int .i64 (s : Int), .int .i64 (e : Int), .slice A3 (unquote inn).length c3] 32)) F3 ((s : Int), (e : Int), unquote inn) [.int .i64 (s : Int), .int .i64 (e : Int), .slice A3 (unquote inn).length c3] :=
              mSpan (wrap64 (by dsimp only; omega) (by dsimp only; omega)) (wrap64 (by dsimp only; omega) (by dsimp only; omega)) (ho3.new ((Mod.refl _ _).alloc _))
            refine wp_append _ (.tmp 89) (.tmp 95) _ rfl dSpan 32 Try.underlying27 eltSpan rfl (HA2.out.new hn4) rfl (Elems.one hspan) rfl (fun _ => lit_cells _ _ _ rfl) (by simpa using ho3.nd) (fun k hk hk2 => by simp at hk; have h1 : w4.heap.size ≤ k := hF3 k hk; have h2 := hG2 k hk2; omega) (by omega) ?_
            intro A4 n4 c4 w8 F4 ho4 hn4' hm4 hF4'
            have hm24 : Mod (fun k => k ∈ G) w4 w8 := (hn4.ofNew).trans (hm4.mono (fun i _ hi => (HA2.out.own_mem i hi))) (fun _ h _ => h)
            have HOG : O ∉ G := fun h => by have := HGF.out _ h; omega
            have HB4 := HO2.out.mod hm24 HOG
            have hs4 := hm4.size
            simp at hs4
            refine hK.out _ _ (fun _ => ⟨HB4.cell 1⟩) ?_
            clear hK K
            simp only [Act.put, List.setIfInBounds_toArray, List.set_cons_zero, List.set_cons_succ]
            refine reg_step (i := 9) rfl (by kernel_rfl) (fun K hK => ?_)
            refine wp_val (n := 97) (v := .pointer (some ⟨O, 1, none⟩)) (exec_field rfl rfl (spansField1 _ _)) rfl (hK.out _ _ (fun _ => ⟨HB4.cell 1⟩) ?_)
            clear hK K
            simp only [Act.put, List.setIfInBounds_toArray, List.set_cons_zero, List.set_cons_succ]
            refine reg_step (i := 10) rfl (by kernel_rfl) (fun K hK => ?_)
            refine wp_store rfl rfl rfl rfl (storeSpanS (HB4.cell 1) (HB4.frozen 1)) (hK.out _ _ (fun h => absurd (List.mem_singleton.2 rfl) h) ?_)
            clear hK K
            refine reg_done (by kernel_rfl) ?_ _
            have HB5 := HB4.set_ 1 (.slice A4 n4 c4)
            simp only [List.set_cons_zero, List.set_cons_succ] at HB5
            have hF4o : ∀ k, k ∈ F4 → k ∈ G ∨ w4.heap.size ≤ k := fun k hk => by
              rcases hF4' k hk with h | h | h
              · exact .inl h
              · simp at h; have h1 : w4.heap.size ≤ k := hF3 k h; exact .inr h1
              · simp at h; exact .inr (by omega)
            have hOF4 : O ∉ F4 := fun h => by rcases hF4o O h with h | h; exact HOG h; have := HO2.out.lt; omega
            have HO5 := ho4.mod (w' := w8.setCell ⟨O, 1, none⟩ (.slice A4 n4 c4)) (fun k hk => Below.heap_setCell _ _ _ _ (fun h => hOF4 ((show k = O from h) ▸ hk)))
            have HM5 : Mod (· = O) W1 (w8.setCell ⟨O, 1, none⟩ (.slice A4 n4 c4)) := ((HM.out.transN hm2.out).trans hm24 (fun i hi hl => by have := HGF.out i hi; omega)).setCell (fun _ => rfl) _
            have HX5 := Sec.mk HO5; have HX6 := Sec.mk HB5; have HX7 := Sec.mk HM5
            have HF5 : Sec (∀ k, k ∈ F4 → W1.heap.size ≤ k) := ⟨fun k hk => by rcases hF4o k hk with h | h; exact HGF.out k h; have := HM.out.size; have := hm2.out.size; omega⟩
            clear HB4 HB5 HO5 HM5 hm24 hm4 ho4 ho3 hn4'
            go_wp2
            go_roundw
            case rel => exact ⟨k + 1, acc ++ [((s : Int), (e : Int), unquote inn)], A4, n4, c4, F4, by omega, by go_num, by simp; omega, HX6, HX5, HF5, HX7, HYES⟩
            case measure => simp [intOf]; omega
          · have hk1i : ¬ (k : Int) + 1 < (st.length : Int) := by omega
            have hsp : stopAt xs st k = xs.length := by rw [hSA.out, List.getElem?_eq_none (by omega)]; rfl
            rw [hsp] at HS
            clear hSA HTk hsp
            generalize st[k] = s at *
            have hse1 : (s : Int) ≤ (xs.length : Int) := by omega
            have hse2 : (xs.length : Int) ≤ (c : Int) := by omega
            have hcs : ¬ c = s := by omega
            have HPL := Sec.mk (pieceOf_len (t := xs) (s := s) (e := xs.length) (by omega) (by omega))
            have HROW : Sec (∀ W, New wr W → Row Ty.byte W B (some (ad.add s)) (pieceOf xs s xs.length).length (pieceOf xs s xs.length)) := ⟨fun W hW => by
              have h1 := ((HR.out.mod (w' := W) (fun _ h => h) (fun q hq => (hW.block q (Nat.lt_of_lt_of_le (HB.out q hq) HMr.out.size) id).trans (HMr.out.block q (HB.out q hq) id))).cut1 (k := s) (m := xs.length) (by omega) (by omega))
              rw [HPL.out]; exact h1⟩
            have HBW : Sec (∀ W, New wr W → ∀ q, B q → q < W.heap.size) := ⟨fun W hW q hq => by have := HB.out q hq; have := HMr.out.size; have := hW.size; omega⟩
            have HBAD : Sec (¬ entryOk (pieceOf xs s xs.length) → MboxL xs = (false, [])) := ⟨fun h => by rw [HG.out, HE.out, HS.out, if_neg h]⟩
            have HOKK : Sec (entryOk (pieceOf xs s xs.length) → entG xs st [] = entG xs (st.drop (k + 1)) (acc ++ [((s : Int), (xs.length : Int), unquote (innerOf (pieceOf xs s xs.length)))])) := ⟨fun h => by rw [HE.out, HS.out, if_pos h]⟩
            clear HE HS
            have kc := fun (w : World) (C : Array Value) (n c : Nat) => Lib.run_convert_bytes_const (P := Try.prog) w 22 5 C n c Try.underlying22 Try.underlying5
            generalize pieceOf xs s xs.length = p at *
            have hpc : p.length ≤ c - s := by have := HPL.out; omega
            have hpl0 : p.length ≤ 40000 := by have := HPL.out; omega
            go_wp2_with fail
            clear kc
            generalize ad.add s = ad2 at *
            rw [← HPL.out]
            refine (bytesHasPrefix_calls (n := p.length) (m := 10) (c' := 10) (ys := fromMail) (B := B) (B' := (· = wr.heap.size)) (HROW.out _ ((Mod.refl _ _).alloc _)) hpc (rowFM wr 5 _)).mono ?_
            rintro en w2 ⟨rfl, hw2⟩
            have hm2 : Sec (New wr w2) := ⟨by rw [hw2]; exact (Mod.refl _ _).alloc _⟩
            clear hw2
            have HR2 := Sec.mk (HRr.out.mod hm2.out id)
            have HM2 := Sec.mk (HMr.out.transN hm2.out)
            by_cases hpf : p.take 10 = fromMail
            rotate_left
            · rw [decide_eq_false hpf]
              have HPF := Sec.mk hpf
              clear hpf
              have HBX := Sec.mk (HBAD.out (fun h => HPF.out h.2.1))
              have hc0 : w2.cell? ⟨w.heap.size, 0, none⟩ = some (.bool false) := HR2.out.cell 0
              have hc1 : w2.cell? ⟨w.heap.size, 1, none⟩ = some (.slice none 0 0) := HR2.out.cell 1
              have hf0 : w2.frozen? ⟨w.heap.size, 0, none⟩ = false := HR2.out.frozen 0
              have hf1 : w2.frozen? ⟨w.heap.size, 1, none⟩ = false := HR2.out.frozen 1
              go_wp2
              refine bodyPost_ret (results_blk rfl rfl ((HR2.out.set_ 0 (.bool false)).set_ 1 (.slice none 0 0)) Try.underlying29 (by kernel_rfl)) rfl ?_
              exact retBad (l := []) HBX.out ((HM2.out.setCell (fun h => absurd h (by simp)) _).setCell (fun h => absurd h (by simp)) _)
            rw [decide_eq_true hpf]
            have HPF := Sec.mk hpf
            clear hpf
            by_cases h10 : p.length ≤ 10
            · have h10i : (p.length : Int) ≤ 10 := by omega
              have HBX := Sec.mk (HBAD.out (fun h => by have := h.1; omega))
              have hc0 : w2.cell? ⟨w.heap.size, 0, none⟩ = some (.bool false) := HR2.out.cell 0
              have hc1 : w2.cell? ⟨w.heap.size, 1, none⟩ = some (.slice none 0 0) := HR2.out.cell 1
              have hf0 : w2.frozen? ⟨w.heap.size, 0, none⟩ = false := HR2.out.frozen 0
              have hf1 : w2.frozen? ⟨w.heap.size, 1, none⟩ = false := HR2.out.frozen 1
              go_wp2
              refine bodyPost_ret (results_blk rfl rfl ((HR2.out.set_ 0 (.bool false)).set_ 1 (.slice none 0 0)) Try.underlying29 (by kernel_rfl)) rfl ?_
              exact retBad (l := []) HBX.out ((HM2.out.setCell (fun h => absurd h (by simp)) _).setCell (fun h => absurd h (by simp)) _)
            have h10i : ¬ (p.length : Int) ≤ 10 := by omega
            have HRP := Sec.mk (HROW.out w2 hm2.out)
            by_cases hen : endNl p
            rotate_left
            · have HEN := Sec.mk hen
              have hd := decide_eq_false hen
              go_wp2_with fail
              refine (endsLine_calls HRP.out false hd).mono ?_
              rintro en w3 ⟨rfl, rfl⟩
              clear hen hd
              have HBX := Sec.mk (HBAD.out (fun h => HEN.out ⟨fun e => by rw [e] at h10; simp at h10, h.2.2.1⟩))
              have hc0 : w3.cell? ⟨w.heap.size, 0, none⟩ = some (.bool false) := HR2.out.cell 0
              have hc1 : w3.cell? ⟨w.heap.size, 1, none⟩ = some (.slice none 0 0) := HR2.out.cell 1
              have hf0 : w3.frozen? ⟨w.heap.size, 0, none⟩ = false := HR2.out.frozen 0
              have hf1 : w3.frozen? ⟨w.heap.size, 1, none⟩ = false := HR2.out.frozen 1
              go_wp2
              refine bodyPost_ret (results_blk rfl rfl ((HR2.out.set_ 0 (.bool false)).set_ 1 (.slice none 0 0)) Try.underlying29 (by kernel_rfl)) rfl ?_
              exact retBad (l := []) HBX.out ((HM2.out.setCell (fun h => absurd h (by simp)) _).setCell (fun h => absurd h (by simp)) _)
            have hd := decide_eq_true hen
            have HLAST := Sec.mk hen.2
            go_wp2_with fail
            refine (endsLine_calls HRP.out true hd).mono ?_
            rintro en w3 ⟨rfl, rfl⟩
            clear hen hd
            have hb1 : (10 : Int) ≤ (p.length : Int) - 1 := by omega
            have hb2 : (p.length : Int) - 1 ≤ (p.length : Int) := by omega
            have hrow := HRP.out.cut1 (k := 10) (m := p.length - 1) (by omega) (by omega)
            have HIN : Sec (innerOf p = (p.take (p.length - 1)).drop 10) := ⟨rfl⟩
            have hil : ((p.take (p.length - 1)).drop 10).length = p.length - 1 - 10 := by rw [List.length_drop, List.length_take]; omega
            rw [← HIN.out] at hrow hil
            rw [show ad2.add 10 = ⟨ad2.block, ad2.off + 10, none⟩ from by unfold Addr.add; rw [if_neg (by decide)]] at hrow
            rw [← hil] at hrow
            have HIN2 := Sec.mk hrow
            have hili : (innerOf p).length = p.length - 1 - 10 := hil
            have HOK : Sec (entryOk p ↔ (innerOf p = [] ∨ (innerOf p)[(innerOf p).length - 1]? = some 10)) := ⟨⟨fun h => h.2.2.2, fun h => ⟨by omega, HPF.out, HLAST.out, h⟩⟩⟩
            clear hrow HIN hil HROW
            generalize innerOf p = inn at *
            have hp1 : (p.length : Int) - 1 ≤ (p.length : Int) := by omega
            have HO2 := Sec.mk (HO.out.mod hm2.out id)
            have HA2 := Sec.mk (HA.out.new hm2.out)
            have HB2 := Sec.mk (HBW.out w3 hm2.out)
            by_cases hin0 : inn = []
            · have hokk : entryOk p := HOK.out.2 (.inl hin0)
              have hz : p.length - 1 - 10 = 0 := by rw [← hili, hin0]; rfl
              have hz0 : ¬ (0 : Int) < ((p.length - 1 - 10 : Nat) : Int) := by omega
              subst hin0
              go_wp2
              clear hili
              have HYES := Sec.mk (HOKK.out hokk)
              have HSSx : Sec (∀ W, New w3 W → W.cell? ⟨O, 1, none⟩ = some (.slice A2 n2 c2)) := ⟨fun W h => (HO2.out.mod h id).cell 1⟩
              have HSS : Sec (w3.drew.cell? ⟨O, 1, none⟩ = some (.slice A2 n2 c2)) := ⟨HO2.out.cell 1⟩
              refine reg_start [10] (fun W => Sec (W.cell? ⟨O, 1, none⟩ = some (.slice A2 n2 c2))) (by kernel_rfl) ?_
              refine reg_take (.pointer (some ⟨O, 1, none⟩)) (i := 0) (n := 88) HSS rfl (by kernel_rfl) (by kernel_rfl) (by kernel_rfl) (by kernel_rfl) (fun _ _ _ h => h) (fun W hW => exec_field rfl rfl (spansField1 _ _)) ?_
              simp only [Act.put, List.setIfInBounds_toArray, List.set_cons_zero, List.set_cons_succ]
              refine reg_take (.slice A2 n2 c2) (i := 1) (n := 89) HSS rfl (by kernel_rfl) (by kernel_rfl) (by kernel_rfl) (by kernel_rfl) (fun _ _ _ h => h) (fun W hW => exec_load rfl rfl (loadSpanS hW.out)) ?_
              simp only [Act.put, List.setIfInBounds_toArray, List.set_cons_zero, List.set_cons_succ]
              refine reg_take (.int .i64 (s : Int)) (i := 2) (n := 90) HSS rfl (by kernel_rfl) (by kernel_rfl) (by kernel_rfl) (by kernel_rfl) (fun _ _ _ h => h) (fun W hW => exec_move rfl rfl) ?_
              simp only [Act.put, List.setIfInBounds_toArray, List.set_cons_zero, List.set_cons_succ]
              refine reg_take (.int .i64 (xs.length : Int)) (i := 3) (n := 91) HSS rfl (by kernel_rfl) (by kernel_rfl) (by kernel_rfl) (by kernel_rfl) (fun _ _ _ h => h) (fun W hW => exec_move rfl rfl) ?_
              simp only [Act.put, List.setIfInBounds_toArray, List.set_cons_zero, List.set_cons_succ]
              refine reg_take (.slice (some { block := ad2.block, off := ad2.off + 10 }) 0 (c - s - 10)) (i := 4) (n := 92) HSS rfl (by kernel_rfl) (by kernel_rfl) (by kernel_rfl) (by kernel_rfl) (fun _ _ _ h => h) (fun W hW => exec_move rfl rfl) ?_
              simp only [Act.put, List.setIfInBounds_toArray, List.set_cons_zero, List.set_cons_succ]
              refine reg_step (i := 5) rfl (by kernel_rfl) (fun K hK => ?_)
              have HRD : Sec (Row Ty.byte w3.drew B (some { block := ad2.block, off := ad2.off + 10 }) (List.length []) []) := ⟨HIN2.out.mod (fun _ h => h) (fun _ _ => rfl)⟩
              refine wp_call (n := 93) (vals := [.slice (some { block := ad2.block, off := ad2.off + 10 }) 0 (c - s - 10)]) rfl rfl rfl (by kernel_rfl) (unquoteImpl_calls (xs := []) HRD.out HB2.out (Nat.zero_le _) (Nat.zero_le _)) ?_
              rintro en w7 hret
              obtain ⟨A3, c3, rfl, HMN⟩ := RetOwn.mine hret
              obtain ⟨⟨F3, ho3, hF3⟩, hn3⟩ := HMN
              have hn3' : New w3 w7 := (Mod.refl _ _).drew.trans hn3 (fun _ h _ => h)
              refine ⟨_, rfl, hK.out _ _ (fun _ => ⟨HSSx.out _ hn3'⟩) ?_⟩
              clear hK K
              simp only [Act.put, List.setIfInBounds_toArray, List.set_cons_zero, List.set_cons_succ]
              have hs3 := hn3'.size
              have HSS : Sec (w7.cell? ⟨O, 1, none⟩ = some (.slice A2 n2 c2)) := ⟨HSSx.out _ hn3'⟩
              refine reg_take (.agg #[.int .i64 (s : Int), .int .i64 (xs.length : Int), .slice A3 (unquote []).length c3]) (i := 6) (n := 94) HSS rfl (by kernel_rfl) (by kernel_rfl) (by kernel_rfl) (by kernel_rfl) (fun _ _ _ h => h) (fun W hW => exec_build (parts := [(0, .tmp 90), (1, .tmp 91), (2, .tmp 93)]) rfl rfl (buildSpan _ _ _ _ _ _)) ?_
              simp only [Act.put, List.setIfInBounds_toArray, List.set_cons_zero, List.set_cons_succ]
              refine reg_step (i := 7) rfl (by kernel_rfl) (fun K hK => ?_)
              refine wp_valw (n := 95) (v := .slice (some ⟨w7.heap.size, 0, none⟩) 1 1) (w' := w7.alloc (.cells #[.int .i64 (s : Int), .int .i64 (xs.length : Int), .slice A3 (unquote []).length c3] 32)) ?_ rfl ?_
              · refine exec_buildSlice (parts := [(0, .tmp 94)]) (vs := [(0, .agg #[.int .i64 (s : Int), .int .i64 (xs.length : Int), .slice A3 (unquote []).length c3])]) rfl rfl (buildSpan1 _ _ _ _ _ _)
              refine hK.out _ _ (fun _ => ⟨HSSx.out _ (hn3'.alloc _)⟩) ?_
              clear hK K
              simp only [Act.put, List.setIfInBounds_toArray, List.set_cons_zero, List.set_cons_succ]
              refine reg_step (i := 8) rfl (by kernel_rfl) (fun K hK => ?_)
              have hn4 : New w3 (w7.alloc (.cells #[.int .i64 (s : Int), .int .i64 (xs.length : Int), .slice A3 (unquote []).length c3] 32)) := hn3'.alloc _
              have hG2 : ∀ k, k ∈ G → k < w3.heap.size := HA2.out.lt
              have hspan : dSpan.M (w7.alloc (.cells #[.int .i64 (s : Int), .int .i64 (xs.length : Int), .slice A3 (unquote []).length c3] 32)) F3 ((s : Int), (xs.length : Int), unquote []) [.int .i64 (s : Int), .int .i64 (xs.length : Int), .slice A3 (unquote []).length c3] :=
                mSpan (wrap64 (by dsimp only; omega) (by dsimp only; omega)) (wrap64 (by dsimp only; omega) (by dsimp only; omega)) (ho3.new ((Mod.refl _ _).alloc _))
              refine wp_append _ (.tmp 89) (.tmp 95) _ rfl dSpan 32 Try.underlying27 eltSpan rfl (HA2.out.new hn4) rfl (Elems.one hspan) rfl (fun _ => lit_cells _ _ _ rfl) (by simpa using ho3.nd) (fun k hk hk2 => by simp at hk; have h1 : w3.heap.size ≤ k := hF3 k hk; have h2 := hG2 k hk2; omega) (by omega) ?_
              intro A4 n4 c4 w8 F4 ho4 hn4' hm4 hF4'
              have hm24 : Mod (fun k => k ∈ G) w3 w8 := (hn4.ofNew).trans (hm4.mono (fun i _ hi => (HA2.out.own_mem i hi))) (fun _ h _ => h)
              have HOG : O ∉ G := fun h => by have := HGF.out _ h; omega
              have HB4 := HO2.out.mod hm24 HOG
              have hs4 := hm4.size
              simp at hs4
              refine hK.out _ _ (fun _ => ⟨HB4.cell 1⟩) ?_
              clear hK K
              simp only [Act.put, List.setIfInBounds_toArray, List.set_cons_zero, List.set_cons_succ]
              refine reg_step (i := 9) rfl (by kernel_rfl) (fun K hK => ?_)
              refine wp_val (n := 97) (v := .pointer (some ⟨O, 1, none⟩)) (exec_field rfl rfl (spansField1 _ _)) rfl (hK.out _ _ (fun _ => ⟨HB4.cell 1⟩) ?_)
              clear hK K
              simp only [Act.put, List.setIfInBounds_toArray, List.set_cons_zero, List.set_cons_succ]
              refine reg_step (i := 10) rfl (by kernel_rfl) (fun K hK => ?_)
              refine wp_store rfl rfl rfl rfl (storeSpanS (HB4.cell 1) (HB4.frozen 1)) (hK.out _ _ (fun h => absurd (List.mem_singleton.2 rfl) h) ?_)
              clear hK K
              refine reg_done (by kernel_rfl) ?_ _
              have HB5 := HB4.set_ 1 (.slice A4 n4 c4)
              simp only [List.set_cons_zero, List.set_cons_succ] at HB5
              have hF4o : ∀ k, k ∈ F4 → k ∈ G ∨ w3.heap.size ≤ k := fun k hk => by
                rcases hF4' k hk with h | h | h
                · exact .inl h
                · simp at h; have h1 : w3.heap.size ≤ k := hF3 k h; exact .inr h1
                · simp at h; exact .inr (by omega)
              have hOF4 : O ∉ F4 := fun h => by rcases hF4o O h with h | h; exact HOG h; have := HO2.out.lt; omega
              have HO5 := ho4.mod (w' := w8.setCell ⟨O, 1, none⟩ (.slice A4 n4 c4)) (fun k hk => Below.heap_setCell _ _ _ _ (fun h => hOF4 ((show k = O from h) ▸ hk)))
              have HM5 : Mod (· = O) W1 (w8.setCell ⟨O, 1, none⟩ (.slice A4 n4 c4)) := ((HM.out.transN hm2.out).trans hm24 (fun i hi hl => by have := HGF.out i hi; omega)).setCell (fun _ => rfl) _
              have HX5 := Sec.mk HO5; have HX6 := Sec.mk HB5; have HX7 := Sec.mk HM5
              have HF5 : Sec (∀ k, k ∈ F4 → W1.heap.size ≤ k) := ⟨fun k hk => by rcases hF4o k hk with h | h; exact HGF.out k h; have := HM.out.size; have := hm2.out.size; omega⟩
              clear HB4 HB5 HO5 HM5 hm24 hm4 ho4 ho3 hn4'
              go_wp2
              go_roundw
              case rel => exact ⟨k + 1, acc ++ [((s : Int), (xs.length : Int), unquote [])], A4, n4, c4, F4, by omega, by go_num, by simp; omega, HX6, HX5, HF5, HX7, HYES⟩
              case measure => simp [intOf]; omega
            have hz1 : (0 : Int) < ((p.length - 1 - 10 : Nat) : Int) := by
              have : inn.length ≠ 0 := fun h => hin0 (List.eq_nil_of_length_eq_zero h)
              omega
            by_cases hei : endNl inn
            rotate_left
            · have HEN := Sec.mk hei
              have HI0 := Sec.mk hin0
              have hd := decide_eq_false hei
              go_wp2_with fail
              rw [← hili]
              refine (endsLine_calls HIN2.out false hd).mono ?_
              rintro en w4 ⟨rfl, rfl⟩
              clear hei hd hin0
              have HBX := Sec.mk (HBAD.out (fun h => (HOK.out.1 h).elim HI0.out (fun h => HEN.out ⟨HI0.out, h⟩)))
              have hc0 : w4.cell? ⟨w.heap.size, 0, none⟩ = some (.bool false) := HR2.out.cell 0
              have hc1 : w4.cell? ⟨w.heap.size, 1, none⟩ = some (.slice none 0 0) := HR2.out.cell 1
              have hf0 : w4.frozen? ⟨w.heap.size, 0, none⟩ = false := HR2.out.frozen 0
              have hf1 : w4.frozen? ⟨w.heap.size, 1, none⟩ = false := HR2.out.frozen 1
              go_wp2
              refine bodyPost_ret (results_blk rfl rfl ((HR2.out.set_ 0 (.bool false)).set_ 1 (.slice none 0 0)) Try.underlying29 (by kernel_rfl)) rfl ?_
              exact retBad (l := []) HBX.out ((HM2.out.setCell (fun h => absurd h (by simp)) _).setCell (fun h => absurd h (by simp)) _)
            have hokk : entryOk p := HOK.out.2 (.inr hei.2)
            have hd := decide_eq_true hei
            go_wp2_with fail
            rw [← hili]
            refine (endsLine_calls HIN2.out true hd).mono ?_
            rintro en w4 ⟨rfl, rfl⟩
            clear hei hd hin0
            go_wp2
            have HYES := Sec.mk (HOKK.out hokk)
            have HSSx : Sec (∀ W, New w4 W → W.cell? ⟨O, 1, none⟩ = some (.slice A2 n2 c2)) := ⟨fun W h => (HO2.out.mod h id).cell 1⟩
            have HSS : Sec (w4.drew.cell? ⟨O, 1, none⟩ = some (.slice A2 n2 c2)) := ⟨HO2.out.cell 1⟩
            refine reg_start [10] (fun W => Sec (W.cell? ⟨O, 1, none⟩ = some (.slice A2 n2 c2))) (by kernel_rfl) ?_
            refine reg_take (.pointer (some ⟨O, 1, none⟩)) (i := 0) (n := 88) HSS rfl (by kernel_rfl) (by kernel_rfl) (by kernel_rfl) (by kernel_rfl) (fun _ _ _ h => h) (fun W hW => exec_field rfl rfl (spansField1 _ _)) ?_
            simp only [Act.put, List.setIfInBounds_toArray, List.set_cons_zero, List.set_cons_succ]
            refine reg_take (.slice A2 n2 c2) (i := 1) (n := 89) HSS rfl (by kernel_rfl) (by kernel_rfl) (by kernel_rfl) (by kernel_rfl) (fun _ _ _ h => h) (fun W hW => exec_load rfl rfl (loadSpanS hW.out)) ?_
            simp only [Act.put, List.setIfInBounds_toArray, List.set_cons_zero, List.set_cons_succ]
            refine reg_take (.int .i64 (s : Int)) (i := 2) (n := 90) HSS rfl (by kernel_rfl) (by kernel_rfl) (by kernel_rfl) (by kernel_rfl) (fun _ _ _ h => h) (fun W hW => exec_move rfl rfl) ?_
            simp only [Act.put, List.setIfInBounds_toArray, List.set_cons_zero, List.set_cons_succ]
            refine reg_take (.int .i64 (xs.length : Int)) (i := 3) (n := 91) HSS rfl (by kernel_rfl) (by kernel_rfl) (by kernel_rfl) (by kernel_rfl) (fun _ _ _ h => h) (fun W hW => exec_move rfl rfl) ?_
            simp only [Act.put, List.setIfInBounds_toArray, List.set_cons_zero, List.set_cons_succ]
            refine reg_take (.slice (some { block := ad2.block, off := ad2.off + 10 }) (List.length p - 1 - 10) (c - s - 10)) (i := 4) (n := 92) HSS rfl (by kernel_rfl) (by kernel_rfl) (by kernel_rfl) (by kernel_rfl) (fun _ _ _ h => h) (fun W hW => exec_move rfl rfl) ?_
            simp only [Act.put, List.setIfInBounds_toArray, List.set_cons_zero, List.set_cons_succ]
            refine reg_step (i := 5) rfl (by kernel_rfl) (fun K hK => ?_)
            have HRD : Sec (Row Ty.byte w4.drew B (some { block := ad2.block, off := ad2.off + 10 }) (List.length inn) inn) := ⟨HIN2.out.mod (fun _ h => h) (fun _ _ => rfl)⟩
            refine wp_call (n := 93) (vals := [.slice (some { block := ad2.block, off := ad2.off + 10 }) (List.length p - 1 - 10) (c - s - 10)]) rfl rfl rfl (by kernel_rfl) (by rw [← hili]; exact unquoteImpl_calls HRD.out HB2.out (by omega) (by omega)) ?_
            rintro en w7 hret
            obtain ⟨A3, c3, rfl, HMN⟩ := RetOwn.mine hret
            obtain ⟨⟨F3, ho3, hF3⟩, hn3⟩ := HMN
            have hn3' : New w4 w7 := (Mod.refl _ _).drew.trans hn3 (fun _ h _ => h)
            refine ⟨_, rfl, hK.out _ _ (fun _ => ⟨HSSx.out _ hn3'⟩) ?_⟩
            clear hK K
            simp only [Act.put, List.setIfInBounds_toArray, List.set_cons_zero, List.set_cons_succ]
            have hs3 := hn3'.size
            have HSS : Sec (w7.cell? ⟨O, 1, none⟩ = some (.slice A2 n2 c2)) := ⟨HSSx.out _ hn3'⟩
            refine reg_take (.agg #[.int .i64 (s : Int), .int .i64 (xs.length : Int), .slice A3 (unquote inn).length c3]) (i := 6) (n := 94) HSS rfl (by kernel_rfl) (by kernel_rfl) (by kernel_rfl) (by kernel_rfl) (fun _ _ _ h => h) (fun W hW => exec_build (parts := [(0, .tmp 90), (1, .tmp 91), (2, .tmp 93)]) rfl rfl (buildSpan _ _ _ _ _ _)) ?_
            simp only [Act.put, List.setIfInBounds_toArray, List.set_cons_zero, List.set_cons_succ]
            refine reg_step (i := 7) rfl (by kernel_rfl) (fun K hK => ?_)
            refine wp_valw (n := 95) (v := .slice (some ⟨w7.heap.size, 0, none⟩) 1 1) (w' := w7.alloc (.cells #[.int .i64 (s : Int), .int .i64 (xs.length : Int), .slice A3 (unquote inn).length c3] 32)) ?_ rfl ?_
            · refine exec_buildSlice (parts := [(0, .tmp 94)]) (vs := [(0, .agg #[.int .i64 (s : Int), .int .i64 (xs.length : Int), .slice A3 (unquote inn).length c3])]) rfl rfl (buildSpan1 _ _ _ _ _ _)
            refine hK.out _ _ (fun _ => ⟨HSSx.out _ (hn3'.alloc _)⟩) ?_
            clear hK K
            simp only [Act.put, List.setIfInBounds_toArray, List.set_cons_zero, List.set_cons_succ]
            refine reg_step (i := 8) rfl (by kernel_rfl) (fun K hK => ?_)
            have hn4 : New w4 (w7.alloc (.cells #[.int .i64 (s : Int), .int .i64 (xs.length : Int), .slice A3 (unquote inn).length c3] 32)) := hn3'.alloc _
            have hG2 : ∀ k, k ∈ G → k < w4.heap.size := HA2.out.lt
            have hspan : dSpan.M (w7.alloc (.cells #[.int .i64 (s : Int), .int .i64 (xs.length : Int), .slice A3 (unquote inn).length c3] 32)) F3 ((s : Int), (xs.length : Int), unquote inn) [.int .i64 (s : Int), .int .i64 (xs.length : Int), .slice A3 (unquote inn).length c3] :=
              mSpan (wrap64 (by dsimp only; omega) (by dsimp only; omega)) (wrap64 (by dsimp only; omega) (by dsimp only; omega)) (ho3.new ((Mod.refl _ _).alloc _))
            refine wp_append _ (.tmp 89) (.tmp 95) _ rfl dSpan 32 Try.underlying27 eltSpan rfl (HA2.out.new hn4) rfl (Elems.one hspan) rfl (fun _ => lit_cells _ _ _ rfl) (by simpa using ho3.nd) (fun k hk hk2 => by simp at hk; have h1 : w4.heap.size ≤ k := hF3 k hk; have h2 := hG2 k hk2; omega) (by omega) ?_
            intro A4 n4 c4 w8 F4 ho4 hn4' hm4 hF4'
            have hm24 : Mod (fun k => k ∈ G) w4 w8 := (hn4.ofNew).trans (hm4.mono (fun i _ hi => (HA2.out.own_mem i hi))) (fun _ h _ => h)
            have HOG : O ∉ G := fun h => by have := HGF.out _ h; omega
            have HB4 := HO2.out.mod hm24 HOG
            have hs4 := hm4.size
            simp at hs4
            refine hK.out _ _ (fun _ => ⟨HB4.cell 1⟩) ?_
            clear hK K
            simp only [Act.put, List.setIfInBounds_toArray, List.set_cons_zero, List.set_cons_succ]
            refine reg_step (i := 9) rfl (by kernel_rfl) (fun K hK => ?_)
            refine wp_val (n := 97) (v := .pointer (some ⟨O, 1, none⟩)) (exec_field rfl rfl (spansField1 _ _)) rfl (hK.out _ _ (fun _ => ⟨HB4.cell 1⟩) ?_)
            clear hK K
            simp only [Act.put, List.setIfInBounds_toArray, List.set_cons_zero, List.set_cons_succ]
            refine reg_step (i := 10) rfl (by kernel_rfl) (fun K hK => ?_)
            refine wp_store rfl rfl rfl rfl (storeSpanS (HB4.cell 1) (HB4.frozen 1)) (hK.out _ _ (fun h => absurd (List.mem_singleton.2 rfl) h) ?_)
            clear hK K
            refine reg_done (by kernel_rfl) ?_ _
            have HB5 := HB4.set_ 1 (.slice A4 n4 c4)
            simp only [List.set_cons_zero, List.set_cons_succ] at HB5
            have hF4o : ∀ k, k ∈ F4 → k ∈ G ∨ w4.heap.size ≤ k := fun k hk => by
              rcases hF4' k hk with h | h | h
              · exact .inl h
              · simp at h; have h1 : w4.heap.size ≤ k := hF3 k h; exact .inr h1
              · simp at h; exact .inr (by omega)
            have hOF4 : O ∉ F4 := fun h => by rcases hF4o O h with h | h; exact HOG h; have := HO2.out.lt; omega
            have HO5 := ho4.mod (w' := w8.setCell ⟨O, 1, none⟩ (.slice A4 n4 c4)) (fun k hk => Below.heap_setCell _ _ _ _ (fun h => hOF4 ((show k = O from h) ▸ hk)))
            have HM5 : Mod (· = O) W1 (w8.setCell ⟨O, 1, none⟩ (.slice A4 n4 c4)) := ((HM.out.transN hm2.out).trans hm24 (fun i hi hl => by have := HGF.out i hi; omega)).setCell (fun _ => rfl) _
            have HX5 := Sec.mk HO5; have HX6 := Sec.mk HB5; have HX7 := Sec.mk HM5
            have HF5 : Sec (∀ k, k ∈ F4 → W1.heap.size ≤ k) := ⟨fun k hk => by rcases hF4o k hk with h | h; exact HGF.out k h; have := HM.out.size; have := hm2.out.size; omega⟩
            clear HB4 HB5 HO5 HM5 hm24 hm4 ho4 ho3 hn4'
            go_wp2
            go_roundw
            case rel => exact ⟨k + 1, acc ++ [((s : Int), (xs.length : Int), unquote inn)], A4, n4, c4, F4, by omega, by go_num, by simp; omega, HX6, HX5, HF5, HX7, HYES⟩
            case measure => simp [intOf]; omega
        · obtain rfl : k = st.length := by omega
          have HDN := Sec.mk (HG.out.trans (by rw [HE.out, List.drop_length]; rfl : _ = (true, acc)))
          have k0 : wr.cell? ⟨O, 0, none⟩ = some (.bool true) := HO.out.cell 0
          have k1 : wr.cell? ⟨O, 1, none⟩ = some (.slice A2 n2 c2) := HO.out.cell 1
          have hc0 : wr.cell? ⟨w.heap.size, 0, none⟩ = some (.bool false) := HRr.out.cell 0
          have hc1 : wr.cell? ⟨w.heap.size, 1, none⟩ = some (.slice none 0 0) := HRr.out.cell 1
          have hf0 : wr.frozen? ⟨w.heap.size, 0, none⟩ = false := HRr.out.frozen 0
          have hf1 : wr.frozen? ⟨w.heap.size, 1, none⟩ = false := HRr.out.frozen 1
          go_wp2
          refine bodyPost_ret (results_blk rfl rfl ((HRr.out.set_ 0 (.bool true)).set_ 1 (.slice A2 n2 c2)) Try.underlying29 (by kernel_rfl)) rfl ?_
          rw [HDN.out]
          exact retGood HA.out HGF.out (by omega) (by have := HM.out.size; omega) HMr.out
    · have HBAD : Sec (MboxL xs = (false, [])) := ⟨by rw [HML.out, if_neg (fun h => h.elim (fun h => hx0 (by rw [h]; rfl)) (fun h => h00 (by simpa using h)))]⟩
      have hne : ((s0 : Int) != 0) = true := by simpa using h00
      have hpos : (((s0 :: sr).length : Int) == 0) = false := by simp; omega
      have hpos2 : (0 : Int) < ((s0 :: sr).length : Int) := by simp
      generalize (s0 :: sr).length = m at *
      have hc0 : w1.cell? ⟨w.heap.size, 0, none⟩ = some (.bool false) := HRR.out.cell 0
      have hc1 : w1.cell? ⟨w.heap.size, 1, none⟩ = some (.slice none 0 0) := HRR.out.cell 1
      have hf0 : w1.frozen? ⟨w.heap.size, 0, none⟩ = false := HRR.out.frozen 0
      have hf1 : w1.frozen? ⟨w.heap.size, 1, none⟩ = false := HRR.out.frozen 1
      clear h00
      go_wp2
      refine bodyPost_ret (results_blk rfl rfl ((HRR.out.set_ 0 (.bool false)).set_ 1 (.slice none 0 0)) Try.underlying29 (by kernel_rfl)) rfl ?_
      exact retBad (l := []) HBAD.out ((HM1.out.setCell (fun h => absurd h (by simp)) _).setCell (fun h => absurd h (by simp)) _)
end Go.Proofs.Ytciiejkfppnimaa
