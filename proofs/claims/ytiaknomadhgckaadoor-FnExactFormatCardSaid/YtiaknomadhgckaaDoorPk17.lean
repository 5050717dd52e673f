/- Decimal numerals. A new mailbox, of the program. -/
import Derived.Test.YtiaknomadhgckaaDoorPk4
import Derived.Test.YtiaknomadhgckaaDoorShelf
import Derived.Lib.AppendIntMem
import Derived.Test.YtiaknomadhgckaaDoorPk16
namespace Go.Proofs.YtiaknomadhgckaaDoor
open Go.RowKit Mem
set_option linter.unusedVariables false
theorem TabIs_new {P : Program} {w w' : World} {n : String} {g : Nat} {k : IntKind} {zs : List Int} (h : Lib.TabIs P w n k zs) (hg : P.globalNamed n = some g) (hm : New w w') : Lib.TabIs P w' n k zs := by
  unfold Lib.TabIs World.var? at h ⊢
  rw [hg, Option.bind_some] at h ⊢
  have hlt : g < w.heap.size := by
    rcases Nat.lt_or_ge g w.heap.size with h1 | h1
    · exact h1
    · simp [Array.getElem?_eq_none h1] at h
  rw [hm.block g hlt id]; exact h
def TabAt (w : World) : Prop := Lib.TabIs Tryd.prog w "internal/strconv.uint64pow10" .u64 Lib.pow10Tab
theorem TabAt.new {w w' : World} (h : TabAt w) (hm : New w w') : TabAt w' := TabIs_new (g := 2) h (by kernel_rfl) hm
theorem formatInt_calls (N : Nat) (hN : N ≤ 9223372036854775807) {w : World} (h : TabAt w) : Calls Tryd.prog 90 #[.int .i64 (N : Int), .int .i64 10] w (Ret (.string ⟨(Lib.decDigits N).toArray⟩) w) := by
  refine (Tryd.strconv_FormatInt_10 (N : Int) (by omega) (by omega) w h).mono ?_
  rintro e w' ⟨rfl, k, os, rfl⟩
  refine ⟨by rw [Lib.itoa_nonneg], ?_⟩
  exact ⟨rfl, rfl, rfl, by simp [Sort.grow], fun k' hk _ => Lib.heap_grow_old _ _ _ _ hk⟩





























































end Go.Proofs.YtiaknomadhgckaaDoor

namespace Go.Proofs.YtiaknomadhgckaaDoor
open Go.RowKit Mem
set_option linter.unusedVariables false
set_option linter.unusedSimpArgs false
def numsL (ns : List Nat) : Bytes := (ns.map fun n => (32 : UInt8) :: Lib.decDigits n).flatten
def textL (letter : Bytes) (ns : List Nat) : Bytes := letter ++ numsL ns
theorem numsL_take (ns : List Nat) {k : Nat} (hk : k < ns.length) : numsL (ns.take (k + 1)) = numsL (ns.take k) ++ ((32 : UInt8) :: Lib.decDigits ns[k]) := by
  unfold numsL
  rw [List.take_succ_eq_append_getElem hk, List.map_append, List.flatten_append]
  simp
theorem numsL_len (ns : List Nat) (h : ∀ n, n ∈ ns → n < 4294967296) : ∀ k, (numsL (ns.take k)).length ≤ 14 * k := by
  intro k
  induction k with
  | zero => simp [numsL]
  | succ k ih =>
    by_cases hk : k < ns.length
    · rw [numsL_take ns hk]
      have := dec_len ns[k] (by have := h _ (List.getElem_mem hk); omega)
      simp only [List.length_append, List.length_cons]
      omega
    · have e1 : ns.take (k + 1) = ns.take k := by rw [List.take_of_length_le (by omega), List.take_of_length_le (by omega)]
      rw [e1]; omega
def dI64 : Ty Int := Ty.int .i64
def RetText (w : World) (t : Bytes) (e : Ending) (w' : World) : Prop := ∃ A c, e = .returned (.slice A t.length c) ∧ Row Ty.byte w' (· < w'.heap.size) A t.length t ∧ t.length ≤ c ∧ c ≤ 9223372036854775807 ∧ New w w'
set_option maxHeartbeats 1000000 in
set_option maxRecDepth 100000 in
theorem text_v {letter : Bytes} {ns : List Nat} (hl : letter.length ≤ 100) (hn : ns.length ≤ 20) (hb : ∀ n, n ∈ ns → n < 4294967296) {w : World} {A : Option Addr} {c : Nat} (h : Row (Ty.int .i64) w (· < w.heap.size) A ns.length (ns.map fun n : Nat => (n : Int))) (ht : TabAt w) : Calls Tryd.prog 57 #[.string ⟨letter.toArray⟩, .slice A ns.length c] w (RetText w (textL letter ns)) := by
  have HR := Sec.mk h
  have HT := Sec.mk ht
  have HB := Sec.mk hb
  have HL := Sec.mk (numsL_len ns hb)
  have hfl : (textL letter ns).length ≤ 1000 := by have := numsL_len ns hb ns.length; rw [List.take_length] at this; simp only [textL, List.length_append]; omega
  clear h ht hb
  go_enter Tryd.func57, Tryd.ntmps57
  go_wp2
  go_loopw [5, 11] (fun s i wr => ∃ k, k ≤ ns.length ∧ i = .int .i64 (k : Int) ∧ s = .string ⟨(letter ++ numsL (ns.take k)).toArray⟩ ∧ Sec (New w wr)) (fun _ i _ => ns.length - (intOf i).toNat)
  case atStart => exact ⟨0, Nat.zero_le _, rfl, by simp [numsL], ⟨Mod.refl _ _⟩⟩
  case round =>
    obtain ⟨k, hk, rfl, rfl, HM⟩ := hrel
    have hl1 := HL.out k
    by_cases hlt : k < ns.length
    · have hki : (k : Int) < (ns.length : Int) := by omega
      have hlm : k < (ns.map fun n : Nat => (n : Int)).length := by simpa using hlt
      obtain ⟨ad, cs, rfl, hK, h0, -⟩ := (HR.out.mod (w' := w) (fun _ h => h) (fun _ _ => rfl)).cells_at (w' := wr) (fun i hi => HM.out.block i hi id) hlm
      obtain ⟨rfl, hwk⟩ := hK
      have e0 := h0 _ rfl
      simp only [List.getElem_map] at e0 hwk
      have hsz : (Ty.int .i64).sz = 1 := rfl
      rw [hsz, Nat.mul_one] at e0
      have HS : Sec (numsL (ns.take (k + 1)) = numsL (ns.take k) ++ ((32 : UInt8) :: Lib.decDigits ns[k])) := ⟨numsL_take ns hlt⟩
      have hnk := HB.out _ (List.getElem_mem hlt)
      have hdl : (Lib.decDigits ns[k]).length ≤ 13 := dec_len _ (by omega)
      have HF := Sec.mk (formatInt_calls ns[k] (by omega) (HT.out.new HM.out))
      generalize ns[k] = nk at *
      generalize Lib.decDigits nk = dk at *
      generalize numsL (ns.take k) = acc at *
      have hal : (letter ++ acc).length ≤ 1000 := by simp; omega
      have HLA : Sec (∃ la, la = letter ++ acc) := ⟨⟨_, rfl⟩⟩
      obtain ⟨la, hla⟩ := HLA.out
      rw [← hla] at hal ⊢
      have HLA := Sec.mk hla
      clear hla
      go_wp2_with fail
      refine HF.out.mono ?_
      rintro e w2 ⟨rfl, hm2⟩
      have HM2 := Sec.mk (HM.out.transN hm2)
      clear hm2
      go_wp2
      go_roundw
      case rel =>
        refine ⟨k + 1, by omega, by go_num, ?_, HM2⟩
        rw [HS.out, HLA.out, ← List.append_assoc, ← ba_app' (letter ++ acc)]
        congr 2
      case measure => simp [intOf]; omega
    · obtain rfl : k = ns.length := by omega
      rw [List.take_length]
      obtain ⟨cp, w1, hconv, HBR, HN, h1, h2, h3⟩ := conv_row2 (textL letter ns) (by omega) wr
      have HRB := Sec.mk HBR
      have HN1 := Sec.mk (HM.out.transN HN)
      rw [show letter ++ numsL ns = textL letter ns from rfl]
      clear HBR HN
      generalize textL letter ns = tt at *
      go_wp2
      go_ret
      exact ⟨_, _, rfl, (HRB.out.row (by omega)).mod (fun k hk => by subst hk; exact h3) (fun _ _ => rfl), h1, h2, HN1.out⟩
theorem frameOf_v {letter : Bytes} {ns : List Nat} (hl : letter.length ≤ 100) (hn : ns.length ≤ 20) (hb : ∀ n, n ∈ ns → n < 4294967296) {w : World} {A : Option Addr} {c : Nat} (h : Row (Ty.int .i64) w (· < w.heap.size) A ns.length (ns.map fun n : Nat => (n : Int))) (ht : TabAt w) : Calls Tryd.prog 24 #[.string ⟨letter.toArray⟩, .slice A ns.length c] w (RetV false dBS w (FrameL [textL letter ns])) := by
  have HC := Sec.mk (text_v (c := c) hl hn hb h ht)
  have hfl : (textL letter ns).length ≤ 1000 := by have := numsL_len ns hb ns.length; rw [List.take_length] at this; simp only [textL, List.length_append]; omega
  clear h ht
  generalize textL letter ns = tt at *
  go_enter Tryd.func24, Tryd.ntmps24
  go_wp2_with fail
  refine HC.out.mono ?_
  rintro e w1 ⟨A1, c1, rfl, hr, h1, h2, hm⟩
  have HN1 := Sec.mk hm
  have HR := Sec.mk (row_bs1 (e := 32) hr h1 h2)
  have hs1 := hm.size
  clear hr hm
  go_wp2_with fail
  refine (implFrame_v HR.out (by simp [szBSS, szB, preS]; omega)).mono ?_
  rintro e w2 ⟨v, rfl, ho, hm⟩
  obtain ⟨A, c, F, rfl, ho, hF⟩ := ho.slice
  have HO := Sec.mk ho
  have HF := Sec.mk hF
  have HM := Sec.mk ((HN1.out.alloc _).transN hm)
  clear ho hF hm
  go_wp2
  go_ret
  refine ⟨_, rfl, OwV.of_slice HO.out (fun k hk => ⟨?_, (HF.out k hk).2⟩), HM.out⟩
  have := (HF.out k hk).1
  simp at this
  omega
namespace Out3
variable {X X0 X' : Nat → Prop} {w w' : World} {v0 v1 v2 : Value} {ns : NodeST} {es ks : EntryST} {o : Oper} {a : Act} {Q : Exit → Act → World → Prop} {z : Value} {ops : Array Oper} {rest : List Oper}
theorem list0 (w : World) (hgd : o.guard = none) (s x : Operand) (t : TypeId) (ho : o.op = .call { callee := .builtin .append, args := #[s, x], argTypes := #[t, t] }) (ht : Tryd.prog.underlying t = some (.slice 59))
    {A' : Option Addr} {c' : Nat} {y : NodeT} {G : List Nat} {news : List Value} (hs : a.eval s = v0) (hx : a.eval x = .slice A' 1 c') (h3 : Out3 X0 w v0 v1 v2 ns es ks)
    (hM : dNode.M w G y news) (hG : ∀ k, k ∈ G → ¬ X0 k ∧ X k) (hA : ∃ ad, A' = some ad ∧ ∀ j u, news[j]? = some u → w.cell? (ad.add j) = some u)
    (hX0 : ∀ k, X0 k → X k) (hX : ∀ k, w.heap.size ≤ k → X k) (hlen : ns.length + 1 ≤ 34359738368)
    (h : ∀ A' n' c' w', Out3 X w' (.slice A' n' c') v1 v2 (ns ++ [y]) es ks → Mod X0 w w' → wpList Tryd.prog ops Q rest (a.put o.dst (.slice A' n' c')) w') : wpList Tryd.prog ops Q (o :: rest) a w :=
  wpList_plain hgd fun _ hK => wp0 w s x t ho ht eltNode hs hx h3 hM hG hA hX0 hX hlen fun A' n' c' w' h1 h2 => hK _ _ (h A' n' c' w' h1 h2)
end Out3
/-- the disk under way: its rows' blocks lie from lo up to m -/
def FmtSt (D T lo m : Nat) (q : Int) (ns : NodeST) (es : EntryST) (us : Nat) (w : World) : Prop :=
  ∃ A0 c0 A1 c1, Blk w D 27 [.slice A0 ns.length c0, .slice A1 es.length c1, .slice none 0 0, .slice none 0 0, .int .i64 q] ∧ Blk w T 3 [.int .i64 (us : Int)] ∧ Out3 (fun k => lo ≤ k ∧ k < m) w (.slice A0 ns.length c0) (.slice A1 es.length c1) (.slice none 0 0) ns es []
theorem FmtSt.keep {D T lo m : Nat} {q : Int} {ns : NodeST} {es : EntryST} {us : Nat} {w w' : World} (h : FmtSt D T lo m q ns es us w) (hm : New w w') : FmtSt D T lo m q ns es us w' := by
  obtain ⟨A0, c0, A1, c1, hD, hT, hO⟩ := h
  exact ⟨A0, c0, A1, c1, hD.mod hm id, hT.mod hm id, hO.new hm⟩
set_option maxHeartbeats 2000000 in
set_option maxRecDepth 100000 in
theorem put_v {D T lo m : Nat} {q : Int} {ns : NodeST} {es : EntryST} {us : Nat} {w : World} (h : FmtSt D T lo m q ns es us w) (hDT : D ≠ T) (hD : D < lo) (hT : T < lo) (hlm : lo ≤ m) (hmw : m ≤ w.heap.size) {nm dat : Bytes} (hnm : nm.length ≤ 1000) (hdl : dat.length ≤ 40000) (hus : us ≤ 100000) (hns : ns.length ≤ 1000) (hes : es.length ≤ 1000)
    {Ad : Option Addr} {dc : Nat} {Fd : List Nat} (hd : Own Ty.byte 5 w Fd (.slice Ad dat.length dc) dat) (hF : ∀ k, k ∈ Fd → m ≤ k) :
    Calls Tryd.prog 23 #[.string ⟨nm.toArray⟩, .slice Ad dat.length dc, .pointer (some ⟨D, 0, none⟩), .pointer (some ⟨T, 0, none⟩)] w (fun e w' => e = .returned (.tuple #[]) ∧ FmtSt D T lo w'.heap.size q (ns ++ [(dat, (dat.length : Int))]) (es ++ [(nm, (ns.length : Int))]) (us + dat.length) w' ∧ Mod (fun k => lo ≤ k ∨ k = D ∨ k = T) w w') := by
  obtain ⟨A0, c0, A1, c1, hbd, hbt, hout⟩ := h
  have HD := Sec.mk hbd
  have HT := Sec.mk hbt
  have HO := Sec.mk (hout.wide (X' := fun k => (lo ≤ k ∧ k < m) ∨ w.heap.size ≤ k) (fun k _ h => Or.inl h))
  have HDA := Sec.mk hd
  have HFD := Sec.mk hF
  have hwd := hbd.lt
  have hwt := hbt.lt
  have d0 : w.cell? ⟨D, 0, none⟩ = some (.slice A0 ns.length c0) := hbd.cell 0
  have d1 : w.cell? ⟨D, 1, none⟩ = some (.slice A1 es.length c1) := hbd.cell 1
  have df1 : w.frozen? ⟨D, 1, none⟩ = false := hbd.frozen 1
  have HLN : Sec (es.length + [((nm, (ns.length : Int)) : EntryT)].length ≤ 34359738368) := ⟨by simp; omega⟩
  have HWN : Sec (IntKind.i64.wrap (ns.length : Int) = (ns.length : Int)) := ⟨by rw [IntKind.wrap_i64]; omega⟩
  have HRE := Sec.mk (rowEnt w (z := nm) (v := (ns.length : Int)) (by omega) HWN.out rfl)
  clear hbd hbt hout hd hF
  go_enter Tryd.func23, Tryd.ntmps23
  go_upto_region 1 with (at_builtin; go_loud (refine Out3.list1 _ rfl (.tmp 7) (.tmp 13) _ rfl Tryd.underlying24 elt_entry rfl rfl (HO.out.new ((Mod.refl _ _).alloc _)) HRE.out (fun k hk => by simp at hk; omega) HLN.out ?_; intro A5 n5 c5 w5 h5 hm5; have HO5 := Sec.mk h5; have HM5 := Sec.mk ((((Mod.refl (fun _ => False) w).alloc _).mono (T := fun k => (lo ≤ k ∧ k < m) ∨ w.heap.size ≤ k) (fun i hlt h => h.elim)).trans hm5 (fun i hi hlt => hi)); have HD5 := Sec.mk ((HD.out.alloc _).mod hm5 (by omega)); have HT5 := Sec.mk ((HT.out.alloc _).mod hm5 (by omega)); have hs5 := hm5.size; simp at hs5; have hl5 : n5 = es.length + 1 := (by have := h5.len1; simpa using this); subst hl5; clear h5 hm5; have e1 : w5.cell? ⟨D, 1, none⟩ = some (.slice A1 es.length c1) := HD5.out.cell 1; have ef1 : w5.frozen? ⟨D, 1, none⟩ = false := HD5.out.frozen 1; have hwd5 : D < w5.heap.size := (by omega)))
  have hm6 : Mod (fun k => k = D) w5 (w5.setCell ⟨D, 1, none⟩ (.slice A5 (es.length + 1) c5)) := (Mod.refl (fun k => k = D) w5).setCell (p := ⟨D, 1, none⟩) (fun _ => rfl) _
  have HD6 := Sec.mk (HD5.out.set_ 1 (.slice A5 (es.length + 1) c5))
  simp only [List.set_cons_zero, List.set_cons_succ] at HD6
  have HT6 := Sec.mk (HT5.out.mod hm6 (fun h => hDT h.symm))
  have HO6 := Sec.mk (HO5.out.keep hm6 (fun k h e => by omega))
  have HM6 := Sec.mk ((HM5.out.mono (T := fun k => lo ≤ k ∨ k = D ∨ k = T) (fun i hlt h => by omega)).trans hm6 (fun i hi hlt => Or.inr (Or.inl hi)))
  have HDA6 := Sec.mk ((HDA.out.keep HM5.out (fun k hk h => by have h1 := HFD.out k hk; have h2 := HDA.out.lt k hk; omega)).keep hm6 (fun k hk e => by have h1 := HFD.out k hk; omega))
  have hs6 : w5.heap.size ≤ (w5.setCell ⟨D, 1, none⟩ (.slice A5 (es.length + 1) c5)).heap.size := hm6.size
  have hFw : Sec (∀ k, k ∈ Fd → m ≤ k ∧ k < w.heap.size) := ⟨fun k hk => ⟨HFD.out k hk, HDA.out.lt k hk⟩⟩
  clear hm6 HD5 HT5 HO5 HM5 HDA d0 d1 df1 e1 ef1
  generalize w5.setCell ⟨D, 1, none⟩ (.slice A5 (es.length + 1) c5) = w6 at *
  have hwd6 : D < w6.heap.size := by omega
  have d0 : w6.cell? ⟨D, 0, none⟩ = some (.slice A0 ns.length c0) := HD6.out.cell 0
  have hwl : IntKind.i64.wrap (dat.length : Int) = (dat.length : Int) := by rw [IntKind.wrap_i64]; omega
  have hma : New w6 (w6.alloc (.cells #[.slice Ad dat.length dc, .int .i64 (dat.length : Int)] 59)) := (Mod.refl _ _).alloc _
  have HMN := Sec.mk (mNode (x := (dat, (dat.length : Int))) hwl (HDA6.out.keep hma (fun _ _ h => h)))
  have HON := Sec.mk (HO6.out.new hma)
  have HDN := Sec.mk (HD6.out.mod hma id)
  have HTN := Sec.mk (HT6.out.mod hma id)
  have HMM := Sec.mk (HM6.out.trans (hma.mono (T := fun k => lo ≤ k) (fun i hlt h => h.elim)) (fun i hi hlt => Or.inl hi))
  have hsn : w6.heap.size < (w6.alloc (.cells #[.slice Ad dat.length dc, .int .i64 (dat.length : Int)] 59)).heap.size := by simp
  have HGN : Sec (∀ k, k ∈ Fd ++ [] → ¬ ((lo ≤ k ∧ k < m) ∨ w.heap.size ≤ k) ∧ lo ≤ k) := ⟨fun k hk => by have := hFw.out k (by simpa using hk); omega⟩
  have HAA := Sec.mk (lit_cells w6 59 [.slice Ad dat.length dc, .int .i64 (dat.length : Int)] rfl)
  have hnl : ns.length + 1 ≤ 34359738368 := by omega
  clear hma hwl HDA6
  go_upto_region 2 with (at_builtin; go_loud (refine Out3.list0 (X := fun k => lo ≤ k) _ rfl (.tmp 17) (.tmp 22) _ rfl Tryd.underlying23 rfl rfl HON.out HMN.out HGN.out HAA.out (fun k h => by omega) (fun k hk => by simp at hk; omega) hnl ?_; intro A7 n7 c7 w7 h7 hm7; have HO7 := Sec.mk h7; have HM7 := Sec.mk (HMM.out.trans hm7 (fun i hi hlt => by omega)); have HD7 := Sec.mk (HDN.out.mod hm7 (by omega)); have HT7 := Sec.mk (HTN.out.mod hm7 (by omega)); have hs7 := hm7.size; simp at hs7; have hl7 : n7 = ns.length + 1 := (by have := h7.len0; simpa using this); subst hl7; clear h7 hm7; have e0 : w7.cell? ⟨D, 0, none⟩ = some (.slice A0 ns.length c0) := HD7.out.cell 0; have ef0 : w7.frozen? ⟨D, 0, none⟩ = false := HD7.out.frozen 0; have hwd7 : D < w7.heap.size := (by omega)))
  have hm8 : Mod (fun k => k = D) w7 (w7.setCell ⟨D, 0, none⟩ (.slice A7 (ns.length + 1) c7)) := (Mod.refl (fun k => k = D) w7).setCell (p := ⟨D, 0, none⟩) (fun _ => rfl) _
  have HD8 := Sec.mk (HD7.out.set_ 0 (.slice A7 (ns.length + 1) c7))
  simp only [List.set_cons_zero] at HD8
  have HT8 := Sec.mk (HT7.out.mod hm8 (fun h => hDT h.symm))
  have HO8 := Sec.mk (HO7.out.keep hm8 (fun k h e => by omega))
  have HM8 := Sec.mk (HM7.out.trans hm8 (fun i hi hlt => Or.inr (Or.inl hi)))
  have hs8 : w7.heap.size ≤ (w7.setCell ⟨D, 0, none⟩ (.slice A7 (ns.length + 1) c7)).heap.size := hm8.size
  clear hm8 HD7 HT7 HO7 HM7 e0 ef0 d0
  generalize w7.setCell ⟨D, 0, none⟩ (.slice A7 (ns.length + 1) c7) = w8 at *
  have hwt8 : T < w8.heap.size := HT8.out.lt
  have t0 : w8.cell? ⟨T, 0, none⟩ = some (.int .i64 (us : Int)) := HT8.out.cell 0
  have tf0 : w8.frozen? ⟨T, 0, none⟩ = false := HT8.out.frozen 0
  have hm9 : Mod (fun k => k = T) w8 (w8.setCell ⟨T, 0, none⟩ (.int .i64 ((us : Int) + (dat.length : Int)))) := (Mod.refl (fun k => k = T) w8).setCell (p := ⟨T, 0, none⟩) (fun _ => rfl) _
  have HT9 := Sec.mk (HT8.out.set_ 0 (.int .i64 ((us : Int) + (dat.length : Int))))
  simp only [List.set_cons_zero] at HT9
  have HD9 := Sec.mk (HD8.out.mod hm9 hDT)
  have HO9 := Sec.mk (HO8.out.keep hm9 (fun k h e => by omega))
  have HM9 := Sec.mk (HM8.out.trans hm9 (fun i hi hlt => Or.inr (Or.inr hi)))
  clear hm9
  go_wp2
  go_end0
  have hl1 : (ns ++ [(dat, (dat.length : Int))]).length = ns.length + 1 := by simp
  have hl2 : (es ++ [(nm, (ns.length : Int))]).length = es.length + 1 := by simp
  refine ⟨rfl, ⟨A7, c7, A5, c5, ?_, ?_, ?_⟩, HM9.out⟩
  · rw [hl1, hl2]; exact HD9.out
  · rw [Int.natCast_add]; exact HT9.out
  · rw [hl1, hl2]; exact HO9.out.wide (fun k h1 h2 => ⟨h2, h1⟩)
theorem text_M (v : Nat) : textL [86] [v, 1, 0] = recM v := by simp [textL, numsL, recM, dec_small]
theorem text_D (v : Nat) : textL [86] [v, 1] = recD v := by simp [textL, numsL, recD, dec_small]
theorem row_i64 {w : World} {e : TypeId} {xs : List Int} {cs : List Value} {Fs : List (List Nat)} (hE : Elems (Ty.int .i64) w Fs xs cs) (h0 : Fs.flatten = []) (hl : xs.length ≤ 100) (hs : cs.length = xs.length) : Row (Ty.int .i64) (w.alloc (.cells cs.toArray e)) (· < (w.alloc (.cells cs.toArray e)).heap.size) (some ⟨w.heap.size, 0, none⟩) xs.length xs := by
  have ho := Own.build (e := e) hE (by rw [h0]; simp) (by rw [h0]; simp) (by omega) (by rw [hs]; exact (Nat.mul_one _).symm)
  exact (ho.row rfl).mod (fun k hk => ho.lt k hk) (fun _ _ => rfl)
theorem e64 (w : World) {n : Int} (h : IntKind.i64.wrap n = n) : Elems (Ty.int .i64) w [[]] [n] [.int .i64 n] := Elems.one ⟨rfl, rfl, h⟩
set_option maxHeartbeats 4000000 in
set_option maxRecDepth 100000 in
theorem formatI_v {w : World} (kind : Int) (v : Nat) (q : Int) (hk : IntKind.i64.wrap kind = kind) (hv : v < 4294967296) (hq : IntKind.i64.wrap q = q) (ht : TabAt w) : Calls Tryd.prog 6 #[.int .i64 kind, .int .u32 (v : Int), .int .i64 q] w (RetV true dDisk w (formatL kind v q)) := by
  have HQ := Sec.mk hq
  have HT := Sec.mk ht
  have HE : Sec (formatL kind v q = if kind = 1 then (if v = 0 ∨ q < ((FrameL [recM v]).length : Int) ∨ 1000000 < q then ([], [], [], [], 0) else mboxD (FrameL [recM v]) q)
    else if kind = 3 then (if v = 0 ∨ q < ((FrameL [recD v]).length : Int) ∨ 1000000 < q then ([], [], [], [], 0) else uidD (FrameL [recD v]) q)
    else ([], [], [], [], 0)) := ⟨rfl⟩
  generalize hres : formatL kind v q = res at *
  clear hres hq hk ht
  have HBR := Sec.mk (((Blk.new w 27 zDisk).alloc (.cells #[.slice none 0 0, .slice none 0 0, .slice none 0 0, .slice none 0 0, .int .i64 q] 27)).alloc (.cells #[.int .i64 0] 3))
  have HBD := (Blk.new (w.alloc (.cells zDisk.toArray 27)) 27 [.slice none 0 0, .slice none 0 0, .slice none 0 0, .slice none 0 0, .int .i64 q]).alloc (.cells #[.int .i64 0] 3)
  have HBT := Blk.new ((w.alloc (.cells zDisk.toArray 27)).alloc (.cells #[.slice none 0 0, .slice none 0 0, .slice none 0 0, .slice none 0 0, .int .i64 q] 27)) 3 [.int .i64 0]
  rw [show (w.alloc (.cells zDisk.toArray 27)).heap.size = w.heap.size + 1 by simp] at HBD
  rw [show ((w.alloc (.cells zDisk.toArray 27)).alloc (.cells #[.slice none 0 0, .slice none 0 0, .slice none 0 0, .slice none 0 0, .int .i64 q] 27)).heap.size = w.heap.size + 1 + 1 by simp] at HBT
  have HM0 : Sec (New w (((w.alloc (.cells zDisk.toArray 27)).alloc (.cells #[.slice none 0 0, .slice none 0 0, .slice none 0 0, .slice none 0 0, .int .i64 q] 27)).alloc (.cells #[.int .i64 0] 3))) := ⟨(((Mod.refl _ _).alloc _).alloc _).alloc _⟩
  have HST : Sec (FmtSt (w.heap.size + 1) (w.heap.size + 1 + 1) (w.heap.size + 3) (w.heap.size + 3) q [] [] 0 (((w.alloc (.cells zDisk.toArray 27)).alloc (.cells #[.slice none 0 0, .slice none 0 0, .slice none 0 0, .slice none 0 0, .int .i64 q] 27)).alloc (.cells #[.int .i64 0] 3))) := ⟨⟨none, 0, none, 0, HBD, HBT, Out3.nil _ _⟩⟩
  have hsz : w.heap.size + 3 ≤ ((((w.alloc (.cells zDisk.toArray 27)).alloc (.cells #[.slice none 0 0, .slice none 0 0, .slice none 0 0, .slice none 0 0, .int .i64 q] 27)).alloc (.cells #[.int .i64 0] 3))).heap.size := by simp
  clear HBD HBT
  go_enter Tryd.func6, Tryd.ntmps6
  go_upto_region 3 with (fail)
  generalize (((w.alloc (.cells zDisk.toArray 27)).alloc (.cells #[.slice none 0 0, .slice none 0 0, .slice none 0 0, .slice none 0 0, .int .i64 q] 27)).alloc (.cells #[.int .i64 0] 3)) = wz at *
  have hvi : (v : Int) < 4294967296 := by omega
  have HTZ := Sec.mk (HT.out.new HM0.out)
  have hwv : IntKind.i64.wrap (v : Int) = (v : Int) := by rw [IntKind.wrap_i64]; omega
  by_cases hk1 : kind = 1
  · subst hk1
    have HE2 : Sec (res = if v = 0 ∨ q < ((FrameL [recM v]).length : Int) ∨ 1000000 < q then ([], [], [], [], 0) else mboxD (FrameL [recM v]) q) := ⟨HE.out.trans (if_pos rfl)⟩
    clear HE
    have HRW : Sec (Row (Ty.int .i64) (wz.alloc (.cells #[.int .i64 (v : Int), .int .i64 1, .int .i64 0] 2)) (· < (wz.alloc (.cells #[.int .i64 (v : Int), .int .i64 1, .int .i64 0] 2)).heap.size) (some ⟨wz.heap.size, 0, none⟩) 3 ([v, 1, 0].map fun n : Nat => (n : Int))) := ⟨row_i64 (((e64 wz hwv).append (e64 wz (n := 1) (by decide))).append (e64 wz (n := 0) (by decide))) rfl (by simp) rfl⟩
    have hma : New wz (wz.alloc (.cells #[.int .i64 (v : Int), .int .i64 1, .int .i64 0] 2)) := (Mod.refl _ _).alloc _
    have HST1 := Sec.mk (HST.out.keep hma)
    have HBR1 := Sec.mk (HBR.out.mod hma id)
    have HM1 := Sec.mk (HM0.out.transN hma)
    have HTZ1 := Sec.mk (HTZ.out.new hma)
    have hs1 : wz.heap.size < (wz.alloc (.cells #[.int .i64 (v : Int), .int .i64 1, .int .i64 0] 2)).heap.size := by simp
    clear hma
    go_wp2_with fail
    generalize (wz.alloc (.cells #[.int .i64 (v : Int), .int .i64 1, .int .i64 0] 2)) = w1 at *
    refine (frameOf_v (letter := [86]) (ns := [v, 1, 0]) (by simp) (by simp) (by simp; exact hv) HRW.out HTZ1.out).mono ?_
    rw [text_M v]
    rintro e w2 ⟨v1, rfl, ho2, hm2⟩
    obtain ⟨A2, c2, F2, rfl, ho2, hF2⟩ := ho2.slice
    have HFL : Sec ((FrameL [recM v]).length ≤ 40000) := ⟨frame_len _⟩
    generalize FrameL [recM v] = fr at *
    have HST2 := Sec.mk (HST1.out.keep hm2)
    have HBR2 := Sec.mk (HBR1.out.mod hm2 id)
    have HM2 := Sec.mk (HM1.out.transN hm2)
    have hs2 := hm2.size
    have HO2 := Sec.mk ho2
    have HF2 : Sec (∀ k, k ∈ F2 → w.heap.size + 3 ≤ k) := ⟨fun k hk => by have := (hF2 k hk).1; omega⟩
    clear ho2 hF2 hm2
    go_wp2_with fail
    refine (put_v (nm := idxN) HST2.out (by omega) (by omega) (by omega) (Nat.le_refl _) (by omega) (by decide) HFL.out (by decide) (by decide) (by decide) HO2.out HF2.out).mono ?_
    rintro e w3 ⟨rfl, hst3, hm3⟩
    have HST3 := Sec.mk hst3
    have HBR3 := Sec.mk (HBR2.out.mod hm3 (fun h => by omega))
    have HM3 := Sec.mk (HM2.out.trans hm3 (fun i hi hlt => by omega))
    have hs3 := hm3.size
    clear hst3 hm3
    go_wp2_with fail
    refine (put_v (nm := mboxN) (dat := []) HST3.out (by omega) (by omega) (by omega) (by omega) (Nat.le_refl _) (by decide) (by decide) (by have := HFL.out; omega) (by simp) (by simp) (Own.nil _ _ _) (fun k hk => by cases hk)).mono ?_
    rintro e w4 ⟨rfl, hst4, hm4⟩
    have HST4 := Sec.mk hst4
    have HBR4 := Sec.mk (HBR3.out.mod hm4 (fun h => by omega))
    have HM4 := Sec.mk (HM3.out.trans hm4 (fun i hi hlt => by omega))
    have hs4 := hm4.size
    clear hst4 hm4
    go_upto_region 11 with (fail)
    obtain ⟨A0, c0, A1, c1, hbd, hbt, hout⟩ := HST4.out
    have HD := Sec.mk hbd
    have HT1 := Sec.mk hbt
    have HO := Sec.mk hout
    clear hbd hbt hout
    have hus : ((0 + fr.length + ([] : Bytes).length : Nat) : Int) = (fr.length : Int) := by simp
    rw [hus] at HT1
    have t0 : w4.cell? ⟨w.heap.size + 1 + 1, 0, none⟩ = some (.int .i64 (fr.length : Int)) := HT1.out.cell 0
    have hwt := HT1.out.lt
    have hwd := HD.out.lt
    by_cases hv0 : v = 0
    · have HF : Sec (res = ([], [], [], [], 0)) := ⟨HE2.out.trans (if_pos (Or.inl hv0))⟩
      subst hv0
      have rc0 : w4.cell? ⟨w.heap.size, 0, none⟩ = some (.slice none 0 0) := HBR4.out.cell 0
      have rf0 : w4.frozen? ⟨w.heap.size, 0, none⟩ = false := HBR4.out.frozen 0
      have rc1 : w4.cell? ⟨w.heap.size, 1, none⟩ = some (.slice none 0 0) := HBR4.out.cell 1
      have rf1 : w4.frozen? ⟨w.heap.size, 1, none⟩ = false := HBR4.out.frozen 1
      have rc2 : w4.cell? ⟨w.heap.size, 2, none⟩ = some (.slice none 0 0) := HBR4.out.cell 2
      have rf2 : w4.frozen? ⟨w.heap.size, 2, none⟩ = false := HBR4.out.frozen 2
      have rc3 : w4.cell? ⟨w.heap.size, 3, none⟩ = some (.slice none 0 0) := HBR4.out.cell 3
      have rf3 : w4.frozen? ⟨w.heap.size, 3, none⟩ = false := HBR4.out.frozen 3
      have rc4 : w4.cell? ⟨w.heap.size, 4, none⟩ = some (.int .i64 0) := HBR4.out.cell 4
      have rf4 : w4.frozen? ⟨w.heap.size, 4, none⟩ = false := HBR4.out.frozen 4
      have hwr : w.heap.size < w4.heap.size := HBR4.out.lt
      have HFB := Sec.mk (set5_blk HBR4.out (.slice none 0 0) (.slice none 0 0) (.slice none 0 0) (.slice none 0 0) (.int .i64 0))
      have HFM := set5_mod w4 (w.heap.size) (.slice none 0 0) (.slice none 0 0) (.slice none 0 0) (.slice none 0 0) (.int .i64 0)
      have HMG := Sec.mk ((HM4.out.mono (T := fun k => w.heap.size ≤ k) (fun i hlt h => h.elim)).trans HFM (fun i hi hlt => by omega))
      clear HFM
      go_wp2
      refine bodyPost_ret (results_blk rfl rfl HFB.out Tryd.underlying27 (by kernel_rfl)) rfl ?_
      rw [HF.out]
      exact ⟨_, rfl, (zOut4 (fun k => w.heap.size ≤ k) _ (by decide)).disk (fun k h => h), HMG.out.mono (fun i hlt h => by omega)⟩
    have hv0i : ¬ (v : Int) = 0 := by omega
    have hv0b : ((v : Int) == 0) = false := by simp only [beq_eq_false_iff_ne, ne_eq]; exact hv0i
    by_cases hqf : q < (fr.length : Int)
    · have HF : Sec (res = ([], [], [], [], 0)) := ⟨HE2.out.trans (if_pos (Or.inr (Or.inl hqf)))⟩
      have rc0 : w4.cell? ⟨w.heap.size, 0, none⟩ = some (.slice none 0 0) := HBR4.out.cell 0
      have rf0 : w4.frozen? ⟨w.heap.size, 0, none⟩ = false := HBR4.out.frozen 0
      have rc1 : w4.cell? ⟨w.heap.size, 1, none⟩ = some (.slice none 0 0) := HBR4.out.cell 1
      have rf1 : w4.frozen? ⟨w.heap.size, 1, none⟩ = false := HBR4.out.frozen 1
      have rc2 : w4.cell? ⟨w.heap.size, 2, none⟩ = some (.slice none 0 0) := HBR4.out.cell 2
      have rf2 : w4.frozen? ⟨w.heap.size, 2, none⟩ = false := HBR4.out.frozen 2
      have rc3 : w4.cell? ⟨w.heap.size, 3, none⟩ = some (.slice none 0 0) := HBR4.out.cell 3
      have rf3 : w4.frozen? ⟨w.heap.size, 3, none⟩ = false := HBR4.out.frozen 3
      have rc4 : w4.cell? ⟨w.heap.size, 4, none⟩ = some (.int .i64 0) := HBR4.out.cell 4
      have rf4 : w4.frozen? ⟨w.heap.size, 4, none⟩ = false := HBR4.out.frozen 4
      have hwr : w.heap.size < w4.heap.size := HBR4.out.lt
      have HFB := Sec.mk (set5_blk HBR4.out (.slice none 0 0) (.slice none 0 0) (.slice none 0 0) (.slice none 0 0) (.int .i64 0))
      have HFM := set5_mod w4 (w.heap.size) (.slice none 0 0) (.slice none 0 0) (.slice none 0 0) (.slice none 0 0) (.int .i64 0)
      have HMG := Sec.mk ((HM4.out.mono (T := fun k => w.heap.size ≤ k) (fun i hlt h => h.elim)).trans HFM (fun i hi hlt => by omega))
      clear HFM
      go_wp2
      refine bodyPost_ret (results_blk rfl rfl HFB.out Tryd.underlying27 (by kernel_rfl)) rfl ?_
      rw [HF.out]
      exact ⟨_, rfl, (zOut4 (fun k => w.heap.size ≤ k) _ (by decide)).disk (fun k h => h), HMG.out.mono (fun i hlt h => by omega)⟩
    by_cases hqm : 1000000 < q
    · have HF : Sec (res = ([], [], [], [], 0)) := ⟨HE2.out.trans (if_pos (Or.inr (Or.inr hqm)))⟩
      have rc0 : w4.cell? ⟨w.heap.size, 0, none⟩ = some (.slice none 0 0) := HBR4.out.cell 0
      have rf0 : w4.frozen? ⟨w.heap.size, 0, none⟩ = false := HBR4.out.frozen 0
      have rc1 : w4.cell? ⟨w.heap.size, 1, none⟩ = some (.slice none 0 0) := HBR4.out.cell 1
      have rf1 : w4.frozen? ⟨w.heap.size, 1, none⟩ = false := HBR4.out.frozen 1
      have rc2 : w4.cell? ⟨w.heap.size, 2, none⟩ = some (.slice none 0 0) := HBR4.out.cell 2
      have rf2 : w4.frozen? ⟨w.heap.size, 2, none⟩ = false := HBR4.out.frozen 2
      have rc3 : w4.cell? ⟨w.heap.size, 3, none⟩ = some (.slice none 0 0) := HBR4.out.cell 3
      have rf3 : w4.frozen? ⟨w.heap.size, 3, none⟩ = false := HBR4.out.frozen 3
      have rc4 : w4.cell? ⟨w.heap.size, 4, none⟩ = some (.int .i64 0) := HBR4.out.cell 4
      have rf4 : w4.frozen? ⟨w.heap.size, 4, none⟩ = false := HBR4.out.frozen 4
      have hwr : w.heap.size < w4.heap.size := HBR4.out.lt
      have HFB := Sec.mk (set5_blk HBR4.out (.slice none 0 0) (.slice none 0 0) (.slice none 0 0) (.slice none 0 0) (.int .i64 0))
      have HFM := set5_mod w4 (w.heap.size) (.slice none 0 0) (.slice none 0 0) (.slice none 0 0) (.slice none 0 0) (.int .i64 0)
      have HMG := Sec.mk ((HM4.out.mono (T := fun k => w.heap.size ≤ k) (fun i hlt h => h.elim)).trans HFM (fun i hi hlt => by omega))
      clear HFM
      go_wp2
      refine bodyPost_ret (results_blk rfl rfl HFB.out Tryd.underlying27 (by kernel_rfl)) rfl ?_
      rw [HF.out]
      exact ⟨_, rfl, (zOut4 (fun k => w.heap.size ≤ k) _ (by decide)).disk (fun k h => h), HMG.out.mono (fun i hlt h => by omega)⟩
    have HF : Sec (res = mboxD fr q) := ⟨HE2.out.trans (if_neg (fun h => by omega))⟩
    have HD2 : Sec (Blk w4 (w.heap.size + 1) 27 [.slice A0 2 c0, .slice A1 2 c1, .slice none 0 0, .slice none 0 0, .int .i64 q]) := ⟨HD.out⟩
    have HO3x : Sec (Out3 (fun k => w.heap.size + 3 ≤ k ∧ k < w4.heap.size) w4 (.slice A0 2 c0) (.slice A1 2 c1) (.slice none 0 0) [(fr, (fr.length : Int)), ([], 0)] [(idxN, 0), (mboxN, 1)] []) := ⟨HO.out⟩
    have d1 : w4.cell? ⟨w.heap.size + 1, 1, none⟩ = some (.slice A1 2 c1) := HD2.out.cell 1
    have hme : New w4 (w4.alloc (.cells #[] 57)) := (Mod.refl _ _).alloc _
    have HOE : Sec (Mine dEntry 57 w4 (w4.alloc (.cells #[] 57)) (.slice (some ⟨w4.heap.size, 0, none⟩) 0 0) ([] : EntryST)) := ⟨Mine.of (Own.build (e := 57) (Fs := []) (xs := ([] : EntryST)) (cs := []) (Elems.nil dEntry w4) (by simp) (by simp) (by simp) rfl) (fun k hk => by simp at hk; omega) hme⟩
    have HRO := Sec.mk ((HO3x.out.new hme).row1)
    have hl6 : ([] : EntryST).length + ([(idxN, 0), (mboxN, 1)] : EntryST).length ≤ 34359738368 := by simp
    have HDe := Sec.mk (HD2.out.mod hme id)
    have HBe := Sec.mk (HBR4.out.mod hme id)
    have HMe := Sec.mk (HM4.out.transN hme)
    have HD0 := HD2
    clear hme HD HO HD2
    go_upto_region 14 with (at_builtin; go_loud (refine wpList_app _ rfl (.tmp 45) (.tmp 47) _ rfl Tryd.underlying24 elt_entry flatEntry rfl rfl HOE.out HRO.out hl6 ?_; intro A6 n6 c6 w6 ho6; have HN6 := Sec.mk ho6.new; have HO6 := Sec.mk ho6; clear ho6; have hs6 := HN6.out.size; have HD6 : Sec (Blk w6 (w.heap.size + 1) 27 [.slice A0 2 c0, .slice A1 2 c1, .slice none 0 0, .slice none 0 0, .int .i64 q]) := ⟨HD0.out.mod HN6.out id⟩; have hwd6 := HD6.out.lt; have d2 : w6.cell? ⟨w.heap.size + 1, 2, none⟩ = some (.slice none 0 0) := HD6.out.cell 2; have df2 : w6.frozen? ⟨w.heap.size + 1, 2, none⟩ = false := HD6.out.frozen 2))
    have hm7 : Mod (fun k => k = w.heap.size + 1) w6 (w6.setCell ⟨w.heap.size + 1, 2, none⟩ (.slice A6 n6 c6)) := (Mod.refl (fun k => k = w.heap.size + 1) w6).setCell (p := ⟨w.heap.size + 1, 2, none⟩) (fun _ => rfl) _
    have HD7 := Sec.mk (HD6.out.set_ 2 (.slice A6 n6 c6))
    simp only [List.set_cons_zero, List.set_cons_succ] at HD7
    have HB7 := Sec.mk ((HBR4.out.mod HN6.out id).mod hm7 (by omega))
    have HM7 := Sec.mk ((HM4.out.transN HN6.out).trans hm7 (fun i hi hlt => by omega))
    obtain ⟨⟨F6, ho6, hF6⟩, -⟩ := HO6.out
    have HO7 := Sec.mk (((HO3x.out.new HN6.out).put2 (X := fun k => w.heap.size + 3 ≤ k) ho6 (fun k hk => by have := hF6 k hk; omega) (fun k h => h.1)).keep hm7 (fun k h e => by omega))
    have hs7 : w6.heap.size ≤ (w6.setCell ⟨w.heap.size + 1, 2, none⟩ (.slice A6 n6 c6)).heap.size := hm7.size
    clear hm7 ho6 hF6 d1 d2 df2
    generalize w6.setCell ⟨w.heap.size + 1, 2, none⟩ (.slice A6 n6 c6) = w7 at *
    have hwd7 : w.heap.size + 1 < w7.heap.size := by omega
    have hwr7 : w.heap.size < w7.heap.size := by omega
    have xc0 : w7.cell? ⟨w.heap.size + 1, 0, none⟩ = some (.slice A0 2 c0) := HD7.out.cell 0
    have xc1 : w7.cell? ⟨w.heap.size + 1, 1, none⟩ = some (.slice A1 2 c1) := HD7.out.cell 1
    have xc2 : w7.cell? ⟨w.heap.size + 1, 2, none⟩ = some (.slice A6 n6 c6) := HD7.out.cell 2
    have xc3 : w7.cell? ⟨w.heap.size + 1, 3, none⟩ = some (.slice none 0 0) := HD7.out.cell 3
    have xc4 : w7.cell? ⟨w.heap.size + 1, 4, none⟩ = some (.int .i64 q) := HD7.out.cell 4
    have rc0 : w7.cell? ⟨w.heap.size, 0, none⟩ = some (.slice none 0 0) := HB7.out.cell 0
    have rf0 : w7.frozen? ⟨w.heap.size, 0, none⟩ = false := HB7.out.frozen 0
    have rc1 : w7.cell? ⟨w.heap.size, 1, none⟩ = some (.slice none 0 0) := HB7.out.cell 1
    have rf1 : w7.frozen? ⟨w.heap.size, 1, none⟩ = false := HB7.out.frozen 1
    have rc2 : w7.cell? ⟨w.heap.size, 2, none⟩ = some (.slice none 0 0) := HB7.out.cell 2
    have rf2 : w7.frozen? ⟨w.heap.size, 2, none⟩ = false := HB7.out.frozen 2
    have rc3 : w7.cell? ⟨w.heap.size, 3, none⟩ = some (.slice none 0 0) := HB7.out.cell 3
    have rf3 : w7.frozen? ⟨w.heap.size, 3, none⟩ = false := HB7.out.frozen 3
    have rc4 : w7.cell? ⟨w.heap.size, 4, none⟩ = some (.int .i64 0) := HB7.out.cell 4
    have rf4 : w7.frozen? ⟨w.heap.size, 4, none⟩ = false := HB7.out.frozen 4
    have HFB := Sec.mk (set5_blk HB7.out (.slice A0 2 c0) (.slice A1 2 c1) (.slice A6 n6 c6) (.slice none 0 0) (.int .i64 q))
    have HFM := set5_mod w7 w.heap.size (.slice A0 2 c0) (.slice A1 2 c1) (.slice A6 n6 c6) (.slice none 0 0) (.int .i64 q)
    have H8 := Sec.mk (HO7.out.keep HFM (fun k h e => by omega))
    have HMG := Sec.mk ((HM7.out.mono (T := fun k => w.heap.size ≤ k) (fun i hlt h => h.elim)).trans HFM (fun i hi hlt => by omega))
    clear HFM
    go_wp2
    refine bodyPost_ret (results_blk rfl rfl HFB.out Tryd.underlying27 (by kernel_rfl)) rfl ?_
    rw [HF.out]
    exact ⟨_, rfl, H8.out.disk HQ.out (fun k h => by omega), HMG.out.mono (fun i hlt h => by omega)⟩
  by_cases hk3 : kind = 3
  · subst hk3
    have HE2 : Sec (res = if v = 0 ∨ q < ((FrameL [recD v]).length : Int) ∨ 1000000 < q then ([], [], [], [], 0) else uidD (FrameL [recD v]) q) := ⟨HE.out.trans ((if_neg hk1).trans (if_pos rfl))⟩
    clear HE
    have HRW : Sec (Row (Ty.int .i64) (wz.alloc (.cells #[.int .i64 (v : Int), .int .i64 1] 2)) (· < (wz.alloc (.cells #[.int .i64 (v : Int), .int .i64 1] 2)).heap.size) (some ⟨wz.heap.size, 0, none⟩) 2 ([v, 1].map fun n : Nat => (n : Int))) := ⟨row_i64 ((e64 wz hwv).append (e64 wz (n := 1) (by decide))) rfl (by simp) rfl⟩
    have hma : New wz (wz.alloc (.cells #[.int .i64 (v : Int), .int .i64 1] 2)) := (Mod.refl _ _).alloc _
    have HST1 := Sec.mk (HST.out.keep hma)
    have HBR1 := Sec.mk (HBR.out.mod hma id)
    have HM1 := Sec.mk (HM0.out.transN hma)
    have HTZ1 := Sec.mk (HTZ.out.new hma)
    have hs1 : wz.heap.size < (wz.alloc (.cells #[.int .i64 (v : Int), .int .i64 1] 2)).heap.size := by simp
    clear hma
    go_wp2_with fail
    generalize (wz.alloc (.cells #[.int .i64 (v : Int), .int .i64 1] 2)) = w1 at *
    refine (frameOf_v (letter := [86]) (ns := [v, 1]) (by simp) (by simp) (by simp; exact hv) HRW.out HTZ1.out).mono ?_
    rw [text_D v]
    rintro e w2 ⟨v1, rfl, ho2, hm2⟩
    obtain ⟨A2, c2, F2, rfl, ho2, hF2⟩ := ho2.slice
    have HFL : Sec ((FrameL [recD v]).length ≤ 40000) := ⟨frame_len _⟩
    generalize FrameL [recD v] = fr at *
    have HST2 := Sec.mk (HST1.out.keep hm2)
    have HBR2 := Sec.mk (HBR1.out.mod hm2 id)
    have HM2 := Sec.mk (HM1.out.transN hm2)
    have hs2 := hm2.size
    have HO2 := Sec.mk ho2
    have HF2 : Sec (∀ k, k ∈ F2 → w.heap.size + 3 ≤ k) := ⟨fun k hk => by have := (hF2 k hk).1; omega⟩
    clear ho2 hF2 hm2
    go_wp2_with fail
    refine (put_v (nm := uidN) HST2.out (by omega) (by omega) (by omega) (Nat.le_refl _) (by omega) (by decide) HFL.out (by decide) (by decide) (by decide) HO2.out HF2.out).mono ?_
    rintro e w3 ⟨rfl, hst3, hm3⟩
    have HST3 := Sec.mk hst3
    have HBR3 := Sec.mk (HBR2.out.mod hm3 (fun h => by omega))
    have HM3 := Sec.mk (HM2.out.trans hm3 (fun i hi hlt => by omega))
    have hs3 := hm3.size
    clear hst3 hm3
    go_upto_region 11 with (fail)
    obtain ⟨A0, c0, A1, c1, hbd, hbt, hout⟩ := HST3.out
    have HD := Sec.mk hbd
    have HT1 := Sec.mk hbt
    have HO := Sec.mk hout
    clear hbd hbt hout
    have hus : ((0 + fr.length : Nat) : Int) = (fr.length : Int) := by simp
    rw [hus] at HT1
    have t0 : w3.cell? ⟨w.heap.size + 1 + 1, 0, none⟩ = some (.int .i64 (fr.length : Int)) := HT1.out.cell 0
    have hwt := HT1.out.lt
    have hwd := HD.out.lt
    by_cases hv0 : v = 0
    · have HF : Sec (res = ([], [], [], [], 0)) := ⟨HE2.out.trans (if_pos (Or.inl hv0))⟩
      subst hv0
      have rc0 : w3.cell? ⟨w.heap.size, 0, none⟩ = some (.slice none 0 0) := HBR3.out.cell 0
      have rf0 : w3.frozen? ⟨w.heap.size, 0, none⟩ = false := HBR3.out.frozen 0
      have rc1 : w3.cell? ⟨w.heap.size, 1, none⟩ = some (.slice none 0 0) := HBR3.out.cell 1
      have rf1 : w3.frozen? ⟨w.heap.size, 1, none⟩ = false := HBR3.out.frozen 1
      have rc2 : w3.cell? ⟨w.heap.size, 2, none⟩ = some (.slice none 0 0) := HBR3.out.cell 2
      have rf2 : w3.frozen? ⟨w.heap.size, 2, none⟩ = false := HBR3.out.frozen 2
      have rc3 : w3.cell? ⟨w.heap.size, 3, none⟩ = some (.slice none 0 0) := HBR3.out.cell 3
      have rf3 : w3.frozen? ⟨w.heap.size, 3, none⟩ = false := HBR3.out.frozen 3
      have rc4 : w3.cell? ⟨w.heap.size, 4, none⟩ = some (.int .i64 0) := HBR3.out.cell 4
      have rf4 : w3.frozen? ⟨w.heap.size, 4, none⟩ = false := HBR3.out.frozen 4
      have hwr : w.heap.size < w3.heap.size := HBR3.out.lt
      have HFB := Sec.mk (set5_blk HBR3.out (.slice none 0 0) (.slice none 0 0) (.slice none 0 0) (.slice none 0 0) (.int .i64 0))
      have HFM := set5_mod w3 (w.heap.size) (.slice none 0 0) (.slice none 0 0) (.slice none 0 0) (.slice none 0 0) (.int .i64 0)
      have HMG := Sec.mk ((HM3.out.mono (T := fun k => w.heap.size ≤ k) (fun i hlt h => h.elim)).trans HFM (fun i hi hlt => by omega))
      clear HFM
      go_wp2
      refine bodyPost_ret (results_blk rfl rfl HFB.out Tryd.underlying27 (by kernel_rfl)) rfl ?_
      rw [HF.out]
      exact ⟨_, rfl, (zOut4 (fun k => w.heap.size ≤ k) _ (by decide)).disk (fun k h => h), HMG.out.mono (fun i hlt h => by omega)⟩
    have hv0i : ¬ (v : Int) = 0 := by omega
    have hv0b : ((v : Int) == 0) = false := by simp only [beq_eq_false_iff_ne, ne_eq]; exact hv0i
    by_cases hqf : q < (fr.length : Int)
    · have HF : Sec (res = ([], [], [], [], 0)) := ⟨HE2.out.trans (if_pos (Or.inr (Or.inl hqf)))⟩
      have rc0 : w3.cell? ⟨w.heap.size, 0, none⟩ = some (.slice none 0 0) := HBR3.out.cell 0
      have rf0 : w3.frozen? ⟨w.heap.size, 0, none⟩ = false := HBR3.out.frozen 0
      have rc1 : w3.cell? ⟨w.heap.size, 1, none⟩ = some (.slice none 0 0) := HBR3.out.cell 1
      have rf1 : w3.frozen? ⟨w.heap.size, 1, none⟩ = false := HBR3.out.frozen 1
      have rc2 : w3.cell? ⟨w.heap.size, 2, none⟩ = some (.slice none 0 0) := HBR3.out.cell 2
      have rf2 : w3.frozen? ⟨w.heap.size, 2, none⟩ = false := HBR3.out.frozen 2
      have rc3 : w3.cell? ⟨w.heap.size, 3, none⟩ = some (.slice none 0 0) := HBR3.out.cell 3
      have rf3 : w3.frozen? ⟨w.heap.size, 3, none⟩ = false := HBR3.out.frozen 3
      have rc4 : w3.cell? ⟨w.heap.size, 4, none⟩ = some (.int .i64 0) := HBR3.out.cell 4
      have rf4 : w3.frozen? ⟨w.heap.size, 4, none⟩ = false := HBR3.out.frozen 4
      have hwr : w.heap.size < w3.heap.size := HBR3.out.lt
      have HFB := Sec.mk (set5_blk HBR3.out (.slice none 0 0) (.slice none 0 0) (.slice none 0 0) (.slice none 0 0) (.int .i64 0))
      have HFM := set5_mod w3 (w.heap.size) (.slice none 0 0) (.slice none 0 0) (.slice none 0 0) (.slice none 0 0) (.int .i64 0)
      have HMG := Sec.mk ((HM3.out.mono (T := fun k => w.heap.size ≤ k) (fun i hlt h => h.elim)).trans HFM (fun i hi hlt => by omega))
      clear HFM
      go_wp2
      refine bodyPost_ret (results_blk rfl rfl HFB.out Tryd.underlying27 (by kernel_rfl)) rfl ?_
      rw [HF.out]
      exact ⟨_, rfl, (zOut4 (fun k => w.heap.size ≤ k) _ (by decide)).disk (fun k h => h), HMG.out.mono (fun i hlt h => by omega)⟩
    by_cases hqm : 1000000 < q
    · have HF : Sec (res = ([], [], [], [], 0)) := ⟨HE2.out.trans (if_pos (Or.inr (Or.inr hqm)))⟩
      have rc0 : w3.cell? ⟨w.heap.size, 0, none⟩ = some (.slice none 0 0) := HBR3.out.cell 0
      have rf0 : w3.frozen? ⟨w.heap.size, 0, none⟩ = false := HBR3.out.frozen 0
      have rc1 : w3.cell? ⟨w.heap.size, 1, none⟩ = some (.slice none 0 0) := HBR3.out.cell 1
      have rf1 : w3.frozen? ⟨w.heap.size, 1, none⟩ = false := HBR3.out.frozen 1
      have rc2 : w3.cell? ⟨w.heap.size, 2, none⟩ = some (.slice none 0 0) := HBR3.out.cell 2
      have rf2 : w3.frozen? ⟨w.heap.size, 2, none⟩ = false := HBR3.out.frozen 2
      have rc3 : w3.cell? ⟨w.heap.size, 3, none⟩ = some (.slice none 0 0) := HBR3.out.cell 3
      have rf3 : w3.frozen? ⟨w.heap.size, 3, none⟩ = false := HBR3.out.frozen 3
      have rc4 : w3.cell? ⟨w.heap.size, 4, none⟩ = some (.int .i64 0) := HBR3.out.cell 4
      have rf4 : w3.frozen? ⟨w.heap.size, 4, none⟩ = false := HBR3.out.frozen 4
      have hwr : w.heap.size < w3.heap.size := HBR3.out.lt
      have HFB := Sec.mk (set5_blk HBR3.out (.slice none 0 0) (.slice none 0 0) (.slice none 0 0) (.slice none 0 0) (.int .i64 0))
      have HFM := set5_mod w3 (w.heap.size) (.slice none 0 0) (.slice none 0 0) (.slice none 0 0) (.slice none 0 0) (.int .i64 0)
      have HMG := Sec.mk ((HM3.out.mono (T := fun k => w.heap.size ≤ k) (fun i hlt h => h.elim)).trans HFM (fun i hi hlt => by omega))
      clear HFM
      go_wp2
      refine bodyPost_ret (results_blk rfl rfl HFB.out Tryd.underlying27 (by kernel_rfl)) rfl ?_
      rw [HF.out]
      exact ⟨_, rfl, (zOut4 (fun k => w.heap.size ≤ k) _ (by decide)).disk (fun k h => h), HMG.out.mono (fun i hlt h => by omega)⟩
    have HF : Sec (res = uidD fr q) := ⟨HE2.out.trans (if_neg (fun h => by omega))⟩
    have HD2 : Sec (Blk w3 (w.heap.size + 1) 27 [.slice A0 1 c0, .slice A1 1 c1, .slice none 0 0, .slice none 0 0, .int .i64 q]) := ⟨HD.out⟩
    have HO3x : Sec (Out3 (fun k => w.heap.size + 3 ≤ k ∧ k < w3.heap.size) w3 (.slice A0 1 c0) (.slice A1 1 c1) (.slice none 0 0) [(fr, (fr.length : Int))] [(uidN, 0)] []) := ⟨HO.out⟩
    have d1 : w3.cell? ⟨w.heap.size + 1, 1, none⟩ = some (.slice A1 1 c1) := HD2.out.cell 1
    have hme : New w3 (w3.alloc (.cells #[] 57)) := (Mod.refl _ _).alloc _
    have HOE : Sec (Mine dEntry 57 w3 (w3.alloc (.cells #[] 57)) (.slice (some ⟨w3.heap.size, 0, none⟩) 0 0) ([] : EntryST)) := ⟨Mine.of (Own.build (e := 57) (Fs := []) (xs := ([] : EntryST)) (cs := []) (Elems.nil dEntry w3) (by simp) (by simp) (by simp) rfl) (fun k hk => by simp at hk; omega) hme⟩
    have HRO := Sec.mk ((HO3x.out.new hme).row1)
    have hl6 : ([] : EntryST).length + ([(uidN, 0)] : EntryST).length ≤ 34359738368 := by simp
    have HDe := Sec.mk (HD2.out.mod hme id)
    have HBe := Sec.mk (HBR3.out.mod hme id)
    have HMe := Sec.mk (HM3.out.transN hme)
    have HD0 := HD2
    clear hme HD HO HD2
    go_upto_region 14 with (at_builtin; go_loud (refine wpList_app _ rfl (.tmp 45) (.tmp 47) _ rfl Tryd.underlying24 elt_entry flatEntry rfl rfl HOE.out HRO.out hl6 ?_; intro A6 n6 c6 w6 ho6; have HN6 := Sec.mk ho6.new; have HO6 := Sec.mk ho6; clear ho6; have hs6 := HN6.out.size; have HD6 : Sec (Blk w6 (w.heap.size + 1) 27 [.slice A0 1 c0, .slice A1 1 c1, .slice none 0 0, .slice none 0 0, .int .i64 q]) := ⟨HD0.out.mod HN6.out id⟩; have hwd6 := HD6.out.lt; have d2 : w6.cell? ⟨w.heap.size + 1, 2, none⟩ = some (.slice none 0 0) := HD6.out.cell 2; have df2 : w6.frozen? ⟨w.heap.size + 1, 2, none⟩ = false := HD6.out.frozen 2))
    have hm7 : Mod (fun k => k = w.heap.size + 1) w6 (w6.setCell ⟨w.heap.size + 1, 2, none⟩ (.slice A6 n6 c6)) := (Mod.refl (fun k => k = w.heap.size + 1) w6).setCell (p := ⟨w.heap.size + 1, 2, none⟩) (fun _ => rfl) _
    have HD7 := Sec.mk (HD6.out.set_ 2 (.slice A6 n6 c6))
    simp only [List.set_cons_zero, List.set_cons_succ] at HD7
    have HB7 := Sec.mk ((HBR3.out.mod HN6.out id).mod hm7 (by omega))
    have HM7 := Sec.mk ((HM3.out.transN HN6.out).trans hm7 (fun i hi hlt => by omega))
    obtain ⟨⟨F6, ho6, hF6⟩, -⟩ := HO6.out
    have HO7 := Sec.mk (((HO3x.out.new HN6.out).put2 (X := fun k => w.heap.size + 3 ≤ k) ho6 (fun k hk => by have := hF6 k hk; omega) (fun k h => h.1)).keep hm7 (fun k h e => by omega))
    have hs7 : w6.heap.size ≤ (w6.setCell ⟨w.heap.size + 1, 2, none⟩ (.slice A6 n6 c6)).heap.size := hm7.size
    clear hm7 ho6 hF6 d1 d2 df2
    generalize w6.setCell ⟨w.heap.size + 1, 2, none⟩ (.slice A6 n6 c6) = w7 at *
    have hwd7 : w.heap.size + 1 < w7.heap.size := by omega
    have hwr7 : w.heap.size < w7.heap.size := by omega
    have xc0 : w7.cell? ⟨w.heap.size + 1, 0, none⟩ = some (.slice A0 1 c0) := HD7.out.cell 0
    have xc1 : w7.cell? ⟨w.heap.size + 1, 1, none⟩ = some (.slice A1 1 c1) := HD7.out.cell 1
    have xc2 : w7.cell? ⟨w.heap.size + 1, 2, none⟩ = some (.slice A6 n6 c6) := HD7.out.cell 2
    have xc3 : w7.cell? ⟨w.heap.size + 1, 3, none⟩ = some (.slice none 0 0) := HD7.out.cell 3
    have xc4 : w7.cell? ⟨w.heap.size + 1, 4, none⟩ = some (.int .i64 q) := HD7.out.cell 4
    have rc0 : w7.cell? ⟨w.heap.size, 0, none⟩ = some (.slice none 0 0) := HB7.out.cell 0
    have rf0 : w7.frozen? ⟨w.heap.size, 0, none⟩ = false := HB7.out.frozen 0
    have rc1 : w7.cell? ⟨w.heap.size, 1, none⟩ = some (.slice none 0 0) := HB7.out.cell 1
    have rf1 : w7.frozen? ⟨w.heap.size, 1, none⟩ = false := HB7.out.frozen 1
    have rc2 : w7.cell? ⟨w.heap.size, 2, none⟩ = some (.slice none 0 0) := HB7.out.cell 2
    have rf2 : w7.frozen? ⟨w.heap.size, 2, none⟩ = false := HB7.out.frozen 2
    have rc3 : w7.cell? ⟨w.heap.size, 3, none⟩ = some (.slice none 0 0) := HB7.out.cell 3
    have rf3 : w7.frozen? ⟨w.heap.size, 3, none⟩ = false := HB7.out.frozen 3
    have rc4 : w7.cell? ⟨w.heap.size, 4, none⟩ = some (.int .i64 0) := HB7.out.cell 4
    have rf4 : w7.frozen? ⟨w.heap.size, 4, none⟩ = false := HB7.out.frozen 4
    have HFB := Sec.mk (set5_blk HB7.out (.slice A0 1 c0) (.slice A1 1 c1) (.slice A6 n6 c6) (.slice none 0 0) (.int .i64 q))
    have HFM := set5_mod w7 w.heap.size (.slice A0 1 c0) (.slice A1 1 c1) (.slice A6 n6 c6) (.slice none 0 0) (.int .i64 q)
    have H8 := Sec.mk (HO7.out.keep HFM (fun k h e => by omega))
    have HMG := Sec.mk ((HM7.out.mono (T := fun k => w.heap.size ≤ k) (fun i hlt h => h.elim)).trans HFM (fun i hi hlt => by omega))
    clear HFM
    go_wp2
    refine bodyPost_ret (results_blk rfl rfl HFB.out Tryd.underlying27 (by kernel_rfl)) rfl ?_
    rw [HF.out]
    exact ⟨_, rfl, H8.out.disk HQ.out (fun k h => by omega), HMG.out.mono (fun i hlt h => by omega)⟩
  have HF : Sec (res = ([], [], [], [], 0)) := ⟨HE.out.trans ((if_neg hk1).trans (if_neg hk3))⟩
  have hk1b : (kind == 1) = false := by simp only [beq_eq_false_iff_ne]; exact hk1
  have hk3b : (kind == 3) = false := by simp only [beq_eq_false_iff_ne]; exact hk3
  have rc0 : wz.cell? ⟨w.heap.size, 0, none⟩ = some (.slice none 0 0) := HBR.out.cell 0
  have rf0 : wz.frozen? ⟨w.heap.size, 0, none⟩ = false := HBR.out.frozen 0
  have rc1 : wz.cell? ⟨w.heap.size, 1, none⟩ = some (.slice none 0 0) := HBR.out.cell 1
  have rf1 : wz.frozen? ⟨w.heap.size, 1, none⟩ = false := HBR.out.frozen 1
  have rc2 : wz.cell? ⟨w.heap.size, 2, none⟩ = some (.slice none 0 0) := HBR.out.cell 2
  have rf2 : wz.frozen? ⟨w.heap.size, 2, none⟩ = false := HBR.out.frozen 2
  have rc3 : wz.cell? ⟨w.heap.size, 3, none⟩ = some (.slice none 0 0) := HBR.out.cell 3
  have rf3 : wz.frozen? ⟨w.heap.size, 3, none⟩ = false := HBR.out.frozen 3
  have rc4 : wz.cell? ⟨w.heap.size, 4, none⟩ = some (.int .i64 0) := HBR.out.cell 4
  have rf4 : wz.frozen? ⟨w.heap.size, 4, none⟩ = false := HBR.out.frozen 4
  have hwr : w.heap.size < wz.heap.size := HBR.out.lt
  have HFB := Sec.mk (set5_blk HBR.out (.slice none 0 0) (.slice none 0 0) (.slice none 0 0) (.slice none 0 0) (.int .i64 0))
  have HFM := set5_mod wz (w.heap.size) (.slice none 0 0) (.slice none 0 0) (.slice none 0 0) (.slice none 0 0) (.int .i64 0)
  have HMG := Sec.mk ((HM0.out.mono (T := fun k => w.heap.size ≤ k) (fun i hlt h => h.elim)).trans HFM (fun i hi hlt => by omega))
  clear HFM
  go_wp2
  refine bodyPost_ret (results_blk rfl rfl HFB.out Tryd.underlying27 (by kernel_rfl)) rfl ?_
  rw [HF.out]
  exact ⟨_, rfl, (zOut4 (fun k => w.heap.size ≤ k) _ (by decide)).disk (fun k h => h), HMG.out.mono (fun i hlt h => by omega)⟩
end Go.Proofs.YtiaknomadhgckaaDoor
