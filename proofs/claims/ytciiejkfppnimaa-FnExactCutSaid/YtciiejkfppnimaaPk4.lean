/- Where a line ends, and the literal at its end, of the specification. Values of any type as the laws hold them: read, and owned in a range of blocks. The laws' marks over bytes: markByteS writes them, heldByteS finds them. -/
import Derived.Test.YtciiejkfppnimaaPk2
import Derived.Test.YtciiejkfppnimaaPk3
import Derived.Test.YtciiejkfppnimaaPk1
namespace Go.Proofs.Ytciiejkfppnimaa
open Go.RowKit Mem
set_option linter.unusedVariables false
set_option linter.unusedSimpArgs false
theorem u8_ne {z b : UInt8} {n : Int} (hn : (b.toNat : Int) = n) (h : z ≠ b) : ((z.toNat : Int) == n) = false := by
  simp only [beq_eq_false_iff_ne, ne_eq]; intro e; exact h (UInt8.toNat.inj (by omega))
theorem u8_neb {z b : UInt8} {n : Int} (hn : (b.toNat : Int) = n) (h : z ≠ b) : ((z.toNat : Int) != n) = true := by
  simp only [bne_iff_ne, ne_eq]; intro e; exact h (UInt8.toNat.inj (by omega))
set_option maxHeartbeats 1000000 in
set_option maxRecDepth 100000 in
theorem l6End_calls {A : Option Addr} {c : Nat} {b : Bytes} {B : Nat → Prop} {w : World} (h : Row Ty.byte w B A b.length b) (hl : b.length ≤ 1048576) : Calls Try.prog 44 #[.slice A b.length c, .int .i64 0] w (fun e w' => e = .returned (.int .i64 (endI b)) ∧ w' = w) := by
  have HR := Sec.mk h
  have HFI : Sec (∀ i : Nat, endAt b i → (∀ j, j < i → ¬ endAt b j) → endI b = i) := ⟨fun i h1 h2 => endI_first h1 h2⟩
  have HNO : Sec ((∀ j, ¬ endAt b j) → endI b = -1) := ⟨fun h => endI_none h⟩
  generalize endI b = r at *
  clear h
  go_enter Try.func44, Try.ntmps44
  go_wp2
  go_loopw [5] (fun i wr => ∃ k : Nat, k ≤ b.length ∧ i = .int .i64 (k : Int) ∧ Sec (∀ j, j < k → ¬ endAt b j) ∧ Sec (wr = w)) (fun i _ => b.length - (intOf i).toNat)
  case atStart => exact ⟨0, Nat.zero_le _, rfl, ⟨fun j hj => absurd hj (Nat.not_lt_zero _)⟩, ⟨rfl⟩⟩
  case round =>
    obtain ⟨k, hk, rfl, HN, HW⟩ := hrel
    obtain rfl : w = wr := HW.out.symm
    clear HW
    by_cases hlt : k + 1 < b.length
    · have hki : (k : Int) + 1 < (b.length : Int) := by omega
      have hkl : k < b.length := by omega
      have hki0 : (k : Int) < (b.length : Int) := by omega
      obtain ⟨ad, rfl, h0⟩ := HR.out.byte_at (w' := w) (fun _ _ => rfl) (k := k) hkl
      obtain ⟨ad', e', h1⟩ := HR.out.byte_at (w' := w) (fun _ _ => rfl) (k := k + 1) hlt
      obtain rfl : ad = ad' := Option.some.inj e'
      have HG0 : Sec (b[k]? = some b[k]) := ⟨List.getElem?_eq_getElem hkl⟩
      have HG1 : Sec (b[k + 1]? = some b[k + 1]) := ⟨List.getElem?_eq_getElem hlt⟩
      have HX : Sec (¬ endAt b k → ∀ j, j < k + 1 → ¬ endAt b j) := ⟨fun h j hj => (Nat.lt_or_ge j k).elim (fun h1 => HN.out j h1) (fun h1 => by rw [show j = k by omega]; exact h)⟩
      have hkt : ((k : Int) + 1).toNat = k + 1 := by omega
      have h1' : w.cell? ⟨ad.block, ad.off + (k + 1), none⟩ = some (.int .u8 (b[k + 1].toNat : Int)) := by simpa [Addr.add] using h1
      clear e' h1
      generalize b[k] = x at *
      generalize b[k + 1] = y at *
      by_cases hx : x = 13
      · subst hx
        by_cases hy : y = 10
        · subst hy
          have HE := Sec.mk (HFI.out k ⟨HG0.out, HG1.out⟩ HN.out)
          go_wp2
          go_ret
          exact ⟨by rw [HE.out]; rfl, rfl⟩
        · have HN2 := Sec.mk (HX.out (fun h => hy (Option.some.inj (HG1.out.symm.trans h.2))))
          have hyb := u8_ne (n := 10) rfl hy
          clear hy
          go_wp2
          go_roundw
          case rel => exact ⟨k + 1, by omega, by go_num, HN2, ⟨by trivial⟩⟩
          case measure => simp [intOf]; omega
      · have HN2 := Sec.mk (HX.out (fun h => hx (Option.some.inj (HG0.out.symm.trans h.1))))
        have hxb := u8_ne (n := 13) rfl hx
        clear hx
        go_wp2
        go_roundw
        case rel => exact ⟨k + 1, by omega, by go_num, HN2, ⟨by trivial⟩⟩
        case measure => simp [intOf]; omega
    · have hki : ¬ (k : Int) + 1 < (b.length : Int) := by omega
      have HE : Sec (r = -1) := ⟨HNO.out (fun j hj => by
        have h1 := (List.getElem?_eq_some_iff.1 hj.2).1
        exact HN.out j (by omega) hj)⟩
      go_wp2
      go_ret
      exact ⟨by rw [HE.out]; rfl, rfl⟩
theorem lastI_succ (line : Bytes) (k : Nat) : lastI line (k + 1) = if line[k]? = some 123 then some k else lastI line k := rfl
def litR (line : Bytes) : Int × Int := match litL line with
  | none => (-1, 0)
  | some (p, n) => ((n : Int), (p : Int))
theorem lit_last {line : Bytes} (h : line[line.length - 1]? ≠ some 125) : litL line = none := by
  unfold litL
  split
  · rfl
  · rw [if_neg (fun hh => h hh.1)]
theorem word_len (line : Bytes) (p : Nat) : (wordL line p).length = line.length - 1 - (p + 1) := by unfold wordL; rw [List.length_drop, List.length_take, Nat.min_eq_left (by omega)]
theorem lit_none {line : Bytes} (h : lastI line line.length = none) : litL line = none := by unfold litL; rw [h]
theorem lit_some {line : Bytes} {p : Nat} (h : lastI line line.length = some p) (h1 : line[line.length - 1]? = some 125) : litL line = if (decL 9 (wordL line p)).2 = true then some (p, (decL 9 (wordL line p)).1) else none := by
  unfold litL
  rw [h]
  simp only [h1, true_and]
theorem lit_short {line : Bytes} (h : line.length < 3) : litL line = none := by
  cases hl : lastI line line.length with
  | none => exact lit_none hl
  | some p =>
    by_cases h1 : line[line.length - 1]? = some 125
    · obtain ⟨hp, hx⟩ := lastI_lt line _ p hl
      rw [lit_some hl h1]
      have hpn : p ≠ line.length - 1 := fun e => by rw [e, h1] at hx; cases hx
      have hw : (decL 9 (wordL line p)).2 = false := by
        have := word_len line p
        unfold decL
        rw [if_neg (fun hh => by omega)]
      rw [hw]; rfl
    · exact lit_last h1
set_option maxHeartbeats 1000000 in
set_option maxRecDepth 100000 in
theorem l6Literal_calls {A : Option Addr} {c : Nat} {line : Bytes} {B : Nat → Prop} {w : World} (h : Row Ty.byte w B A line.length line) (hl : line.length ≤ 1048576) (hc : line.length ≤ c) : Calls Try.prog 45 #[.slice A line.length c] w (Ret (.tuple #[.int .i64 (litR line).1, .int .i64 (litR line).2]) w) := by
  have HR := Sec.mk h
  have HRN : Sec (litL line = none → litR line = (-1, 0)) := ⟨fun h => by unfold litR; rw [h]⟩
  have HRS : Sec (∀ p n, litL line = some (p, n) → litR line = ((n : Int), (p : Int))) := ⟨fun p n h => by unfold litR; rw [h]⟩
  generalize litR line = r at *
  clear h
  by_cases h3 : line.length < 3
  · have h3i : (line.length : Int) < 3 := by omega
    have HE := Sec.mk (HRN.out (lit_short h3))
    go_enter Try.func45, Try.ntmps45
    go_wp2
    go_ret2
    rw [HE.out]
    exact ⟨rfl, Mod.refl _ _⟩
  have h3i : ¬ (line.length : Int) < 3 := by omega
  have hlast : line.length - 1 < line.length := by omega
  obtain ⟨ad, rfl, h0⟩ := HR.out.byte_at (w' := w) (fun _ _ => rfl) (k := line.length - 1) hlast
  have h0' : w.cell? ⟨ad.block, ad.off + (line.length - 1), none⟩ = some (.int .u8 (line[line.length - 1].toNat : Int)) := by
    have hne : line.length - 1 ≠ 0 := by omega
    simpa [Addr.add, hne] using h0
  have ht : ((line.length : Int) - 1).toNat = line.length - 1 := by omega
  have hb0 : (0 : Int) ≤ (line.length : Int) - 1 := by omega
  have hb1 : (line.length : Int) - 1 < (line.length : Int) := by omega
  have HG : Sec (line[line.length - 1]? = some (line[line.length - 1]'hlast)) := ⟨List.getElem?_eq_getElem _⟩
  generalize line[line.length - 1]'hlast = z at *
  by_cases hz : z = 125
  rotate_left
  · have HE := Sec.mk (HRN.out (lit_last (fun hh => hz (Option.some.inj (HG.out.symm.trans hh)))))
    have hzb := u8_neb (n := 125) rfl hz
    clear hz
    go_enter Try.func45, Try.ntmps45
    go_wp2
    go_ret2
    rw [HE.out]
    exact ⟨rfl, Mod.refl _ _⟩
  subst hz
  have HLE := Sec.mk HG.out
  have hcc : line.length ≤ c := hc
  go_enter Try.func45, Try.ntmps45
  go_wp2
  go_loopw [4] (fun i wr => ∃ k : Nat, k ≤ line.length ∧ i = .int .i64 ((k : Int) - 1) ∧ Sec (lastI line line.length = lastI line k) ∧ Sec (wr = w)) (fun i _ => (intOf i + 1).toNat)
  case atStart => exact ⟨line.length, Nat.le_refl _, rfl, ⟨rfl⟩, ⟨rfl⟩⟩
  case round =>
    obtain ⟨k, hk, rfl, HK, HW⟩ := hrel
    obtain rfl : w = wr := HW.out.symm
    clear HW
    rcases Nat.eq_zero_or_pos k with rfl | hkp
    · have HE := Sec.mk (HRN.out (lit_none HK.out))
      go_wp2
      go_ret2
      rw [HE.out]
      exact ⟨rfl, Mod.refl _ _⟩
    · obtain ⟨p, rfl⟩ : ∃ p, k = p + 1 := ⟨k - 1, by omega⟩
      have hp : p < line.length := by omega
      obtain ⟨ad', e', g0⟩ := HR.out.byte_at (w' := w) (fun _ _ => rfl) (k := p) hp
      obtain rfl : ad = ad' := Option.some.inj e'
      have HGP : Sec (line[p]? = some line[p]) := ⟨List.getElem?_eq_getElem hp⟩
      have HL1 : Sec (line[p]? ≠ some 123 → lastI line line.length = lastI line p) := ⟨fun h => by rw [HK.out, lastI_succ, if_neg h]⟩
      have HL2 : Sec (line[p]? = some 123 → lastI line line.length = some p) := ⟨fun h => by rw [HK.out, lastI_succ, if_pos h]⟩
      have hcast : ((p + 1 : Nat) : Int) - 1 = (p : Int) := by omega
      rw [hcast]
      have hpi : (p : Int) < (line.length : Int) := by omega
      clear e' hcast
      generalize line[p] = x at *
      by_cases hx : x = 123
      rotate_left
      · have HN := Sec.mk (HL1.out (fun h => hx (Option.some.inj (HGP.out.symm.trans h))))
        have hxb := u8_neb (n := 123) rfl hx
        clear hx
        go_wp2
        go_roundw
        case rel => exact ⟨p, by omega, by go_num, HN, ⟨by trivial⟩⟩
        case measure => simp [intOf]
      · subst hx
        have HS := Sec.mk (lit_some (HL2.out HGP.out) HLE.out)
        have hpn : p + 1 ≤ line.length - 1 := by
          rcases Nat.lt_or_ge (p + 1) line.length with h | h
          · omega
          · exfalso
            have e : p = line.length - 1 := by omega
            have h2 := HGP.out
            rw [e, HLE.out] at h2
            cases h2
        have hcut := HR.out.cut1 (k := p + 1) (m := line.length - 1) hpn (by omega)
        have hcv := hcut.conv (P := Try.prog) Try.underlying22 Try.underlying5 Try.underlying9 (c - (p + 1))
        have hcv' : (convert 22 9 (.slice (some ⟨ad.block, ad.off + (p + 1), none⟩) (line.length - 1 - (p + 1)) (c - (p + 1)))).run Try.prog w = .ok (.string ⟨(wordL line p).toArray⟩) w := by
          have := hcv
          simpa [Addr.add, wordL] using this
        have hpt : ((p : Int) + 1).toNat = p + 1 := by omega
        have hlt2 : ((line.length : Int) - 1).toNat = line.length - 1 := by omega
        have hle2 : (p : Int) + 1 ≤ (line.length : Int) - 1 := by omega
        have hwl := word_len line p
        have HD9 := Sec.mk (dec9_num (wordL line p))
        clear hcut hcv
        have hwx : (wordL line p).length ≤ 1048576 := by omega
        generalize wordL line p = wd at *
        go_wp2_with fail
        refine (l4Number_calls wd (by omega) w).mono ?_
        rintro e w2 ⟨rfl, hm2⟩
        have HM2 := Sec.mk hm2
        clear hm2
        cases hnum : (numL wd).2
        · have HE := Sec.mk (HRN.out (by rw [HS.out, if_neg (fun h => by have := (HD9.out.1.1 h).1; rw [hnum] at this; cases this)]))
          go_wp2
          go_ret2
          rw [HE.out]
          exact ⟨rfl, HM2.out⟩
        by_cases h9 : 9 < wd.length
        · have HE := Sec.mk (HRN.out (by rw [HS.out, if_neg (fun h => by have := (HD9.out.1.1 h).2; omega)]))
          have h9i : (9 : Int) < (wd.length : Int) := by omega
          go_wp2
          go_ret2
          rw [HE.out]
          exact ⟨rfl, HM2.out⟩
        · have h9i : ¬ (9 : Int) < (wd.length : Int) := by omega
          have hd := HD9.out.1.2 ⟨hnum, by omega⟩
          have hv := HD9.out.2 hd
          have HE := Sec.mk (HRS.out p (decL 9 wd).1 (by rw [HS.out, if_pos hd]))
          have HV := Sec.mk hv.1
          rw [HV.out]
          clear hd hv
          go_wp2
          go_ret2
          rw [HE.out]
          exact ⟨rfl, HM2.out⟩
end Go.Proofs.Ytciiejkfppnimaa

namespace Go.Proofs.Ytciiejkfppnimaa.Mem
open Go.RowKit
set_option linter.unusedVariables false

/-- a value of these cells: a struct's, or one cell -/
def enc (str : Bool) (cs : List Value) : Value := match str with
  | true => .agg cs.toArray
  | false => cs.headD default
def RdV {α : Type} (str : Bool) (d : Ty α) (w : World) (v : Value) (x : α) : Prop := ∃ cs, v = enc str cs ∧ d.K w (· < w.heap.size) x cs
/-- all its blocks lie from lo on and below hi -/
def OwV {α : Type} (str : Bool) (d : Ty α) (w : World) (lo hi : Nat) (v : Value) (x : α) : Prop := ∃ cs F, v = enc str cs ∧ d.M w F x cs ∧ ∀ k, k ∈ F → lo ≤ k ∧ k < hi
def RetV {α : Type} (str : Bool) (d : Ty α) (w : World) (x : α) (e : Ending) (w' : World) : Prop := ∃ v, e = .returned v ∧ OwV str d w' w.heap.size w'.heap.size v x ∧ New w w'
section
variable {α : Type} {str : Bool} {d : Ty α} {w w' : World} {lo hi : Nat} {v : Value} {x : α}
theorem RdV.step (h : RdV str d w v x) (hm : New w w') : RdV str d w' v x := by
  obtain ⟨cs, rfl, hK⟩ := h
  exact ⟨cs, rfl, d.K_mod hK (fun k hk => Nat.lt_of_lt_of_le hk hm.size) (fun k hk => hm.block k hk id)⟩
theorem OwV.rd (h : OwV str d w lo hi v x) : RdV str d w v x := by
  obtain ⟨cs, F, rfl, hM, hF⟩ := h
  exact ⟨cs, rfl, d.K_mod (d.M_K hM) (fun k hk => d.M_lt hM k hk) (fun _ _ => rfl)⟩
theorem OwV.keep {S : Nat → Prop} (h : OwV str d w lo hi v x) (hm : Mod S w w') (hS : ∀ k, lo ≤ k → k < hi → ¬ S k) : OwV str d w' lo hi v x := by
  obtain ⟨cs, F, rfl, hM, hF⟩ := h
  exact ⟨cs, F, rfl, d.M_mod hM (fun k hk => hm.block k (d.M_lt hM k hk) (hS k (hF k hk).1 (hF k hk).2)), hF⟩
theorem OwV.step (h : OwV str d w lo hi v x) (hm : New w w') : OwV str d w' lo hi v x := h.keep hm fun _ _ _ h => h
end
/-! slices -/
theorem RdV.slice {α : Type} {d : Ty α} {e : TypeId} {w : World} {v : Value} {xs : List α} (h : RdV false (Ty.slice e d) w v xs) : ∃ A c, v = .slice A xs.length c ∧ xs.length ≤ c ∧ Row d w (· < w.heap.size) A xs.length xs := by
  obtain ⟨cs, rfl, A, c, rfl, h1, h2, h3⟩ := h
  exact ⟨A, c, rfl, h1, h3⟩
theorem RdV.slice3 {α : Type} {d : Ty α} {e : TypeId} {w : World} {v : Value} {xs : List α} (h : RdV false (Ty.slice e d) w v xs) : ∃ A c, v = .slice A xs.length c ∧ xs.length ≤ c ∧ c ≤ 9223372036854775807 ∧ Row d w (· < w.heap.size) A xs.length xs := by
  obtain ⟨cs, rfl, A, c, rfl, h1, h2, h3⟩ := h
  exact ⟨A, c, rfl, h1, h2, h3⟩
theorem OwV.slice {α : Type} {d : Ty α} {e : TypeId} {w : World} {lo hi : Nat} {v : Value} {xs : List α} (h : OwV false (Ty.slice e d) w lo hi v xs) : ∃ A c F, v = .slice A xs.length c ∧ Own d e w F v xs ∧ ∀ k, k ∈ F → lo ≤ k ∧ k < hi := by
  obtain ⟨cs, F, rfl, ⟨v', rfl, h⟩, hF⟩ := h
  obtain ⟨A, c, rfl, _⟩ := h.form
  exact ⟨A, c, F, rfl, h, hF⟩
theorem OwV.of_slice {α : Type} {d : Ty α} {e : TypeId} {w : World} {lo hi : Nat} {v : Value} {xs : List α} {F : List Nat} (h : Own d e w F v xs) (hF : ∀ k, k ∈ F → lo ≤ k ∧ k < hi) : OwV false (Ty.slice e d) w lo hi v xs := ⟨[v], F, rfl, ⟨v, rfl, h⟩, hF⟩
theorem RetOwn.toV {α : Type} {d : Ty α} {t : TypeId} {w w' : World} {xs : List α} {e : Ending} (h : RetOwn d t w xs e w') : RetV false (Ty.slice t d) w xs e w' := by
  obtain ⟨A, c, F, rfl, ho, hF, hm⟩ := h
  exact ⟨_, rfl, OwV.of_slice ho fun k hk => ⟨hF k hk, ho.lt k hk⟩, hm⟩
theorem RdV.of_row {α : Type} {d : Ty α} {e : TypeId} {w : World} {A : Option Addr} {c : Nat} {xs : List α} (h : Row d w (· < w.heap.size) A xs.length xs) (hc : xs.length ≤ c) (hm : c ≤ 9223372036854775807) : RdV false (Ty.slice e d) w (.slice A xs.length c) xs := ⟨_, rfl, A, c, rfl, hc, hm, h⟩
/-- owned with these blocks -/
def OwF {α : Type} (str : Bool) (d : Ty α) (w : World) (F : List Nat) (v : Value) (x : α) : Prop := ∃ cs, v = enc str cs ∧ d.M w F x cs
/-- what a function that marks comes to -/
def Marks {α : Type} (str : Bool) (d : Ty α) (w : World) (F : List Nat) (v : Value) (k : Nat) (y : α) (e : Ending) (w' : World) : Prop :=
  e = .returned (.int .i64 (k : Int)) ∧ (∃ F', OwF str d w' F' v y ∧ ∀ i, i ∈ F' → i ∈ F) ∧ Mod (· ∈ F) w w'
theorem OwV.mark {α : Type} {str : Bool} {d : Ty α} {w : World} {lo hi : Nat} {v : Value} {x y : α} {P : Program} {f : Nat} {args : Array Value} {k : Nat}
    (hc : ∀ F, OwF str d w F v x → Calls P f args w (Marks str d w F v k y)) (h : OwV str d w lo hi v x) :
    Calls P f args w fun e w' => e = .returned (.int .i64 (k : Int)) ∧ OwV str d w' lo hi v y ∧ Mod (fun i => lo ≤ i ∧ i < hi) w w' := by
  obtain ⟨cs, F, rfl, hM, hF⟩ := h
  refine (hc F ⟨cs, rfl, hM⟩).mono ?_
  rintro e w' ⟨rfl, ⟨F', ⟨cs', hv, hM'⟩, hF'⟩, hm⟩
  exact ⟨rfl, ⟨cs', F', hv, hM', fun i hi => hF i (hF' i hi)⟩, hm.mono fun i _ hi => hF i hi⟩
theorem OwF.slice {α : Type} {d : Ty α} {e : TypeId} {w : World} {F : List Nat} {v : Value} {xs : List α} (h : OwF false (Ty.slice e d) w F v xs) : ∃ A c, v = .slice A xs.length c ∧ Own d e w F v xs := by
  obtain ⟨cs, rfl, v', rfl, h⟩ := h
  obtain ⟨A, c, rfl, _⟩ := h.form
  exact ⟨A, c, rfl, h⟩
theorem OwF.of_slice {α : Type} {d : Ty α} {e : TypeId} {w : World} {F : List Nat} {v : Value} {xs : List α} (h : Own d e w F v xs) : OwF false (Ty.slice e d) w F v xs := ⟨[v], rfl, v, rfl, h⟩
end Go.Proofs.Ytciiejkfppnimaa.Mem

namespace Go.Proofs.Ytciiejkfppnimaa
open Go.RowKit Mem
set_option linter.unusedVariables false

def mkB (k n : Nat) : Bytes := (List.range n).map fun i => UInt8.ofNat (k + i)
theorem mkB_len (k n : Nat) : (mkB k n).length = n := by simp [mkB]
theorem mkB_at (k n i : Nat) (h : i < (mkB k n).length) : (mkB k n)[i] = UInt8.ofNat (k + i) := by simp [mkB]
theorem set_len {α : Type} (l : List α) (i : Nat) (x : α) : (l.set i x).length = l.length := List.length_set
theorem u8_of (m : Nat) : ((UInt8.ofNat m).toNat : Int) = IntKind.u8.wrap (m : Int) := by
  rw [IntKind.wrap_u8, UInt8.toNat_ofNat']; omega

set_option maxHeartbeats 400000 in
theorem markByteS_calls {A : Option Addr} {c : Nat} {xs : Bytes} {F : List Nat} {w : World} (h : Own Ty.byte 5 w F (.slice A xs.length c) xs) (k : Nat) (hk : k + xs.length ≤ 1152921504606846976) :
    Calls Try.prog 17 #[.slice A xs.length c, .int .i64 k] w fun e w' => e = .returned (.int .i64 ((k + xs.length : Nat) : Int)) ∧ ∃ F', Own Ty.byte 5 w' F' (.slice A (mkB k xs.length).length c) (mkB k xs.length) ∧ (∀ i, i ∈ F' → i ∈ F) ∧ Mod (· ∈ F) w w' := by
  have HO := Sec.mk h
  clear h
  go_enter Try.func17, Try.ntmps17
  go_wp2
  go_loopw [1, 5] (fun q i wr => ∃ (j : Nat) (ys : Bytes) (G : List Nat), j ≤ xs.length ∧ i = .int .i64 j ∧ q = .int .i64 ((k + j : Nat) : Int) ∧ Sec (ys.length = xs.length) ∧ Sec (ys.take j = (mkB k xs.length).take j) ∧ Sec (Own Ty.byte 5 wr G (.slice A xs.length c) ys) ∧ Sec (∀ k, k ∈ G → k ∈ F) ∧ Sec (Mod (· ∈ F) w wr)) (fun _ i _ => xs.length - (intOf i).toNat)
  case atStart => exact ⟨0, xs, F, Nat.zero_le _, rfl, rfl, ⟨rfl⟩, ⟨by simp⟩, HO, ⟨fun _ h => h⟩, ⟨Mod.refl _ _⟩⟩
  case round =>
    obtain ⟨j, ys, G, hj, rfl, rfl, HL, HT, HO, HF, HM⟩ := hrel
    by_cases hlt : j < xs.length
    · obtain ⟨g, rfl, hgF, hc0, hfz0, hst⟩ := HO.out.byte_elem (j := j) (by rw [HL.out]; exact hlt)
      obtain ⟨G', ho', hG'⟩ := hst (UInt8.ofNat (k + j))
      have HU := Sec.mk (u8_of (k + j))
      have HO' := Sec.mk ho'
      have HG' := Sec.mk hG'
      have HgF := Sec.mk hgF
      clear hst ho' hG' hgF
      go_wp2
      go_roundw
      case rel =>
        refine ⟨j + 1, _, G', by omega, by go_num, by go_num, ⟨(set_len ys j (UInt8.ofNat (k + j))).trans HL.out⟩, ⟨?_⟩, ⟨?_⟩, ⟨fun i hi => HF.out i (HG'.out i hi)⟩, ⟨?_⟩⟩
        · have := set_prefix (mkB k xs.length) ys j (by rw [mkB_len]; exact hlt) (by rw [mkB_len]; exact HL.out) HT.out
          rwa [mkB_at] at this
        · have := HO'.out
          rw [HU.out, IntKind.wrap_u8, Int.natCast_add] at this
          exact this
        · exact HM.out.setCell (fun _ => HF.out _ HgF.out) _
      case measure => simp [intOf]; omega
    · obtain rfl : j = xs.length := by omega
      go_wp2
      go_ret
      have he : ys = mkB k xs.length := by
        have h1 := HT.out
        rw [List.take_of_length_le (by rw [HL.out]; omega), List.take_of_length_le (by rw [mkB_len]; omega)] at h1
        exact h1
      refine ⟨by simp, G, ?_, HF.out, HM.out⟩
      rw [mkB_len, ← he]
      exact HO.out

set_option maxHeartbeats 400000 in
theorem heldByteS_calls {A : Option Addr} {c : Nat} {xs : Bytes} {B : Nat → Prop} {w : World} (h : Row Ty.byte w B A xs.length xs) (k : Nat) (hx : xs = mkB k xs.length) (hk : k + xs.length ≤ 1152921504606846976) :
    Calls Try.prog 38 #[.slice A xs.length c, .int .i64 k] w (Ret (.int .i64 ((k + xs.length : Nat) : Int)) w) := by
  have HR := Sec.mk h
  have HX := Sec.mk hx
  clear h hx
  go_enter Try.func38, Try.ntmps38
  go_wp2
  go_loopw [1, 5] (fun q i wr => ∃ (j : Nat), j ≤ xs.length ∧ i = .int .i64 j ∧ q = .int .i64 ((k + j : Nat) : Int) ∧ wr = w) (fun _ i _ => xs.length - (intOf i).toNat)
  case atStart => exact ⟨0, Nat.zero_le _, rfl, rfl, rfl⟩
  case round =>
    obtain ⟨j, hj, rfl, rfl, rfl⟩ := hrel
    by_cases hlt : j < xs.length
    · obtain ⟨ad, rfl, hx⟩ := HR.out.byte_at (fun i hi => rfl) hlt
      have hv : xs[j] = UInt8.ofNat (k + j) := by
        have := mkB_at k xs.length j (by rw [mkB_len]; exact hlt)
        rw [← this]; congr 1; exact HX.out
      rw [hv, u8_of] at hx
      clear hv
      go_wp2
      go_roundw
      case rel => exact ⟨j + 1, by omega, by go_num, by go_num, trivial⟩
      case measure => simp [intOf]; omega
    · obtain rfl : j = xs.length := by omega
      go_wp2
      go_ret
      exact ⟨by simp, Mod.refl _ _⟩
end Go.Proofs.Ytciiejkfppnimaa
