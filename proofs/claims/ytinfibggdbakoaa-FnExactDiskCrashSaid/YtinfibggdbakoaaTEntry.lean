/- The laws' copies and sizes of Entry. -/
import Derived.Test.YtinfibggdbakoaaSEntry
import Derived.Test.YtinfibggdbakoaaSzLib
namespace Go.Proofs.Ytinfibggdbakoaa
open Go.RowKit Mem
set_option linter.unusedVariables false
set_option linter.unusedSimpArgs false
theorem lenEntry0 {w : World} {v : Value} {x : EntryT} (h : RdV true dEntry w v x) : x.1.length ≤ 9223372036854775807 := by
  obtain ⟨cs, rfl, c0, c1, rfl, h0, h1⟩ := h
  exact h0.2
theorem okEntry {w : World} {v : Value} {x : EntryT} (h : RdV true dEntry w v x) : x.1.length ≤ 9223372036854775807 ∧ IntKind.i64.wrap x.2 = x.2 := by
  obtain ⟨cs, rfl, c0, c1, rfl, h0, h1⟩ := h
  exact ⟨h0.2, h1.2⟩
def zEntry : EntryT := ([], 0)
theorem zmEntry (w : World) : dEntry.M w [] zEntry [.string ⟨#[]⟩, .int .i64 0] := mEntry (Nat.zero_le _) (show IntKind.i64.wrap 0 = 0 by decide)
theorem cellsEntry_M {w : World} {F : List Nat} {x : EntryT} {cs : List Value} (h : dEntry.M w F x cs) : cs = [.string ⟨(x.1).toArray⟩, .int .i64 x.2] := by
  obtain ⟨c0, c1, E0, E1, rfl, rfl, nd0, h0, h1⟩ := h
  obtain ⟨_, rfl, _⟩ := h0
  obtain ⟨_, rfl, _⟩ := h1
  exact rfl
def szEntry (x : EntryT) : Nat := (x.1.length)
set_option maxHeartbeats 1000000 in
set_option maxRecDepth 100000 in
theorem szEntry_v {w : World} {v : Value} {x : EntryT} (h : RdV true dEntry w v x) (left : Int) (h0 : 0 ≤ left) (h1 : left ≤ 1048576) : Calls Try.prog 52 #[v, .int .i64 left] w (SzR w left (szEntry x)) := by
  obtain rfl := rdEntry h
  have b0 : x.1.length ≤ 9223372036854775807 := lenEntry0 h
  have HB0 := Sec.mk (Blk.new w 83 [.string ⟨(x.1).toArray⟩, .int .i64 x.2])
  have HM0 := Sec.mk ((Mod.refl (fun _ => False) w).alloc (.cells #[.string ⟨(x.1).toArray⟩, .int .i64 x.2] 83))
  have HS : Sec (szEntry x = (x.1.length)) := ⟨rfl⟩
  clear h 
  have hz0 : (⟨x.1.toArray⟩ : ByteArray).size = x.1.length := by simp [ByteArray.size]
  generalize hs : szEntry x = s at *
  clear hs
  obtain ⟨c0, hc0⟩ : ∃ c, c = x.1.length := ⟨_, rfl⟩
  rw [← hc0] at HS
  rw [← hc0] at hz0 b0
  have HC0 := Sec.mk hc0
  clear hc0
  by_cases g0 : left < (c0 : Int)
  · have hn0 : left - (c0 : Int) < 0 := by omega
    go_enter Try.func52, Try.ntmps52
    go_wp2
    go_ret
    exact ⟨by rw [if_pos (by have := HS.out; omega)]; rfl, HM0.out⟩
  go_enter Try.func52, Try.ntmps52
  have l0 : ¬ left - (c0 : Int) < 0 := by omega
  go_wp2
  go_ret
  exact ⟨by rw [if_neg (by have := HS.out; omega)]; have := HS.out; simp; omega, HM0.out⟩
set_option maxHeartbeats 1000000 in
set_option maxRecDepth 100000 in
theorem toEntry_v {w : World} {v : Value} {x : EntryT} (h : RdV true dEntry w v x) (hs : szEntry x ≤ 1048576) : Calls Try.prog 58 #[v] w (RetV true dEntry w x) := by
  have HG := Sec.mk (okEntry h)
  obtain rfl := rdEntry h
  clear h
  go_enter Try.func58, Try.ntmps58
  go_wp2
  exact bodyPost_ret (v := .agg #[.string ⟨(x.1).toArray⟩, .int .i64 x.2]) (by simp [results, Try.results58, go_sem]) rfl ⟨_, rfl, ⟨_, [], rfl, mEntry HG.out.1 HG.out.2, by simp⟩, ((Mod.refl _ _).alloc _).alloc _ |>.alloc _⟩
def szEntryS (xs : EntryST) : Nat := xs.length + preS szEntry xs xs.length
theorem szEntryS_mem {xs : EntryST} {x : EntryT} (h : x ∈ xs) : szEntry x ≤ szEntryS xs := by
  obtain ⟨j, hj, rfl⟩ := List.getElem_of_mem h
  have h1 := preS_succ szEntry xs hj
  have h2 := preS_le szEntry xs (j + 1)
  unfold szEntryS; omega
set_option maxHeartbeats 1000000 in
set_option maxRecDepth 100000 in
theorem szEntryS_s {w : World} {v : Value} {xs : EntryST} (h : RdV false dEntryS w v xs) (left : Int) (h0 : 0 ≤ left) (h1 : left ≤ 1048576) : Calls Try.prog 24 #[v, .int .i64 left] w (SzR w left (szEntryS xs)) := by
  obtain ⟨A, c, rfl, -, hr⟩ := h.slice
  have hl := hr.2.1
  have HR := Sec.mk hr
  have HS : Sec (szEntryS xs = xs.length + preS szEntry xs xs.length) := ⟨rfl⟩
  clear h hr
  generalize hs : szEntryS xs = S at *
  clear hs
  by_cases hlt : left < xs.length
  · have hlt0 : left - (xs.length : Int) < 0 := by omega
    go_enter Try.func24, Try.ntmps24
    go_wp2
    go_ret
    exact ⟨by rw [if_pos (by have := HS.out; omega)]; rfl, Mod.refl _ _⟩
  have hlt0 : ¬ left - (xs.length : Int) < 0 := by omega
  go_enter Try.func24, Try.ntmps24
  go_wp2
  go_loopw [1, 5] (fun q i wr => ∃ (k : Nat), k ≤ xs.length ∧ i = .int .i64 k ∧ q = .int .i64 (left - xs.length - (preS szEntry xs k : Nat)) ∧ (preS szEntry xs k : Int) ≤ left - xs.length ∧ Sec (New w wr)) (fun _ i _ => xs.length - (intOf i).toNat)
  case atStart => exact ⟨0, Nat.zero_le _, rfl, by rw [preS_zero]; simp, by rw [preS_zero]; omega, ⟨Mod.refl _ _⟩⟩
  case round =>
    obtain ⟨k, hk, rfl, rfl, hle, HM⟩ := hrel
    by_cases hkl : k < xs.length
    · obtain ⟨ad, cs, rfl, hx⟩ := HR.out.elemc hkl
      obtain ⟨hx2, hc0, hcs⟩ := hx wr (fun i hi => HM.out.block i hi id) (fun i hi => Nat.lt_of_lt_of_le hi HM.out.size)
      have hv := rdEntry hx2
      have hcc : cs = [.string ⟨(xs[k].1).toArray⟩, .int .i64 xs[k].2] := by injection hv with hv; simpa using hv
      subst hcc
      have e0 := hc0 _ rfl
      have e1 := hcs 0 _ rfl
      simp only [show dEntry.sz = 2 from rfl] at e0 e1
      have HX2 := Sec.mk hx2
      clear hx hx2 hc0 hcs hv
      have HP := Sec.mk (preS_succ szEntry xs hkl)
      have HPL := Sec.mk (preS_le szEntry xs (k + 1))
      have HSX : Sec (∃ t, t = szEntry xs[k]) := ⟨⟨_, rfl⟩⟩
      obtain ⟨t, ht⟩ := HSX.out
      rw [← ht] at HP
      have HT := Sec.mk ht
      clear ht HSX
      generalize preS szEntry xs k = s at *
      have hki : (k : Int) < (xs.length : Int) := by omega
      by_cases hs : left - xs.length - s < t
      · go_wp2_with fail
        refine (szEntry_v HX2.out (left - xs.length - s) (by omega) (by omega)).mono ?_
        rintro e w1 ⟨rfl, hm1⟩
        rw [← HT.out, if_pos hs]
        have HM1 := Sec.mk (HM.out.transN hm1)
        clear hm1
        go_wp2
        go_ret
        exact ⟨by rw [if_pos (by have := HS.out; have := HP.out; have := HPL.out; omega)]; rfl, HM1.out⟩
      · go_wp2_with fail
        refine (szEntry_v HX2.out (left - xs.length - s) (by omega) (by omega)).mono ?_
        rintro e w1 ⟨rfl, hm1⟩
        rw [← HT.out, if_neg (by omega)]
        have HM1 := Sec.mk (HM.out.transN hm1)
        have hs0 : ¬ left - (xs.length : Int) - (s : Int) - (t : Int) < 0 := by omega
        clear hm1
        go_wp2
        go_roundw
        case rel => exact ⟨k + 1, by omega, by go_num, by rw [HP.out]; congr 1; omega, by rw [HP.out]; omega, HM1⟩
        case measure => simp [intOf]; omega
    · obtain rfl : k = xs.length := by omega
      generalize preS szEntry xs xs.length = s at *
      go_wp2
      go_ret
      exact ⟨by rw [if_neg (by have := HS.out; omega)]; have := HS.out; simp; omega, HM.out⟩
set_option maxHeartbeats 1000000 in
set_option maxRecDepth 100000 in
theorem toEntryS_v {w : World} {v : Value} {xs : EntryST} (h : RdV false dEntryS w v xs) (hs : szEntryS xs ≤ 1048576) : Calls Try.prog 30 #[v] w (RetV false dEntryS w xs) := by
  obtain ⟨A, c, rfl, -, hr⟩ := h.slice
  have hl := hr.2.1
  have HR := Sec.mk hr
  have hlen : xs.length ≤ 1048576 := by unfold szEntryS at hs; omega
  have HEL := Sec.mk (fun x (hx : x ∈ xs) => Nat.le_trans (szEntryS_mem hx) hs)
  clear h hr hs
  refine Calls.mono (R := RetOwn dEntry 70 w xs) ?_ (fun _ _ h => h.toV)
  go_enter Try.func30, Try.ntmps30
  go_wp2_with (refine wpList_make _ rfl (.tmp 6) _ rfl dEntry 70 Try.underlying30 eltEntry zEntry (fun _ => zmEntry _) xs.length rfl (by omega) ?_; intro w1 ho1 hm1; have HO1 := Sec.mk ho1; have HM1 := Sec.mk hm1; clear ho1 hm1)
  go_loopw [4] (fun i wr => ∃ (k : Nat) (ys : EntryST) (F : List Nat), k ≤ xs.length ∧ i = .int .i64 k ∧ Sec (ys.length = xs.length) ∧ Sec (ys.take k = xs.take k) ∧ Sec (Own dEntry 70 wr F (.slice (some ⟨w.heap.size, 0, none⟩) xs.length xs.length) ys) ∧ Sec (∀ k, k ∈ F → w.heap.size ≤ k) ∧ Sec (New w wr)) (fun i _ => xs.length - (intOf i).toNat)
  case atStart => exact ⟨0, _, _, Nat.zero_le _, rfl, Sec.mk (by simp), Sec.mk (by simp), HO1, Sec.mk (by simp), HM1⟩
  case round =>
    obtain ⟨k, ys, F, hk, rfl, HL, HT, HO, HF, HM⟩ := hrel
    clear HO1 HM1
    by_cases hlt : k < xs.length
    · obtain ⟨ad, cs, rfl, hx⟩ := HR.out.elemc hlt
      obtain ⟨hx2, hc0, hcs⟩ := hx wr (fun i hi => HM.out.block i hi id) (fun i hi => Nat.lt_of_lt_of_le hi HM.out.size)
      have hv := rdEntry hx2
      have hcc : cs = [.string ⟨(xs[k].1).toArray⟩, .int .i64 xs[k].2] := by injection hv with hv; simpa using hv
      subst hcc
      have e0 := hc0 _ rfl
      have e1 := hcs 0 _ rfl
      simp only [show dEntry.sz = 2 from rfl] at e0 e1
      have HX2 := Sec.mk hx2
      clear hx hx2 hc0 hcs hv
      have HE := Sec.mk (HEL.out xs[k] (List.getElem_mem _))
      have HPX : Sec (∃ q : EntryT, q = xs[k]) := ⟨⟨_, rfl⟩⟩
      obtain ⟨q, hq⟩ := HPX.out
      rw [← hq] at HX2 HE e0 e1
      have HQ := Sec.mk hq
      clear hq HPX
      have hki : (k : Int) < (xs.length : Int) := by omega
      go_wp2_with fail
      refine (toEntry_v HX2.out HE.out).mono ?_
      rintro e w2 ⟨v2, rfl, ⟨cs2, F2, hv2, hM2, hF2⟩, hm2⟩
      have hM2' := hM2
      have hcs2 := cellsEntry_M hM2'
      have hv3 : v2 = .agg #[.string ⟨(q.1).toArray⟩, .int .i64 q.2] := by rw [hv2, hcs2]; rfl
      subst hcs2
      clear hv2
      subst hv3
      have HM2 := Sec.mk (HM.out.transN hm2)
      have HLT := Sec.mk HO.out.lt
      obtain ⟨g, f, hA, hgF, hgf, hff, hcell, hfz, hst⟩ := (HO.out.new hm2).put (j := k) (by rw [HL.out]; exact hlt)
      have hA' : w.heap.size = g := by injection hA with hA; injection hA
      subst hA'
      obtain ⟨o0, hc0⟩ := hcell 0 (by decide)
      have hf0 := hfz (k * 2)
      obtain ⟨o1, hc1⟩ := hcell 1 (by decide)
      have hf1 := hfz (k * 2 + 1)
      simp only [show dEntry.sz = 2 from rfl, Nat.add_zero] at hc0 hc1 hst
      have hs2 := hm2.size
      obtain ⟨F', ho', hg', hF'⟩ := hst [.string ⟨(q.1).toArray⟩, .int .i64 q.2] q F2 (dEntry.M_mod hM2 fun i hi => putRow_far _ _ _ _ (fun e => by have := hF2 i hi; have := HLT.out _ hgF; omega)) (fun i hi => .inr fun hiF => absurd (HLT.out i hiF) (by have := hF2 i hi; omega))
      have HO' := Sec.mk ho'
      have HF' : Sec (∀ i, i ∈ F' → w.heap.size ≤ i) := ⟨fun i hi => (hF' i hi).elim (HF.out i) (fun h => by have := hF2 i h; have := HM.out.size; omega)⟩
      clear hA hgF hgf hff hcell hfz hst ho' hg' hF' hm2 hM2 hF2 HLT
      go_wp2
      go_roundw
      case rel => exact ⟨k + 1, _, F', by omega, by go_num, ⟨(set_len ys k q).trans HL.out⟩, ⟨by rw [HQ.out]; exact set_prefix xs ys k hlt HL.out HT.out⟩, HO', HF', ⟨putRow_mod (fun h => absurd h (Nat.lt_irrefl _)) [.string ⟨(q.1).toArray⟩, .int .i64 q.2] _ 0 HM2.out⟩⟩
      case measure => simp [intOf]; omega
    · go_wp2
      go_ret
      have he : ys = xs := by
        have h1 := HT.out
        rw [List.take_of_length_le (by rw [HL.out]; omega), List.take_of_length_le (by omega)] at h1
        exact h1
      subst he
      exact RetOwn.of HO.out HF.out HM.out
end Go.Proofs.Ytinfibggdbakoaa
