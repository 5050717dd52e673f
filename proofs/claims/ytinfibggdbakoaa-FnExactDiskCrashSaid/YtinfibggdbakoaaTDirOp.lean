/- The laws' copies and sizes of DirOp. -/
import Derived.Test.YtinfibggdbakoaaSDirOp
import Derived.Test.YtinfibggdbakoaaSzLib
namespace Go.Proofs.Ytinfibggdbakoaa
open Go.RowKit Mem
set_option linter.unusedVariables false
set_option linter.unusedSimpArgs false
theorem lenDirOp1 {w : World} {v : Value} {x : DirOpT} (h : RdV true dDirOp w v x) : x.2.1.length ≤ 9223372036854775807 := by
  obtain ⟨cs, rfl, c0, r0, rfl, h0, c1, r1, rfl, h1, c2, c3, rfl, h2, h3⟩ := h
  exact h1.2
theorem lenDirOp2 {w : World} {v : Value} {x : DirOpT} (h : RdV true dDirOp w v x) : x.2.2.1.length ≤ 9223372036854775807 := by
  obtain ⟨cs, rfl, c0, r0, rfl, h0, c1, r1, rfl, h1, c2, c3, rfl, h2, h3⟩ := h
  exact h2.2
theorem okDirOp {w : World} {v : Value} {x : DirOpT} (h : RdV true dDirOp w v x) : IntKind.i64.wrap x.1 = x.1 ∧ x.2.1.length ≤ 9223372036854775807 ∧ x.2.2.1.length ≤ 9223372036854775807 ∧ IntKind.i64.wrap x.2.2.2 = x.2.2.2 := by
  obtain ⟨cs, rfl, c0, r0, rfl, h0, c1, r1, rfl, h1, c2, c3, rfl, h2, h3⟩ := h
  exact ⟨h0.2, h1.2, h2.2, h3.2⟩
def zDirOp : DirOpT := (0, [], [], 0)
theorem zmDirOp (w : World) : dDirOp.M w [] zDirOp [.int .i64 0, .string ⟨#[]⟩, .string ⟨#[]⟩, .int .i64 0] := mDirOp (show IntKind.i64.wrap 0 = 0 by decide) (Nat.zero_le _) (Nat.zero_le _) (show IntKind.i64.wrap 0 = 0 by decide)
theorem cellsDirOp_M {w : World} {F : List Nat} {x : DirOpT} {cs : List Value} (h : dDirOp.M w F x cs) : cs = [.int .i64 x.1, .string ⟨(x.2.1).toArray⟩, .string ⟨(x.2.2.1).toArray⟩, .int .i64 x.2.2.2] := by
  obtain ⟨c0, r0, E0, R0, rfl, rfl, nd0, h0, c1, r1, E1, R1, rfl, rfl, nd1, h1, c2, c3, E2, E3, rfl, rfl, nd2, h2, h3⟩ := h
  obtain ⟨_, rfl, _⟩ := h0
  obtain ⟨_, rfl, _⟩ := h1
  obtain ⟨_, rfl, _⟩ := h2
  obtain ⟨_, rfl, _⟩ := h3
  exact rfl
def szDirOp (x : DirOpT) : Nat := (x.2.1.length) + (x.2.2.1.length)
set_option maxHeartbeats 1000000 in
set_option maxRecDepth 100000 in
theorem szDirOp_v {w : World} {v : Value} {x : DirOpT} (h : RdV true dDirOp w v x) (left : Int) (h0 : 0 ≤ left) (h1 : left ≤ 1048576) : Calls Try.prog 53 #[v, .int .i64 left] w (SzR w left (szDirOp x)) := by
  obtain rfl := rdDirOp h
  have b1 : x.2.1.length ≤ 9223372036854775807 := lenDirOp1 h
  have b2 : x.2.2.1.length ≤ 9223372036854775807 := lenDirOp2 h
  have HB0 := Sec.mk (Blk.new w 85 [.int .i64 x.1, .string ⟨(x.2.1).toArray⟩, .string ⟨(x.2.2.1).toArray⟩, .int .i64 x.2.2.2])
  have HM0 := Sec.mk ((Mod.refl (fun _ => False) w).alloc (.cells #[.int .i64 x.1, .string ⟨(x.2.1).toArray⟩, .string ⟨(x.2.2.1).toArray⟩, .int .i64 x.2.2.2] 85))
  have HS : Sec (szDirOp x = (x.2.1.length) + (x.2.2.1.length)) := ⟨rfl⟩
  clear h 
  have hz1 : (⟨x.2.1.toArray⟩ : ByteArray).size = x.2.1.length := by simp [ByteArray.size]
  have hz2 : (⟨x.2.2.1.toArray⟩ : ByteArray).size = x.2.2.1.length := by simp [ByteArray.size]
  generalize hs : szDirOp x = s at *
  clear hs
  obtain ⟨c1, hc1⟩ : ∃ c, c = x.2.1.length := ⟨_, rfl⟩
  obtain ⟨c2, hc2⟩ : ∃ c, c = x.2.2.1.length := ⟨_, rfl⟩
  rw [← hc1, ← hc2] at HS
  rw [← hc1] at hz1 b1
  rw [← hc2] at hz2 b2
  have HC1 := Sec.mk hc1
  have HC2 := Sec.mk hc2
  clear hc1 hc2
  by_cases g1 : left < (c1 : Int)
  · have hn1 : left - (c1 : Int) < 0 := by omega
    go_enter Try.func53, Try.ntmps53
    go_wp2
    go_ret
    exact ⟨by rw [if_pos (by have := HS.out; omega)]; rfl, HM0.out⟩
  by_cases g2 : left < (c1 : Int) + (c2 : Int)
  · have hn2 : left - (c1 : Int) - (c2 : Int) < 0 := by omega
    go_enter Try.func53, Try.ntmps53
    have l1 : ¬ left - (c1 : Int) < 0 := by omega
    go_wp2
    go_ret
    exact ⟨by rw [if_pos (by have := HS.out; omega)]; rfl, HM0.out⟩
  go_enter Try.func53, Try.ntmps53
  have l1 : ¬ left - (c1 : Int) < 0 := by omega
  have l2 : ¬ left - (c1 : Int) - (c2 : Int) < 0 := by omega
  go_wp2
  go_ret
  exact ⟨by rw [if_neg (by have := HS.out; omega)]; have := HS.out; simp; omega, HM0.out⟩
set_option maxHeartbeats 1000000 in
set_option maxRecDepth 100000 in
theorem toDirOp_v {w : World} {v : Value} {x : DirOpT} (h : RdV true dDirOp w v x) (hs : szDirOp x ≤ 1048576) : Calls Try.prog 59 #[v] w (RetV true dDirOp w x) := by
  have HG := Sec.mk (okDirOp h)
  obtain rfl := rdDirOp h
  clear h
  go_enter Try.func59, Try.ntmps59
  go_wp2
  exact bodyPost_ret (v := .agg #[.int .i64 x.1, .string ⟨(x.2.1).toArray⟩, .string ⟨(x.2.2.1).toArray⟩, .int .i64 x.2.2.2]) (by simp [results, Try.results59, go_sem]) rfl ⟨_, rfl, ⟨_, [], rfl, mDirOp HG.out.1 HG.out.2.1 HG.out.2.2.1 HG.out.2.2.2, by simp⟩, ((Mod.refl _ _).alloc _).alloc _ |>.alloc _⟩
def szDirOpS (xs : DirOpST) : Nat := xs.length + preS szDirOp xs xs.length
theorem szDirOpS_mem {xs : DirOpST} {x : DirOpT} (h : x ∈ xs) : szDirOp x ≤ szDirOpS xs := by
  obtain ⟨j, hj, rfl⟩ := List.getElem_of_mem h
  have h1 := preS_succ szDirOp xs hj
  have h2 := preS_le szDirOp xs (j + 1)
  unfold szDirOpS; omega
set_option maxHeartbeats 1000000 in
set_option maxRecDepth 100000 in
theorem szDirOpS_s {w : World} {v : Value} {xs : DirOpST} (h : RdV false dDirOpS w v xs) (left : Int) (h0 : 0 ≤ left) (h1 : left ≤ 1048576) : Calls Try.prog 25 #[v, .int .i64 left] w (SzR w left (szDirOpS xs)) := by
  obtain ⟨A, c, rfl, -, hr⟩ := h.slice
  have hl := hr.2.1
  have HR := Sec.mk hr
  have HS : Sec (szDirOpS xs = xs.length + preS szDirOp xs xs.length) := ⟨rfl⟩
  clear h hr
  generalize hs : szDirOpS xs = S at *
  clear hs
  by_cases hlt : left < xs.length
  · have hlt0 : left - (xs.length : Int) < 0 := by omega
    go_enter Try.func25, Try.ntmps25
    go_wp2
    go_ret
    exact ⟨by rw [if_pos (by have := HS.out; omega)]; rfl, Mod.refl _ _⟩
  have hlt0 : ¬ left - (xs.length : Int) < 0 := by omega
  go_enter Try.func25, Try.ntmps25
  go_wp2
  go_loopw [1, 5] (fun q i wr => ∃ (k : Nat), k ≤ xs.length ∧ i = .int .i64 k ∧ q = .int .i64 (left - xs.length - (preS szDirOp xs k : Nat)) ∧ (preS szDirOp xs k : Int) ≤ left - xs.length ∧ Sec (New w wr)) (fun _ i _ => xs.length - (intOf i).toNat)
  case atStart => exact ⟨0, Nat.zero_le _, rfl, by rw [preS_zero]; simp, by rw [preS_zero]; omega, ⟨Mod.refl _ _⟩⟩
  case round =>
    obtain ⟨k, hk, rfl, rfl, hle, HM⟩ := hrel
    by_cases hkl : k < xs.length
    · obtain ⟨ad, cs, rfl, hx⟩ := HR.out.elemc hkl
      obtain ⟨hx2, hc0, hcs⟩ := hx wr (fun i hi => HM.out.block i hi id) (fun i hi => Nat.lt_of_lt_of_le hi HM.out.size)
      have hv := rdDirOp hx2
      have hcc : cs = [.int .i64 xs[k].1, .string ⟨(xs[k].2.1).toArray⟩, .string ⟨(xs[k].2.2.1).toArray⟩, .int .i64 xs[k].2.2.2] := by injection hv with hv; simpa using hv
      subst hcc
      have e0 := hc0 _ rfl
      have e1 := hcs 0 _ rfl
      have e2 := hcs 1 _ rfl
      have e3 := hcs 2 _ rfl
      simp only [show dDirOp.sz = 4 from rfl] at e0 e1 e2 e3
      have HX2 := Sec.mk hx2
      clear hx hx2 hc0 hcs hv
      have HP := Sec.mk (preS_succ szDirOp xs hkl)
      have HPL := Sec.mk (preS_le szDirOp xs (k + 1))
      have HSX : Sec (∃ t, t = szDirOp xs[k]) := ⟨⟨_, rfl⟩⟩
      obtain ⟨t, ht⟩ := HSX.out
      rw [← ht] at HP
      have HT := Sec.mk ht
      clear ht HSX
      generalize preS szDirOp xs k = s at *
      have hki : (k : Int) < (xs.length : Int) := by omega
      by_cases hs : left - xs.length - s < t
      · go_wp2_with fail
        refine (szDirOp_v HX2.out (left - xs.length - s) (by omega) (by omega)).mono ?_
        rintro e w1 ⟨rfl, hm1⟩
        rw [← HT.out, if_pos hs]
        have HM1 := Sec.mk (HM.out.transN hm1)
        clear hm1
        go_wp2
        go_ret
        exact ⟨by rw [if_pos (by have := HS.out; have := HP.out; have := HPL.out; omega)]; rfl, HM1.out⟩
      · go_wp2_with fail
        refine (szDirOp_v HX2.out (left - xs.length - s) (by omega) (by omega)).mono ?_
        rintro e w1 ⟨rfl, hm1⟩
        rw [← HT.out, if_neg (by omega)]
        have HM1 := Sec.mk (HM.out.transN hm1)
        have hs0 : ¬ left - (xs.length : Int) - (s : Int) - (t : Int) < 0 := by omega
        clear hm1
        go_wp2
        go_roundw
        case rel => exact ⟨k + 1, by omega, by go_num, by rw [HP.out]; congr 1; omega, by rw [HP.out]; omega, HM1⟩
        case measure => simp [intOf]; omega
    · obtain rfl : k = xs.length := by omega
      generalize preS szDirOp xs xs.length = s at *
      go_wp2
      go_ret
      exact ⟨by rw [if_neg (by have := HS.out; omega)]; have := HS.out; simp; omega, HM.out⟩
set_option maxHeartbeats 1000000 in
set_option maxRecDepth 100000 in
theorem toDirOpS_v {w : World} {v : Value} {xs : DirOpST} (h : RdV false dDirOpS w v xs) (hs : szDirOpS xs ≤ 1048576) : Calls Try.prog 31 #[v] w (RetV false dDirOpS w xs) := by
  obtain ⟨A, c, rfl, -, hr⟩ := h.slice
  have hl := hr.2.1
  have HR := Sec.mk hr
  have hlen : xs.length ≤ 1048576 := by unfold szDirOpS at hs; omega
  have HEL := Sec.mk (fun x (hx : x ∈ xs) => Nat.le_trans (szDirOpS_mem hx) hs)
  clear h hr hs
  refine Calls.mono (R := RetOwn dDirOp 58 w xs) ?_ (fun _ _ h => h.toV)
  go_enter Try.func31, Try.ntmps31
  go_wp2_with (refine wpList_make _ rfl (.tmp 6) _ rfl dDirOp 58 Try.underlying31 eltDirOp zDirOp (fun _ => zmDirOp _) xs.length rfl (by omega) ?_; intro w1 ho1 hm1; have HO1 := Sec.mk ho1; have HM1 := Sec.mk hm1; clear ho1 hm1)
  go_loopw [4] (fun i wr => ∃ (k : Nat) (ys : DirOpST) (F : List Nat), k ≤ xs.length ∧ i = .int .i64 k ∧ Sec (ys.length = xs.length) ∧ Sec (ys.take k = xs.take k) ∧ Sec (Own dDirOp 58 wr F (.slice (some ⟨w.heap.size, 0, none⟩) xs.length xs.length) ys) ∧ Sec (∀ k, k ∈ F → w.heap.size ≤ k) ∧ Sec (New w wr)) (fun i _ => xs.length - (intOf i).toNat)
  case atStart => exact ⟨0, _, _, Nat.zero_le _, rfl, Sec.mk (by simp), Sec.mk (by simp), HO1, Sec.mk (by simp), HM1⟩
  case round =>
    obtain ⟨k, ys, F, hk, rfl, HL, HT, HO, HF, HM⟩ := hrel
    clear HO1 HM1
    by_cases hlt : k < xs.length
    · obtain ⟨ad, cs, rfl, hx⟩ := HR.out.elemc hlt
      obtain ⟨hx2, hc0, hcs⟩ := hx wr (fun i hi => HM.out.block i hi id) (fun i hi => Nat.lt_of_lt_of_le hi HM.out.size)
      have hv := rdDirOp hx2
      have hcc : cs = [.int .i64 xs[k].1, .string ⟨(xs[k].2.1).toArray⟩, .string ⟨(xs[k].2.2.1).toArray⟩, .int .i64 xs[k].2.2.2] := by injection hv with hv; simpa using hv
      subst hcc
      have e0 := hc0 _ rfl
      have e1 := hcs 0 _ rfl
      have e2 := hcs 1 _ rfl
      have e3 := hcs 2 _ rfl
      simp only [show dDirOp.sz = 4 from rfl] at e0 e1 e2 e3
      have HX2 := Sec.mk hx2
      clear hx hx2 hc0 hcs hv
      have HE := Sec.mk (HEL.out xs[k] (List.getElem_mem _))
      have HPX : Sec (∃ q : DirOpT, q = xs[k]) := ⟨⟨_, rfl⟩⟩
      obtain ⟨q, hq⟩ := HPX.out
      rw [← hq] at HX2 HE e0 e1 e2 e3
      have HQ := Sec.mk hq
      clear hq HPX
      have hki : (k : Int) < (xs.length : Int) := by omega
      go_wp2_with fail
      refine (toDirOp_v HX2.out HE.out).mono ?_
      rintro e w2 ⟨v2, rfl, ⟨cs2, F2, hv2, hM2, hF2⟩, hm2⟩
      have hM2' := hM2
      have hcs2 := cellsDirOp_M hM2'
      have hv3 : v2 = .agg #[.int .i64 q.1, .string ⟨(q.2.1).toArray⟩, .string ⟨(q.2.2.1).toArray⟩, .int .i64 q.2.2.2] := by rw [hv2, hcs2]; rfl
      subst hcs2
      clear hv2
      subst hv3
      have HM2 := Sec.mk (HM.out.transN hm2)
      have HLT := Sec.mk HO.out.lt
      obtain ⟨g, f, hA, hgF, hgf, hff, hcell, hfz, hst⟩ := (HO.out.new hm2).put (j := k) (by rw [HL.out]; exact hlt)
      have hA' : w.heap.size = g := by injection hA with hA; injection hA
      subst hA'
      obtain ⟨o0, hc0⟩ := hcell 0 (by decide)
      have hf0 := hfz (k * 4)
      obtain ⟨o1, hc1⟩ := hcell 1 (by decide)
      have hf1 := hfz (k * 4 + 1)
      obtain ⟨o2, hc2⟩ := hcell 2 (by decide)
      have hf2 := hfz (k * 4 + 2)
      obtain ⟨o3, hc3⟩ := hcell 3 (by decide)
      have hf3 := hfz (k * 4 + 3)
      simp only [show dDirOp.sz = 4 from rfl, Nat.add_zero] at hc0 hc1 hc2 hc3 hst
      have hs2 := hm2.size
      obtain ⟨F', ho', hg', hF'⟩ := hst [.int .i64 q.1, .string ⟨(q.2.1).toArray⟩, .string ⟨(q.2.2.1).toArray⟩, .int .i64 q.2.2.2] q F2 (dDirOp.M_mod hM2 fun i hi => putRow_far _ _ _ _ (fun e => by have := hF2 i hi; have := HLT.out _ hgF; omega)) (fun i hi => .inr fun hiF => absurd (HLT.out i hiF) (by have := hF2 i hi; omega))
      have HO' := Sec.mk ho'
      have HF' : Sec (∀ i, i ∈ F' → w.heap.size ≤ i) := ⟨fun i hi => (hF' i hi).elim (HF.out i) (fun h => by have := hF2 i h; have := HM.out.size; omega)⟩
      clear hA hgF hgf hff hcell hfz hst ho' hg' hF' hm2 hM2 hF2 HLT
      go_wp2
      go_roundw
      case rel => exact ⟨k + 1, _, F', by omega, by go_num, ⟨(set_len ys k q).trans HL.out⟩, ⟨by rw [HQ.out]; exact set_prefix xs ys k hlt HL.out HT.out⟩, HO', HF', ⟨putRow_mod (fun h => absurd h (Nat.lt_irrefl _)) [.int .i64 q.1, .string ⟨(q.2.1).toArray⟩, .string ⟨(q.2.2.1).toArray⟩, .int .i64 q.2.2.2] _ 0 HM2.out⟩⟩
      case measure => simp [intOf]; omega
    · go_wp2
      go_ret
      have he : ys = xs := by
        have h1 := HT.out
        rw [List.take_of_length_le (by rw [HL.out]; omega), List.take_of_length_le (by omega)] at h1
        exact h1
      subst he
      exact RetOwn.of HO.out HF.out HM.out
end Go.Proofs.Ytinfibggdbakoaa
