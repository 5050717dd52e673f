/- The laws' copies and sizes of DirOp. The laws' copies and sizes of Disk. More single steps for drawn regions. The specification's replay of an operation on names. DiskValid of the specification. -/
import Derived.Test.YtkkgighgnbbgiaaGreatDoorPk3
import Derived.Test.YtkkgighgnbbgiaaGreatDoorPk5
import Derived.Test.YtkkgighgnbbgiaaGreatDoorPk4
import Derived.Test.YtkkgighgnbbgiaaGreatDoorPk1
import Derived.WalkKit
namespace Go.Proofs.YtkkgighgnbbgiaaGreatDoor
open Go.RowKit Mem
set_option linter.unusedVariables false
set_option linter.unusedSimpArgs false
theorem lenDirOp1 {w : World} {v : Value} {x : DirOpT} (h : RdV true dDirOp w v x) : x.2.1.length ≤ 9223372036854775807 := by
  obtain ⟨cs, rfl, c0, r0, rfl, h0, c1, r1, rfl, h1, c2, c3, rfl, h2, h3⟩ := h
  exact h1.2
theorem lenDirOp2 {w : World} {v : Value} {x : DirOpT} (h : RdV true dDirOp w v x) : x.2.2.1.length ≤ 9223372036854775807 := by
  obtain ⟨cs, rfl, c0, r0, rfl, h0, c1, r1, rfl, h1, c2, c3, rfl, h2, h3⟩ := h
  exact h2.2
theorem okDirOp {w : World} {v : Value} {x : DirOpT} (h : RdV true dDirOp w v x) : IntKind.i64.wrap x.1 = x.1 ∧ x.2.1.length ≤ 9223372036854775807 ∧ x.2.2.1.length ≤ 9223372036854775807 ∧ IntKind.i64.wrap x.2.2.2 = x.2.2.2 := by
  obtain ⟨cs, rfl, c0, r0, rfl, h0, c1, r1, rfl, h1, c2, c3, rfl, h2, h3⟩ := h
  exact ⟨h0.2, h1.2, h2.2, h3.2⟩
def zDirOp : DirOpT := (0, [], [], 0)
theorem zmDirOp (w : World) : dDirOp.M w [] zDirOp [.int .i64 0, .string ⟨#[]⟩, .string ⟨#[]⟩, .int .i64 0] := mDirOp (show IntKind.i64.wrap 0 = 0 by decide) (Nat.zero_le _) (Nat.zero_le _) (show IntKind.i64.wrap 0 = 0 by decide)
theorem cellsDirOp_M {w : World} {F : List Nat} {x : DirOpT} {cs : List Value} (h : dDirOp.M w F x cs) : cs = [.int .i64 x.1, .string ⟨(x.2.1).toArray⟩, .string ⟨(x.2.2.1).toArray⟩, .int .i64 x.2.2.2] := by
  obtain ⟨c0, r0, E0, R0, rfl, rfl, nd0, h0, c1, r1, E1, R1, rfl, rfl, nd1, h1, c2, c3, E2, E3, rfl, rfl, nd2, h2, h3⟩ := h
  obtain ⟨_, rfl, _⟩ := h0
  obtain ⟨_, rfl, _⟩ := h1
  obtain ⟨_, rfl, _⟩ := h2
  obtain ⟨_, rfl, _⟩ := h3
  exact rfl
def szDirOp (x : DirOpT) : Nat := (x.2.1.length) + (x.2.2.1.length)

set_option maxHeartbeats 1000000 in
set_option maxRecDepth 100000 in
theorem szDirOp_v {w : World} {v : Value} {x : DirOpT} (h : RdV true dDirOp w v x) (left : Int) (h0 : 0 ≤ left) (h1 : left ≤ 1048576) : Calls Tryz.prog 44 #[v, .int .i64 left] w (SzR w left (szDirOp x)) := by
  obtain rfl := rdDirOp h
  have b1 : x.2.1.length ≤ 9223372036854775807 := lenDirOp1 h
  have b2 : x.2.2.1.length ≤ 9223372036854775807 := lenDirOp2 h
  have HB0 := Sec.mk (Blk.new w 87 [.int .i64 x.1, .string ⟨(x.2.1).toArray⟩, .string ⟨(x.2.2.1).toArray⟩, .int .i64 x.2.2.2])
  have HM0 := Sec.mk ((Mod.refl (fun _ => False) w).alloc (.cells #[.int .i64 x.1, .string ⟨(x.2.1).toArray⟩, .string ⟨(x.2.2.1).toArray⟩, .int .i64 x.2.2.2] 87))
  have HS : Sec (szDirOp x = (x.2.1.length) + (x.2.2.1.length)) := ⟨rfl⟩
  clear h 
  have hz1 : (⟨x.2.1.toArray⟩ : ByteArray).size = x.2.1.length := by simp [ByteArray.size]
  have hz2 : (⟨x.2.2.1.toArray⟩ : ByteArray).size = x.2.2.1.length := by simp [ByteArray.size]
  generalize hs : szDirOp x = s at *
  clear hs
  obtain ⟨c1, hc1⟩ : ∃ c, c = x.2.1.length := ⟨_, rfl⟩
  obtain ⟨c2, hc2⟩ : ∃ c, c = x.2.2.1.length := ⟨_, rfl⟩
  rw [← hc1, ← hc2] at HS
  rw [← hc1] at hz1 b1
  rw [← hc2] at hz2 b2
  have HC1 := Sec.mk hc1
  have HC2 := Sec.mk hc2
  clear hc1 hc2
  by_cases g1 : left < (c1 : Int)
  · have hn1 : left - (c1 : Int) < 0 := by omega
    go_enter Tryz.func44, Tryz.ntmps44
    go_wp2
    go_ret
    exact ⟨by rw [if_pos (by have := HS.out; omega)]; rfl, HM0.out⟩
  by_cases g2 : left < (c1 : Int) + (c2 : Int)
  · have hn2 : left - (c1 : Int) - (c2 : Int) < 0 := by omega
    go_enter Tryz.func44, Tryz.ntmps44
    have l1 : ¬ left - (c1 : Int) < 0 := by omega
    go_wp2
    go_ret
    exact ⟨by rw [if_pos (by have := HS.out; omega)]; rfl, HM0.out⟩
  go_enter Tryz.func44, Tryz.ntmps44
  have l1 : ¬ left - (c1 : Int) < 0 := by omega
  have l2 : ¬ left - (c1 : Int) - (c2 : Int) < 0 := by omega
  go_wp2
  go_ret
  exact ⟨by rw [if_neg (by have := HS.out; omega)]; have := HS.out; simp; omega, HM0.out⟩


set_option maxHeartbeats 1000000 in
set_option maxRecDepth 100000 in
theorem toDirOp_v {w : World} {v : Value} {x : DirOpT} (h : RdV true dDirOp w v x) (hs : szDirOp x ≤ 1048576) : Calls Tryz.prog 59 #[v] w (RetV true dDirOp w x) := by
  have HG := Sec.mk (okDirOp h)
  obtain rfl := rdDirOp h
  clear h
  go_enter Tryz.func59, Tryz.ntmps59
  go_wp2
  exact bodyPost_ret (v := .agg #[.int .i64 x.1, .string ⟨(x.2.1).toArray⟩, .string ⟨(x.2.2.1).toArray⟩, .int .i64 x.2.2.2]) (by simp [results, Tryz.results59, go_sem]) rfl ⟨_, rfl, ⟨_, [], rfl, mDirOp HG.out.1 HG.out.2.1 HG.out.2.2.1 HG.out.2.2.2, by simp⟩, ((Mod.refl _ _).alloc _).alloc _ |>.alloc _⟩

def szDirOpS (xs : DirOpST) : Nat := xs.length + preS szDirOp xs xs.length
theorem szDirOpS_mem {xs : DirOpST} {x : DirOpT} (h : x ∈ xs) : szDirOp x ≤ szDirOpS xs := by
  obtain ⟨j, hj, rfl⟩ := List.getElem_of_mem h
  have h1 := preS_succ szDirOp xs hj
  have h2 := preS_le szDirOp xs (j + 1)
  unfold szDirOpS; omega

set_option maxHeartbeats 1000000 in
set_option maxRecDepth 100000 in
theorem szDirOpS_s {w : World} {v : Value} {xs : DirOpST} (h : RdV false dDirOpS w v xs) (left : Int) (h0 : 0 ≤ left) (h1 : left ≤ 1048576) : Calls Tryz.prog 19 #[v, .int .i64 left] w (SzR w left (szDirOpS xs)) := by
  obtain ⟨A, c, rfl, -, hr⟩ := h.slice
  have hl := hr.2.1
  have HR := Sec.mk hr
  have HS : Sec (szDirOpS xs = xs.length + preS szDirOp xs xs.length) := ⟨rfl⟩
  clear h hr
  generalize hs : szDirOpS xs = S at *
  clear hs
  by_cases hlt : left < xs.length
  · have hlt0 : left - (xs.length : Int) < 0 := by omega
    go_enter Tryz.func19, Tryz.ntmps19
    go_wp2
    go_ret
    exact ⟨by rw [if_pos (by have := HS.out; omega)]; rfl, Mod.refl _ _⟩
  have hlt0 : ¬ left - (xs.length : Int) < 0 := by omega
  go_enter Tryz.func19, Tryz.ntmps19
  go_wp2
  go_loopw [1, 5] (fun q i wr => ∃ (k : Nat), k ≤ xs.length ∧ i = .int .i64 k ∧ q = .int .i64 (left - xs.length - (preS szDirOp xs k : Nat)) ∧ (preS szDirOp xs k : Int) ≤ left - xs.length ∧ Sec (New w wr)) (fun _ i _ => xs.length - (intOf i).toNat)
  case atStart => exact ⟨0, Nat.zero_le _, rfl, by rw [preS_zero]; simp, by rw [preS_zero]; omega, ⟨Mod.refl _ _⟩⟩
  case round =>
    obtain ⟨k, hk, rfl, rfl, hle, HM⟩ := hrel
    by_cases hkl : k < xs.length
    · obtain ⟨ad, cs, rfl, hx⟩ := HR.out.elemc hkl
      obtain ⟨hx2, hc0, hcs⟩ := hx wr (fun i hi => HM.out.block i hi id) (fun i hi => Nat.lt_of_lt_of_le hi HM.out.size)
      have hv := rdDirOp hx2
      have hcc : cs = [.int .i64 xs[k].1, .string ⟨(xs[k].2.1).toArray⟩, .string ⟨(xs[k].2.2.1).toArray⟩, .int .i64 xs[k].2.2.2] := by injection hv with hv; simpa using hv
      subst hcc
      have e0 := hc0 _ rfl
      have e1 := hcs 0 _ rfl
      have e2 := hcs 1 _ rfl
      have e3 := hcs 2 _ rfl
      simp only [show dDirOp.sz = 4 from rfl] at e0 e1 e2 e3
      have HX2 := Sec.mk hx2
      clear hx hx2 hc0 hcs hv
      have HP := Sec.mk (preS_succ szDirOp xs hkl)
      have HPL := Sec.mk (preS_le szDirOp xs (k + 1))
      have HSX : Sec (∃ t, t = szDirOp xs[k]) := ⟨⟨_, rfl⟩⟩
      obtain ⟨t, ht⟩ := HSX.out
      rw [← ht] at HP
      have HT := Sec.mk ht
      clear ht HSX
      generalize preS szDirOp xs k = s at *
      have hki : (k : Int) < (xs.length : Int) := by omega
      by_cases hs : left - xs.length - s < t
      · go_wp2_with fail
        refine (szDirOp_v HX2.out (left - xs.length - s) (by omega) (by omega)).mono ?_
        rintro e w1 ⟨rfl, hm1⟩
        rw [← HT.out, if_pos hs]
        have HM1 := Sec.mk (HM.out.transN hm1)
        clear hm1
        go_wp2
        go_ret
        exact ⟨by rw [if_pos (by have := HS.out; have := HP.out; have := HPL.out; omega)]; rfl, HM1.out⟩
      · go_wp2_with fail
        refine (szDirOp_v HX2.out (left - xs.length - s) (by omega) (by omega)).mono ?_
        rintro e w1 ⟨rfl, hm1⟩
        rw [← HT.out, if_neg (by omega)]
        have HM1 := Sec.mk (HM.out.transN hm1)
        have hs0 : ¬ left - (xs.length : Int) - (s : Int) - (t : Int) < 0 := by omega
        clear hm1
        go_wp2
        go_roundw
        case rel => exact ⟨k + 1, by omega, by go_num, by rw [HP.out]; congr 1; omega, by rw [HP.out]; omega, HM1⟩
        case measure => simp [intOf]; omega
    · obtain rfl : k = xs.length := by omega
      generalize preS szDirOp xs xs.length = s at *
      go_wp2
      go_ret
      exact ⟨by rw [if_neg (by have := HS.out; omega)]; have := HS.out; simp; omega, HM.out⟩


set_option maxHeartbeats 1000000 in
set_option maxRecDepth 100000 in
theorem toDirOpS_v {w : World} {v : Value} {xs : DirOpST} (h : RdV false dDirOpS w v xs) (hs : szDirOpS xs ≤ 1048576) : Calls Tryz.prog 26 #[v] w (RetV false dDirOpS w xs) := by
  obtain ⟨A, c, rfl, -, hr⟩ := h.slice
  have hl := hr.2.1
  have HR := Sec.mk hr
  have hlen : xs.length ≤ 1048576 := by unfold szDirOpS at hs; omega
  have HEL := Sec.mk (fun x (hx : x ∈ xs) => Nat.le_trans (szDirOpS_mem hx) hs)
  clear h hr hs
  refine Calls.mono (R := RetOwn dDirOp 90 w xs) ?_ (fun _ _ h => h.toV)
  go_enter Tryz.func26, Tryz.ntmps26
  go_wp2_with (refine wpList_make _ rfl (.tmp 6) _ rfl dDirOp 90 Tryz.underlying32 eltDirOp zDirOp (fun _ => zmDirOp _) xs.length rfl (by omega) ?_; intro w1 ho1 hm1; have HO1 := Sec.mk ho1; have HM1 := Sec.mk hm1; clear ho1 hm1)
  go_loopw [4] (fun i wr => ∃ (k : Nat) (ys : DirOpST) (F : List Nat), k ≤ xs.length ∧ i = .int .i64 k ∧ Sec (ys.length = xs.length) ∧ Sec (ys.take k = xs.take k) ∧ Sec (Own dDirOp 90 wr F (.slice (some ⟨w.heap.size, 0, none⟩) xs.length xs.length) ys) ∧ Sec (∀ k, k ∈ F → w.heap.size ≤ k) ∧ Sec (New w wr)) (fun i _ => xs.length - (intOf i).toNat)
  case atStart => exact ⟨0, _, _, Nat.zero_le _, rfl, Sec.mk (by simp), Sec.mk (by simp), HO1, Sec.mk (by simp), HM1⟩
  case round =>
    obtain ⟨k, ys, F, hk, rfl, HL, HT, HO, HF, HM⟩ := hrel
    clear HO1 HM1
    by_cases hlt : k < xs.length
    · obtain ⟨ad, cs, rfl, hx⟩ := HR.out.elemc hlt
      obtain ⟨hx2, hc0, hcs⟩ := hx wr (fun i hi => HM.out.block i hi id) (fun i hi => Nat.lt_of_lt_of_le hi HM.out.size)
      have hv := rdDirOp hx2
      have hcc : cs = [.int .i64 xs[k].1, .string ⟨(xs[k].2.1).toArray⟩, .string ⟨(xs[k].2.2.1).toArray⟩, .int .i64 xs[k].2.2.2] := by injection hv with hv; simpa using hv
      subst hcc
      have e0 := hc0 _ rfl
      have e1 := hcs 0 _ rfl
      have e2 := hcs 1 _ rfl
      have e3 := hcs 2 _ rfl
      simp only [show dDirOp.sz = 4 from rfl] at e0 e1 e2 e3
      have HX2 := Sec.mk hx2
      clear hx hx2 hc0 hcs hv
      have HE := Sec.mk (HEL.out xs[k] (List.getElem_mem _))
      have HPX : Sec (∃ q : DirOpT, q = xs[k]) := ⟨⟨_, rfl⟩⟩
      obtain ⟨q, hq⟩ := HPX.out
      rw [← hq] at HX2 HE e0 e1 e2 e3
      have HQ := Sec.mk hq
      clear hq HPX
      have hki : (k : Int) < (xs.length : Int) := by omega
      go_wp2_with fail
      refine (toDirOp_v HX2.out HE.out).mono ?_
      rintro e w2 ⟨v2, rfl, ⟨cs2, F2, hv2, hM2, hF2⟩, hm2⟩
      have hM2' := hM2
      have hcs2 := cellsDirOp_M hM2'
      have hv3 : v2 = .agg #[.int .i64 q.1, .string ⟨(q.2.1).toArray⟩, .string ⟨(q.2.2.1).toArray⟩, .int .i64 q.2.2.2] := by rw [hv2, hcs2]; rfl
      subst hcs2
      clear hv2
      subst hv3
      have HM2 := Sec.mk (HM.out.transN hm2)
      have HLT := Sec.mk HO.out.lt
      obtain ⟨g, f, hA, hgF, hgf, hff, hcell, hfz, hst⟩ := (HO.out.new hm2).put (j := k) (by rw [HL.out]; exact hlt)
      have hA' : w.heap.size = g := by injection hA with hA; injection hA
      subst hA'
      obtain ⟨o0, hc0⟩ := hcell 0 (by decide)
      have hf0 := hfz (k * 4)
      obtain ⟨o1, hc1⟩ := hcell 1 (by decide)
      have hf1 := hfz (k * 4 + 1)
      obtain ⟨o2, hc2⟩ := hcell 2 (by decide)
      have hf2 := hfz (k * 4 + 2)
      obtain ⟨o3, hc3⟩ := hcell 3 (by decide)
      have hf3 := hfz (k * 4 + 3)
      simp only [show dDirOp.sz = 4 from rfl, Nat.add_zero] at hc0 hc1 hc2 hc3 hst
      have hs2 := hm2.size
      obtain ⟨F', ho', hg', hF'⟩ := hst [.int .i64 q.1, .string ⟨(q.2.1).toArray⟩, .string ⟨(q.2.2.1).toArray⟩, .int .i64 q.2.2.2] q F2 (dDirOp.M_mod hM2 fun i hi => putRow_far _ _ _ _ (fun e => by have := hF2 i hi; have := HLT.out _ hgF; omega)) (fun i hi => .inr fun hiF => absurd (HLT.out i hiF) (by have := hF2 i hi; omega))
      have HO' := Sec.mk ho'
      have HF' : Sec (∀ i, i ∈ F' → w.heap.size ≤ i) := ⟨fun i hi => (hF' i hi).elim (HF.out i) (fun h => by have := hF2 i h; have := HM.out.size; omega)⟩
      clear hA hgF hgf hff hcell hfz hst ho' hg' hF' hm2 hM2 hF2 HLT
      go_wp2
      go_roundw
      case rel => exact ⟨k + 1, _, F', by omega, by go_num, ⟨(set_len ys k q).trans HL.out⟩, ⟨by rw [HQ.out]; exact set_prefix xs ys k hlt HL.out HT.out⟩, HO', HF', ⟨putRow_mod (fun h => absurd h (Nat.lt_irrefl _)) [.int .i64 q.1, .string ⟨(q.2.1).toArray⟩, .string ⟨(q.2.2.1).toArray⟩, .int .i64 q.2.2.2] _ 0 HM2.out⟩⟩
      case measure => simp [intOf]; omega
    · go_wp2
      go_ret
      have he : ys = xs := by
        have h1 := HT.out
        rw [List.take_of_length_le (by rw [HL.out]; omega), List.take_of_length_le (by omega)] at h1
        exact h1
      subst he
      exact RetOwn.of HO.out HF.out HM.out

end Go.Proofs.YtkkgighgnbbgiaaGreatDoor

namespace Go.Proofs.YtkkgighgnbbgiaaGreatDoor
open Go.RowKit Mem
set_option linter.unusedVariables false
set_option linter.unusedSimpArgs false
theorem okDisk {w : World} {v : Value} {x : DiskT} (h : RdV true dDisk w v x) : IntKind.i64.wrap x.2.2.2.2 = x.2.2.2.2 := by
  obtain ⟨cs, rfl, c0, r0, rfl, h0, c1, r1, rfl, h1, c2, r2, rfl, h2, c3, c4, rfl, h3, h4⟩ := h
  exact h4.2
def szDisk (x : DiskT) : Nat := (szNodeS x.1) + (szEntryS x.2.1) + (szEntryS x.2.2.1) + (szDirOpS x.2.2.2.1)

set_option maxHeartbeats 1000000 in
set_option maxRecDepth 100000 in
theorem szDisk_v {w : World} {v : Value} {x : DiskT} (h : RdV true dDisk w v x) (left : Int) (h0 : 0 ≤ left) (h1 : left ≤ 1048576) : Calls Tryz.prog 4 #[v, .int .i64 left] w (SzR w left (szDisk x)) := by
  obtain ⟨v0, v1, v2, v3, rfl, k0, k1, k2, k3⟩ := rdDisk h
  have HB0 := Sec.mk (Blk.new w 26 [v0, v1, v2, v3, .int .i64 x.2.2.2.2])
  have HM0 := Sec.mk ((Mod.refl (fun _ => False) w).alloc (.cells #[v0, v1, v2, v3, .int .i64 x.2.2.2.2] 26))
  have H0 := Sec.mk k0
  have H1 := Sec.mk k1
  have H2 := Sec.mk k2
  have H3 := Sec.mk k3
  have HS : Sec (szDisk x = (szNodeS x.1) + (szEntryS x.2.1) + (szEntryS x.2.2.1) + (szDirOpS x.2.2.2.1)) := ⟨rfl⟩
  clear h k0 k1 k2 k3
  generalize hs : szDisk x = s at *
  clear hs
  obtain ⟨c0, hc0⟩ : ∃ c, c = szNodeS x.1 := ⟨_, rfl⟩
  obtain ⟨c1, hc1⟩ : ∃ c, c = szEntryS x.2.1 := ⟨_, rfl⟩
  obtain ⟨c2, hc2⟩ : ∃ c, c = szEntryS x.2.2.1 := ⟨_, rfl⟩
  obtain ⟨c3, hc3⟩ : ∃ c, c = szDirOpS x.2.2.2.1 := ⟨_, rfl⟩
  rw [← hc0, ← hc1, ← hc2, ← hc3] at HS
  have HC0 := Sec.mk hc0
  have HC1 := Sec.mk hc1
  have HC2 := Sec.mk hc2
  have HC3 := Sec.mk hc3
  clear hc0 hc1 hc2 hc3
  by_cases g0 : left < (c0 : Int)
  · have hn0 : left - (c0 : Int) < 0 := by omega
    go_enter Tryz.func4, Tryz.ntmps4
    go_wp2_with fail
    refine (szNodeS_s (H0.out.step HM0.out) (left) (by omega) (by omega)).mono ?_
    rintro e w0 ⟨rfl, hm0⟩
    rw [← HC0.out, if_pos (by omega)]
    have HM0 := Sec.mk (HM0.out.transN hm0)
    have HB1 := Sec.mk (HB0.out.mod hm0 id)
    clear hm0
    go_wp2
    go_ret
    exact ⟨by rw [if_pos (by have := HS.out; omega)]; rfl, HM0.out⟩
  by_cases g1 : left < (c0 : Int) + (c1 : Int)
  · have hn1 : left - (c0 : Int) - (c1 : Int) < 0 := by omega
    go_enter Tryz.func4, Tryz.ntmps4
    go_wp2_with fail
    refine (szNodeS_s (H0.out.step HM0.out) (left) (by omega) (by omega)).mono ?_
    rintro e w0 ⟨rfl, hm0⟩
    rw [← HC0.out, if_neg (by omega)]
    have HM0 := Sec.mk (HM0.out.transN hm0)
    have HB1 := Sec.mk (HB0.out.mod hm0 id)
    have p0_1 : w0.cell? ⟨w.heap.size, 1, none⟩ = some (v1) := HB1.out.cell 1
    clear hm0
    have l0 : ¬ left - (c0 : Int) < 0 := by omega
    go_wp2_with fail
    refine (szEntryS_s (H1.out.step HM0.out) (left - (c0 : Int)) (by omega) (by omega)).mono ?_
    rintro e w1 ⟨rfl, hm1⟩
    rw [← HC1.out, if_pos (by omega)]
    have HM1 := Sec.mk (HM0.out.transN hm1)
    have HB2 := Sec.mk (HB1.out.mod hm1 id)
    clear hm1
    go_wp2
    go_ret
    exact ⟨by rw [if_pos (by have := HS.out; omega)]; rfl, HM1.out⟩
  by_cases g2 : left < (c0 : Int) + (c1 : Int) + (c2 : Int)
  · have hn2 : left - (c0 : Int) - (c1 : Int) - (c2 : Int) < 0 := by omega
    go_enter Tryz.func4, Tryz.ntmps4
    go_wp2_with fail
    refine (szNodeS_s (H0.out.step HM0.out) (left) (by omega) (by omega)).mono ?_
    rintro e w0 ⟨rfl, hm0⟩
    rw [← HC0.out, if_neg (by omega)]
    have HM0 := Sec.mk (HM0.out.transN hm0)
    have HB1 := Sec.mk (HB0.out.mod hm0 id)
    have p0_1 : w0.cell? ⟨w.heap.size, 1, none⟩ = some (v1) := HB1.out.cell 1
    have p0_2 : w0.cell? ⟨w.heap.size, 2, none⟩ = some (v2) := HB1.out.cell 2
    clear hm0
    have l0 : ¬ left - (c0 : Int) < 0 := by omega
    go_wp2_with fail
    refine (szEntryS_s (H1.out.step HM0.out) (left - (c0 : Int)) (by omega) (by omega)).mono ?_
    rintro e w1 ⟨rfl, hm1⟩
    rw [← HC1.out, if_neg (by omega)]
    have HM1 := Sec.mk (HM0.out.transN hm1)
    have HB2 := Sec.mk (HB1.out.mod hm1 id)
    have p1_2 : w1.cell? ⟨w.heap.size, 2, none⟩ = some (v2) := HB2.out.cell 2
    clear hm1
    have l1 : ¬ left - (c0 : Int) - (c1 : Int) < 0 := by omega
    go_wp2_with fail
    refine (szEntryS_s (H2.out.step HM1.out) (left - (c0 : Int) - (c1 : Int)) (by omega) (by omega)).mono ?_
    rintro e w2 ⟨rfl, hm2⟩
    rw [← HC2.out, if_pos (by omega)]
    have HM2 := Sec.mk (HM1.out.transN hm2)
    have HB3 := Sec.mk (HB2.out.mod hm2 id)
    clear hm2
    go_wp2
    go_ret
    exact ⟨by rw [if_pos (by have := HS.out; omega)]; rfl, HM2.out⟩
  by_cases g3 : left < (c0 : Int) + (c1 : Int) + (c2 : Int) + (c3 : Int)
  · have hn3 : left - (c0 : Int) - (c1 : Int) - (c2 : Int) - (c3 : Int) < 0 := by omega
    go_enter Tryz.func4, Tryz.ntmps4
    go_wp2_with fail
    refine (szNodeS_s (H0.out.step HM0.out) (left) (by omega) (by omega)).mono ?_
    rintro e w0 ⟨rfl, hm0⟩
    rw [← HC0.out, if_neg (by omega)]
    have HM0 := Sec.mk (HM0.out.transN hm0)
    have HB1 := Sec.mk (HB0.out.mod hm0 id)
    have p0_1 : w0.cell? ⟨w.heap.size, 1, none⟩ = some (v1) := HB1.out.cell 1
    have p0_2 : w0.cell? ⟨w.heap.size, 2, none⟩ = some (v2) := HB1.out.cell 2
    have p0_3 : w0.cell? ⟨w.heap.size, 3, none⟩ = some (v3) := HB1.out.cell 3
    clear hm0
    have l0 : ¬ left - (c0 : Int) < 0 := by omega
    go_wp2_with fail
    refine (szEntryS_s (H1.out.step HM0.out) (left - (c0 : Int)) (by omega) (by omega)).mono ?_
    rintro e w1 ⟨rfl, hm1⟩
    rw [← HC1.out, if_neg (by omega)]
    have HM1 := Sec.mk (HM0.out.transN hm1)
    have HB2 := Sec.mk (HB1.out.mod hm1 id)
    have p1_2 : w1.cell? ⟨w.heap.size, 2, none⟩ = some (v2) := HB2.out.cell 2
    have p1_3 : w1.cell? ⟨w.heap.size, 3, none⟩ = some (v3) := HB2.out.cell 3
    clear hm1
    have l1 : ¬ left - (c0 : Int) - (c1 : Int) < 0 := by omega
    go_wp2_with fail
    refine (szEntryS_s (H2.out.step HM1.out) (left - (c0 : Int) - (c1 : Int)) (by omega) (by omega)).mono ?_
    rintro e w2 ⟨rfl, hm2⟩
    rw [← HC2.out, if_neg (by omega)]
    have HM2 := Sec.mk (HM1.out.transN hm2)
    have HB3 := Sec.mk (HB2.out.mod hm2 id)
    have p2_3 : w2.cell? ⟨w.heap.size, 3, none⟩ = some (v3) := HB3.out.cell 3
    clear hm2
    have l2 : ¬ left - (c0 : Int) - (c1 : Int) - (c2 : Int) < 0 := by omega
    go_wp2_with fail
    refine (szDirOpS_s (H3.out.step HM2.out) (left - (c0 : Int) - (c1 : Int) - (c2 : Int)) (by omega) (by omega)).mono ?_
    rintro e w3 ⟨rfl, hm3⟩
    rw [← HC3.out, if_pos (by omega)]
    have HM3 := Sec.mk (HM2.out.transN hm3)
    have HB4 := Sec.mk (HB3.out.mod hm3 id)
    clear hm3
    go_wp2
    go_ret
    exact ⟨by rw [if_pos (by have := HS.out; omega)]; rfl, HM3.out⟩
  go_enter Tryz.func4, Tryz.ntmps4
  go_wp2_with fail
  refine (szNodeS_s (H0.out.step HM0.out) (left) (by omega) (by omega)).mono ?_
  rintro e w0 ⟨rfl, hm0⟩
  rw [← HC0.out, if_neg (by omega)]
  have HM0 := Sec.mk (HM0.out.transN hm0)
  have HB1 := Sec.mk (HB0.out.mod hm0 id)
  have p0_1 : w0.cell? ⟨w.heap.size, 1, none⟩ = some (v1) := HB1.out.cell 1
  have p0_2 : w0.cell? ⟨w.heap.size, 2, none⟩ = some (v2) := HB1.out.cell 2
  have p0_3 : w0.cell? ⟨w.heap.size, 3, none⟩ = some (v3) := HB1.out.cell 3
  clear hm0
  have l0 : ¬ left - (c0 : Int) < 0 := by omega
  go_wp2_with fail
  refine (szEntryS_s (H1.out.step HM0.out) (left - (c0 : Int)) (by omega) (by omega)).mono ?_
  rintro e w1 ⟨rfl, hm1⟩
  rw [← HC1.out, if_neg (by omega)]
  have HM1 := Sec.mk (HM0.out.transN hm1)
  have HB2 := Sec.mk (HB1.out.mod hm1 id)
  have p1_2 : w1.cell? ⟨w.heap.size, 2, none⟩ = some (v2) := HB2.out.cell 2
  have p1_3 : w1.cell? ⟨w.heap.size, 3, none⟩ = some (v3) := HB2.out.cell 3
  clear hm1
  have l1 : ¬ left - (c0 : Int) - (c1 : Int) < 0 := by omega
  go_wp2_with fail
  refine (szEntryS_s (H2.out.step HM1.out) (left - (c0 : Int) - (c1 : Int)) (by omega) (by omega)).mono ?_
  rintro e w2 ⟨rfl, hm2⟩
  rw [← HC2.out, if_neg (by omega)]
  have HM2 := Sec.mk (HM1.out.transN hm2)
  have HB3 := Sec.mk (HB2.out.mod hm2 id)
  have p2_3 : w2.cell? ⟨w.heap.size, 3, none⟩ = some (v3) := HB3.out.cell 3
  clear hm2
  have l2 : ¬ left - (c0 : Int) - (c1 : Int) - (c2 : Int) < 0 := by omega
  go_wp2_with fail
  refine (szDirOpS_s (H3.out.step HM2.out) (left - (c0 : Int) - (c1 : Int) - (c2 : Int)) (by omega) (by omega)).mono ?_
  rintro e w3 ⟨rfl, hm3⟩
  rw [← HC3.out, if_neg (by omega)]
  have HM3 := Sec.mk (HM2.out.transN hm3)
  have HB4 := Sec.mk (HB3.out.mod hm3 id)
  clear hm3
  have l3 : ¬ left - (c0 : Int) - (c1 : Int) - (c2 : Int) - (c3 : Int) < 0 := by omega
  go_wp2
  go_ret
  exact ⟨by rw [if_neg (by have := HS.out; omega)]; have := HS.out; simp; omega, HM3.out⟩


set_option maxHeartbeats 1000000 in
set_option maxRecDepth 100000 in
theorem toDisk_v {w : World} {v : Value} {x : DiskT} (h : RdV true dDisk w v x) (hs : szDisk x ≤ 1048576) : Calls Tryz.prog 7 #[v] w (RetV true dDisk w x) := by
  obtain ⟨v0, v1, v2, v3, rfl, k0, k1, k2, k3⟩ := rdDisk h
  have HG := Sec.mk (okDisk h)
  have hsz : (szNodeS x.1) + (szEntryS x.2.1) + (szEntryS x.2.2.1) + (szDirOpS x.2.2.2.1) ≤ 1048576 := hs
  have HX := Sec.mk (((Blk.new w 26 [v0, v1, v2, v3, .int .i64 x.2.2.2.2]).alloc (.cells #[.slice none 0 0, .slice none 0 0, .slice none 0 0, .slice none 0 0, .int .i64 0] 34)).alloc (.cells #[.slice none 0 0, .slice none 0 0, .slice none 0 0, .slice none 0 0, .int .i64 0] 34))
  have HR := Sec.mk ((Blk.new (w.alloc (.cells #[v0, v1, v2, v3, .int .i64 x.2.2.2.2] 26)) 34 [.slice none 0 0, .slice none 0 0, .slice none 0 0, .slice none 0 0, .int .i64 0]).alloc (.cells #[.slice none 0 0, .slice none 0 0, .slice none 0 0, .slice none 0 0, .int .i64 0] 34))
  have HO := Sec.mk (Blk.new ((w.alloc (.cells #[v0, v1, v2, v3, .int .i64 x.2.2.2.2] 26)).alloc (.cells #[.slice none 0 0, .slice none 0 0, .slice none 0 0, .slice none 0 0, .int .i64 0] 34)) 34 [.slice none 0 0, .slice none 0 0, .slice none 0 0, .slice none 0 0, .int .i64 0])
  rw [show (w.alloc (.cells #[v0, v1, v2, v3, .int .i64 x.2.2.2.2] 26)).heap.size = w.heap.size + 1 by simp] at HR
  rw [show ((w.alloc (.cells #[v0, v1, v2, v3, .int .i64 x.2.2.2.2] 26)).alloc (.cells #[.slice none 0 0, .slice none 0 0, .slice none 0 0, .slice none 0 0, .int .i64 0] 34)).heap.size = w.heap.size + 2 by simp] at HO
  have HM := Sec.mk ((((Mod.refl (fun _ => False) w).alloc (.cells #[v0, v1, v2, v3, .int .i64 x.2.2.2.2] 26)).alloc (.cells #[.slice none 0 0, .slice none 0 0, .slice none 0 0, .slice none 0 0, .int .i64 0] 34)).alloc (.cells #[.slice none 0 0, .slice none 0 0, .slice none 0 0, .slice none 0 0, .int .i64 0] 34))
  have H0 := Sec.mk k0
  have H1 := Sec.mk k1
  have H2 := Sec.mk k2
  have H3 := Sec.mk k3
  clear h k0 k1 k2 k3
  go_enter Tryz.func7, Tryz.ntmps7
  go_wp2_with fail
  refine (toNodeS_v (H0.out.step HM.out) (by omega)).mono ?_
  rintro e w0 ⟨y0, rfl, ho0, hm0⟩
  have HM0 := Sec.mk (HM.out.transN hm0)
  have hs0 := hm0.size
  simp [World.setCell] at hs0
  have HX0 := Sec.mk (HX.out.mod hm0 id)
  have HR0 := Sec.mk (HR.out.mod hm0 id)
  have HO0' := Sec.mk (HO.out.mod hm0 id)
  have hO0 : w0.cell? ⟨w.heap.size + 2, 0, none⟩ = some (.slice none 0 0) := HO0'.out.cell 0
  have hF0 : w0.frozen? ⟨w.heap.size + 2, 0, none⟩ = false := HO0'.out.frozen 0
  have pX0_1 : w0.cell? ⟨w.heap.size, 1, none⟩ = some (v1) := HX0.out.cell 1
  obtain ⟨aY0, qY0, rfl⟩ := owSl_form ho0
  have HO0 := Sec.mk (HO0'.out.set_ 0 (.slice aY0 x.1.length qY0))
  simp only [List.set_cons_zero, List.set_cons_succ] at HO0
  have HX0' := Sec.mk (HX0.out.far (p := ⟨w.heap.size + 2, 0, none⟩) (by simp; try omega) (.slice aY0 x.1.length qY0))
  have HR0' := Sec.mk (HR0.out.far (p := ⟨w.heap.size + 2, 0, none⟩) (by simp; try omega) (.slice aY0 x.1.length qY0))
  have HM0' := Sec.mk (HM0.out.setCell (p := ⟨w.heap.size + 2, 0, none⟩) (fun h => absurd h (by simp; try omega)) (.slice aY0 x.1.length qY0))
  have hMo0 := ((Mod.refl (fun k => k = w.heap.size + 2) w0).setCell (p := ⟨w.heap.size + 2, 0, none⟩) (fun _ => rfl) (.slice aY0 x.1.length qY0))
  have HW0_0 := Sec.mk (ho0.keep hMo0 (fun k h1 h2 h3 => by simp at h1; omega))
  clear ho0 hm0 hMo0
  go_wp2_with fail
  refine (toEntryS_v (H1.out.step HM0'.out) (by omega)).mono ?_
  rintro e w1 ⟨y1, rfl, ho1, hm1⟩
  have HM1 := Sec.mk (HM0'.out.transN hm1)
  have hs1 := hm1.size
  simp [World.setCell] at hs1
  have HX1 := Sec.mk (HX0'.out.mod hm1 id)
  have HR1 := Sec.mk (HR0'.out.mod hm1 id)
  have HO1' := Sec.mk (HO0.out.mod hm1 id)
  have HW0_1 := Sec.mk (HW0_0.out.step hm1)
  have hO1 : w1.cell? ⟨w.heap.size + 2, 1, none⟩ = some (.slice none 0 0) := HO1'.out.cell 1
  have hF1 : w1.frozen? ⟨w.heap.size + 2, 1, none⟩ = false := HO1'.out.frozen 1
  have pX1_2 : w1.cell? ⟨w.heap.size, 2, none⟩ = some (v2) := HX1.out.cell 2
  obtain ⟨aY1, qY1, rfl⟩ := owSl_form ho1
  have HO1 := Sec.mk (HO1'.out.set_ 1 (.slice aY1 x.2.1.length qY1))
  simp only [List.set_cons_zero, List.set_cons_succ] at HO1
  have HX1' := Sec.mk (HX1.out.far (p := ⟨w.heap.size + 2, 1, none⟩) (by simp; try omega) (.slice aY1 x.2.1.length qY1))
  have HR1' := Sec.mk (HR1.out.far (p := ⟨w.heap.size + 2, 1, none⟩) (by simp; try omega) (.slice aY1 x.2.1.length qY1))
  have HM1' := Sec.mk (HM1.out.setCell (p := ⟨w.heap.size + 2, 1, none⟩) (fun h => absurd h (by simp; try omega)) (.slice aY1 x.2.1.length qY1))
  have hMo1 := ((Mod.refl (fun k => k = w.heap.size + 2) w1).setCell (p := ⟨w.heap.size + 2, 1, none⟩) (fun _ => rfl) (.slice aY1 x.2.1.length qY1))
  have HW1_1 := Sec.mk (ho1.keep hMo1 (fun k h1 h2 h3 => by simp at h1; omega))
  have HW0_1 := Sec.mk (HW0_1.out.keep hMo1 (fun k h1 h2 h3 => by simp at h1; omega))
  clear ho1 hm1 hMo1
  go_wp2_with fail
  refine (toEntryS_v (H2.out.step HM1'.out) (by omega)).mono ?_
  rintro e w2 ⟨y2, rfl, ho2, hm2⟩
  have HM2 := Sec.mk (HM1'.out.transN hm2)
  have hs2 := hm2.size
  simp [World.setCell] at hs2
  have HX2 := Sec.mk (HX1'.out.mod hm2 id)
  have HR2 := Sec.mk (HR1'.out.mod hm2 id)
  have HO2' := Sec.mk (HO1.out.mod hm2 id)
  have HW0_2 := Sec.mk (HW0_1.out.step hm2)
  have HW1_2 := Sec.mk (HW1_1.out.step hm2)
  have hO2 : w2.cell? ⟨w.heap.size + 2, 2, none⟩ = some (.slice none 0 0) := HO2'.out.cell 2
  have hF2 : w2.frozen? ⟨w.heap.size + 2, 2, none⟩ = false := HO2'.out.frozen 2
  have pX2_3 : w2.cell? ⟨w.heap.size, 3, none⟩ = some (v3) := HX2.out.cell 3
  obtain ⟨aY2, qY2, rfl⟩ := owSl_form ho2
  have HO2 := Sec.mk (HO2'.out.set_ 2 (.slice aY2 x.2.2.1.length qY2))
  simp only [List.set_cons_zero, List.set_cons_succ] at HO2
  have HX2' := Sec.mk (HX2.out.far (p := ⟨w.heap.size + 2, 2, none⟩) (by simp; try omega) (.slice aY2 x.2.2.1.length qY2))
  have HR2' := Sec.mk (HR2.out.far (p := ⟨w.heap.size + 2, 2, none⟩) (by simp; try omega) (.slice aY2 x.2.2.1.length qY2))
  have HM2' := Sec.mk (HM2.out.setCell (p := ⟨w.heap.size + 2, 2, none⟩) (fun h => absurd h (by simp; try omega)) (.slice aY2 x.2.2.1.length qY2))
  have hMo2 := ((Mod.refl (fun k => k = w.heap.size + 2) w2).setCell (p := ⟨w.heap.size + 2, 2, none⟩) (fun _ => rfl) (.slice aY2 x.2.2.1.length qY2))
  have HW2_2 := Sec.mk (ho2.keep hMo2 (fun k h1 h2 h3 => by simp at h1; omega))
  have HW0_2 := Sec.mk (HW0_2.out.keep hMo2 (fun k h1 h2 h3 => by simp at h1; omega))
  have HW1_2 := Sec.mk (HW1_2.out.keep hMo2 (fun k h1 h2 h3 => by simp at h1; omega))
  clear ho2 hm2 hMo2
  go_wp2_with fail
  refine (toDirOpS_v (H3.out.step HM2'.out) (by omega)).mono ?_
  rintro e w3 ⟨y3, rfl, ho3, hm3⟩
  have HM3 := Sec.mk (HM2'.out.transN hm3)
  have hs3 := hm3.size
  simp [World.setCell] at hs3
  have HX3 := Sec.mk (HX2'.out.mod hm3 id)
  have HR3 := Sec.mk (HR2'.out.mod hm3 id)
  have HO3' := Sec.mk (HO2.out.mod hm3 id)
  have HW0_3 := Sec.mk (HW0_2.out.step hm3)
  have HW1_3 := Sec.mk (HW1_2.out.step hm3)
  have HW2_3 := Sec.mk (HW2_2.out.step hm3)
  have hO3 : w3.cell? ⟨w.heap.size + 2, 3, none⟩ = some (.slice none 0 0) := HO3'.out.cell 3
  have hF3 : w3.frozen? ⟨w.heap.size + 2, 3, none⟩ = false := HO3'.out.frozen 3
  have pX3_4 : w3.cell? ⟨w.heap.size, 4, none⟩ = some (.int .i64 x.2.2.2.2) := HX3.out.cell 4
  have hO4 : w3.cell? ⟨w.heap.size + 2, 4, none⟩ = some (.int .i64 0) := HO3'.out.cell 4
  have hF4 : w3.frozen? ⟨w.heap.size + 2, 4, none⟩ = false := HO3'.out.frozen 4
  obtain ⟨aY3, qY3, rfl⟩ := owSl_form ho3
  have HO3 := Sec.mk ((HO3'.out.set_ 3 (.slice aY3 x.2.2.2.1.length qY3)).set_ 4 (.int .i64 x.2.2.2.2))
  simp only [List.set_cons_zero, List.set_cons_succ] at HO3
  have HX3' := Sec.mk ((HX3.out.far (p := ⟨w.heap.size + 2, 3, none⟩) (by simp; try omega) (.slice aY3 x.2.2.2.1.length qY3)).far (p := ⟨w.heap.size + 2, 4, none⟩) (by simp; try omega) (.int .i64 x.2.2.2.2))
  have HR3' := Sec.mk ((HR3.out.far (p := ⟨w.heap.size + 2, 3, none⟩) (by simp; try omega) (.slice aY3 x.2.2.2.1.length qY3)).far (p := ⟨w.heap.size + 2, 4, none⟩) (by simp; try omega) (.int .i64 x.2.2.2.2))
  have HM3' := Sec.mk ((HM3.out.setCell (p := ⟨w.heap.size + 2, 3, none⟩) (fun h => absurd h (by simp; try omega)) (.slice aY3 x.2.2.2.1.length qY3)).setCell (p := ⟨w.heap.size + 2, 4, none⟩) (fun h => absurd h (by simp; try omega)) (.int .i64 x.2.2.2.2))
  have hMo3 := (((Mod.refl (fun k => k = w.heap.size + 2) w3).setCell (p := ⟨w.heap.size + 2, 3, none⟩) (fun _ => rfl) (.slice aY3 x.2.2.2.1.length qY3)).setCell (p := ⟨w.heap.size + 2, 4, none⟩) (fun _ => rfl) (.int .i64 x.2.2.2.2))
  have HW3_3 := Sec.mk (ho3.keep hMo3 (fun k h1 h2 h3 => by simp at h1; omega))
  have HW0_3 := Sec.mk (HW0_3.out.keep hMo3 (fun k h1 h2 h3 => by simp at h1; omega))
  have HW1_3 := Sec.mk (HW1_3.out.keep hMo3 (fun k h1 h2 h3 => by simp at h1; omega))
  have HW2_3 := Sec.mk (HW2_3.out.keep hMo3 (fun k h1 h2 h3 => by simp at h1; omega))
  clear ho3 hm3 hMo3
  have tO0 := HO3.out.cell 0
  have tR0 := HR3'.out.cell 0
  have tF0 := HR3'.out.frozen 0
  have tO1 := HO3.out.cell 1
  have tR1 := HR3'.out.cell 1
  have tF1 := HR3'.out.frozen 1
  have tO2 := HO3.out.cell 2
  have tR2 := HR3'.out.cell 2
  have tF2 := HR3'.out.frozen 2
  have tO3 := HO3.out.cell 3
  have tR3 := HR3'.out.cell 3
  have tF3 := HR3'.out.frozen 3
  have tO4 := HO3.out.cell 4
  have tR4 := HR3'.out.cell 4
  have tF4 := HR3'.out.frozen 4
  simp only [List.getElem?_cons_zero, List.getElem?_cons_succ] at tO0 tR0 tO1 tR1 tO2 tR2 tO3 tR3 tO4 tR4
  skip
  go_wp2
  refine bodyPost_ret (results_blk rfl rfl (((((HR3'.out.set_ 0 (.slice aY0 x.1.length qY0)).set_ 1 (.slice aY1 x.2.1.length qY1)).set_ 2 (.slice aY2 x.2.2.1.length qY2)).set_ 3 (.slice aY3 x.2.2.2.1.length qY3)).set_ 4 (.int .i64 x.2.2.2.2)) Tryz.underlying34 (by kernel_rfl)) rfl ?_
  have hMr := ((((((Mod.refl (fun k => k = w.heap.size + 1) ((w3.setCell ⟨w.heap.size + 2, 3, none⟩ (.slice aY3 x.2.2.2.1.length qY3)).setCell ⟨w.heap.size + 2, 4, none⟩ (.int .i64 x.2.2.2.2))).setCell (p := ⟨w.heap.size + 1, 0, none⟩) (fun _ => rfl) (.slice aY0 x.1.length qY0)).setCell (p := ⟨w.heap.size + 1, 1, none⟩) (fun _ => rfl) (.slice aY1 x.2.1.length qY1)).setCell (p := ⟨w.heap.size + 1, 2, none⟩) (fun _ => rfl) (.slice aY2 x.2.2.1.length qY2)).setCell (p := ⟨w.heap.size + 1, 3, none⟩) (fun _ => rfl) (.slice aY3 x.2.2.2.1.length qY3)).setCell (p := ⟨w.heap.size + 1, 4, none⟩) (fun _ => rfl) (.int .i64 x.2.2.2.2))
  have z0 := HW0_3.out.keep hMr (fun k h1 h2 h3 => by simp at h1; omega)
  have z1 := HW1_3.out.keep hMr (fun k h1 h2 h3 => by simp at h1; omega)
  have z2 := HW2_3.out.keep hMr (fun k h1 h2 h3 => by simp at h1; omega)
  have z3 := HW3_3.out.keep hMr (fun k h1 h2 h3 => by simp at h1; omega)
  obtain ⟨_, _, F0, _, f0, r0⟩ := OwV.slice z0
  obtain ⟨_, _, F1, _, f1, r1⟩ := OwV.slice z1
  obtain ⟨_, _, F2, _, f2, r2⟩ := OwV.slice z2
  obtain ⟨_, _, F3, _, f3, r3⟩ := OwV.slice z3
  refine ⟨_, rfl, ⟨_, _, rfl, mDisk (HG.out) f0 f1 f2 f3 ?_, ?_⟩, (((((HM3'.out.setCell (fun h => absurd h (by simp; try omega)) _).setCell (fun h => absurd h (by simp; try omega)) _).setCell (fun h => absurd h (by simp; try omega)) _).setCell (fun h => absurd h (by simp; try omega)) _).setCell (fun h => absurd h (by simp; try omega)) _)⟩
  · exact nd4 f0.nd r0 f1.nd r1 f2.nd r2 f3.nd r3 (by (try simp only [sz_set]); omega) (by (try simp only [sz_set]); omega) (by (try simp only [sz_set]); omega) (by (try simp only [sz_set]); omega) (by (try simp only [sz_set]); omega)
  · intro k hk; simp only [List.mem_append, List.mem_nil_iff, or_false, false_or] at hk; rcases hk with hk | hk | hk | hk; all_goals (first | (have := r0 k hk; simp at this ⊢; try omega) | (have := r1 k hk; simp at this ⊢; try omega) | (have := r2 k hk; simp at this ⊢; try omega) | (have := r3 k hk; simp at this ⊢; try omega))

end Go.Proofs.YtkkgighgnbbgiaaGreatDoor

namespace Go.Proofs.YtkkgighgnbbgiaaGreatDoor.Mem
open Go.RowKit
set_option linter.unusedVariables false
section
variable {P : Program} {o : Oper} {a : Act} {w : World} {v : Value}
theorem exec_assign {x : Operand} (ho : o.op = .assign x) (h : a.eval x = v) : (execOp a.eval o).run P w = .ok (.value v) w := by
  unfold execOp; simp only [ho, h, Sem.run_pure]
theorem exec_nil {x : Operand} {ad : Addr} (ho : o.op = .nilCheck x) (hx : a.eval x = .pointer (some ad)) : (execOp a.eval o).run P w = .ok (.value (.pointer (some ad))) w := by
  unfold execOp; simp only [ho, hx, Sem.run_pure]
theorem exec_build {t : TypeId} {parts : List (Nat × Operand)} (ho : o.op = .build t parts.toArray) {vs : List (Nat × Value)} (hx : parts.map (fun (i, x) => (i, a.eval x)) = vs) (h : (Instr.build t vs.toArray).run P w = .ok v w) : (execOp a.eval o).run P w = .ok (.value v) w := by
  unfold execOp; simp only [ho, List.map_toArray, hx, Sem.run_bind, h, Result.andThen_ok, Sem.run_pure]
end
end Go.Proofs.YtkkgighgnbbgiaaGreatDoor.Mem

namespace Go.Proofs.YtkkgighgnbbgiaaGreatDoor
open Go.RowKit Mem
set_option linter.unusedVariables false
set_option linter.unusedSimpArgs false
/-- what a replay comes to -/
def ReplR (o : Option (List EntryT)) (w : World) (e : Ending) (w' : World) : Prop := match o with
  | none => e = .returned (.tuple #[.slice none 0 0, .bool false]) ∧ New w w'
  | some m => ∃ A c, e = .returned (.tuple #[.slice A m.length c, .bool true]) ∧ Mine dEntry 98 w w' (.slice A m.length c) m
theorem ReplR.bad {o : Option (List EntryT)} {w w' : World} (h : o = none) (hm : New w w') : ReplR o w (.returned (.tuple #[.slice none 0 0, .bool false])) w' := by subst h; exact ⟨rfl, hm⟩
theorem ReplR.good {o : Option (List EntryT)} {m : List EntryT} {w w' : World} {A : Option Addr} {c : Nat} (h : o = some m) (hm : Mine dEntry 98 w w' (.slice A m.length c) m) : ReplR o w (.returned (.tuple #[.slice A m.length c, .bool true])) w' := by subst h; exact ⟨A, c, rfl, hm⟩
theorem find_neg {l : List EntL} (h : Ord l) {n : LB} (hn : hasE l n = false) : findE l n = -1 := by rw [find_place h, hn]; rfl
theorem find_pos {l : List EntL} (h : Ord l) {n : LB} (hn : hasE l n = true) : findE l n = (placeE l n : Int) := by rw [find_place h, hn]; rfl
theorem place_lt {l : List EntL} (h : Ord l) {n : LB} (hn : hasE l n = true) : placeE l n < l.length := ((place_at h n).1.mp hn).1
set_option maxHeartbeats 4000000 in
set_option maxRecDepth 100000 in
theorem l1Replay_calls {A : Option Addr} {c : Nat} {xs : List EntryT} {B : Nat → Prop} {w : World} (h : Row dEntry w B A xs.length xs) (hB : ∀ k, B k → k < w.heap.size) (hl : xs.length ≤ 1048576) (ho : Ord xs) (q : DirOpT) (hq1 : q.2.1.length ≤ 9223372036854775807) (hq2 : q.2.2.1.length ≤ 9223372036854775807) (hq3 : IntKind.i64.wrap q.2.2.2 = q.2.2.2) (nodes : Int) :
    Calls Tryz.prog 47 #[.slice A xs.length c, .agg #[.int .i64 q.1, .string ⟨q.2.1.toArray⟩, .string ⟨q.2.2.1.toArray⟩, .int .i64 q.2.2.2], .int .i64 nodes] w (ReplR (replayL xs q nodes) w) := by
  obtain ⟨kd, nm, to, nd⟩ := q
  simp only at hq1 hq2 hq3 ⊢
  have HW := Sec.mk hq3
  have HR := Sec.mk h
  have HB := Sec.mk hB
  have HOR := Sec.mk ho
  have HRL : Sec (replayL xs (kd, nm, to, nd) nodes = if kd = 1 then (if goodL nm = true ∧ to = [] ∧ 0 ≤ nd ∧ nd < nodes ∧ hasNode xs nd = false then some (withE xs nm nd) else none)
    else if kd = 4 then (if hasE xs nm = true ∧ goodL to = true ∧ to ≠ nm ∧ nd = 0 then some (withE (outE xs nm) to ((xs[placeE xs nm]?.getD ([], 0)).2)) else none)
    else if kd = 5 then (if hasE xs nm = true ∧ to = [] ∧ nd = 0 then some (outE xs nm) else none) else none) := ⟨rfl⟩
  generalize replayL xs (kd, nm, to, nd) nodes = res at *
  have HBX := Sec.mk (Blk.new w 90 [.int .i64 kd, .string ⟨nm.toArray⟩, .string ⟨to.toArray⟩, .int .i64 nd])
  have HM0 := Sec.mk ((Mod.refl (fun _ => False) w).alloc (.cells #[.int .i64 kd, .string ⟨nm.toArray⟩, .string ⟨to.toArray⟩, .int .i64 nd] 90))
  have HR0 : Sec (∀ W, New w W → Row dEntry W B A xs.length xs) := ⟨fun W hW => HR.out.mod (fun _ h => h) (fun k hk => hW.block k (HB.out k hk) id)⟩
  have HB0 : Sec (∀ W, New w W → ∀ k, B k → k < W.heap.size) := ⟨fun W hW k hk => Nat.lt_of_lt_of_le (HB.out k hk) hW.size⟩
  clear h hB ho hq3
  go_enter Tryz.func47, Tryz.ntmps47
  go_wp2_with fail
  refine (l1Find_calls (HR0.out _ HM0.out) nm).mono ?_
  rintro e w1 ⟨rfl, hw1⟩
  have HM1 : Sec (New w w1) := ⟨by rw [hw1]; exact HM0.out⟩
  have HX1 : Sec (Blk w1 w.heap.size 90 [.int .i64 kd, .string ⟨nm.toArray⟩, .string ⟨to.toArray⟩, .int .i64 nd]) := ⟨by rw [hw1]; exact HBX.out⟩
  have b0 : w1.cell? ⟨w.heap.size, 0, none⟩ = some (.int .i64 kd) := HX1.out.cell 0
  have b1 : w1.cell? ⟨w.heap.size, 1, none⟩ = some (.string ⟨nm.toArray⟩) := HX1.out.cell 1
  have b2 : w1.cell? ⟨w.heap.size, 2, none⟩ = some (.string ⟨to.toArray⟩) := HX1.out.cell 2
  have b3 : w1.cell? ⟨w.heap.size, 3, none⟩ = some (.int .i64 nd) := HX1.out.cell 3
  clear hw1 HBX HM0
  by_cases hk1 : kd = 1
  · subst hk1
    have HR1 : Sec (res = if goodL nm = true ∧ to = [] ∧ 0 ≤ nd ∧ nd < nodes ∧ hasNode xs nd = false then some (withE xs nm nd) else none) := ⟨HRL.out.trans (if_pos rfl)⟩
    clear HRL
    go_wp2_with fail
    refine (goodS_calls nm hq1 w1).mono ?_
    rintro e w2 ⟨rfl, rfl⟩
    by_cases hg : goodL nm = true
    rotate_left
    · have HE : Sec (res = none) := ⟨HR1.out.trans (if_neg (fun h => hg h.1))⟩
      have hg' : goodL nm = false := by simpa using hg
      rw [hg']
      clear hg hg'
      go_wp2
      go_ret2
      exact ReplR.bad HE.out HM1.out
    rw [hg]
    by_cases ht : to = []
    rotate_left
    · have HE : Sec (res = none) := ⟨HR1.out.trans (if_neg (fun h => ht h.2.1))⟩
      have ht' : to.isEmpty = false := by simpa using ht
      clear ht
      go_wp2
      go_ret2
      exact ReplR.bad HE.out HM1.out
    subst ht
    have hte : ([] : Bytes).isEmpty = true := rfl
    by_cases hn0 : 0 ≤ nd
    rotate_left
    · have HE : Sec (res = none) := ⟨HR1.out.trans (if_neg (fun h => hn0 h.2.2.1))⟩
      have hn0' : nd < 0 := by omega
      clear hn0
      go_wp2
      go_ret2
      exact ReplR.bad HE.out HM1.out
    have hn0' : ¬ nd < 0 := by omega
    by_cases hn1 : nd < nodes
    rotate_left
    · have HE : Sec (res = none) := ⟨HR1.out.trans (if_neg (fun h => hn1 h.2.2.2.1))⟩
      have hn1' : nodes ≤ nd := by omega
      clear hn1
      go_wp2
      go_ret2
      exact ReplR.bad HE.out HM1.out
    have hn1' : ¬ nodes ≤ nd := by omega
    have HR2 : Sec (res = if hasNode xs nd = false then some (withE xs nm nd) else none) := ⟨by
      rw [HR1.out]
      by_cases hh : hasNode xs nd = false
      · rw [if_pos hh, if_pos ⟨hg, rfl, hn0, hn1, hh⟩]
      · rw [if_neg hh, if_neg (fun h => hh h.2.2.2.2)]⟩
    clear HR1 hg
    go_wp2
    go_loopw [42] (fun i wr => ∃ k : Nat, k ≤ xs.length ∧ i = .int .i64 (k : Int) ∧ Sec (hasNode (xs.take k) nd = false) ∧ Sec (New w2 wr)) (fun i _ => xs.length - (intOf i).toNat)
    case atStart => exact ⟨0, Nat.zero_le _, rfl, ⟨rfl⟩, ⟨Mod.refl _ _⟩⟩
    case round =>
      obtain ⟨k, hk, rfl, HN, HM⟩ := hrel
      have c1 : wr.cell? ⟨w.heap.size, 1, none⟩ = some (.string ⟨nm.toArray⟩) := HM.out.cell_of b1
      have c3 : wr.cell? ⟨w.heap.size, 3, none⟩ = some (.int .i64 nd) := HM.out.cell_of b3
      have HMr := Sec.mk (HM1.out.transN HM.out)
      have hwr : w.heap.size < wr.heap.size := Nat.lt_of_lt_of_le HX1.out.lt HM.out.size
      by_cases hlt : k < xs.length
      · obtain ⟨ad, rfl, h0, h1, _, _⟩ := ent_at (HR0.out _ HMr.out) (w' := wr) (fun _ _ => rfl) hlt
        have HS := Sec.mk (hasNode_take (v := nd) hlt)
        have HT := Sec.mk (fun (hv : xs[k].2 = nd) => (hv ▸ hasNode_mem hlt : hasNode xs nd = true))
        have hki : (k : Int) < (xs.length : Int) := by omega
        have HM2 := Sec.mk (HM.out.alloc (.cells #[.string ⟨xs[k].1.toArray⟩, .int .i64 xs[k].2] 98))
        generalize xs[k].1 = zn at *
        generalize xs[k].2 = z at *
        by_cases he : z = nd
        · have HE : Sec (res = none) := ⟨HR2.out.trans (if_neg (by rw [HT.out he]; simp))⟩
          have hz : (z == nd) = true := by simp [he]
          clear he
          go_wp2
          go_ret2
          exact ReplR.bad HE.out (HM1.out.transN HM2.out)
        · have hz : (z == nd) = false := by simpa using he
          have HN' : Sec (hasNode (xs.take (k + 1)) nd = false) := ⟨by rw [HS.out, HN.out, decide_eq_false he]; rfl⟩
          clear he
          go_wp2
          go_roundw
          case rel => exact ⟨k + 1, by omega, by go_num, HN', HM2⟩
          case measure => simp [intOf]; omega
      · obtain rfl : k = xs.length := by omega
        rw [List.take_length] at HN
        have HE : Sec (res = some (withE xs nm nd)) := ⟨HR2.out.trans (if_pos HN.out)⟩
        go_wp2_with fail
        refine (l1With_calls (HR0.out _ HMr.out) (HB0.out _ HMr.out) hl nm hq1 nd HW.out HOR.out).mono ?_
        intro e w5 hret
        obtain ⟨A5, c5, rfl, hmine⟩ := hret.mine
        have HMI := Sec.mk (hmine.base HMr.out)
        clear hret hmine
        go_wp2
        go_ret2
        exact ReplR.good HE.out HMI.out
  have hk1b : (kd == 1) = false := by simpa using hk1
  have HRL2 := Sec.mk (HRL.out.trans (if_neg hk1))
  clear HRL hk1
  by_cases hk4 : kd = 4
  · subst hk4
    have HR1 := Sec.mk (HRL2.out.trans (if_pos rfl))
    clear HRL2
    cases hh : hasE xs nm
    · have HE : Sec (res = none) := ⟨HR1.out.trans (if_neg (by rw [hh]; simp))⟩
      rw [find_neg HOR.out hh]
      clear hh HR1
      go_wp2
      go_ret2
      exact ReplR.bad HE.out HM1.out
    have hpl := place_lt HOR.out hh
    have HH := Sec.mk hh
    rw [find_pos HOR.out hh]
    clear hh
    have HGD : Sec ((xs[placeE xs nm]?.getD ([], 0)).2 = (xs[placeE xs nm]'hpl).2) := ⟨by rw [List.getElem?_eq_getElem hpl]; rfl⟩
    have hpi : (placeE xs nm : Int) < (xs.length : Int) := by omega
    have hpn : ¬ ((placeE xs nm : Int) < 0) := by omega
    obtain ⟨ad, rfl, hx0, hx1, hxn, hxw⟩ := ent_at (HR0.out _ HM1.out) (w' := w1) (fun _ _ => rfl) hpl
    have HXW := Sec.mk hxw
    generalize (xs[placeE xs nm]'hpl).2 = u at *
    generalize placeE xs nm = pl at *
    clear hxw hxn hx0
    go_wp2_with fail
    refine (goodS_calls to hq2 w1).mono ?_
    rintro e w2 ⟨rfl, rfl⟩
    by_cases hg : goodL to = true
    rotate_left
    · have HE : Sec (res = none) := ⟨HR1.out.trans (if_neg (fun h => hg h.2.1))⟩
      have hg' : goodL to = false := by simpa using hg
      rw [hg']
      clear hg hg'
      go_wp2
      go_ret2
      exact ReplR.bad HE.out HM1.out
    rw [hg]
    by_cases ht : to = nm
    · have HE : Sec (res = none) := ⟨HR1.out.trans (if_neg (fun h => h.2.2.1 ht))⟩
      have ht' : (to == nm) = true := by simp [ht]
      clear ht
      go_wp2
      go_ret2
      exact ReplR.bad HE.out HM1.out
    have ht' : (to == nm) = false := by simpa using ht
    by_cases hn : nd = 0
    rotate_left
    · have HE : Sec (res = none) := ⟨HR1.out.trans (if_neg (fun h => hn h.2.2.2))⟩
      have hn' : (nd != 0) = true := by simpa using hn
      clear hn
      go_wp2
      go_ret2
      exact ReplR.bad HE.out HM1.out
    have HE : Sec (res = some (withE (outE xs nm) to u)) := ⟨by rw [HR1.out, if_pos ⟨HH.out, hg, ht, hn⟩, HGD.out]⟩
    subst hn
    clear hg ht HR1 HGD
    go_wp2
    have HWO := Sec.mk (fun W (hW : New w W) => l1Without_calls (c := c) (HR0.out W hW) (HB0.out W hW) hl nm)
    have HORO := Sec.mk (ord_out HOR.out nm)
    have hol := outE_len xs nm
    generalize outE xs nm = ys at *
    have HX2 : Sec (∀ W, New w2 W → W.cell? ⟨w.heap.size, 1, none⟩ = some (.string ⟨nm.toArray⟩) ∧ W.cell? ⟨w.heap.size, 2, none⟩ = some (.string ⟨to.toArray⟩)) := ⟨fun W h => ⟨h.cell_of b1, h.cell_of b2⟩⟩
    have HSS : Sec (New w2 w2.drew) := ⟨(Mod.refl _ _).drew⟩
    refine reg_start [] (fun W => Sec (New w2 W)) (by kernel_rfl) ?_
    refine reg_take (.slice (some ad) xs.length c) (i := 0) (n := 85) HSS rfl (by kernel_rfl) (by kernel_rfl) (by kernel_rfl) (by kernel_rfl) (fun _ _ _ h => h) (fun W hW => exec_move rfl rfl) ?_
    simp only [Act.put, List.setIfInBounds_toArray, List.set_cons_zero, List.set_cons_succ]
    refine reg_take (.pointer (some ⟨w.heap.size, 1, none⟩)) (i := 1) (n := 86) HSS rfl (by kernel_rfl) (by kernel_rfl) (by kernel_rfl) (by kernel_rfl) (fun _ _ _ h => h) (fun W hW => exec_field rfl rfl (fptDirOp1 _ _)) ?_
    simp only [Act.put, List.setIfInBounds_toArray, List.set_cons_zero, List.set_cons_succ]
    refine reg_take (.string ⟨nm.toArray⟩) (i := 2) (n := 87) HSS rfl (by kernel_rfl) (by kernel_rfl) (by kernel_rfl) (by kernel_rfl) (fun _ _ _ h => h) (fun W hW => exec_load rfl rfl (ldStr (HX2.out W hW.out).1)) ?_
    simp only [Act.put, List.setIfInBounds_toArray, List.set_cons_zero, List.set_cons_succ]
    refine reg_take (.pointer (some ⟨w.heap.size, 2, none⟩)) (i := 4) (n := 89) HSS rfl (by kernel_rfl) (by kernel_rfl) (by kernel_rfl) (by kernel_rfl) (fun _ _ _ h => h) (fun W hW => exec_field rfl rfl (fptDirOp2 _ _)) ?_
    simp only [Act.put, List.setIfInBounds_toArray, List.set_cons_zero, List.set_cons_succ]
    refine reg_take (.string ⟨to.toArray⟩) (i := 5) (n := 90) HSS rfl (by kernel_rfl) (by kernel_rfl) (by kernel_rfl) (by kernel_rfl) (fun _ _ _ h => h) (fun W hW => exec_load rfl rfl (ldStr (HX2.out W hW.out).2)) ?_
    simp only [Act.put, List.setIfInBounds_toArray, List.set_cons_zero, List.set_cons_succ]
    refine reg_take (.int .i64 u) (i := 6) (n := 91) HSS rfl (by kernel_rfl) (by kernel_rfl) (by kernel_rfl) (by kernel_rfl) (fun _ _ _ h => h) (fun W hW => exec_move rfl rfl) ?_
    simp only [Act.put, List.setIfInBounds_toArray, List.set_cons_zero, List.set_cons_succ]
    refine reg_step (i := 3) rfl (by kernel_rfl) (fun K hK => ?_)
    refine wp_call (n := 88) (vals := [.slice (some ad) xs.length c, .string ⟨nm.toArray⟩]) rfl rfl rfl (by kernel_rfl) (HWO.out _ (HM1.out.transN HSS.out)) ?_
    intro e w3 hret
    obtain ⟨A3, c3, rfl, hmine⟩ := hret.mine
    have HSS : Sec (New w2 w3) := ⟨HSS.out.transN hmine.new⟩
    have HY := Sec.mk hmine.row
    refine ⟨_, rfl, hK.out _ _ (fun _ => HSS) ?_⟩
    clear hret hmine
    clear hK K
    simp only [Act.put, List.setIfInBounds_toArray, List.set_cons_zero, List.set_cons_succ]
    refine reg_step (i := 7) rfl (by kernel_rfl) (fun K hK => ?_)
    refine wp_call (n := 92) (vals := [.slice A3 ys.length c3, .string ⟨to.toArray⟩, .int .i64 u]) rfl rfl rfl (by kernel_rfl) (l1With_calls (c := c3) HY.out (fun k hk => hk.2) (by omega) to hq2 u HXW.out HORO.out) ?_
    intro e w4 hret
    obtain ⟨A4, c4, rfl, hmine⟩ := hret.mine
    have HMI := Sec.mk (hmine.base (HM1.out.transN HSS.out))
    have HSS : Sec (New w2 w4) := ⟨HSS.out.transN hmine.new⟩
    refine ⟨_, rfl, hK.out _ _ (fun _ => HSS) ?_⟩
    clear hret hmine
    clear hK K
    simp only [Act.put, List.setIfInBounds_toArray, List.set_cons_zero, List.set_cons_succ]
    refine reg_take (.slice A4 (withE ys to u).length c4) (i := 8) (n := 6) HSS rfl (by kernel_rfl) (by kernel_rfl) (by kernel_rfl) (by kernel_rfl) (fun _ _ _ h => h) (fun W hW => exec_assign rfl rfl) ?_
    simp only [Act.put, List.setIfInBounds_toArray, List.set_cons_zero, List.set_cons_succ]
    refine reg_take (.bool true) (i := 9) (n := 7) HSS rfl (by kernel_rfl) (by kernel_rfl) (by kernel_rfl) (by kernel_rfl) (fun _ _ _ h => h) (fun W hW => exec_assign rfl rfl) ?_
    simp only [Act.put, List.setIfInBounds_toArray, List.set_cons_zero, List.set_cons_succ]
    refine reg_done (by kernel_rfl) ?_ _
    go_wp2
    go_ret2
    exact ReplR.good HE.out HMI.out
  have hk4b : (kd == 4) = false := by simpa using hk4
  have HRL3 := Sec.mk (HRL2.out.trans (if_neg hk4))
  clear HRL2 hk4
  by_cases hk5 : kd = 5
  · subst hk5
    have HR1 := Sec.mk (HRL3.out.trans (if_pos rfl))
    clear HRL3
    cases hh : hasE xs nm
    · have HE : Sec (res = none) := ⟨HR1.out.trans (if_neg (by rw [hh]; simp))⟩
      rw [find_neg HOR.out hh]
      clear hh HR1
      go_wp2
      go_ret2
      exact ReplR.bad HE.out HM1.out
    have HH := Sec.mk hh
    rw [find_pos HOR.out hh]
    clear hh
    have hpn : ¬ ((placeE xs nm : Int) < 0) := by omega
    generalize placeE xs nm = pl at *
    by_cases ht : to = []
    rotate_left
    · have HE : Sec (res = none) := ⟨HR1.out.trans (if_neg (fun h => ht h.2.1))⟩
      have ht' : to.isEmpty = false := by simpa using ht
      clear ht
      go_wp2
      go_ret2
      exact ReplR.bad HE.out HM1.out
    subst ht
    by_cases hn : nd = 0
    rotate_left
    · have HE : Sec (res = none) := ⟨HR1.out.trans (if_neg (fun h => hn h.2.2))⟩
      have hn' : (nd != 0) = true := by simpa using hn
      clear hn
      go_wp2
      go_ret2
      exact ReplR.bad HE.out HM1.out
    have HE : Sec (res = some (outE xs nm)) := ⟨by rw [HR1.out, if_pos ⟨HH.out, rfl, hn⟩]⟩
    subst hn
    clear HR1
    go_wp2_with fail
    refine (l1Without_calls (HR0.out _ HM1.out) (HB0.out _ HM1.out) hl nm).mono ?_
    intro e w4 hret
    obtain ⟨A4, c4, rfl, hmine⟩ := hret.mine
    have HMI := Sec.mk (hmine.base HM1.out)
    clear hret hmine
    go_wp2
    go_ret2
    exact ReplR.good HE.out HMI.out
  have hk5b : (kd == 5) = false := by simpa using hk5
  have HE : Sec (res = none) := ⟨HRL3.out.trans (if_neg hk5)⟩
  clear hk5
  go_wp2
  go_ret2
  exact ReplR.bad HE.out HM1.out
end Go.Proofs.YtkkgighgnbbgiaaGreatDoor

namespace Go.Proofs.YtkkgighgnbbgiaaGreatDoor
open Go.RowKit Mem
set_option linter.unusedVariables false
set_option linter.unusedSimpArgs false
set_option maxHeartbeats 8000000 in
set_option maxRecDepth 100000 in
theorem diskValidS_v {w : World} {v : Value} {x : DiskT} (h : RdV true dDisk w v x) : Calls Tryz.prog 21 #[v] w (Ret (.bool (DiskValidL x)) w) := by
  have hqw := okDisk h
  obtain ⟨v0, v1, v2, v3, rfl, k0, k1, k2, k3⟩ := rdDisk h
  obtain ⟨nodes, names, kept, pend, quota⟩ := x
  simp only at k0 k1 k2 k3 hqw ⊢
  have HI := Sec.mk (DiskValidL_iff (nodes, names, kept, pend, quota))
  have HF : Sec (¬ diskOk (nodes, names, kept, pend, quota) → DiskValidL (nodes, names, kept, pend, quota) = false) := ⟨DiskValidL_not⟩
  have HD : Sec (diskOk (nodes, names, kept, pend, quota) ↔ (0 ≤ quota ∧ quota ≤ 1000000 ∧ nodes.length ≤ 600 ∧ pend.length ≤ 1000 ∧ (∀ k, (hk : k < nodes.length) → nodeOk nodes[k] = true) ∧ sumD nodes ≤ 200000 ∧ inOrdL names nodes.length = true ∧ inOrdL kept nodes.length = true ∧ replaysL nodes.length kept pend = some names)) := ⟨Iff.rfl⟩
  generalize diskOk (nodes, names, kept, pend, quota) = OKD at *
  generalize DiskValidL (nodes, names, kept, pend, quota) = r at *
  obtain ⟨A0, c0, rfl, hc0, hr0⟩ := k0.slice
  obtain ⟨A1, c1, rfl, hc1, hr1⟩ := k1.slice
  obtain ⟨A2, c2, rfl, hc2, hr2⟩ := k2.slice
  obtain ⟨A3, c3, rfl, hc3, hr3⟩ := k3.slice
  have hm0 := hr0.2.1
  have hm1 := hr1.2.1
  have hm2 := hr2.2.1
  have hm3 := hr3.2.1
  have HR0 := Sec.mk hr0
  have HR1 := Sec.mk hr1
  have HR2 := Sec.mk hr2
  have HR3 := Sec.mk hr3
  have HBX := Sec.mk (Blk.new w 34 [.slice A0 nodes.length c0, .slice A1 names.length c1, .slice A2 kept.length c2, .slice A3 pend.length c3, .int .i64 quota])
  have HM0 := Sec.mk ((Mod.refl (fun _ => False) w).alloc (.cells #[.slice A0 nodes.length c0, .slice A1 names.length c1, .slice A2 kept.length c2, .slice A3 pend.length c3, .int .i64 quota] 34))
  clear h k0 k1 k2 k3 hr0 hr1 hr2 hr3 hqw
  by_cases hq0 : 0 ≤ quota
  rotate_left
  · have HE : Sec (r = false) := ⟨HF.out (fun h => hq0 (HD.out.1 h).1)⟩
    have hq0' : quota < 0 := by omega
    clear hq0
    go_enter Tryz.func21, Tryz.ntmps21
    go_wp2
    go_ret
    exact ⟨by rw [HE.out]; rfl, HM0.out⟩
  have hq0' : ¬ quota < 0 := by omega
  by_cases hq1 : quota ≤ 1000000
  rotate_left
  · have HE : Sec (r = false) := ⟨HF.out (fun h => hq1 (HD.out.1 h).2.1)⟩
    have hq1' : 1000000 < quota := by omega
    clear hq1
    go_enter Tryz.func21, Tryz.ntmps21
    go_wp2
    go_ret
    exact ⟨by rw [HE.out]; rfl, HM0.out⟩
  have hq1' : ¬ 1000000 < quota := by omega
  by_cases hn : nodes.length ≤ 600
  rotate_left
  · have HE : Sec (r = false) := ⟨HF.out (fun h => hn (HD.out.1 h).2.2.1)⟩
    have hn' : (600 : Int) < (nodes.length : Int) := by omega
    clear hn
    go_enter Tryz.func21, Tryz.ntmps21
    go_wp2
    go_ret
    exact ⟨by rw [HE.out]; rfl, HM0.out⟩
  have hn' : ¬ (600 : Int) < (nodes.length : Int) := by omega
  by_cases hp : pend.length ≤ 1000
  rotate_left
  · have HE : Sec (r = false) := ⟨HF.out (fun h => hp (HD.out.1 h).2.2.2.1)⟩
    have hp' : (1000 : Int) < (pend.length : Int) := by omega
    clear hp
    go_enter Tryz.func21, Tryz.ntmps21
    go_wp2
    go_ret
    exact ⟨by rw [HE.out]; rfl, HM0.out⟩
  have hp' : ¬ (1000 : Int) < (pend.length : Int) := by omega
  go_enter Tryz.func21, Tryz.ntmps21
  go_wp2
  go_loopw [3, 34] (fun t i wr => ∃ k : Nat, k ≤ nodes.length ∧ i = .int .i64 (k : Int) ∧ t = .int .i64 ((sumD (nodes.take k) : Nat) : Int) ∧ sumD (nodes.take k) ≤ k * 40000 ∧ Sec (∀ j, j < k → (hj : j < nodes.length) → nodeOk nodes[j] = true) ∧ Sec (Blk wr w.heap.size 34 [.slice A0 nodes.length c0, .slice A1 names.length c1, .slice A2 kept.length c2, .slice A3 pend.length c3, .int .i64 quota]) ∧ Sec (New w wr)) (fun _ i _ => nodes.length - (intOf i).toNat)
  case atStart => exact ⟨0, Nat.zero_le _, rfl, rfl, by simp [sumD], ⟨fun j h => absurd h (Nat.not_lt_zero _)⟩, HBX, HM0⟩
  case round =>
    obtain ⟨k, hk, rfl, rfl, hsum, HN, HBr, HMr⟩ := hrel
    clear HBX HM0
    by_cases hlt : k < nodes.length
    · obtain ⟨ad, A', c', rfl, h0, h1, hcc, hcm, hrow, hw⟩ := node_at HR0.out (w' := wr) (fun i hi => HMr.out.block i hi id) hlt
      have hki : (k : Int) < (nodes.length : Int) := by omega
      have HST := Sec.mk (sumD_take hlt)
      have HOKN : Sec (nodeOk nodes[k] = decide (nodes[k].1.length ≤ 40000 ∧ 0 ≤ nodes[k].2 ∧ nodes[k].2 ≤ nodes[k].1.length)) := ⟨rfl⟩
      have HBAD : Sec (¬ nodeOk nodes[k] = true → r = false) := ⟨fun h => HF.out (fun hh => h ((HD.out.1 hh).2.2.2.2.1 k hlt))⟩
      have HNX : Sec (nodeOk nodes[k] = true → ∀ j, j < k + 1 → (hj : j < nodes.length) → nodeOk nodes[j] = true) := ⟨fun h j hj hjl => by rcases Nat.lt_succ_iff_lt_or_eq.1 hj with h' | rfl; exact HN.out j h' hjl; exact h⟩
      obtain ⟨⟨dt, sf⟩, hx⟩ : ∃ q, q = nodes[k] := ⟨_, rfl⟩
      rw [← hx] at h0 h1 HST HOKN HBAD HNX
      clear hx hrow hw
      simp only at h0 h1 HST HOKN
      generalize hss : sumD (nodes.take k) = s at *
      generalize nodeOk (dt, sf) = okn at *
      have HMa := Sec.mk (HMr.out.alloc (.cells #[.slice A' dt.length c', .int .i64 sf] 88))
      by_cases g0 : dt.length ≤ 40000
      rotate_left
      · have HE : Sec (r = false) := ⟨HBAD.out (by rw [HOKN.out]; simp only [decide_eq_true_eq]; exact fun h => g0 h.1)⟩
        have g0' : (40000 : Int) < (dt.length : Int) := by omega
        clear g0
        go_wp2
        go_ret
        exact ⟨by rw [HE.out]; rfl, HMa.out⟩
      have g0' : ¬ (40000 : Int) < (dt.length : Int) := by omega
      by_cases g1 : 0 ≤ sf
      rotate_left
      · have HE : Sec (r = false) := ⟨HBAD.out (by rw [HOKN.out]; simp only [decide_eq_true_eq]; exact fun h => g1 h.2.1)⟩
        have g1' : sf < 0 := by omega
        clear g1
        go_wp2
        go_ret
        exact ⟨by rw [HE.out]; rfl, HMa.out⟩
      have g1' : ¬ sf < 0 := by omega
      by_cases g2 : sf ≤ (dt.length : Int)
      rotate_left
      · have HE : Sec (r = false) := ⟨HBAD.out (by rw [HOKN.out]; simp only [decide_eq_true_eq]; exact fun h => g2 h.2.2)⟩
        have g2' : (dt.length : Int) < sf := by omega
        clear g2
        go_wp2
        go_ret
        exact ⟨by rw [HE.out]; rfl, HMa.out⟩
      have g2' : ¬ (dt.length : Int) < sf := by omega
      have HNX2 := Sec.mk (HNX.out (by rw [HOKN.out]; exact decide_eq_true ⟨g0, g1, g2⟩))
      have HBa := Sec.mk (HBr.out.alloc (.cells #[.slice A' dt.length c', .int .i64 sf] 88))
      go_wp2
      go_roundw
      case rel => exact ⟨k + 1, by omega, by go_num, by rw [HST.out]; congr 1, by rw [HST.out]; omega, HNX2, HBa, HMa⟩
      case measure => simp [intOf]; omega
    · obtain rfl : k = nodes.length := by omega
      have hsl : nodes.take nodes.length = nodes := List.take_length
      rw [hsl] at hsum ⊢
      clear hsl
      have hwr : w.heap.size < wr.heap.size := HBr.out.lt
      have p1 : wr.cell? ⟨w.heap.size, 1, none⟩ = some (.slice A1 names.length c1) := HBr.out.cell 1
      have p0 : wr.cell? ⟨w.heap.size, 0, none⟩ = some (.slice A0 nodes.length c0) := HBr.out.cell 0
      have p2 : wr.cell? ⟨w.heap.size, 2, none⟩ = some (.slice A2 kept.length c2) := HBr.out.cell 2
      have p3 : wr.cell? ⟨w.heap.size, 3, none⟩ = some (.slice A3 pend.length c3) := HBr.out.cell 3
      by_cases hs2 : sumD nodes ≤ 200000
      rotate_left
      · have HE : Sec (r = false) := ⟨HF.out (fun h => hs2 (HD.out.1 h).2.2.2.2.2.1)⟩
        have hs2' : (200000 : Int) < ((sumD nodes : Nat) : Int) := by omega
        clear hs2
        go_wp2
        go_ret
        exact ⟨by rw [HE.out]; rfl, HMr.out⟩
      have hs2' : ¬ (200000 : Int) < ((sumD nodes : Nat) : Int) := by omega
      have HNALL : Sec (∀ j, (hj : j < nodes.length) → nodeOk nodes[j] = true) := ⟨fun j hj => HN.out j hj hj⟩
      clear HN
      generalize hsd : sumD nodes = sd at *
      go_wp2_with fail
      refine (l1InOrder_calls (HR1.out.mod (w' := wr) (fun _ h => h) (fun k hk => HMr.out.block k hk id)) (fun k hk => Nat.lt_of_lt_of_le hk HMr.out.size) (nodes.length : Int)).mono ?_
      rintro e w2 ⟨rfl, hm2⟩
      have HM2 := Sec.mk (HMr.out.transN hm2)
      have HB2 := Sec.mk (HBr.out.mod hm2 id)
      clear hm2 p0 p1 p2 p3
      have p0 : w2.cell? ⟨w.heap.size, 0, none⟩ = some (.slice A0 nodes.length c0) := HB2.out.cell 0
      have p2 : w2.cell? ⟨w.heap.size, 2, none⟩ = some (.slice A2 kept.length c2) := HB2.out.cell 2
      by_cases hio : inOrdL names (nodes.length : Int) = true
      rotate_left
      · have HE : Sec (r = false) := ⟨HF.out (fun h => hio (HD.out.1 h).2.2.2.2.2.2.1)⟩
        have hio' : inOrdL names (nodes.length : Int) = false := by simpa using hio
        rw [hio']
        clear hio hio'
        go_wp2
        go_ret
        exact ⟨by rw [HE.out]; rfl, HM2.out⟩
      rw [hio]
      go_wp2_with fail
      refine (l1InOrder_calls (HR2.out.mod (w' := w2) (fun _ h => h) (fun k hk => HM2.out.block k hk id)) (fun k hk => Nat.lt_of_lt_of_le hk HM2.out.size) (nodes.length : Int)).mono ?_
      rintro e w3 ⟨rfl, hm3⟩
      have HM3 := Sec.mk (HM2.out.transN hm3)
      have HB3 := Sec.mk (HB2.out.mod hm3 id)
      clear hm3 p0 p2
      have p0 : w3.cell? ⟨w.heap.size, 0, none⟩ = some (.slice A0 nodes.length c0) := HB3.out.cell 0
      have p1 : w3.cell? ⟨w.heap.size, 1, none⟩ = some (.slice A1 names.length c1) := HB3.out.cell 1
      have p2 : w3.cell? ⟨w.heap.size, 2, none⟩ = some (.slice A2 kept.length c2) := HB3.out.cell 2
      have p3 : w3.cell? ⟨w.heap.size, 3, none⟩ = some (.slice A3 pend.length c3) := HB3.out.cell 3
      by_cases hik : inOrdL kept (nodes.length : Int) = true
      rotate_left
      · have HE : Sec (r = false) := ⟨HF.out (fun h => hik (HD.out.1 h).2.2.2.2.2.2.2.1)⟩
        have hik' : inOrdL kept (nodes.length : Int) = false := by simpa using hik
        rw [hik']
        clear hik hik'
        go_wp2
        go_ret
        exact ⟨by rw [HE.out]; rfl, HM3.out⟩
      rw [hik]
      have HALL : Sec (replaysL nodes.length kept pend = some names → r = true) := ⟨fun h => HI.out.2 (HD.out.2 ⟨hq0, hq1, hn, hp, HNALL.out, hs2, hio, hik, h⟩)⟩
      have HNON : Sec (replaysL nodes.length kept pend ≠ some names → r = false) := ⟨fun h => HF.out (fun hh => h (HD.out.1 hh).2.2.2.2.2.2.2.2)⟩
      have HOK := Sec.mk (inOrdL_ord hik)
      have hk300 : kept.length ≤ 300 := ((inOrdL_iff kept nodes.length).1 hik).1
      have hn300 : names.length ≤ 300 := ((inOrdL_iff names nodes.length).1 hio).1
      clear hio hik HI HF HD HNALL HMr HBr HM2 HB2
      go_wp2
      go_loopw [6, 86] (fun l i wr => ∃ (k : Nat) (A' : Option Addr) (c' : Nat) (cur : List EntryT), k ≤ pend.length ∧ i = .int .i64 (k : Int) ∧ l = .slice A' cur.length c' ∧ Sec (Row dEntry wr (· < wr.heap.size) A' cur.length cur) ∧ Sec (Ord cur) ∧ cur.length ≤ 300 ∧ Sec (replaysL nodes.length kept pend = replaysL nodes.length cur (pend.drop k)) ∧ Sec (Blk wr w.heap.size 34 [.slice A0 nodes.length c0, .slice A1 names.length c1, .slice A2 kept.length c2, .slice A3 pend.length c3, .int .i64 quota]) ∧ Sec (New w wr)) (fun _ i _ => pend.length - (intOf i).toNat)
      case atStart => exact ⟨0, A2, c2, kept, Nat.zero_le _, rfl, rfl, ⟨HR2.out.mod (fun k hk => Nat.lt_of_lt_of_le hk HM3.out.size) (fun k hk => HM3.out.block k hk id)⟩, HOK, hk300, ⟨by rw [List.drop_zero]⟩, HB3, HM3⟩
      case round =>
        obtain ⟨k, A', c', cur, hk, rfl, rfl, HC, HOC, hcl, HP, HBr, HMr⟩ := hrel
        have hwr : w.heap.size < wr.heap.size := HBr.out.lt
        have q0 : wr.cell? ⟨w.heap.size, 0, none⟩ = some (.slice A0 nodes.length c0) := HBr.out.cell 0
        have q1 : wr.cell? ⟨w.heap.size, 1, none⟩ = some (.slice A1 names.length c1) := HBr.out.cell 1
        by_cases hlt : k < pend.length
        · obtain ⟨ad, rfl, d0, d1, d2, d3, g0, g1, g2, g3⟩ := dop_at HR3.out (w' := wr) (fun i hi => HMr.out.block i hi id) hlt
          have hki : (k : Int) < (pend.length : Int) := by omega
          have HS := Sec.mk (HP.out.trans (replaysL_at hlt))
          have HG := Sec.mk (And.intro g0 (And.intro g1 (And.intro g2 g3)))
          clear g0 g1 g2 g3 HP
          have HPX : Sec (∃ q : DirOpT, q = pend[k]) := ⟨⟨_, rfl⟩⟩
          obtain ⟨q, hq⟩ := HPX.out
          rw [← hq] at d0 d1 d2 d3 HG HS
          clear hq HPX
          have HBa := Sec.mk (HBr.out.alloc (.cells #[.int .i64 q.1, .string ⟨q.2.1.toArray⟩, .string ⟨q.2.2.1.toArray⟩, .int .i64 q.2.2.2] 90))
          have HMa := Sec.mk (HMr.out.alloc (.cells #[.int .i64 q.1, .string ⟨q.2.1.toArray⟩, .string ⟨q.2.2.1.toArray⟩, .int .i64 q.2.2.2] 90))
          have HCa := Sec.mk (HC.out.mod (w' := wr.alloc (.cells #[.int .i64 q.1, .string ⟨q.2.1.toArray⟩, .string ⟨q.2.2.1.toArray⟩, .int .i64 q.2.2.2] 90)) (B' := (· < wr.heap.size)) (fun _ h => h) (fun k hk => Below.heap_alloc _ _ _ hk))
          go_wp2_with fail
          refine (l1Replay_calls HCa.out (fun k hk => Nat.lt_of_lt_of_le hk (by simp)) (by omega) HOC.out q HG.out.2.1 HG.out.2.2.1 HG.out.2.2.2 (nodes.length : Int)).mono ?_
          intro e w5 hr5
          have HRO := Sec.mk (fun m (h : replayL cur q nodes.length = some m) => replayL_ord HOC.out h)
          generalize replayL cur q (nodes.length : Int) = res at *
          cases res with
          | none =>
            obtain ⟨rfl, hm5⟩ := hr5
            have HE : Sec (r = false) := ⟨HNON.out (by rw [HS.out]; simp)⟩
            have HM5 := Sec.mk (HMa.out.transN hm5)
            clear hm5
            go_wp2
            go_ret
            exact ⟨by rw [HE.out]; rfl, HM5.out⟩
          | some m =>
            obtain ⟨A5, c5, rfl, hmine⟩ := hr5
            have HM5 := Sec.mk (HMa.out.transN hmine.new)
            have HB5 := Sec.mk (HBa.out.mod hmine.new id)
            have HC5 := Sec.mk (hmine.row.mod (B' := (· < w5.heap.size)) (fun _ h => h.2) (fun _ _ => rfl))
            have hyc := hmine.len.2.1
            clear hmine
            by_cases hml : m.length ≤ 300
            rotate_left
            · have HE : Sec (r = false) := ⟨HNON.out (by rw [HS.out]; simp only [if_neg hml]; simp)⟩
              have hml' : (300 : Int) < (m.length : Int) := by omega
              clear hml
              go_wp2
              go_ret
              exact ⟨by rw [HE.out]; rfl, HM5.out⟩
            have hml' : ¬ (300 : Int) < (m.length : Int) := by omega
            have HS' : Sec (replaysL nodes.length kept pend = replaysL nodes.length m (pend.drop (k + 1))) := ⟨by rw [HS.out]; simp only [if_pos hml]⟩
            have HO5 := Sec.mk (HRO.out m rfl)
            go_wp2
            go_roundw
            case rel => exact ⟨k + 1, A5, c5, m, by omega, by go_num, rfl, HC5, HO5, hml, HS', HB5, HM5⟩
            case measure => simp [intOf]; omega
        · obtain rfl : k = pend.length := by omega
          rw [List.drop_length] at HP
          have HS : Sec (replaysL nodes.length kept pend = some cur) := ⟨HP.out⟩
          go_wp2_with fail
          refine (l1Same_calls HC.out (HR1.out.mod (w' := wr) (fun k hk => Nat.lt_of_lt_of_le hk HMr.out.size) (fun k hk => HMr.out.block k hk id)) (fun k hk => hk)).mono ?_
          rintro e w5 ⟨rfl, hm5⟩
          have HM5 := Sec.mk (HMr.out.transN hm5)
          clear hm5
          by_cases hcn : cur = names
          · have HE : Sec (r = true) := ⟨HALL.out (by rw [HS.out, hcn])⟩
            rw [decide_eq_true hcn]
            clear hcn
            go_wp2
            go_ret
            exact ⟨by rw [HE.out]; rfl, HM5.out⟩
          · have HE : Sec (r = false) := ⟨HNON.out (by rw [HS.out]; intro h; exact hcn (Option.some.inj h))⟩
            rw [decide_eq_false hcn]
            clear hcn
            go_wp2
            go_ret
            exact ⟨by rw [HE.out]; rfl, HM5.out⟩
end Go.Proofs.YtkkgighgnbbgiaaGreatDoor
