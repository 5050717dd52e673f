/- The program's test of a list of names. -/
import Derived.Test.YtinfibggdbakoaaOrderS
import Derived.Test.YtinfibggdbakoaaMapLib
import Derived.BigQuiet
import Derived.Carry
namespace Go.Proofs.Ytinfibggdbakoaa
open Go.RowKit Mem Go.Maps
set_option linter.unusedVariables false
set_option linter.unusedSimpArgs false
theorem hasNode_false {l : List EntL} {k : Nat} {v : Int} (hk : k < l.length) : hasNode (l.take k) v = false ↔ ∀ j (hj : j < k), (l[j]'(by omega)).2 ≠ v := by
  unfold hasNode
  rw [List.any_eq_false]
  constructor
  · intro h j hj
    have hm : (l[j]'(by omega)) ∈ l.take k := by
      rw [List.mem_take_iff_getElem]
      exact ⟨j, by omega, rfl⟩
    have := h _ hm
    simpa using this
  · intro h x hx
    rw [List.mem_take_iff_getElem] at hx
    obtain ⟨j, hj, rfl⟩ := hx
    simpa using h j (by omega)
theorem atOk_iff {l : List EntL} {nodes : Int} {k : Nat} (hk : k < l.length) (hp : ∀ j, j < k → atOk l nodes j) :
    atOk l nodes k ↔ goodL l[k].1 = true ∧ 0 ≤ l[k].2 ∧ l[k].2 < nodes ∧ (∀ (h : 0 < k), (l[k - 1]'(by omega)).1 < l[k].1) ∧ hasNode (l.take k) l[k].2 = false := by
  constructor
  · intro h
    obtain ⟨h1, h2, h3, h4⟩ := h hk
    exact ⟨h1, h2, h3, fun h0 => (h4 (k - 1) (by omega)).1, (hasNode_false hk).2 fun j hj => (h4 j hj).2⟩
  · rintro ⟨h1, h2, h3, h4, h5⟩ _
    refine ⟨h1, h2, h3, fun j hj => ⟨?_, (hasNode_false hk).1 h5 j hj⟩⟩
    rcases Nat.lt_or_eq_of_le (show j ≤ k - 1 by omega) with h | h
    · exact lb_trans ((hp (k - 1) (by omega) (by omega)).2.2.2 j h).1 (h4 (by omega))
    · subst h; exact h4 (by omega)
theorem mkMapIB (w : World) : (Instr.makeMap 92 none).run Try.prog w = .ok (.map (some w.heap.size)) (w.alloc (.map #[] 0)) := run_makeMap _ w
theorem kInt : KeyE Try.prog 3 (fun x : Int => (Lit.int .i64 x).wf = true) (fun x => .int .i64 x) (fun x => .int .i64 x) := keyI Try.underlying3
theorem vBool : ValE Try.prog 4 (fun _ : Bool => True) (fun x => .bool x) (fun x => .bool x) false := valB Try.underlying4 (fun w => by go_simp)
abbrev MapIB (w : World) (b n : Nat) (f : Int → Bool) : Prop := MapOf Try.prog 3 4 (fun x : Int => .int .i64 x) (fun x : Bool => .bool x) false w b n f
theorem wfInt {u : Int} (h : IntKind.i64.wrap u = u) : (Lit.int .i64 u).wf = true := by
  rw [IntKind.wrap_i64] at h
  simp [Lit.wf, IntKind.min, IntKind.max, IntKind.bits, IntKind.signed]; omega
set_option maxHeartbeats 40000000 in
set_option maxRecDepth 100000 in
theorem inOrder_calls {A : Option Addr} {c : Nat} {xs : List EntryT} {B : Nat → Prop} {w : World} (h : Row dEntry w B A xs.length xs) (hB : ∀ k, B k → k < w.heap.size) (nodes : Int) : Calls Try.prog 32 #[.slice A xs.length c, .int .i64 nodes] w (Ret (.bool (inOrdL xs nodes)) w) := by
  have hmx := h.2.1
  have HR := Sec.mk h
  have HB := Sec.mk hB
  have HI := Sec.mk (inOrdL_iff xs nodes)
  have HF : Sec (¬ (xs.length ≤ 300 ∧ ∀ k, atOk xs nodes k) → inOrdL xs nodes = false) := ⟨fun h => by
    cases hg : inOrdL xs nodes with
    | false => rfl
    | true => exact absurd (HI.out.1 hg) h⟩
  generalize inOrdL xs nodes = r at *
  clear h hB
  by_cases h3 : xs.length ≤ 300
  rotate_left
  · have HE : Sec (r = false) := ⟨HF.out (fun h => h3 h.1)⟩
    have h3i : (300 : Int) < (xs.length : Int) := by omega
    clear h3
    go_enter Try.func32, Try.ntmps32
    go_wp2
    go_ret
    exact ⟨by rw [HE.out]; rfl, Mod.refl _ _⟩
  have h3i : ¬ (300 : Int) < (xs.length : Int) := by omega
  have mk := mkMapIB
  go_enter Try.func32, Try.ntmps32
  go_wp2
  clear mk
  have HM0 : Sec (New w (w.alloc (.map #[] 0))) := ⟨(Mod.refl _ _).alloc _⟩
  have HP0 : Sec (MapIB (w.alloc (.map #[] 0)) w.heap.size 0 (fun _ => false)) := ⟨MapOf.made _⟩
  go_loopw [14] (fun i wr => ∃ k : Nat, k ≤ xs.length ∧ i = .int .i64 (k : Int) ∧ Sec (∀ j, j < k → atOk xs nodes j) ∧ Sec (New w wr) ∧ Sec (MapIB wr w.heap.size k (fun v => hasNode (xs.take k) v))) (fun i _ => xs.length - (intOf i).toNat)
  case atStart => exact ⟨0, Nat.zero_le _, rfl, ⟨fun j h => absurd h (Nat.not_lt_zero _)⟩, HM0, HP0⟩
  case round =>
    obtain ⟨k, hk, rfl, HN, HM, HP⟩ := hrel
    clear HM0 HP0
    by_cases hlt : k < xs.length
    · obtain ⟨ad, rfl, h0, h1, hzn, hzw⟩ := ent_at HR.out (w' := wr) (fun i hi => HM.out.block i (HB.out i hi) id) hlt
      have hki : (k : Int) < (xs.length : Int) := by omega
      have HAT := Sec.mk (atOk_iff hlt HN.out)
      have HBAD : Sec (¬ atOk xs nodes k → r = false) := ⟨fun h => HF.out (fun hh => h (hh.2 k))⟩
      have HNX : Sec (atOk xs nodes k → ∀ j, j < k + 1 → atOk xs nodes j) := ⟨fun h j hj => by rcases Nat.lt_succ_iff_lt_or_eq.1 hj with h' | rfl; exact HN.out j h'; exact h⟩
      have HPV : Sec (∀ (h : 0 < k), wr.cell? (ad.add ((k - 1) * 2)) = some (.string ⟨(xs[k - 1]'(by omega)).1.toArray⟩)) := ⟨fun h => by
        obtain ⟨ad', hA, y0, _, _, _⟩ := ent_at HR.out (w' := wr) (fun i hi => HM.out.block i (HB.out i hi) id) (k := k - 1) (by omega)
        obtain rfl := Option.some.inj hA
        exact y0⟩
      have HTK : Sec ((fun v => if v = xs[k].2 then true else hasNode (xs.take k) v) = fun v => hasNode (xs.take (k + 1)) v) := ⟨funext fun v => by
        rw [hasNode_take hlt]
        by_cases hv : v = xs[k].2
        · rw [if_pos hv, decide_eq_true hv.symm, Bool.or_true]
        · rw [if_neg hv, decide_eq_false (fun h => hv h.symm), Bool.or_false]⟩
      have HWF := Sec.mk (wfInt hzw)
      obtain ⟨⟨z, u⟩, hx⟩ : ∃ q, q = xs[k] := ⟨_, rfl⟩
      rw [← hx] at h0 h1 HAT hzn HTK HWF
      simp only at h0 h1 HAT hzn HTK HWF
      clear hx hzw HN
      generalize atOk xs nodes k = OKK at *
      have HZ := Sec.mk hzn
      have HMa := Sec.mk (HM.out.alloc (.cells #[.string ⟨z.toArray⟩, .int .i64 u] 70))
      have HPa := Sec.mk (HP.out.mod (w' := wr.alloc (.cells #[.string ⟨z.toArray⟩, .int .i64 u] 70)) ((Mod.refl (fun _ => False) _).alloc _) id)
      have HLK : Sec (∀ W, New (wr.alloc (.cells #[.string ⟨z.toArray⟩, .int .i64 u] 70)) W → (Instr.lookup 92 (.map (some w.heap.size)) (.int .i64 u) false).run Try.prog W = .ok (.bool (hasNode (xs.take k) u)) W) := ⟨fun W hW => (HPa.out.mod hW id).look kInt vBool Try.underlying92 HWF.out⟩
      have hlk1 := HLK.out _ (Mod.refl _ _)
      have hlk2 := HLK.out _ (Mod.refl _ _).drew
      have hlk3 := fun q => HLK.out _ ((Mod.refl _ _).drewN q)
      have HPq : Sec (∀ q, MapIB ((wr.alloc (.cells #[.string ⟨z.toArray⟩, .int .i64 u] 70)).drewN q) w.heap.size k (fun v => hasNode (xs.take k) v)) := ⟨fun q => HPa.out.mod ((Mod.refl (fun _ => False) _).drewN q) id⟩
      clear hzn HM HP HPa HLK
      generalize hsn : hasNode (xs.take k) u = sn at *
      have HSN := Sec.mk hsn
      clear hsn
      cases hg : goodL z
      · have HE : Sec (r = false) := ⟨HBAD.out (fun hh => by have := (HAT.out.1 hh).1; rw [hg] at this; cases this)⟩
        have hgc := goodI_calls z HZ.out
        rw [hg] at hgc
        clear HPV
        go_wp2
        refine wp_region_quiet_lit (by kernel_rfl) (by kernel_rfl) ?_
        repeat ((with_reducible refine wpQuiet_step (fun K hK => ?_)); go_simp; first | (refine hK _ ?_; clear hK K) | (apply Exists.intro; refine ⟨fun _ => ?_, hK _ ?_⟩; (first | (go_at_call 60; refine Calls.quiet_of_same (hgc _))); clear hK K))
        refine wpQuiet_nil ?_
        intro _ hwq
        obtain ⟨nq, hwqq⟩ := hwq
        subst hwqq
        go_wp2
        go_ret
        exact ⟨by rw [HE.out]; rfl, HMa.out.drewN _⟩
      have HG := Sec.mk hg
      have hgc := goodI_calls z HZ.out
      rw [hg] at hgc
      clear hg
      by_cases hk0 : 0 < k
      · have hki0 : (0 : Int) < (k : Int) := by omega
        have y0 : (wr.alloc (.cells #[.string ⟨z.toArray⟩, .int .i64 u] 70)).cell? (ad.add ((k - 1) * 2)) = some (.string ⟨(xs[k - 1]'(by omega)).1.toArray⟩) := ((Mod.refl (fun _ => False) wr).alloc _ : New wr _).cell_of (HPV.out hk0)
        have HAT2 := Sec.mk fun hh => (HAT.out.1 hh).2.2.2.1 hk0
        have hkm : (k : Int) - 1 = ((k - 1 : Nat) : Int) := by omega
        have hkw : IntKind.i64.wrap ((k - 1 : Nat) : Int) = ((k - 1 : Nat) : Int) := by rw [IntKind.wrap_i64]; omega
        have hkl : ((k - 1 : Nat) : Int) < (xs.length : Int) := by omega
        have HPR0 : Sec (∀ zp, zp = (xs[k - 1]'(by omega)).1 → zp < z → (xs[k - 1]'(by omega)).1 < z) := ⟨fun zp e h => e ▸ h⟩
        obtain ⟨zp, hzp⟩ : ∃ zp, zp = (xs[k - 1]'(by omega)).1 := ⟨_, rfl⟩
        rw [← hzp] at y0
        have HZP := Sec.mk hzp
        clear hzp HPV
        have hge := fun w => strGe zp z w
        by_cases he : zp < z
        rotate_left
        · have HE : Sec (r = false) := ⟨HBAD.out (fun hh => he (by rw [HZP.out]; exact HAT2.out hh))⟩
          rw [decide_eq_true he] at hge
          clear he
          go_wp2
          refine wp_region_quiet_lit (by kernel_rfl) (by kernel_rfl) ?_
          repeat ((with_reducible refine wpQuiet_step (fun K hK => ?_)); go_simp; first | (refine hK _ ?_; clear hK K) | (apply Exists.intro; refine ⟨fun _ => ?_, hK _ ?_⟩; (first | (go_at_call 60; refine Calls.quiet_of_same (hgc _))); clear hK K))
          refine wpQuiet_nil ?_
          intro _ hwq
          obtain ⟨nq, hwqq⟩ := hwq
          subst hwqq
          go_wp2
          go_ret
          exact ⟨by rw [HE.out]; rfl, HMa.out.drewN _⟩
        rw [decide_eq_false (fun h => h he)] at hge
        have HPR := Sec.mk (HPR0.out zp HZP.out he)
        clear he
        by_cases hn0 : 0 ≤ u
        rotate_left
        · have HE : Sec (r = false) := ⟨HBAD.out (fun hh => hn0 (HAT.out.1 hh).2.1)⟩
          have hn0' : u < 0 := by omega
          clear hn0
          go_wp2
          refine wp_region_quiet_lit (by kernel_rfl) (by kernel_rfl) ?_
          repeat ((with_reducible refine wpQuiet_step (fun K hK => ?_)); go_simp; first | (refine hK _ ?_; clear hK K) | (apply Exists.intro; refine ⟨fun _ => ?_, hK _ ?_⟩; (first | (go_at_call 60; refine Calls.quiet_of_same (hgc _))); clear hK K))
          refine wpQuiet_nil ?_
          intro _ hwq
          obtain ⟨nq, hwqq⟩ := hwq
          subst hwqq
          go_wp2
          go_ret
          exact ⟨by rw [HE.out]; rfl, HMa.out.drewN _⟩
        have hn0' : ¬ u < 0 := by omega
        by_cases hn1 : u < nodes
        rotate_left
        · have HE : Sec (r = false) := ⟨HBAD.out (fun hh => hn1 (HAT.out.1 hh).2.2.1)⟩
          have hn1' : nodes ≤ u := by omega
          clear hn1
          go_wp2
          refine wp_region_quiet_lit (by kernel_rfl) (by kernel_rfl) ?_
          repeat ((with_reducible refine wpQuiet_step (fun K hK => ?_)); go_simp; first | (refine hK _ ?_; clear hK K) | (apply Exists.intro; refine ⟨fun _ => ?_, hK _ ?_⟩; (first | (go_at_call 60; refine Calls.quiet_of_same (hgc _))); clear hK K))
          refine wpQuiet_nil ?_
          intro _ hwq
          obtain ⟨nq, hwqq⟩ := hwq
          subst hwqq
          go_wp2
          go_ret
          exact ⟨by rw [HE.out]; rfl, HMa.out.drewN _⟩
        have hn1' : ¬ nodes ≤ u := by omega
        cases sn
        rotate_left
        · have HE : Sec (r = false) := ⟨HBAD.out (fun hh => by have := (HAT.out.1 hh).2.2.2.2; cases this)⟩
          go_wp2
          refine wp_region_quiet_lit (by kernel_rfl) (by kernel_rfl) ?_
          repeat ((with_reducible refine wpQuiet_step (fun K hK => ?_)); go_simp; first | (refine hK _ ?_; clear hK K) | (apply Exists.intro; refine ⟨fun _ => ?_, hK _ ?_⟩; (first | (go_at_call 60; refine Calls.quiet_of_same (hgc _))); clear hK K))
          refine wpQuiet_nil ?_
          intro _ hwq
          obtain ⟨nq, hwqq⟩ := hwq
          subst hwqq
          go_wp2
          go_ret
          exact ⟨by rw [HE.out]; rfl, HMa.out.drewN _⟩
        have HN' := Sec.mk (HNX.out (HAT.out.2 ⟨HG.out, hn0, hn1, (fun h0 => HPR.out), rfl⟩))
        clear hn0 hn1
        go_wp2
        refine wp_region_quiet_lit (by kernel_rfl) (by kernel_rfl) ?_
        repeat ((with_reducible refine wpQuiet_step (fun K hK => ?_)); go_simp; first | (refine hK _ ?_; clear hK K) | (apply Exists.intro; refine ⟨fun _ => ?_, hK _ ?_⟩; (first | (go_at_call 60; refine Calls.quiet_of_same (hgc _))); clear hK K))
        refine wpQuiet_nil ?_
        intro _ hwq
        obtain ⟨nq, hwqq⟩ := hwq
        subst hwqq
        have HPd := Sec.mk fun q => HPq.out q
        clear hlk1 hlk2 hlk3 hgc HPd
        go_wp2_with (refine wpList_mapSet (w := _) kInt vBool rfl _ _ _ _ (.inl rfl) Try.underlying92 rfl (HPq.out _) (by simp only [maxLen]; omega) u true rfl rfl HWF.out trivial ?_; intro m1 hmap hmod; rw [HTK.out] at hmap; have HP1 := Sec.mk hmap; have HM1 := Sec.mk ((HMa.out.drewN _).trans hmod (fun i hi hl => by omega)); clear hmap hmod)
        go_roundw
        case rel => exact ⟨k + 1, by omega, by go_num, HN', HM1, HP1⟩
        case measure => simp [intOf]; omega
      have hki0 : decide (0 < k) = false := decide_eq_false hk0
      have HK0 := Sec.mk hk0
      clear hk0
      clear HPV
      by_cases hn0 : 0 ≤ u
      rotate_left
      · have HE : Sec (r = false) := ⟨HBAD.out (fun hh => hn0 (HAT.out.1 hh).2.1)⟩
        have hn0' : u < 0 := by omega
        clear hn0
        go_wp2
        refine wp_region_quiet_lit (by kernel_rfl) (by kernel_rfl) ?_
        repeat ((with_reducible refine wpQuiet_step (fun K hK => ?_)); go_simp; first | (refine hK _ ?_; clear hK K) | (apply Exists.intro; refine ⟨fun _ => ?_, hK _ ?_⟩; (first | (go_at_call 60; refine Calls.quiet_of_same (hgc _))); clear hK K))
        refine wpQuiet_nil ?_
        intro _ hwq
        obtain ⟨nq, hwqq⟩ := hwq
        subst hwqq
        go_wp2
        go_ret
        exact ⟨by rw [HE.out]; rfl, HMa.out.drewN _⟩
      have hn0' : ¬ u < 0 := by omega
      by_cases hn1 : u < nodes
      rotate_left
      · have HE : Sec (r = false) := ⟨HBAD.out (fun hh => hn1 (HAT.out.1 hh).2.2.1)⟩
        have hn1' : nodes ≤ u := by omega
        clear hn1
        go_wp2
        refine wp_region_quiet_lit (by kernel_rfl) (by kernel_rfl) ?_
        repeat ((with_reducible refine wpQuiet_step (fun K hK => ?_)); go_simp; first | (refine hK _ ?_; clear hK K) | (apply Exists.intro; refine ⟨fun _ => ?_, hK _ ?_⟩; (first | (go_at_call 60; refine Calls.quiet_of_same (hgc _))); clear hK K))
        refine wpQuiet_nil ?_
        intro _ hwq
        obtain ⟨nq, hwqq⟩ := hwq
        subst hwqq
        go_wp2
        go_ret
        exact ⟨by rw [HE.out]; rfl, HMa.out.drewN _⟩
      have hn1' : ¬ nodes ≤ u := by omega
      cases sn
      rotate_left
      · have HE : Sec (r = false) := ⟨HBAD.out (fun hh => by have := (HAT.out.1 hh).2.2.2.2; cases this)⟩
        go_wp2
        refine wp_region_quiet_lit (by kernel_rfl) (by kernel_rfl) ?_
        repeat ((with_reducible refine wpQuiet_step (fun K hK => ?_)); go_simp; first | (refine hK _ ?_; clear hK K) | (apply Exists.intro; refine ⟨fun _ => ?_, hK _ ?_⟩; (first | (go_at_call 60; refine Calls.quiet_of_same (hgc _))); clear hK K))
        refine wpQuiet_nil ?_
        intro _ hwq
        obtain ⟨nq, hwqq⟩ := hwq
        subst hwqq
        go_wp2
        go_ret
        exact ⟨by rw [HE.out]; rfl, HMa.out.drewN _⟩
      have HN' := Sec.mk (HNX.out (HAT.out.2 ⟨HG.out, hn0, hn1, (fun h0 => absurd h0 HK0.out), rfl⟩))
      clear hn0 hn1
      go_wp2
      refine wp_region_quiet_lit (by kernel_rfl) (by kernel_rfl) ?_
      repeat ((with_reducible refine wpQuiet_step (fun K hK => ?_)); go_simp; first | (refine hK _ ?_; clear hK K) | (apply Exists.intro; refine ⟨fun _ => ?_, hK _ ?_⟩; (first | (go_at_call 60; refine Calls.quiet_of_same (hgc _))); clear hK K))
      refine wpQuiet_nil ?_
      intro _ hwq
      obtain ⟨nq, hwqq⟩ := hwq
      subst hwqq
      have HPd := Sec.mk fun q => HPq.out q
      clear hlk1 hlk2 hlk3 hgc HPd
      go_wp2_with (refine wpList_mapSet (w := _) kInt vBool rfl _ _ _ _ (.inl rfl) Try.underlying92 rfl (HPq.out _) (by simp only [maxLen]; omega) u true rfl rfl HWF.out trivial ?_; intro m1 hmap hmod; rw [HTK.out] at hmap; have HP1 := Sec.mk hmap; have HM1 := Sec.mk ((HMa.out.drewN _).trans hmod (fun i hi hl => by omega)); clear hmap hmod)
      go_roundw
      case rel => exact ⟨k + 1, by omega, by go_num, HN', HM1, HP1⟩
      case measure => simp [intOf]; omega
    · obtain rfl : k = xs.length := by omega
      have HE : Sec (r = true) := ⟨HI.out.2 ⟨h3, fun j hj => HN.out j hj hj⟩⟩
      go_wp2
      go_ret
      exact ⟨by rw [HE.out]; rfl, HM.out⟩
end Go.Proofs.Ytinfibggdbakoaa
