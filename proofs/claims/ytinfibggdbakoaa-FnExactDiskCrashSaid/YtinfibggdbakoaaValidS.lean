/- DiskValid of the specification. -/
import Derived.Test.YtinfibggdbakoaaDiskAt
import Derived.Test.YtinfibggdbakoaaTDisk
import Derived.Test.YtinfibggdbakoaaReplayS
namespace Go.Proofs.Ytinfibggdbakoaa
open Go.RowKit Mem
set_option linter.unusedVariables false
set_option linter.unusedSimpArgs false
set_option maxHeartbeats 8000000 in
set_option maxRecDepth 100000 in
theorem diskValidS_v {w : World} {v : Value} {x : DiskT} (h : RdV true dDisk w v x) : Calls Try.prog 7 #[v] w (Ret (.bool (DiskValidL x)) w) := by
  have hqw := okDisk h
  obtain ⟨v0, v1, v2, v3, rfl, k0, k1, k2, k3⟩ := rdDisk h
  obtain ⟨nodes, names, kept, pend, quota⟩ := x
  simp only at k0 k1 k2 k3 hqw ⊢
  have HI := Sec.mk (DiskValidL_iff (nodes, names, kept, pend, quota))
  have HF : Sec (¬ diskOk (nodes, names, kept, pend, quota) → DiskValidL (nodes, names, kept, pend, quota) = false) := ⟨DiskValidL_not⟩
  have HD : Sec (diskOk (nodes, names, kept, pend, quota) ↔ (0 ≤ quota ∧ quota ≤ 1000000 ∧ nodes.length ≤ 600 ∧ pend.length ≤ 1000 ∧ (∀ k, (hk : k < nodes.length) → nodeOk nodes[k] = true) ∧ sumD nodes ≤ 200000 ∧ inOrdL names nodes.length = true ∧ inOrdL kept nodes.length = true ∧ replaysL nodes.length kept pend = some names)) := ⟨Iff.rfl⟩
  generalize diskOk (nodes, names, kept, pend, quota) = OKD at *
  generalize DiskValidL (nodes, names, kept, pend, quota) = r at *
  obtain ⟨A0, c0, rfl, hc0, hr0⟩ := k0.slice
  obtain ⟨A1, c1, rfl, hc1, hr1⟩ := k1.slice
  obtain ⟨A2, c2, rfl, hc2, hr2⟩ := k2.slice
  obtain ⟨A3, c3, rfl, hc3, hr3⟩ := k3.slice
  have hm0 := hr0.2.1
  have hm1 := hr1.2.1
  have hm2 := hr2.2.1
  have hm3 := hr3.2.1
  have HR0 := Sec.mk hr0
  have HR1 := Sec.mk hr1
  have HR2 := Sec.mk hr2
  have HR3 := Sec.mk hr3
  have HBX := Sec.mk (Blk.new w 33 [.slice A0 nodes.length c0, .slice A1 names.length c1, .slice A2 kept.length c2, .slice A3 pend.length c3, .int .i64 quota])
  have HM0 := Sec.mk ((Mod.refl (fun _ => False) w).alloc (.cells #[.slice A0 nodes.length c0, .slice A1 names.length c1, .slice A2 kept.length c2, .slice A3 pend.length c3, .int .i64 quota] 33))
  clear h k0 k1 k2 k3 hr0 hr1 hr2 hr3 hqw
  by_cases hq0 : 0 ≤ quota
  rotate_left
  · have HE : Sec (r = false) := ⟨HF.out (fun h => hq0 (HD.out.1 h).1)⟩
    have hq0' : quota < 0 := by omega
    clear hq0
    go_enter Try.func7, Try.ntmps7
    go_wp2
    go_ret
    exact ⟨by rw [HE.out]; rfl, HM0.out⟩
  have hq0' : ¬ quota < 0 := by omega
  by_cases hq1 : quota ≤ 1000000
  rotate_left
  · have HE : Sec (r = false) := ⟨HF.out (fun h => hq1 (HD.out.1 h).2.1)⟩
    have hq1' : 1000000 < quota := by omega
    clear hq1
    go_enter Try.func7, Try.ntmps7
    go_wp2
    go_ret
    exact ⟨by rw [HE.out]; rfl, HM0.out⟩
  have hq1' : ¬ 1000000 < quota := by omega
  by_cases hn : nodes.length ≤ 600
  rotate_left
  · have HE : Sec (r = false) := ⟨HF.out (fun h => hn (HD.out.1 h).2.2.1)⟩
    have hn' : (600 : Int) < (nodes.length : Int) := by omega
    clear hn
    go_enter Try.func7, Try.ntmps7
    go_wp2
    go_ret
    exact ⟨by rw [HE.out]; rfl, HM0.out⟩
  have hn' : ¬ (600 : Int) < (nodes.length : Int) := by omega
  by_cases hp : pend.length ≤ 1000
  rotate_left
  · have HE : Sec (r = false) := ⟨HF.out (fun h => hp (HD.out.1 h).2.2.2.1)⟩
    have hp' : (1000 : Int) < (pend.length : Int) := by omega
    clear hp
    go_enter Try.func7, Try.ntmps7
    go_wp2
    go_ret
    exact ⟨by rw [HE.out]; rfl, HM0.out⟩
  have hp' : ¬ (1000 : Int) < (pend.length : Int) := by omega
  go_enter Try.func7, Try.ntmps7
  go_wp2
  go_loopw [3, 34] (fun t i wr => ∃ k : Nat, k ≤ nodes.length ∧ i = .int .i64 (k : Int) ∧ t = .int .i64 ((sumD (nodes.take k) : Nat) : Int) ∧ sumD (nodes.take k) ≤ k * 40000 ∧ Sec (∀ j, j < k → (hj : j < nodes.length) → nodeOk nodes[j] = true) ∧ Sec (Blk wr w.heap.size 33 [.slice A0 nodes.length c0, .slice A1 names.length c1, .slice A2 kept.length c2, .slice A3 pend.length c3, .int .i64 quota]) ∧ Sec (New w wr)) (fun _ i _ => nodes.length - (intOf i).toNat)
  case atStart => exact ⟨0, Nat.zero_le _, rfl, rfl, by simp [sumD], ⟨fun j h => absurd h (Nat.not_lt_zero _)⟩, HBX, HM0⟩
  case round =>
    obtain ⟨k, hk, rfl, rfl, hsum, HN, HBr, HMr⟩ := hrel
    clear HBX HM0
    by_cases hlt : k < nodes.length
    · obtain ⟨ad, A', c', rfl, h0, h1, hcc, hcm, hrow, hw⟩ := node_at HR0.out (w' := wr) (fun i hi => HMr.out.block i hi id) hlt
      have hki : (k : Int) < (nodes.length : Int) := by omega
      have HST := Sec.mk (sumD_take hlt)
      have HOKN : Sec (nodeOk nodes[k] = decide (nodes[k].1.length ≤ 40000 ∧ 0 ≤ nodes[k].2 ∧ nodes[k].2 ≤ nodes[k].1.length)) := ⟨rfl⟩
      have HBAD : Sec (¬ nodeOk nodes[k] = true → r = false) := ⟨fun h => HF.out (fun hh => h ((HD.out.1 hh).2.2.2.2.1 k hlt))⟩
      have HNX : Sec (nodeOk nodes[k] = true → ∀ j, j < k + 1 → (hj : j < nodes.length) → nodeOk nodes[j] = true) := ⟨fun h j hj hjl => by rcases Nat.lt_succ_iff_lt_or_eq.1 hj with h' | rfl; exact HN.out j h' hjl; exact h⟩
      obtain ⟨⟨dt, sf⟩, hx⟩ : ∃ q, q = nodes[k] := ⟨_, rfl⟩
      rw [← hx] at h0 h1 HST HOKN HBAD HNX
      clear hx hrow hw
      simp only at h0 h1 HST HOKN
      generalize hss : sumD (nodes.take k) = s at *
      generalize nodeOk (dt, sf) = okn at *
      have HMa := Sec.mk (HMr.out.alloc (.cells #[.slice A' dt.length c', .int .i64 sf] 55))
      by_cases g0 : dt.length ≤ 40000
      rotate_left
      · have HE : Sec (r = false) := ⟨HBAD.out (by rw [HOKN.out]; simp only [decide_eq_true_eq]; exact fun h => g0 h.1)⟩
        have g0' : (40000 : Int) < (dt.length : Int) := by omega
        clear g0
        go_wp2
        go_ret
        exact ⟨by rw [HE.out]; rfl, HMa.out⟩
      have g0' : ¬ (40000 : Int) < (dt.length : Int) := by omega
      by_cases g1 : 0 ≤ sf
      rotate_left
      · have HE : Sec (r = false) := ⟨HBAD.out (by rw [HOKN.out]; simp only [decide_eq_true_eq]; exact fun h => g1 h.2.1)⟩
        have g1' : sf < 0 := by omega
        clear g1
        go_wp2
        go_ret
        exact ⟨by rw [HE.out]; rfl, HMa.out⟩
      have g1' : ¬ sf < 0 := by omega
      by_cases g2 : sf ≤ (dt.length : Int)
      rotate_left
      · have HE : Sec (r = false) := ⟨HBAD.out (by rw [HOKN.out]; simp only [decide_eq_true_eq]; exact fun h => g2 h.2.2)⟩
        have g2' : (dt.length : Int) < sf := by omega
        clear g2
        go_wp2
        go_ret
        exact ⟨by rw [HE.out]; rfl, HMa.out⟩
      have g2' : ¬ (dt.length : Int) < sf := by omega
      have HNX2 := Sec.mk (HNX.out (by rw [HOKN.out]; exact decide_eq_true ⟨g0, g1, g2⟩))
      have HBa := Sec.mk (HBr.out.alloc (.cells #[.slice A' dt.length c', .int .i64 sf] 55))
      go_wp2
      go_roundw
      case rel => exact ⟨k + 1, by omega, by go_num, by rw [HST.out]; congr 1, by rw [HST.out]; omega, HNX2, HBa, HMa⟩
      case measure => simp [intOf]; omega
    · obtain rfl : k = nodes.length := by omega
      have hsl : nodes.take nodes.length = nodes := List.take_length
      rw [hsl] at hsum ⊢
      clear hsl
      have hwr : w.heap.size < wr.heap.size := HBr.out.lt
      have p1 : wr.cell? ⟨w.heap.size, 1, none⟩ = some (.slice A1 names.length c1) := HBr.out.cell 1
      have p0 : wr.cell? ⟨w.heap.size, 0, none⟩ = some (.slice A0 nodes.length c0) := HBr.out.cell 0
      have p2 : wr.cell? ⟨w.heap.size, 2, none⟩ = some (.slice A2 kept.length c2) := HBr.out.cell 2
      have p3 : wr.cell? ⟨w.heap.size, 3, none⟩ = some (.slice A3 pend.length c3) := HBr.out.cell 3
      by_cases hs2 : sumD nodes ≤ 200000
      rotate_left
      · have HE : Sec (r = false) := ⟨HF.out (fun h => hs2 (HD.out.1 h).2.2.2.2.2.1)⟩
        have hs2' : (200000 : Int) < ((sumD nodes : Nat) : Int) := by omega
        clear hs2
        go_wp2
        go_ret
        exact ⟨by rw [HE.out]; rfl, HMr.out⟩
      have hs2' : ¬ (200000 : Int) < ((sumD nodes : Nat) : Int) := by omega
      have HNALL : Sec (∀ j, (hj : j < nodes.length) → nodeOk nodes[j] = true) := ⟨fun j hj => HN.out j hj hj⟩
      clear HN
      generalize hsd : sumD nodes = sd at *
      go_wp2_with fail
      refine (l1InOrder_calls (HR1.out.mod (w' := wr) (fun _ h => h) (fun k hk => HMr.out.block k hk id)) (fun k hk => Nat.lt_of_lt_of_le hk HMr.out.size) (nodes.length : Int)).mono ?_
      rintro e w2 ⟨rfl, hm2⟩
      have HM2 := Sec.mk (HMr.out.transN hm2)
      have HB2 := Sec.mk (HBr.out.mod hm2 id)
      clear hm2 p0 p1 p2 p3
      have p0 : w2.cell? ⟨w.heap.size, 0, none⟩ = some (.slice A0 nodes.length c0) := HB2.out.cell 0
      have p2 : w2.cell? ⟨w.heap.size, 2, none⟩ = some (.slice A2 kept.length c2) := HB2.out.cell 2
      by_cases hio : inOrdL names (nodes.length : Int) = true
      rotate_left
      · have HE : Sec (r = false) := ⟨HF.out (fun h => hio (HD.out.1 h).2.2.2.2.2.2.1)⟩
        have hio' : inOrdL names (nodes.length : Int) = false := by simpa using hio
        rw [hio']
        clear hio hio'
        go_wp2
        go_ret
        exact ⟨by rw [HE.out]; rfl, HM2.out⟩
      rw [hio]
      go_wp2_with fail
      refine (l1InOrder_calls (HR2.out.mod (w' := w2) (fun _ h => h) (fun k hk => HM2.out.block k hk id)) (fun k hk => Nat.lt_of_lt_of_le hk HM2.out.size) (nodes.length : Int)).mono ?_
      rintro e w3 ⟨rfl, hm3⟩
      have HM3 := Sec.mk (HM2.out.transN hm3)
      have HB3 := Sec.mk (HB2.out.mod hm3 id)
      clear hm3 p0 p2
      have p0 : w3.cell? ⟨w.heap.size, 0, none⟩ = some (.slice A0 nodes.length c0) := HB3.out.cell 0
      have p1 : w3.cell? ⟨w.heap.size, 1, none⟩ = some (.slice A1 names.length c1) := HB3.out.cell 1
      have p2 : w3.cell? ⟨w.heap.size, 2, none⟩ = some (.slice A2 kept.length c2) := HB3.out.cell 2
      have p3 : w3.cell? ⟨w.heap.size, 3, none⟩ = some (.slice A3 pend.length c3) := HB3.out.cell 3
      by_cases hik : inOrdL kept (nodes.length : Int) = true
      rotate_left
      · have HE : Sec (r = false) := ⟨HF.out (fun h => hik (HD.out.1 h).2.2.2.2.2.2.2.1)⟩
        have hik' : inOrdL kept (nodes.length : Int) = false := by simpa using hik
        rw [hik']
        clear hik hik'
        go_wp2
        go_ret
        exact ⟨by rw [HE.out]; rfl, HM3.out⟩
      rw [hik]
      have HALL : Sec (replaysL nodes.length kept pend = some names → r = true) := ⟨fun h => HI.out.2 (HD.out.2 ⟨hq0, hq1, hn, hp, HNALL.out, hs2, hio, hik, h⟩)⟩
      have HNON : Sec (replaysL nodes.length kept pend ≠ some names → r = false) := ⟨fun h => HF.out (fun hh => h (HD.out.1 hh).2.2.2.2.2.2.2.2)⟩
      have HOK := Sec.mk (inOrdL_ord hik)
      have hk300 : kept.length ≤ 300 := ((inOrdL_iff kept nodes.length).1 hik).1
      have hn300 : names.length ≤ 300 := ((inOrdL_iff names nodes.length).1 hio).1
      clear hio hik HI HF HD HNALL HMr HBr HM2 HB2
      go_wp2
      go_loopw [6, 86] (fun l i wr => ∃ (k : Nat) (A' : Option Addr) (c' : Nat) (cur : List EntryT), k ≤ pend.length ∧ i = .int .i64 (k : Int) ∧ l = .slice A' cur.length c' ∧ Sec (Row dEntry wr (· < wr.heap.size) A' cur.length cur) ∧ Sec (Ord cur) ∧ cur.length ≤ 300 ∧ Sec (replaysL nodes.length kept pend = replaysL nodes.length cur (pend.drop k)) ∧ Sec (Blk wr w.heap.size 33 [.slice A0 nodes.length c0, .slice A1 names.length c1, .slice A2 kept.length c2, .slice A3 pend.length c3, .int .i64 quota]) ∧ Sec (New w wr)) (fun _ i _ => pend.length - (intOf i).toNat)
      case atStart => exact ⟨0, A2, c2, kept, Nat.zero_le _, rfl, rfl, ⟨HR2.out.mod (fun k hk => Nat.lt_of_lt_of_le hk HM3.out.size) (fun k hk => HM3.out.block k hk id)⟩, HOK, hk300, ⟨by rw [List.drop_zero]⟩, HB3, HM3⟩
      case round =>
        obtain ⟨k, A', c', cur, hk, rfl, rfl, HC, HOC, hcl, HP, HBr, HMr⟩ := hrel
        have hwr : w.heap.size < wr.heap.size := HBr.out.lt
        have q0 : wr.cell? ⟨w.heap.size, 0, none⟩ = some (.slice A0 nodes.length c0) := HBr.out.cell 0
        have q1 : wr.cell? ⟨w.heap.size, 1, none⟩ = some (.slice A1 names.length c1) := HBr.out.cell 1
        by_cases hlt : k < pend.length
        · obtain ⟨ad, rfl, d0, d1, d2, d3, g0, g1, g2, g3⟩ := dop_at HR3.out (w' := wr) (fun i hi => HMr.out.block i hi id) hlt
          have hki : (k : Int) < (pend.length : Int) := by omega
          have HS := Sec.mk (HP.out.trans (replaysL_at hlt))
          have HG := Sec.mk (And.intro g0 (And.intro g1 (And.intro g2 g3)))
          clear g0 g1 g2 g3 HP
          have HPX : Sec (∃ q : DirOpT, q = pend[k]) := ⟨⟨_, rfl⟩⟩
          obtain ⟨q, hq⟩ := HPX.out
          rw [← hq] at d0 d1 d2 d3 HG HS
          clear hq HPX
          have HBa := Sec.mk (HBr.out.alloc (.cells #[.int .i64 q.1, .string ⟨q.2.1.toArray⟩, .string ⟨q.2.2.1.toArray⟩, .int .i64 q.2.2.2] 58))
          have HMa := Sec.mk (HMr.out.alloc (.cells #[.int .i64 q.1, .string ⟨q.2.1.toArray⟩, .string ⟨q.2.2.1.toArray⟩, .int .i64 q.2.2.2] 58))
          have HCa := Sec.mk (HC.out.mod (w' := wr.alloc (.cells #[.int .i64 q.1, .string ⟨q.2.1.toArray⟩, .string ⟨q.2.2.1.toArray⟩, .int .i64 q.2.2.2] 58)) (B' := (· < wr.heap.size)) (fun _ h => h) (fun k hk => Below.heap_alloc _ _ _ hk))
          go_wp2_with fail
          refine (l1Replay_calls HCa.out (fun k hk => Nat.lt_of_lt_of_le hk (by simp)) (by omega) HOC.out q HG.out.2.1 HG.out.2.2.1 HG.out.2.2.2 (nodes.length : Int)).mono ?_
          intro e w5 hr5
          have HRO := Sec.mk (fun m (h : replayL cur q nodes.length = some m) => replayL_ord HOC.out h)
          generalize replayL cur q (nodes.length : Int) = res at *
          cases res with
          | none =>
            obtain ⟨rfl, hm5⟩ := hr5
            have HE : Sec (r = false) := ⟨HNON.out (by rw [HS.out]; simp)⟩
            have HM5 := Sec.mk (HMa.out.transN hm5)
            clear hm5
            go_wp2
            go_ret
            exact ⟨by rw [HE.out]; rfl, HM5.out⟩
          | some m =>
            obtain ⟨A5, c5, rfl, hmine⟩ := hr5
            have HM5 := Sec.mk (HMa.out.transN hmine.new)
            have HB5 := Sec.mk (HBa.out.mod hmine.new id)
            have HC5 := Sec.mk (hmine.row.mod (B' := (· < w5.heap.size)) (fun _ h => h.2) (fun _ _ => rfl))
            have hyc := hmine.len.2.1
            clear hmine
            by_cases hml : m.length ≤ 300
            rotate_left
            · have HE : Sec (r = false) := ⟨HNON.out (by rw [HS.out]; simp only [if_neg hml]; simp)⟩
              have hml' : (300 : Int) < (m.length : Int) := by omega
              clear hml
              go_wp2
              go_ret
              exact ⟨by rw [HE.out]; rfl, HM5.out⟩
            have hml' : ¬ (300 : Int) < (m.length : Int) := by omega
            have HS' : Sec (replaysL nodes.length kept pend = replaysL nodes.length m (pend.drop (k + 1))) := ⟨by rw [HS.out]; simp only [if_pos hml]⟩
            have HO5 := Sec.mk (HRO.out m rfl)
            go_wp2
            go_roundw
            case rel => exact ⟨k + 1, A5, c5, m, by omega, by go_num, rfl, HC5, HO5, hml, HS', HB5, HM5⟩
            case measure => simp [intOf]; omega
        · obtain rfl : k = pend.length := by omega
          rw [List.drop_length] at HP
          have HS : Sec (replaysL nodes.length kept pend = some cur) := ⟨HP.out⟩
          go_wp2_with fail
          refine (l1Same_calls HC.out (HR1.out.mod (w' := wr) (fun k hk => Nat.lt_of_lt_of_le hk HMr.out.size) (fun k hk => HMr.out.block k hk id)) (fun k hk => hk)).mono ?_
          rintro e w5 ⟨rfl, hm5⟩
          have HM5 := Sec.mk (HMr.out.transN hm5)
          clear hm5
          by_cases hcn : cur = names
          · have HE : Sec (r = true) := ⟨HALL.out (by rw [HS.out, hcn])⟩
            rw [decide_eq_true hcn]
            clear hcn
            go_wp2
            go_ret
            exact ⟨by rw [HE.out]; rfl, HM5.out⟩
          · have HE : Sec (r = false) := ⟨HNON.out (by rw [HS.out]; intro h; exact hcn (Option.some.inj h))⟩
            rw [decide_eq_false hcn]
            clear hcn
            go_wp2
            go_ret
            exact ⟨by rw [HE.out]; rfl, HM5.out⟩
end Go.Proofs.Ytinfibggdbakoaa
