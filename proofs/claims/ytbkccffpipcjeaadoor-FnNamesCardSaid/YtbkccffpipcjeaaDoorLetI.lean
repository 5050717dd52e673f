/- The program's reading of letters. -/
import Derived.Test.YtbkccffpipcjeaaDoorFlagI
import Derived.Test.YtbkccffpipcjeaaDoorLetS
import Derived.Lib.OthersKept
import Derived.Laws.RangeAny
namespace Go.Proofs.YtbkccffpipcjeaaDoor
open Go.RowKit Mem Go.Lib
set_option linter.unusedVariables false

theorem or_pow' (g j : Nat) (hg : g < 2147483648) (hj : j < 31) : bits .or .u32 (g : Int) ((2 ^ j : Nat) : Int) = ((g ||| 2 ^ j : Nat) : Int) := by
  rw [← or_pow g j hg hj]
  have h2 : 2 ^ j < 2 ^ 31 := Nat.pow_lt_pow_right (by decide) hj
  have ht : ∀ p : Nat, p < 2147483648 → ((p : Int) % 4294967296) = (p : Int) := fun p hp => by omega
  rw [show (2 : Int) ^ j = ((2 ^ j : Nat) : Int) by simp, ht _ h2]
theorem decode_at (xs : Bytes) (p : Nat) (h : p < xs.length) : 1 ≤ (Utf8.decode ⟨xs.toArray⟩ p).2 ∧ (xs[p].toNat < 128 → Utf8.decode ⟨xs.toArray⟩ p = (xs[p].toNat, 1)) := by
  have hs : p < (⟨xs.toArray⟩ : ByteArray).size := by simpa [ByteArray.size] using h
  have hg : (⟨xs.toArray⟩ : ByteArray)[p]'hs = xs[p] := by
    show xs.toArray[p]'(by simpa using h) = _
    simp
  by_cases ha : xs[p].toNat < 128
  · have hd := decode_ascii ⟨xs.toArray⟩ p hs (by rw [hg]; exact ha)
    rw [hg] at hd
    rw [hd]; exact ⟨Nat.le_refl _, fun _ => rfl⟩
  · exact ⟨(decode_high ⟨xs.toArray⟩ p hs (by rw [hg]; omega)).2, fun h => absurd h ha⟩
theorem New.iterAt {w w' : World} (h : New w w') {k : Nat} (hk : w.heap.size ≤ k) (s : ByteArray) (p : Nat) : New w (w'.iterAt k s p) :=
  h.trans (T := fun i => i = k) ⟨rfl, rfl, rfl, by rw [iterAt_size]; exact Nat.le_refl _, fun i hi hne => iterAt_other w' k i s p hne⟩ fun i hi hlt => by omega
set_option maxHeartbeats 2000000 in
set_option maxRecDepth 100000 in
theorem letterFlagsImpl_calls (xs : Bytes) (hx : xs.length ≤ 140737488351232) {w : World} (h : LettersAt w) (hg : 1 < w.heap.size) : Calls Tryd.prog 19 #[.string ⟨xs.toArray⟩] w (Ret (FlagsV (LetL xs)) w) := by
  have HR := Sec.mk h
  have HG := Sec.mk hg
  clear h hg
  have HB2 := Sec.mk (Blk.new w 28 [.bool false, .int .u32 0])
  have hsz : (⟨xs.toArray⟩ : ByteArray).size = xs.length := by simp [ByteArray.size]
  have HN3 : Sec (New w ((w.alloc (.cells #[.bool false, .int .u32 0] 28)).iter ⟨xs.toArray⟩ 0)) := ⟨((Mod.refl _ _).alloc _).alloc _⟩
  have HB3 : Sec (Blk ((w.alloc (.cells #[.bool false, .int .u32 0] 28)).iter ⟨xs.toArray⟩ 0) w.heap.size 28 [.bool false, .int .u32 0]) := ⟨HB2.out.alloc _⟩
  have HI3 : Sec (((w.alloc (.cells #[.bool false, .int .u32 0] 28)).iter ⟨xs.toArray⟩ 0).heap[w.heap.size + 1]? = some (.stringIter ⟨xs.toArray⟩ 0)) := ⟨by have := World.iter_heap (w.alloc (.cells #[.bool false, .int .u32 0] 28)) ⟨xs.toArray⟩ 0; rwa [show (w.alloc (.cells #[.bool false, .int .u32 0] 28)).heap.size = w.heap.size + 1 by simp] at this⟩
  go_enter Tryd.func19, Tryd.ntmps19
  go_wp2
  go_loopw [3] (fun q wr => ∃ (pos f : Nat), q = .int .u32 (f : Int) ∧ f < 2147483648 ∧ wr.heap[w.heap.size + 1]? = some (.stringIter ⟨xs.toArray⟩ pos) ∧ Sec (Blk wr w.heap.size 28 [.bool false, .int .u32 0]) ∧ Sec (New w wr) ∧ Sec ((∀ b, b ∈ xs → b.toNat < 128) → pos ≤ xs.length ∧ f = bitsOf (xs.take pos))) (fun _ wr => xs.length - wr.iterPos (w.heap.size + 1))
  case atStart =>
    exact ⟨0, 0, rfl, by decide, HI3.out, HB3, HN3, ⟨fun _ => ⟨by omega, rfl⟩⟩⟩
  case round =>
    obtain ⟨pos, f, rfl, hf, hit, HB, HM, HA⟩ := hrel
    clear HB2
    by_cases hp : pos < xs.length
    · have hnx : ∀ ty, (Instr.next (.pointer (some ⟨w.heap.size + 1, 0, none⟩)) true ty).run Tryd.prog wr = _ := fun ty => run_next_any_at wr _ _ pos ty hit (by rw [hsz]; exact hp)
      obtain ⟨hw1, hw2⟩ := decode_at xs pos hp
      have HBS := Sec.mk (bitsOf_snoc xs hp)
      have HXP : Sec ((∀ b, b ∈ xs → b.toNat < 128) → xs[pos].toNat < 128) := ⟨fun h => h _ (List.getElem_mem _)⟩
      have HI := Sec.mk (iterAt_heap wr (w.heap.size + 1) ⟨xs.toArray⟩ pos (pos + (Utf8.decode ⟨xs.toArray⟩ pos).2) hit)
      have HN1 := Sec.mk (New.iterAt HM.out (k := w.heap.size + 1) (by omega) ⟨xs.toArray⟩ (pos + (Utf8.decode ⟨xs.toArray⟩ pos).2))
      have HB1 : Sec (Blk (wr.iterAt (w.heap.size + 1) ⟨xs.toArray⟩ (pos + (Utf8.decode ⟨xs.toArray⟩ pos).2)) w.heap.size 28 [.bool false, .int .u32 0]) := ⟨HB.out.move (iterAt_other _ _ _ _ _ (by omega))⟩
      generalize hde : Utf8.decode ⟨xs.toArray⟩ pos = de at *
      obtain ⟨r, wd⟩ := de
      have HDE : Sec (xs[pos].toNat < 128 → r = xs[pos].toNat ∧ wd = 1) := ⟨fun h => by have := hw2 h; injection this with h1 h2; exact ⟨h1, h2⟩⟩
      simp only at hw1 hnx HI HN1 HB1
      clear hw2 hde
      have hip : wr.iterPos (w.heap.size + 1) = pos := by unfold World.iterPos; rw [hit]
      generalize wr.iterAt (w.heap.size + 1) ⟨xs.toArray⟩ (pos + wd) = w1 at *
      go_wp2_with fail
      refine (letterTable_calls (HR.out.new HG.out HN1.out) (Nat.lt_of_lt_of_le HG.out HN1.out.size)).mono ?_
      rintro e w2 h2
      obtain ⟨A2, c2, rfl, HT⟩ := h2.mine
      rw [tabL_len] at HT ⊢
      have HTs := Sec.mk HT
      have HN2 := Sec.mk (HN1.out.transN HT.new)
      have HB2 := Sec.mk (HB1.out.mod HT.new id)
      have HI2 := Sec.mk ((HT.new.block (w.heap.size + 1) (Array.getElem?_eq_some_iff.1 HI.out).1 id).trans HI.out)
      clear HT h2 hnx
      go_wp2
      go_loopw [3, 15] (fun q i wr => ∃ (j : Nat), j ≤ 31 ∧ i = .int .i64 (j : Int) ∧ q = .int .u32 (orL (lets.take j) r f : Int) ∧ Sec (New w2 wr)) (fun _ i _ => 31 - (intOf i).toNat)
      case atStart => exact ⟨0, by omega, rfl, rfl, ⟨Mod.refl _ _⟩⟩
      case round =>
        obtain ⟨j, hj, rfl, rfl, HMj⟩ := hrel
        by_cases hlt : j < 31
        · have hlt' : j < tabL.length := by rw [tabL_len]; exact hlt
          obtain ⟨ad, cs, rfl, hK, hx0, hx1⟩ := HTs.out.row.cells_at (w' := wr) (fun i hi => HMj.out.block i hi.2 id) hlt'
          obtain ⟨p, hpp, hp1, hp2⟩ := lets_small j hlt
          have hll : j < lets.length := by rw [lets_len]; exact hlt
          have hlk : lets[j] = p := by have := List.getElem?_eq_getElem (l := lets) (i := j) hll; rw [hpp] at this; exact (Option.some.inj this).symm
          have HF := orL_take lets r f hll
          rw [hlk] at HF
          have htk : tabL[j] = ((p.1 : Int), ((2 ^ p.2 : Nat) : Int)) := by
            have : tabL[j]? = some ((p.1 : Int), ((2 ^ p.2 : Nat) : Int)) := by unfold tabL; rw [List.getElem?_map, hpp]; rfl
            rw [List.getElem?_eq_getElem hlt'] at this
            exact Option.some.inj this
          replace hK := (show dLet.K w2 _ ((p.1 : Int), ((2 ^ p.2 : Nat) : Int)) cs from htk ▸ hK)
          obtain ⟨c0, c1, rfl, ⟨rfl, _⟩, ⟨rfl, _⟩⟩ := hK
          have h0 := hx0 _ rfl
          have h1 := hx1 0 _ rfl
          have hol := orL_lt (lets.take j) (fun p hp => lets_bits p (List.mem_of_mem_take hp)) r f hf
          generalize orL (lets.take j) r f = g at *
          have HOR := Sec.mk (or_pow' g p.2 hol hp2)
          obtain ⟨p1, p2⟩ := p
          simp only at hp1 hp2 h0 h1 HF HOR
          rw [show j * dLet.sz = j * 2 from rfl] at h0 h1
          have HFs := Sec.mk HF
          clear hx0 hx1 hlk HF htk hpp
          generalize ((2 ^ p2 : Nat) : Int) = q at *
          by_cases hpr : p1 = r
          · have hq : ((p1 : Int) == (r : Int)) = true := by simp [hpr]
            have HPR := Sec.mk hpr
            clear hpr
            go_wp2
            refine ⟨⟨j + 1, by omega, by go_num, by rw [HFs.out, if_pos HPR.out, HOR.out], ⟨HMj.out.alloc _⟩⟩, ?_⟩
            simp [intOf]; omega
          · have hq : ((p1 : Int) == (r : Int)) = false := by simp only [beq_eq_false_iff_ne, ne_eq]; omega
            have HPR := Sec.mk hpr
            clear hpr
            go_wp2
            go_roundw
            case rel => exact ⟨j + 1, by omega, by go_num, by rw [HFs.out, if_neg HPR.out], ⟨HMj.out.alloc _⟩⟩
            case measure => simp [intOf]; omega
        · obtain rfl : j = 31 := by omega
          have HE : Sec (orL (lets.take 31) r f = orL lets r f) := ⟨rfl⟩
          have hol := orL_lt lets lets_bits r f hf
          have HIj := Sec.mk ((HMj.out.block (w.heap.size + 1) (Array.getElem?_eq_some_iff.1 HI2.out).1 id).trans HI2.out)
          have HNj := Sec.mk (HN2.out.transN HMj.out)
          have HBj := Sec.mk (HB2.out.mod HMj.out id)
          go_wp2
          go_roundw
          case rel =>
            refine ⟨pos + wd, orL lets r f, by rw [HE.out], hol, HIj.out, HBj, HNj, ⟨fun hall => ?_⟩⟩
            obtain ⟨_, h2⟩ := HA.out hall
            obtain ⟨h3, h4⟩ := HDE.out (HXP.out hall)
            subst h4
            exact ⟨by omega, by rw [HBS.out, ← h2, h3]⟩
          case measure =>
            have : wr.iterPos (w.heap.size + 1) = pos + wd := by unfold World.iterPos; rw [HIj.out]
            rw [this, hip]; omega
    · have hnx : ∀ ty, (Instr.next (.pointer (some ⟨w.heap.size + 1, 0, none⟩)) true ty).run Tryd.prog wr = _ := fun ty => run_next_end_at wr _ _ pos ty hit (by rw [hsz]; exact hp)
      have HD : Sec (LetL xs = if flagsL (bitsOf xs) = xs then (true, (bitsOf xs : Int)) else (false, 0)) := ⟨rfl⟩
      have HLA : Sec ((∀ b, b ∈ xs → b.toNat < 128) → f = bitsOf xs) := ⟨fun h => by obtain ⟨h1, h2⟩ := HA.out h; rw [h2, List.take_of_length_le (by omega)]⟩
      have HLH := Sec.mk (fun h g => LetL_high (xs := xs) h g)
      have HF := Sec.mk (flagLettersImpl_calls f (by omega) (HR.out.new HG.out HM.out) (Nat.lt_of_lt_of_le HG.out HM.out.size))
      go_wp2_with fail
      refine HF.out.mono ?_
      rintro e w2 ⟨rfl, hm2⟩
      have HN2 := Sec.mk (HM.out.transN hm2)
      have HB2 := Sec.mk (HB.out.mod hm2 id)
      have hc0 : w2.cell? ⟨w.heap.size, 0, none⟩ = some (.bool false) := HB2.out.cell 0
      have hc1 : w2.cell? ⟨w.heap.size, 1, none⟩ = some (.int .u32 0) := HB2.out.cell 1
      have hf0 : w2.frozen? ⟨w.heap.size, 0, none⟩ = false := HB2.out.frozen 0
      have hf1 : w2.frozen? ⟨w.heap.size, 1, none⟩ = false := HB2.out.frozen 1
      clear hm2 HF
      by_cases he : flagsL f = xs
      · have HE : Sec (LetL xs = (true, (f : Int))) := ⟨by
          have hall : ∀ b, b ∈ xs → b.toNat < 128 := Classical.byContradiction fun h => HLH.out h f he
          have hfe := HLA.out hall
          rw [HD.out, ← hfe, if_pos he]⟩
        have hz : (flagsL f == xs) = true := by simp [he]
        clear he HD
        go_wp2
        refine bodyPost_ret (results_blk rfl rfl ((HB2.out.set_ 0 (.bool true)).set_ 1 (.int .u32 f)) Tryd.underlying28 (by kernel_rfl)) rfl ?_
        rw [HE.out]
        exact ⟨rfl, (HN2.out.setCell (fun h => absurd h (by simp)) _).setCell (fun h => absurd h (by simp)) _⟩
      · have HE : Sec (LetL xs = (false, 0)) := ⟨by
          rw [HD.out, if_neg fun h => ?_]
          by_cases hall : ∀ b, b ∈ xs → b.toNat < 128
          · exact he (by rw [HLA.out hall]; exact h)
          · exact HLH.out hall _ h⟩
        have hz : (flagsL f == xs) = false := by simpa using he
        clear he HD
        go_wp2
        refine bodyPost_ret (results_blk rfl rfl ((HB2.out.set_ 0 (.bool false)).set_ 1 (.int .u32 0)) Tryd.underlying28 (by kernel_rfl)) rfl ?_
        rw [HE.out]
        exact ⟨rfl, (HN2.out.setCell (fun h => absurd h (by simp)) _).setCell (fun h => absurd h (by simp)) _⟩
end Go.Proofs.YtbkccffpipcjeaaDoor
