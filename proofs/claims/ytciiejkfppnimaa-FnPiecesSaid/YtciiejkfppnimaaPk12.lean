/- Drawn lines: sets, flags, items, POP lines. Drawn lines: items, POP lines. -/
import Derived.Test.YtciiejkfppnimaaPk11
import Derived.Deep.DeepCutAuto
import Derived.Deep.Cut
namespace Go.Proofs.Ytciiejkfppnimaa
open Go.RowKit Mem
set_option linter.unusedVariables false
set_option linter.unusedSimpArgs false
theorem baL (X : ByteArray) : X = ⟨X.data.toList.toArray⟩ := by cases X; simp
theorem szMk (a : Array UInt8) : ByteArray.size ⟨a⟩ = a.size := rfl
theorem baL_len (X : ByteArray) : X.data.toList.length = X.size := by cases X; rfl
theorem flags_len (f : Nat) : 2 ≤ (FlagListL f).length ∧ (FlagListL f).length ≤ 312 := by
  have := joinSp_len f 31
  unfold FlagListL
  simp only [List.length_append, List.length_singleton]
  omega
set_option maxHeartbeats 4000000 in
set_option maxRecDepth 100000 in
theorem l6SetText_calls {w : World} {g : Nat} {ys : Bytes} (h : Rdr w g ys) : Calls Try.prog 55 #[.pointer (some ⟨g, 0, none⟩)] w (StrFew w g 90) := by
  have HN := Sec.mk (next_calls h)
  have hg := h.lt
  have hc := nextD_lt ys
  generalize (nextD ys).1 = c at *
  generalize (nextD ys).2 = ys2 at *
  clear h
  obtain ⟨n0, hn0, hq⟩ : ∃ n0 : Nat, n0 ≤ 3 ∧ (1 + (c : Int) % 3) = (n0 : Int) := ⟨1 + c % 3, by omega, by omega⟩
  clear hc
  go_enter Try.func55, Try.ntmps55
  go_wp2_with fail
  refine HN.out.mono ?_
  rintro e w1 ⟨rfl, hr1, hm1⟩
  have HR1 := Sec.mk hr1
  have HM1 := Sec.mk hm1
  have hs1 := hm1.size
  clear hr1 hm1 HN
  go_wp2
  (try rw [hq])
  clear hq
  go_loopw [3, 4] (fun s n wr => ∃ (k : Nat) (js ys : Bytes), s = .string ⟨js.toArray⟩ ∧ n = .int .i64 (k : Int) ∧ k ≤ 3 ∧ js.length + 30 * k ≤ 90 ∧ Sec (Rdr wr g ys) ∧ Sec (Mod (· = g) w wr)) (fun _ n _ => (intOf n).toNat)
  case atStart => exact ⟨n0, [], ys2, rfl, rfl, hn0, by simp; omega, HR1, HM1⟩
  case round =>
    clear HR1 HM1
    obtain ⟨k, js, ys, rfl, rfl, hk, hjl, HR, HM⟩ := hrel
    by_cases hk0 : k = 0
    · subst hk0
      go_wp2
      go_ret
      exact ⟨_, ys, rfl, by simp [ByteArray.size]; omega, HR.out, HM.out⟩
    have hki : (0 : Int) < (k : Int) := by omega
    obtain ⟨k, rfl⟩ : ∃ j, k = j + 1 := ⟨k - 1, by omega⟩
    clear hk0
    by_cases hnil : js = []
    · subst hnil
      go_wp2_with fail
      refine (l6Num_calls HR.out).mono ?_
      rintro e w2 ⟨Y, zs, rfl, hY, hr2, hm2⟩
      have HR2 := Sec.mk hr2
      have HM2 := Sec.mk (HM.out.trans hm2 (fun i hi _ => hi))
      have HN2 := Sec.mk (next_calls hr2)
      have hc := nextD_lt zs
      clear hr2 hm2 HR HM
      generalize (nextD zs).1 = c at *
      generalize (nextD zs).2 = zs2 at *
      go_wp2_with fail
      refine HN2.out.mono ?_
      rintro e w3 ⟨rfl, hr3, hm3⟩
      have HR3 := Sec.mk hr3
      have HM3 := Sec.mk (HM2.out.trans hm3 (fun i hi _ => hi))
      clear hr3 hm3 HR2 HM2 HN2
      by_cases h2 : c % 2 = 0
      · have hi : ((c : Int) % 2) = 0 := by omega
        clear h2 hc
        go_wp2_with fail
        refine (l6Num_calls HR3.out).mono ?_
        rintro e w4 ⟨Z, zs4, rfl, hZ, hr4, hm4⟩
        have HR4 := Sec.mk hr4
        have HM4 := Sec.mk (HM3.out.trans hm4 (fun i hi _ => hi))
        clear hr4 hm4 HR3 HM3
        go_wp2
        go_roundw
        case rel => exact ⟨k, _, zs4, congrArg Value.string (baL _), by go_num, by omega, by rw [baL_len]; simp only [ByteArray.size_append, szMk, List.size_toArray, List.length_cons, List.length_nil]; omega, HR4, HM4⟩
        case measure => simp [intOf]
      · have hi : ((c : Int) % 2) ≠ 0 := by omega
        clear h2 hc
        go_wp2
        go_roundw
        case rel => exact ⟨k, _, zs2, congrArg Value.string (baL _), by go_num, by omega, by rw [baL_len]; simp only [ByteArray.size_append, szMk, List.size_toArray, List.length_cons, List.length_nil]; omega, HR3, HM3⟩
        case measure => simp [intOf]
    · have hjb : js.isEmpty = false := by simpa using hnil
      go_wp2_with fail
      refine (l6Num_calls HR.out).mono ?_
      rintro e w2 ⟨Y, zs, rfl, hY, hr2, hm2⟩
      have HR2 := Sec.mk hr2
      have HM2 := Sec.mk (HM.out.trans hm2 (fun i hi _ => hi))
      have HN2 := Sec.mk (next_calls hr2)
      have hc := nextD_lt zs
      clear hr2 hm2 HR HM
      generalize (nextD zs).1 = c at *
      generalize (nextD zs).2 = zs2 at *
      go_wp2_with fail
      refine HN2.out.mono ?_
      rintro e w3 ⟨rfl, hr3, hm3⟩
      have HR3 := Sec.mk hr3
      have HM3 := Sec.mk (HM2.out.trans hm3 (fun i hi _ => hi))
      clear hr3 hm3 HR2 HM2 HN2
      by_cases h2 : c % 2 = 0
      · have hi : ((c : Int) % 2) = 0 := by omega
        clear h2 hc
        go_wp2_with fail
        refine (l6Num_calls HR3.out).mono ?_
        rintro e w4 ⟨Z, zs4, rfl, hZ, hr4, hm4⟩
        have HR4 := Sec.mk hr4
        have HM4 := Sec.mk (HM3.out.trans hm4 (fun i hi _ => hi))
        clear hr4 hm4 HR3 HM3
        go_wp2
        go_roundw
        case rel => exact ⟨k, _, zs4, congrArg Value.string (baL _), by go_num, by omega, by rw [baL_len]; simp only [ByteArray.size_append, szMk, List.size_toArray, List.length_cons, List.length_nil]; omega, HR4, HM4⟩
        case measure => simp [intOf]
      · have hi : ((c : Int) % 2) ≠ 0 := by omega
        clear h2 hc
        go_wp2
        go_roundw
        case rel => exact ⟨k, _, zs2, congrArg Value.string (baL _), by go_num, by omega, by rw [baL_len]; simp only [ByteArray.size_append, szMk, List.size_toArray, List.length_cons, List.length_nil]; omega, HR3, HM3⟩
        case measure => simp [intOf]
set_option maxHeartbeats 4000000 in
set_option maxRecDepth 100000 in
theorem l6Flags_calls {w : World} {g : Nat} {ys : Bytes} (h : Rdr w g ys) : Calls Try.prog 57 #[.pointer (some ⟨g, 0, none⟩)] w (StrFew w g 400) := by
  have HF := Sec.mk (l4Flags_calls h)
  have hg := h.lt
  clear h
  go_enter Try.func57, Try.ntmps57
  go_wp2_with fail
  refine HF.out.mono ?_
  rintro e w1 ⟨n, zs, rfl, hn, hr1, hm1⟩
  have HM1 := Sec.mk hm1
  have HR1 := Sec.mk hr1
  have HL := Sec.mk (fun w => flagListSpec_calls n (by omega) w)
  obtain ⟨hf2, hf3⟩ := flags_len n
  clear hr1 hm1 HF hn
  generalize FlagListL n = fs at *
  go_wp2_with fail
  refine (HL.out _).mono ?_
  rintro e w2 ⟨rfl, hn2⟩
  have HM2 := Sec.mk (HM1.out.trans hn2 (fun i hi hlt => absurd hi (fun h => h)))
  have HN2 := Sec.mk (next_calls (HR1.out.mod hn2 (fun _ _ h => h)))
  have hc := nextD_lt zs
  clear hn2 HM1 HR1 HL
  generalize (nextD zs).1 = c at *
  generalize (nextD zs).2 = zs2 at *
  go_wp2_with fail
  refine HN2.out.mono ?_
  rintro e w3 ⟨rfl, hr3, hm3⟩
  have HR3 := Sec.mk hr3
  have HM3 := Sec.mk (HM2.out.trans hm3 (fun i hi _ => hi))
  clear hr3 hm3 HM2 HN2
  rcases (show c % 12 = 0 ∨ c % 12 = 1 ∨ c % 12 = 2 ∨ c % 12 = 3 ∨ 4 ≤ c % 12 by omega) with hj | hj | hj | hj | hj
  · have hi : ((c : Int) % 12) = 0 := by omega
    clear hj hc
    go_wp2_with fail
    refine (lower_at ⟨fs.toArray⟩ (show fs.length ≤ 1048576 by omega) _).mono ?_
    rintro e w4 ⟨Y, rfl, hY, hn4⟩
    have HN4 := Sec.mk hn4
    clear hn4
    go_wp2
    go_ret
    exact ⟨Y, zs2, rfl, by rw [hY]; show fs.length ≤ 400; omega, HR3.out.mod HN4.out (fun _ _ h => h), HM3.out.trans HN4.out (fun i hi hlt => absurd hi (fun h => h))⟩
  · have hi : ((c : Int) % 12) = 1 := by omega
    clear hj hc
    go_wp2
    go_ret
    exact ⟨_, zs2, rfl, by simp [ByteArray.size]; omega, HR3.out, HM3.out⟩
  · have hi : ((c : Int) % 12) = 2 := by omega
    clear hj hc
    go_wp2
    go_ret
    exact ⟨_, zs2, rfl, by decide, HR3.out, HM3.out⟩
  · have hi : ((c : Int) % 12) = 3 := by omega
    clear hj hc
    go_wp2
    go_ret
    exact ⟨_, zs2, rfl, by decide, HR3.out, HM3.out⟩
  · have hi0 : ((c : Int) % 12) ≠ 0 := by omega
    have hi1 : ((c : Int) % 12) ≠ 1 := by omega
    have hi2 : ((c : Int) % 12) ≠ 2 := by omega
    have hi3 : ((c : Int) % 12) ≠ 3 := by omega
    clear hj hc
    go_wp2
    go_ret
    exact ⟨_, zs2, rfl, by simp [ByteArray.size]; omega, HR3.out, HM3.out⟩
end Go.Proofs.Ytciiejkfppnimaa

namespace Go.Proofs.Ytciiejkfppnimaa
open Go.RowKit Mem
set_option linter.unusedVariables false
set_option linter.unusedSimpArgs false
set_option maxHeartbeats 4000000 in
set_option maxRecDepth 100000 in
theorem l6PopLine_calls {w : World} {g : Nat} {ys : Bytes} (h : Rdr w g ys) : Calls Try.prog 40 #[.pointer (some ⟨g, 0, none⟩)] w (StrFew w g 40) := by
  have HN := Sec.mk (next_calls h)
  have hg := h.lt
  have hc := nextD_lt ys
  generalize (nextD ys).1 = c at *
  generalize (nextD ys).2 = ys2 at *
  clear h
  go_enter Try.func40, Try.ntmps40
  go_wp2_with fail
  refine HN.out.mono ?_
  rintro e w1 ⟨rfl, hr1, hm1⟩
  have HR1 := Sec.mk hr1
  have HM1 := Sec.mk hm1
  have hs1 := hm1.size
  clear hr1 hm1 HN
  go_upto_region 2 with (fail)
  go_cut [4] (fun s wx => ∃ (X : ByteArray) (zs : Bytes), s = .string X ∧ X.size ≤ 4 ∧ Sec (Rdr wx g zs) ∧ Sec (Mod (· = g) w wx))
  case first =>
    rcases (show c % 12 = 0 ∨ c % 12 = 1 ∨ c % 12 = 2 ∨ c % 12 = 3 ∨ c % 12 = 4 ∨ c % 12 = 5 ∨ c % 12 = 6 ∨ c % 12 = 7 ∨ c % 12 = 8 ∨ c % 12 = 9 ∨ c % 12 = 10 ∨ c % 12 = 11 by omega) with hj | hj | hj | hj | hj | hj | hj | hj | hj | hj | hj | hj
    all_goals
      have hi : ((c : Int) % 12) = ((c % 12 : Nat) : Int) := by omega
      rw [hj] at hi
      clear hj
      have hal := (Mod.refl (fun _ => False) w1).alloc
      have HR2 := fun b => Sec.mk (HR1.out.mod (hal b) (fun _ _ h => h))
      have HM2 := fun b => Sec.mk (HM1.out.alloc b)
      clear hal
      go_wp2_with fail
      refine (l6Word_calls (m := 4) (HR2 _).out _ (by decide) (by decide)).mono ?_
      rintro e w2 ⟨X, zs, rfl, hX, hr2, hm2⟩
      have HR3 := Sec.mk hr2
      have HM3 := Sec.mk ((HM2 _).out.trans hm2 (fun i hi _ => hi))
      clear hr2 hm2 HR2 HM2
      go_wp2
      go_meet
      exact ⟨X, zs, rfl, hX, HR3, HM3⟩
  case rest =>
    rename World => w2
    obtain ⟨X, zs, rfl, hX, HR2, HM2⟩ := hcut
    rcases (show (4 < c % 12 ∧ c % 12 ≠ 7 ∧ c ≠ 255) ∨ (4 < c % 12 ∧ c % 12 = 7 ∧ 128 ≤ c ∧ c ≠ 255) ∨ (¬ 4 < c % 12 ∧ 128 ≤ c ∧ c ≠ 255) ∨ (¬ 4 < c % 12 ∧ c = 255) ∨ (4 < c % 12 ∧ c % 12 = 7 ∧ ¬ 128 ≤ c) ∨ (¬ 4 < c % 12 ∧ ¬ 128 ≤ c) by omega) with ⟨h1, h2, h3⟩ | ⟨h1, h2, h4, h3⟩ | ⟨h1, h4, h3⟩ | ⟨h1, h3⟩ | ⟨h1, h2, h4⟩ | ⟨h1, h4⟩
    · have i1 : (4 : Int) < (c : Int) % 12 := by omega
      have i2 : (c : Int) % 12 ≠ 7 := by omega
      have i3 : (c : Int) ≠ 255 := by omega
      clear h1 h2 h3 hc
      have HN3 := Sec.mk (next_calls HR2.out)
      have hd := nextD_lt zs
      generalize (nextD zs).1 = d at *
      generalize (nextD zs).2 = zs3 at *
      have HD := Sec.mk (fun w => dec_at (d % 7) 0 (by omega) w)
      rw [show ((d % 7 : Nat) : Int) = (d : Int) % 7 by omega] at HD
      go_wp2_with fail
      refine HN3.out.mono ?_
      rintro e w3 ⟨rfl, hr3, hm3⟩
      have HR3 := Sec.mk hr3
      have HM3 := Sec.mk (HM2.out.trans hm3 (fun i hi _ => hi))
      clear hr3 hm3 HR2 HM2
      go_wp2_with fail
      refine (HD.out _).mono ?_
      rintro e w4 ⟨Y, rfl, hY, hn⟩
      have HR4 := Sec.mk (HR3.out.mod hn (fun _ _ h => h))
      have HM4 := Sec.mk (HM3.out.trans hn (fun i hi hlt => absurd hi (fun h => h)))
      clear hn
      go_wp2
      go_ret
      exact ⟨_, zs3, rfl, by simp only [ByteArray.size_append, szMk, List.size_toArray, List.length_cons, List.length_nil]; omega, HR4.out, HM4.out⟩
    · have i1 : (4 : Int) < (c : Int) % 12 := by omega
      have i2 : (c : Int) % 12 = 7 := by omega
      have i3 : (c : Int) ≠ 255 := by omega
      have i4 : (128 : Int) ≤ (c : Int) := by omega
      clear h1 h2 h3 h4 hc
      have HN3 := Sec.mk (next_calls HR2.out)
      have hd := nextD_lt zs
      generalize (nextD zs).1 = d at *
      generalize (nextD zs).2 = zs3 at *
      have HD := Sec.mk (fun w => dec_at (d % 7) 0 (by omega) w)
      rw [show ((d % 7 : Nat) : Int) = (d : Int) % 7 by omega] at HD
      go_wp2_with fail
      refine HN3.out.mono ?_
      rintro e w3 ⟨rfl, hr3, hm3⟩
      have HR3 := Sec.mk hr3
      have HM3 := Sec.mk (HM2.out.trans hm3 (fun i hi _ => hi))
      clear hr3 hm3 HR2 HM2
      go_wp2_with fail
      refine (HD.out _).mono ?_
      rintro e w4 ⟨Y, rfl, hY, hn⟩
      have HR4 := Sec.mk (HR3.out.mod hn (fun _ _ h => h))
      have HM4 := Sec.mk (HM3.out.trans hn (fun i hi hlt => absurd hi (fun h => h)))
      clear hn
      go_wp2
      go_ret
      exact ⟨_, zs3, rfl, by simp only [ByteArray.size_append, szMk, List.size_toArray, List.length_cons, List.length_nil]; omega, HR4.out, HM4.out⟩
    · have i1 : ¬ (4 : Int) < (c : Int) % 12 := by omega
      have i3 : (c : Int) ≠ 255 := by omega
      have i4 : (128 : Int) ≤ (c : Int) := by omega
      clear h1 h3 h4 hc
      have HN3 := Sec.mk (next_calls HR2.out)
      have hd := nextD_lt zs
      generalize (nextD zs).1 = d at *
      generalize (nextD zs).2 = zs3 at *
      have HD := Sec.mk (fun w => dec_at (d % 7) 0 (by omega) w)
      rw [show ((d % 7 : Nat) : Int) = (d : Int) % 7 by omega] at HD
      go_wp2_with fail
      refine HN3.out.mono ?_
      rintro e w3 ⟨rfl, hr3, hm3⟩
      have HR3 := Sec.mk hr3
      have HM3 := Sec.mk (HM2.out.trans hm3 (fun i hi _ => hi))
      clear hr3 hm3 HR2 HM2
      go_wp2_with fail
      refine (HD.out _).mono ?_
      rintro e w4 ⟨Y, rfl, hY, hn⟩
      have HR4 := Sec.mk (HR3.out.mod hn (fun _ _ h => h))
      have HM4 := Sec.mk (HM3.out.trans hn (fun i hi hlt => absurd hi (fun h => h)))
      clear hn
      go_wp2
      go_ret
      exact ⟨_, zs3, rfl, by simp only [ByteArray.size_append, szMk, List.size_toArray, List.length_cons, List.length_nil]; omega, HR4.out, HM4.out⟩
    · subst h3
      clear h1 hc
      have HN3 := Sec.mk (next_calls HR2.out)
      have hd := nextD_lt zs
      generalize (nextD zs).1 = d at *
      generalize (nextD zs).2 = zs3 at *
      have HD := Sec.mk (fun w => dec_at (d % 7) 0 (by omega) w)
      rw [show ((d % 7 : Nat) : Int) = (d : Int) % 7 by omega] at HD
      go_wp2_with fail
      refine HN3.out.mono ?_
      rintro e w3 ⟨rfl, hr3, hm3⟩
      have HR3 := Sec.mk hr3
      have HM3 := Sec.mk (HM2.out.trans hm3 (fun i hi _ => hi))
      clear hr3 hm3 HR2 HM2
      go_wp2_with fail
      refine (HD.out _).mono ?_
      rintro e w4 ⟨Y, rfl, hY, hn⟩
      have HR4 := Sec.mk (HR3.out.mod hn (fun _ _ h => h))
      have HM4 := Sec.mk (HM3.out.trans hn (fun i hi hlt => absurd hi (fun h => h)))
      clear hn
      go_wp2
      go_ret
      exact ⟨_, zs3, rfl, by simp only [ByteArray.size_append, szMk, List.size_toArray, List.length_cons, List.length_nil]; omega, HR4.out, HM4.out⟩
    · have i1 : (4 : Int) < (c : Int) % 12 := by omega
      have i2 : (c : Int) % 12 = 7 := by omega
      have i3 : (c : Int) ≠ 255 := by omega
      have i4 : ¬ (128 : Int) ≤ (c : Int) := by omega
      clear h1 h2 h4 hc
      go_wp2
      go_ret
      exact ⟨_, zs, rfl, by first | omega | (simp only [ByteArray.size_append, szMk, List.size_toArray, List.length_cons, List.length_nil]; omega), HR2.out, HM2.out⟩
    · have i1 : ¬ (4 : Int) < (c : Int) % 12 := by omega
      have i3 : (c : Int) ≠ 255 := by omega
      have i4 : ¬ (128 : Int) ≤ (c : Int) := by omega
      clear h1 h4 hc
      go_wp2
      go_ret
      exact ⟨_, zs, rfl, by first | omega | (simp only [ByteArray.size_append, szMk, List.size_toArray, List.length_cons, List.length_nil]; omega), HR2.out, HM2.out⟩
set_option maxHeartbeats 4000000 in
set_option maxRecDepth 100000 in
theorem l6ItemsText_calls {w : World} {g : Nat} {ys : Bytes} (h : Rdr w g ys) : Calls Try.prog 56 #[.pointer (some ⟨g, 0, none⟩)] w (StrFew w g 60) := by
  have HN := Sec.mk (next_calls h)
  have hg := h.lt
  have hc := nextD_lt ys
  generalize (nextD ys).1 = c at *
  generalize (nextD ys).2 = ys2 at *
  clear h
  go_enter Try.func56, Try.ntmps56
  go_wp2_with fail
  refine HN.out.mono ?_
  rintro e w1 ⟨rfl, hr1, hm1⟩
  have HR1 := Sec.mk hr1
  have HM1 := Sec.mk hm1
  have hs1 := hm1.size
  have hal := (Mod.refl (fun _ => False) w1).alloc
  have HR2 := fun b => Sec.mk (HR1.out.mod (hal b) (fun _ _ h => h))
  have HM2 := fun b => Sec.mk (HM1.out.alloc b)
  clear hal hr1 hm1 HN
  by_cases h3 : c % 3 = 0
  · have i3 : (c : Int) % 3 = 0 := by omega
    clear h3
    rcases (show c / 3 % 5 = 0 ∨ c / 3 % 5 = 1 ∨ c / 3 % 5 = 2 ∨ c / 3 % 5 = 3 ∨ c / 3 % 5 = 4 by omega) with hj | hj | hj | hj | hj
    all_goals
      have hi : ((c : Int) / 3) % 5 = ((c / 3 % 5 : Nat) : Int) := by omega
      rw [hj] at hi
      clear hj
      go_wp2_with fail
      (try rw [hi])
      go_wp2_with fail
      refine (l6Word_calls (m := 11) (HR2 _).out _ (by decide) (by decide)).mono ?_
      rintro e w2 ⟨X, zs, rfl, hX, hr2, hm2⟩
      have HR3 := Sec.mk hr2
      have HM3 := Sec.mk ((HM2 _).out.trans hm2 (fun i hi _ => hi))
      clear hr2 hm2 HR2 HM2
      go_wp2
      go_ret
      exact ⟨_, zs, rfl, by omega, HR3.out, HM3.out⟩
  have i3 : (c : Int) % 3 ≠ 0 := by omega
  have i3b : ((c : Int) % 3 == 0) = false := by simpa using i3
  clear h3
  have HBK := Blk.new w1 9 [.string ⟨#[85, 73, 68]⟩, .string ⟨#[70, 76, 65, 71, 83]⟩, .string ⟨#[82, 70, 67, 56, 50, 50, 46, 83, 73, 90, 69]⟩, .string ⟨#[66, 79, 68, 89, 91, 93]⟩, .string ⟨#[69, 78, 86, 69, 76, 79, 80, 69]⟩]
  have HBK0 := Sec.mk HBK
  clear HBK
  have hne : w1.heap.size ≠ g := by omega
  go_wp2_with fail
  have HR3 := HR2 (.cells #[.string ⟨#[85, 73, 68]⟩, .string ⟨#[70, 76, 65, 71, 83]⟩, .string ⟨#[82, 70, 67, 56, 50, 50, 46, 83, 73, 90, 69]⟩, .string ⟨#[66, 79, 68, 89, 91, 93]⟩, .string ⟨#[69, 78, 86, 69, 76, 79, 80, 69]⟩] 9)
  have HM3 := HM2 (.cells #[.string ⟨#[85, 73, 68]⟩, .string ⟨#[70, 76, 65, 71, 83]⟩, .string ⟨#[82, 70, 67, 56, 50, 50, 46, 83, 73, 90, 69]⟩, .string ⟨#[66, 79, 68, 89, 91, 93]⟩, .string ⟨#[69, 78, 86, 69, 76, 79, 80, 69]⟩] 9)
  clear HR2 HM2
  go_loopw [5, 6] (fun s n wr => ∃ (k : Nat) (js ys : Bytes), s = .string ⟨js.toArray⟩ ∧ n = .int .i64 (k : Int) ∧ k ≤ 4 ∧ js.length ≤ 13 * k ∧ Sec (Rdr wr g ys) ∧ Sec (Mod (· = g) w wr) ∧ Sec (Blk wr w1.heap.size 9 [.string ⟨#[85, 73, 68]⟩, .string ⟨#[70, 76, 65, 71, 83]⟩, .string ⟨#[82, 70, 67, 56, 50, 50, 46, 83, 73, 90, 69]⟩, .string ⟨#[66, 79, 68, 89, 91, 93]⟩, .string ⟨#[69, 78, 86, 69, 76, 79, 80, 69]⟩])) (fun _ n _ => 4 - (intOf n).toNat)
  case atStart => exact ⟨0, [], ys2, rfl, rfl, by omega, by simp, HR3, HM3, HBK0⟩
  case round =>
    clear HR3 HM3 HBK0
    obtain ⟨k, js, ys, rfl, rfl, hk, hjl, HR, HM, HB⟩ := hrel
    by_cases hk4 : k = 4
    · subst hk4
      go_wp2
      go_ret
      exact ⟨_, ys, rfl, by simp only [ByteArray.size_append, szMk, List.size_toArray, List.length_cons, List.length_nil]; omega, HR.out, HM.out⟩
    have hki : (k : Int) < 4 := by omega
    obtain ⟨b, hb⟩ : ∃ b, (bits .and .i64 ((c : Int) / 2 ^ (k + 2)) 1 == 1) = b := ⟨_, rfl⟩
    obtain ⟨X, hX, hcell⟩ : ∃ X : ByteArray, X.size ≤ 11 ∧ wr.cell? ⟨w1.heap.size, k, none⟩ = some (.string X) := by
      rcases (show k = 0 ∨ k = 1 ∨ k = 2 ∨ k = 3 by omega) with rfl | rfl | rfl | rfl
      · exact ⟨_, by decide, HB.out.cell 0⟩
      · exact ⟨_, by decide, HB.out.cell 1⟩
      · exact ⟨_, by decide, HB.out.cell 2⟩
      · exact ⟨_, by decide, HB.out.cell 3⟩
    cases b
    · go_wp2
      go_roundw
      case rel => exact ⟨k + 1, js, ys, rfl, by go_num, by omega, by omega, HR, HM, HB⟩
      case measure => simp [intOf]; omega
    by_cases hnil : js = []
    · subst hnil
      go_wp2_with fail
      refine (l6Word_calls (m := 11) HR.out X hX (by decide)).mono ?_
      rintro e w2 ⟨Y, zs, rfl, hY, hr2, hm2⟩
      have HR3 := Sec.mk hr2
      have HM3 := Sec.mk (HM.out.trans hm2 (fun i hi _ => hi))
      have HB3 := Sec.mk (HB.out.mod hm2 hne)
      clear hr2 hm2 HR HM HB hcell
      go_wp2
      go_roundw
      case rel => exact ⟨k + 1, _, zs, congrArg Value.string (baL _), by go_num, by omega, by rw [baL_len]; simp only [ByteArray.size_append, szMk, List.size_toArray, List.length_cons, List.length_nil]; omega, HR3, HM3, HB3⟩
      case measure => simp [intOf]; omega
    · have hjb : js.isEmpty = false := by simpa using hnil
      go_wp2_with fail
      refine (l6Word_calls (m := 11) HR.out X hX (by decide)).mono ?_
      rintro e w2 ⟨Y, zs, rfl, hY, hr2, hm2⟩
      have HR3 := Sec.mk hr2
      have HM3 := Sec.mk (HM.out.trans hm2 (fun i hi _ => hi))
      have HB3 := Sec.mk (HB.out.mod hm2 hne)
      clear hr2 hm2 HR HM HB hcell
      go_wp2
      go_roundw
      case rel => exact ⟨k + 1, _, zs, congrArg Value.string (baL _), by go_num, by omega, by rw [baL_len]; simp only [ByteArray.size_append, szMk, List.size_toArray, List.length_cons, List.length_nil]; omega, HR3, HM3, HB3⟩
      case measure => simp [intOf]; omega
end Go.Proofs.Ytciiejkfppnimaa
