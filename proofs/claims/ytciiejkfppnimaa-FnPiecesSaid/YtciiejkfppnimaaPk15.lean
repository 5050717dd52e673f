/- Drawn streams. A stream in two pieces gives the units of the whole, in plain lists. -/
import Derived.Test.YtciiejkfppnimaaPk14
import Derived.Test.YtciiejkfppnimaaPk4
import Derived.Test.YtciiejkfppnimaaPk6
import Derived.Test.YtciiejkfppnimaaPk2
namespace Go.Proofs.Ytciiejkfppnimaa
open Go.RowKit Mem
set_option linter.unusedVariables false
set_option linter.unusedSimpArgs false
theorem drawn_q (d n : Nat) : ∃ q : Nat, Int.tmod (d : Int) ((n : Int) + 1) = (q : Int) ∧ q ≤ n := by
  refine ⟨d % (n + 1), ?_, by have := Nat.mod_lt d (show 0 < n + 1 by omega); omega⟩
  have := Int.ofNat_tmod d (n + 1)
  rw [Int.natCast_add] at this
  exact this.symm
theorem rm_imap {w0 w : World} {g : Nat} (h : Sec (RM w0 g w)) : Calls Try.prog 41 #[.pointer (some ⟨g, 0, none⟩)] w (ShortS w0 g 1000) :=
  (l6ImapText_calls ⟨⟨h.out.1, Mod.refl _ _⟩⟩).mono fun e w' ⟨X, h1, h2, h3⟩ => ⟨X, h1, h2, ⟨⟨h3.out.1, h.out.2.trans h3.out.2 (fun i hi _ => hi)⟩⟩⟩
set_option maxHeartbeats 8000000 in
set_option maxRecDepth 100000 in
theorem drawCut_calls {A : Option Addr} {c0 : Nat} {xs : Bytes} {B : Nat → Prop} {w : World} (h : Row Ty.byte w B A xs.length xs) (hB : ∀ k, B k → k < w.heap.size) (hl : xs.length ≤ 34359738368) :
    Calls Try.prog 20 #[.slice A xs.length c0] w (fun e w' => ∃ (b : Bool) (A' : Option Addr) (c' : Nat) (zs : Bytes), e = .returned (.tuple #[.bool b, .slice A' zs.length c']) ∧ zs.length ≤ 20000 ∧ RdV false dBS w' (.slice A' zs.length c') zs ∧ New w w') := by
  have HRM : Sec (RM w w.heap.size (w.alloc (.cells #[.slice A xs.length c0, .int .i64 0] 48))) := ⟨⟨xs, ⟨A, c0, xs, 0, B, Blk.new w _ _, by omega, rfl, h.mod (fun _ h => h) (fun k hk => ((Mod.refl (fun _ => False) w).alloc _).block k (hB k hk) id), hB, hl⟩⟩, (Mod.refl _ _).alloc _⟩
  have hsz : (w.alloc (.cells #[.slice A xs.length c0, .int .i64 0] 48)).heap.size = w.heap.size + 1 := by simp
  clear h hB
  go_enter Try.func20, Try.ntmps20
  go_upto_region 2 with (fail)
  generalize (w.alloc (.cells #[.slice A xs.length c0, .int .i64 0] 48)) = w1 at *
  go_wp2_with fail
  refine (rm_next HRM).mono ?_
  clear HRM hsz
  rintro e w2 ⟨c, rfl, hc, HRM⟩
  go_wp2
  go_loopw [6, 7] (fun s n wr => ∃ (k : Nat) (js : Bytes), s = .string ⟨js.toArray⟩ ∧ n = .int .i64 (k : Int) ∧ k ≤ 8 ∧ js.length ≤ 2000 * k ∧ Sec (RM w w.heap.size wr)) (fun _ n _ => 8 - (intOf n).toNat)
  case atStart => exact ⟨0, [], rfl, rfl, by omega, by simp, HRM⟩
  case round =>
    clear HRM
    obtain ⟨k, js, rfl, rfl, hk, hjl, HRM⟩ := hrel
    go_upto_region 5 with (fail)
    go_cut [23] (fun b wx => ∃ b' : Bool, b = .bool b' ∧ (b' = true → k < 8) ∧ Sec (RM w w.heap.size wx))
    case first =>
      rcases (show k = 0 ∨ (k ≠ 0 ∧ k < 8) ∨ k = 8 by omega) with h0 | ⟨h0, h8⟩ | h8
      · subst h0
        go_wp2
        go_meet
        exact ⟨_, rfl, fun _ => by omega, HRM⟩
      · have h8i : (k : Int) < 8 := by omega
        have h0i : (k : Int) ≠ 0 := by omega
        have h0b : ((k : Int) == 0) = false := by simpa using h0i
        go_wp2_with fail
        refine (rm_more HRM).mono ?_
        rintro e w3 ⟨b, rfl, HRM3⟩
        go_wp2
        go_meet
        exact ⟨_, rfl, fun _ => h8, HRM3⟩
      · subst h8
        go_wp2
        go_meet
        exact ⟨_, rfl, fun h => by simp at h, HRM⟩
    case rest =>
      rename World => w3
      obtain ⟨b, rfl, hb8, HRM3⟩ := hcut
      clear HRM
      cases b
      · clear hb8
        obtain ⟨cp, w4, hconv, HB, HN, hcp, hcp2, hgl⟩ := conv_row2 js (by omega) w3
        have HBs := Sec.mk HB
        have HRM4 := Sec.mk (HRM3.out.new HN)
        clear HB HN
        have hgw : w.heap.size < w3.heap.size := by
          obtain ⟨⟨ys', A', c', x', i', B', hb', -⟩, -⟩ := HRM3.out
          exact hb'.lt
        generalize hg4 : w3.heap.size = g4 at *
        clear hg4
        go_upto_if 69 with (fail)
        go_cut [8] (fun v wx => ∃ m : Nat, v = .slice (some ⟨g4, 0, none⟩) m cp ∧ m ≤ js.length ∧ Sec (BRow wx g4 js) ∧ Sec (RM w w.heap.size wx))
        case first =>
          by_cases h4 : c % 4 = 0
          · have h4i : (c : Int) % 4 = 0 := by omega
            go_wp2_with fail
            refine (rm_next (w0 := w4) ⟨⟨HRM4.out.1, Mod.refl _ _⟩⟩).mono ?_
            rintro e w5 ⟨d, rfl, hd, HX⟩
            have HRM5 : Sec (RM w w.heap.size w5) := ⟨⟨HX.out.1, HRM4.out.2.trans HX.out.2 (fun i hi _ => hi)⟩⟩
            have HBs5 : Sec (BRow w5 g4 js) := ⟨HBs.out.mv (HX.out.2.block g4 hgl (by omega))⟩
            clear HX HRM4 HBs
            obtain ⟨q, hq, hqn⟩ := drawn_q d js.length
            go_wp2
            go_meet
            exact ⟨_, rfl, by omega, HBs5, HRM5⟩
          · have h4i : (c : Int) % 4 ≠ 0 := by omega
            go_wp2
            go_meet
            exact ⟨_, rfl, Nat.le_refl _, HBs, HRM4⟩
        case rest =>
          rename World => w5
          obtain ⟨m, rfl, hm, HB5, HRM5⟩ := hcut
          obtain ⟨zs, hz, hzl⟩ : ∃ zs : Bytes, zs = js.take m ∧ zs.length = m := ⟨_, rfl, by simp; omega⟩
          subst hzl
          have HROW : Sec (RdV false dBS w5 (.slice (some ⟨g4, 0, none⟩) zs.length cp) zs) := by
            have hlt := HB5.out.lt
            have hr := (HB5.out.row (by omega)).take hm
            rw [← hz] at hr
            exact ⟨RdV.of_row (hr.mod (fun k hk => by subst hk; exact hlt) (fun _ _ => rfl)) (by omega) (by omega)⟩
          have HNW : Sec (New w w5) := ⟨HRM5.out.2.mono (fun i hi hs => by omega)⟩
          clear hz HB5 HRM5 hconv
          have hz2 : zs.length ≤ 20000 := by omega
          go_wp2
          go_ret2
          exact ⟨_, _, _, zs, rfl, hz2, HROW.out, HNW.out⟩
      have hk8 := hb8 rfl
      clear hb8
      go_upto_if 28 with (fail)
      go_cut [6] (fun s wx => ∃ js' : Bytes, s = .string ⟨js'.toArray⟩ ∧ js'.length ≤ js.length + 1000 ∧ Sec (RM w w.heap.size wx))
      case first =>
        by_cases h3 : c % 3 = 0
        · have h3i : (c : Int) % 3 = 0 := by omega
          go_wp2_with fail
          refine (rm_pop HRM3).mono ?_
          rintro e w4 ⟨Y, rfl, hY, HRM4⟩
          go_wp2
          go_meet
          exact ⟨_, congrArg Value.string (baL _), by rw [baL_len]; (first | omega | (simp only [ByteArray.size_append, szMk, List.size_toArray, List.length_cons, List.length_nil]; omega)), HRM4⟩
        · have h3i : (c : Int) % 3 ≠ 0 := by omega
          go_wp2_with fail
          refine (rm_imap HRM3).mono ?_
          rintro e w4 ⟨Y, rfl, hY, HRM4⟩
          go_wp2
          go_meet
          exact ⟨_, congrArg Value.string (baL _), by rw [baL_len]; (first | omega | (simp only [ByteArray.size_append, szMk, List.size_toArray, List.length_cons, List.length_nil]; omega)), HRM4⟩
      case rest =>
        rename World => w4
        obtain ⟨js2, rfl, hj2, HRM4⟩ := hcut
        clear HRM3
        go_upto_if 41 with (fail)
        go_cut [6] (fun s wx => ∃ js' : Bytes, s = .string ⟨js'.toArray⟩ ∧ js'.length ≤ js2.length + 303 ∧ Sec (RM w w.heap.size wx))
        case first =>
          by_cases h20 : c / 3 % 20 = 0
          · have h20i : ((c : Int) / 3) % 20 = 0 := by omega
            go_wp2_with fail
            refine (rm_next HRM4).mono ?_
            rintro e w5 ⟨d, rfl, hd, HRM5⟩
            go_wp2_with (refine wpList_mk _ rfl (.tmp 46) _ rfl Ty.byte 5 Try.underlying22 elt_byte 0 (fun _ => ⟨rfl, rfl⟩) (300 + d % 2) (congrArg (Value.int .i64) (show (300 : Int) + (d : Int) % 2 = ((300 + d % 2 : Nat) : Int) by omega)) (by omega) ?_; intro w6 ho6; obtain ⟨zs, hz, hzl⟩ : ∃ zs : Bytes, Mine Ty.byte 5 w5 w6 (.slice (some ⟨w5.heap.size, 0, none⟩) (300 + d % 2 : Nat) (300 + d % 2 : Nat)) zs ∧ zs.length = 300 + d % 2 := ⟨_, ho6, by simp⟩; have hcv := hz.row.conv Try.underlying22 Try.underlying5 Try.underlying9 (300 + d % 2); have HRM6 : Sec (RM w w.heap.size w6) := ⟨HRM5.out.new hz.new⟩; clear ho6 hz HRM5)
            go_meet
            exact ⟨_, congrArg Value.string (baL _), by rw [baL_len]; (first | omega | (simp only [ByteArray.size_append, szMk, List.size_toArray, List.length_cons, List.length_nil]; omega)), HRM6⟩
          · have h20i : ((c : Int) / 3) % 20 ≠ 0 := by omega
            go_wp2
            go_meet
            exact ⟨js2, rfl, by omega, HRM4⟩
        case rest =>
          rename World => w5
          obtain ⟨js3, rfl, hj3, HRM5⟩ := hcut
          clear HRM4
          by_cases h1 : c / 3 % 20 = 1
          · have h1i : ((c : Int) / 3) % 20 = 1 := by omega
            have hgw : w.heap.size < w5.heap.size := by
              obtain ⟨⟨ys', A', c', x', i', B', hb', -⟩, -⟩ := HRM5.out
              exact hb'.lt
            go_wp2_with fail
            refine (rm_next (w0 := _) ⟨⟨(HRM5.out.alloc _).1, Mod.refl _ _⟩⟩).mono ?_
            rintro e w6 ⟨d, rfl, hd, HX⟩
            have HRM6 : Sec (RM w w.heap.size w6) := ⟨⟨HX.out.1, (HRM5.out.alloc _).2.trans HX.out.2 (fun i hi _ => hi)⟩⟩
            have HB6 := Sec.mk ((Blk.new w5 _ [.string ⟨#[56, 48, 48, 48]⟩, .string ⟨#[56, 48, 48, 49]⟩, .string ⟨#[57, 57, 57, 57, 57, 57, 57, 57, 57]⟩, .string ⟨#[49, 48, 48, 48, 48, 48, 48, 48, 48, 48]⟩, .string ⟨#[48, 55]⟩]).mod HX.out.2 (show ¬ w5.heap.size = w.heap.size by omega))
            clear HX HRM5
            generalize w5.heap.size = g5 at *
            have c0 : w6.cell? ⟨g5, 0, none⟩ = some (.string ⟨#[56, 48, 48, 48]⟩) := HB6.out.cell 0
            have c1 : w6.cell? ⟨g5, 1, none⟩ = some (.string ⟨#[56, 48, 48, 49]⟩) := HB6.out.cell 1
            have c2 : w6.cell? ⟨g5, 2, none⟩ = some (.string ⟨#[57, 57, 57, 57, 57, 57, 57, 57, 57]⟩) := HB6.out.cell 2
            have c3 : w6.cell? ⟨g5, 3, none⟩ = some (.string ⟨#[49, 48, 48, 48, 48, 48, 48, 48, 48, 48]⟩) := HB6.out.cell 3
            have c4 : w6.cell? ⟨g5, 4, none⟩ = some (.string ⟨#[48, 55]⟩) := HB6.out.cell 4
            clear HB6
            rcases (show (d : Int) % 5 = 0 ∨ (d : Int) % 5 = 1 ∨ (d : Int) % 5 = 2 ∨ (d : Int) % 5 = 3 ∨ (d : Int) % 5 = 4 by omega) with hd0 | hd1 | hd2 | hd3 | hd4
            · go_wp2
              go_roundw
              case rel => exact ⟨k + 1, _, congrArg Value.string (baL _), by go_num, by omega, by rw [baL_len]; (first | omega | (simp only [ByteArray.size_append, szMk, List.size_toArray, List.length_cons, List.length_nil]; omega)), HRM6⟩
              case measure => simp [intOf]; omega
            · go_wp2
              go_roundw
              case rel => exact ⟨k + 1, _, congrArg Value.string (baL _), by go_num, by omega, by rw [baL_len]; (first | omega | (simp only [ByteArray.size_append, szMk, List.size_toArray, List.length_cons, List.length_nil]; omega)), HRM6⟩
              case measure => simp [intOf]; omega
            · go_wp2
              go_roundw
              case rel => exact ⟨k + 1, _, congrArg Value.string (baL _), by go_num, by omega, by rw [baL_len]; (first | omega | (simp only [ByteArray.size_append, szMk, List.size_toArray, List.length_cons, List.length_nil]; omega)), HRM6⟩
              case measure => simp [intOf]; omega
            · go_wp2
              go_roundw
              case rel => exact ⟨k + 1, _, congrArg Value.string (baL _), by go_num, by omega, by rw [baL_len]; (first | omega | (simp only [ByteArray.size_append, szMk, List.size_toArray, List.length_cons, List.length_nil]; omega)), HRM6⟩
              case measure => simp [intOf]; omega
            · go_wp2
              go_roundw
              case rel => exact ⟨k + 1, _, congrArg Value.string (baL _), by go_num, by omega, by rw [baL_len]; (first | omega | (simp only [ByteArray.size_append, szMk, List.size_toArray, List.length_cons, List.length_nil]; omega)), HRM6⟩
              case measure => simp [intOf]; omega
          · have h1i : ((c : Int) / 3) % 20 ≠ 1 := by omega
            go_wp2
            go_roundw
            case rel => exact ⟨k + 1, js3, rfl, by go_num, by omega, by omega, HRM5⟩
            case measure => simp [intOf]; omega
end Go.Proofs.Ytciiejkfppnimaa

namespace Go.Proofs.Ytciiejkfppnimaa
set_option linter.unusedVariables false
open Mem
theorem endAt_app {p : Bytes} (s : Bytes) {j : Nat} (h : j + 2 ≤ p.length) : endAt (p ++ s) j ↔ endAt p j := by
  unfold endAt
  rw [List.getElem?_append_left (by omega), List.getElem?_append_left (by omega)]
theorem endI_app {p : Bytes} (s : Bytes) {i : Nat} (h : endI p = (i : Int)) : endI (p ++ s) = (i : Int) := by
  rcases endI_spec p with ⟨h1, _⟩ | ⟨k, h1, h2, h3, h4⟩
  · omega
  · obtain rfl : k = i := by omega
    exact endI_first ((endAt_app s h2).2 h3) fun j hj hx => h4 j hj ((endAt_app s (by omega)).1 hx)
theorem oneC_app (lit : Bool) {p : Bytes} (s : Bytes) (h : (oneC lit p).2 ≠ 0) : oneC lit (p ++ s) = oneC lit p := by
  unfold oneC at h ⊢
  rcases endI_spec p with ⟨he, _⟩ | ⟨i, he, hi, _, _⟩
  · rw [he] at h; exact absurd rfl h
  · have hn : ¬ ((i : Int) < 0) := by omega
    rw [endI_app s he]
    rw [he] at h ⊢
    rw [if_neg hn] at h
    rw [if_neg hn, if_neg hn]
    simp only [Int.toNat_natCast] at h ⊢
    have ht : (p ++ s).take i = p.take i := List.take_append_of_le_length (by omega)
    rw [ht]
    by_cases h30 : 300 < i
    · rw [if_pos h30, if_pos h30]
    · rw [if_neg h30] at h ⊢
      rw [if_neg h30]
      cases hm : (if lit = true then litL (List.take i p) else none) with
      | none => rfl
      | some pn =>
        obtain ⟨q, n⟩ := pn
        rw [hm] at h
        simp only at h ⊢
        by_cases h8 : 8000 < n
        · rw [if_pos h8, if_pos h8]
        · rw [if_neg h8] at h ⊢
          rw [if_neg h8]
          by_cases hl : p.length < i + 2 + n + 2
          · rw [if_pos hl] at h; exact absurd rfl h
          · rw [if_neg hl, if_neg (by rw [List.length_append]; omega)]
            rw [List.getElem?_append_left (by omega), List.getElem?_append_left (by omega), List.take_append_of_le_length (by omega)]
theorem cuts_app (lit : Bool) (s : Bytes) : ∀ (m : Nat) (p : Bytes), p.length ≤ m → cutsL lit (p ++ s) = ((cutsL lit p).1 ++ (cutsL lit ((cutsL lit p).2 ++ s)).1, (cutsL lit ((cutsL lit p).2 ++ s)).2)
  | m, p, hm => by
    by_cases h : (oneC lit p).2 = 0
    · rw [cutsL_stop h]; rfl
    · have h2 := (oneC_le lit p).2 h
      have h1 := (oneC_le lit p).1
      match m, hm with
      | 0, hm => omega
      | m + 1, hm =>
        have ih := cuts_app lit s m (p.drop (oneC lit p).2) (by rw [List.length_drop]; omega)
        have ha := oneC_app lit s h
        have hs : (oneC lit (p ++ s)).2 ≠ 0 := by rw [ha]; exact h
        rw [cutsL_step hs, cutsL_step h, ha, List.drop_append_of_le_length h1, ih]
        rfl
theorem cuts_len (lit : Bool) : ∀ (f : Nat) (b : Bytes), (cutsF lit f b).1.length + (cutsF lit f b).2.length ≤ b.length
  | 0, b => by simp [cutsF]
  | f + 1, b => by
    unfold cutsF
    split
    · simp
    · rename_i h
      have h2 := (oneC_le lit b).2 h
      have h1 := (oneC_le lit b).1
      have := cuts_len lit f (b.drop (oneC lit b).2)
      rw [List.length_drop] at this
      simp only [List.length_cons]
      omega
theorem cutsL_len (lit : Bool) (b : Bytes) : (cutsL lit b).1.length + (cutsL lit b).2.length ≤ b.length := cuts_len lit _ b
end Go.Proofs.Ytciiejkfppnimaa
