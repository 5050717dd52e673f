/- Drawn lines: IMAP commands. -/
import Derived.Test.YtciiejkfppnimaaPk12
import Derived.Test.YtciiejkfppnimaaPk8
import Derived.Test.YtciiejkfppnimaaPk13
namespace Go.Proofs.Ytciiejkfppnimaa
open Go.RowKit Mem
set_option linter.unusedVariables false
set_option linter.unusedSimpArgs false
/-- the reader in block g, which alone has changed since w0 -/
def RM (w0 : World) (g : Nat) (w : World) : Prop := (∃ ys, Rdr w g ys) ∧ Mod (· = g) w0 w
theorem RM.new {w0 w w' : World} {g : Nat} (h : RM w0 g w) (hn : New w w') : RM w0 g w' := ⟨let ⟨ys, h1⟩ := h.1; ⟨ys, h1.mod hn (fun _ _ h => h)⟩, h.2.trans hn (fun i hi hlt => absurd hi (fun h => h))⟩
theorem RM.alloc {w0 w : World} {g : Nat} (h : RM w0 g w) (b : Obj) : RM w0 g (w.alloc b) := h.new ((Mod.refl _ _).alloc b)
theorem RM.drew {w0 w : World} {g : Nat} (h : RM w0 g w) : RM w0 g w.drew := h.new (Mod.refl _ _).drew
theorem RM.few {w0 w w' : World} {g m : Nat} {e : Ending} (h : RM w0 g w) (hf : StrFew w g m e w') : ∃ X : ByteArray, e = .returned (.string X) ∧ X.size ≤ m ∧ RM w0 g w' := by
  obtain ⟨X, ys, he, hX, hr, hm⟩ := hf
  exact ⟨X, he, hX, ⟨ys, hr⟩, h.2.trans hm (fun i hi _ => hi)⟩
theorem RM.few2 {w0 w w' : World} {g m : Nat} {e : Ending} (h : RM w0 g w) (hf : StrFew w g m e w') : ∃ X : ByteArray, e = .returned (.string X) ∧ X.size ≤ m ∧ RM w0 g w' ∧ Mod (· = g) w w' := by
  obtain ⟨X, ys, he, hX, hr, hm⟩ := hf
  exact ⟨X, he, hX, ⟨⟨ys, hr⟩, h.2.trans hm (fun i hi _ => hi)⟩, hm⟩
abbrev ShortS (w0 : World) (g m : Nat) : Ending → World → Prop := fun e w' => ∃ X : ByteArray, e = .returned (.string X) ∧ X.size ≤ m ∧ Sec (RM w0 g w')
theorem rm_word {w0 w : World} {g m : Nat} (h : Sec (RM w0 g w)) (X : ByteArray) (hX : X.size ≤ m) (hm : m ≤ 1048576) : Calls Try.prog 53 #[.pointer (some ⟨g, 0, none⟩), .string X] w (ShortS w0 g m) := by
  obtain ⟨ys, hr⟩ := h.out.1
  exact (l6Word_calls hr X hX hm).mono fun e w' hf => let ⟨X, h1, h2, h3⟩ := h.out.few hf; ⟨X, h1, h2, ⟨h3⟩⟩
theorem rm_set {w0 w : World} {g : Nat} (h : Sec (RM w0 g w)) : Calls Try.prog 55 #[.pointer (some ⟨g, 0, none⟩)] w (ShortS w0 g 90) := by
  obtain ⟨ys, hr⟩ := h.out.1
  exact (l6SetText_calls hr).mono fun e w' hf => let ⟨X, h1, h2, h3⟩ := h.out.few hf; ⟨X, h1, h2, ⟨h3⟩⟩
theorem rm_items {w0 w : World} {g : Nat} (h : Sec (RM w0 g w)) : Calls Try.prog 56 #[.pointer (some ⟨g, 0, none⟩)] w (ShortS w0 g 60) := by
  obtain ⟨ys, hr⟩ := h.out.1
  exact (l6ItemsText_calls hr).mono fun e w' hf => let ⟨X, h1, h2, h3⟩ := h.out.few hf; ⟨X, h1, h2, ⟨h3⟩⟩
theorem rm_flags {w0 w : World} {g : Nat} (h : Sec (RM w0 g w)) : Calls Try.prog 57 #[.pointer (some ⟨g, 0, none⟩)] w (ShortS w0 g 400) := by
  obtain ⟨ys, hr⟩ := h.out.1
  exact (l6Flags_calls hr).mono fun e w' hf => let ⟨X, h1, h2, h3⟩ := h.out.few hf; ⟨X, h1, h2, ⟨h3⟩⟩
theorem rm_pop {w0 w : World} {g : Nat} (h : Sec (RM w0 g w)) : Calls Try.prog 40 #[.pointer (some ⟨g, 0, none⟩)] w (ShortS w0 g 40) := by
  obtain ⟨ys, hr⟩ := h.out.1
  exact (l6PopLine_calls hr).mono fun e w' hf => let ⟨X, h1, h2, h3⟩ := h.out.few hf; ⟨X, h1, h2, ⟨h3⟩⟩
theorem rm_next {w0 w : World} {g : Nat} (h : Sec (RM w0 g w)) : Calls Try.prog 39 #[.pointer (some ⟨g, 0, none⟩)] w (fun e w' => ∃ c : Nat, e = .returned (.int .i64 (c : Int)) ∧ c < 256 ∧ Sec (RM w0 g w')) := by
  obtain ⟨ys, hr⟩ := h.out.1
  exact (next_calls hr).mono fun e w' ⟨h1, h2, h3⟩ => ⟨_, h1, nextD_lt ys, ⟨⟨_, h2⟩, h.out.2.trans h3 (fun i hi _ => hi)⟩⟩
theorem rm_more {w0 w : World} {g : Nat} (h : Sec (RM w0 g w)) : Calls Try.prog 21 #[.pointer (some ⟨g, 0, none⟩)] w (fun e w' => ∃ b : Bool, e = .returned (.bool b) ∧ Sec (RM w0 g w')) := by
  obtain ⟨ys, hr⟩ := h.out.1
  exact (more_calls hr).mono fun e w' ⟨⟨b, h1⟩, h2, h3⟩ => ⟨b, h1, ⟨⟨_, h2⟩, h.out.2.trans h3 (fun i hi _ => hi)⟩⟩
theorem rm_dec {w0 w : World} {g : Nat} (h : Sec (RM w0 g w)) (N : Nat) (hN : N ≤ 9999999) : Calls Try.prog 54 #[.int .i64 (N : Int)] w (ShortS w0 g 13) :=
  (dec_at N 0 hN w).mono fun e w' ⟨Y, h1, h2, h3⟩ => ⟨Y, h1, h2, ⟨h.out.new h3⟩⟩
theorem rm_dec1 {w0 w : World} {g : Nat} (h : Sec (RM w0 g w)) (N : Nat) (hN : N ≤ 999999) : Calls Try.prog 54 #[.int .i64 ((N : Int) + 1)] w (ShortS w0 g 13) := by
  have := rm_dec h (N + 1) (by omega)
  rwa [Int.natCast_add] at this
theorem rm_body {w0 w : World} {g : Nat} (h : Sec (RM w0 g w)) : Calls Try.prog 22 #[.pointer (some ⟨g, 0, none⟩)] w (fun e w' => ∃ A c zs, e = .returned (.slice A zs.length c) ∧ zs.length ≤ 60 ∧ Sec (Row Ty.byte w' (fun k => w.heap.size ≤ k) A zs.length zs) ∧ Sec (RM w0 g w')) := by
  obtain ⟨ys, hr⟩ := h.out.1
  exact (l3Body_calls hr).mono fun e w' ⟨A, c, zs, ys2, h1, h2, h3, h4, h5⟩ => ⟨A, c, zs, h1, h2, ⟨h3.row⟩, ⟨⟨_, h4⟩, h.out.2.trans h5 (fun i hi _ => hi)⟩⟩
section
variable {P : Program} {md : Region.Mode} {ops : Array Oper} {L : List Nat} {Q : Exit → Act → World → Prop}
theorem reg_strong {T T' : World → Prop} (hT : ∀ W, T' W → T W) : ∀ (n : Nat) (ls : Array Bool) (a : Act) (w : World), RegR P md ops Q L T' n ls a w → RegR P md ops Q L T n ls a w
  | 0, _, _, _, h => h
  | n + 1, _, _, _, h => ⟨h.1, fun i hi => wpOp_mono (fun a' w' h' => ⟨fun hl => hT _ (h'.1 hl), reg_strong hT n _ a' w' h'.2⟩) (h.2 i hi)⟩
end
theorem strAdd (x y : Operand) (X Y : ByteArray) (h : X.size + Y.size ≤ 1048576) (w : World) : (do eqGuard .add 9 x y (.string X) (.string Y); binOp .add 9 (.string X) (.string Y) : Sem Value).run Try.prog w = .ok (.string (X ++ Y)) w := by
  go_simp
  exact Nat.le_trans h (by decide)
theorem strAddE {X Y S : ByteArray} (e : Sec (S = X ++ Y)) (h : X.size + Y.size ≤ 1048576) (x y : Operand) (w : World) : (do eqGuard .add 9 x y (.string X) (.string Y); binOp .add 9 (.string X) (.string Y) : Sem Value).run Try.prog w = .ok (.string S) w := by
  rw [e.out]
  exact strAdd x y X Y h w
theorem quoN (x y : Operand) (c : Nat) (hc : c < 256) (w : World) : (do eqGuard .quo 3 x y (.int .i64 (c : Int)) (.int .i64 16); binOp .quo 3 (.int .i64 (c : Int)) (.int .i64 16) : Sem Value).run Try.prog w = .ok (.int .i64 ((c / 16 : Nat) : Int)) w := by
  have h : ((c / 16 : Nat) : Int) = (c : Int) / 16 := by omega
  rw [h]
  go_simp
  rw [IntKind.wrap_i64]; omega
theorem remN (x y : Operand) (c : Nat) (hc : c < 256) (w : World) : (do eqGuard .rem 3 x y (.int .i64 (c : Int)) (.int .i64 4); binOp .rem 3 (.int .i64 (c : Int)) (.int .i64 4) : Sem Value).run Try.prog w = .ok (.int .i64 ((c % 4 : Nat) : Int)) w := by
  have h : ((c % 4 : Nat) : Int) = (c : Int) % 4 := by omega
  rw [h]
  go_simp
  exact Int.tmod_eq_emod_of_nonneg (by omega)
theorem idxStrs (b n k : Nat) (h : k < n) (w : World) : (Instr.indexAt 63 (.slice (some ⟨b, 0, none⟩) n n) (.int .i64 (k : Int))).run Try.prog w = .ok (.pointer (some ⟨b, k, none⟩)) w := by
  have hk : (k : Int) < (n : Int) := by omega
  go_simp
theorem ldStrs {w : World} {b k : Nat} {X : ByteArray} (h : w.cell? ⟨b, k, none⟩ = some (.string X)) : (Instr.loadAt 9 (.pointer (some ⟨b, k, none⟩))).run Try.prog w = .ok (.string X) w := by go_simp
abbrev fourS : Array Value := #[.string ⟨#[70, 76, 65, 71, 83]⟩, .string ⟨#[43, 70, 76, 65, 71, 83]⟩, .string ⟨#[45, 102, 108, 97, 103, 115]⟩, .string ⟨#[43, 70, 76, 65, 71, 83]⟩]
theorem four_cell (w : World) (j : Nat) (hj : j < 4) : ∃ Z : ByteArray, Z.size ≤ 6 ∧ (w.alloc (.cells fourS 9)).cell? ⟨w.heap.size, j, none⟩ = some (.string Z) := by
  have HB := Blk.new w 9 fourS.toList
  rcases (show j = 0 ∨ j = 1 ∨ j = 2 ∨ j = 3 by omega) with rfl | rfl | rfl | rfl
  · exact ⟨_, by decide, HB.cell 0⟩
  · exact ⟨_, by decide, HB.cell 1⟩
  · exact ⟨_, by decide, HB.cell 2⟩
  · exact ⟨_, by decide, HB.cell 3⟩
theorem four_run (w : World) : (Instr.buildSlice 63 4 #[(0, .string ⟨#[70, 76, 65, 71, 83]⟩), (1, .string ⟨#[43, 70, 76, 65, 71, 83]⟩), (2, .string ⟨#[45, 102, 108, 97, 103, 115]⟩), (3, .string ⟨#[43, 70, 76, 65, 71, 83]⟩)]).run Try.prog w = .ok (.slice (some ⟨w.heap.size, 0, none⟩) 4 4) (w.alloc (.cells fourS 9)) := by
  go_simp
theorem cell_mod {w w' : World} {g b j : Nat} {v : Value} (h : w.cell? ⟨b, j, none⟩ = some v) (hm : Mod (· = g) w w') (hb : b ≠ g) : w'.cell? ⟨b, j, none⟩ = some v :=
  (hm.cell (World.block_lt_of_cell? w _ h) hb).trans h
theorem RM.lt {w0 w : World} {g : Nat} (h : RM w0 g w) : g < w.heap.size := by obtain ⟨⟨ys, hr⟩, _⟩ := h; exact hr.lt
set_option maxHeartbeats 40000000 in
set_option maxRecDepth 100000 in
theorem l6ImapText_calls {w : World} {g : Nat} (h : Sec (RM w g w)) : Calls Try.prog 41 #[.pointer (some ⟨g, 0, none⟩)] w (ShortS w g 1000) := by
  go_enter Try.func41, Try.ntmps41
  go_wp2_with fail
  refine (rm_next h).mono ?_
  rintro e w1 ⟨c, rfl, hc, HRM⟩
  clear h
  go_upto_region 2 with (fail)
  go_cut [4] (fun s wx => ∃ X : ByteArray, s = .string X ∧ X.size ≤ 3 ∧ Sec (RM w g wx))
  case first =>
    rcases (show c / 16 % 6 = 0 ∨ c / 16 % 6 = 1 ∨ c / 16 % 6 = 2 ∨ c / 16 % 6 = 3 ∨ c / 16 % 6 = 4 ∨ c / 16 % 6 = 5 by omega) with hj | hj | hj | hj | hj | hj
    all_goals
      have hi : ((c : Int) / 16) % 6 = ((c / 16 % 6 : Nat) : Int) := by omega
      rw [hj] at hi
      clear hj
      go_wp2
      (try rw [hi])
      go_wp2
      go_meet
      exact ⟨_, rfl, by simp only [ByteArray.size_append, szMk, List.size_toArray, List.length_cons, List.length_nil]; omega, ⟨HRM.out.alloc _⟩⟩
  case rest =>
    rename World => w2
    obtain ⟨X, rfl, hX, HRM2⟩ := hcut
    clear HRM
    go_upto_if 19 with (fail)
    go_cut [4] (fun s wx => ∃ X : ByteArray, s = .string X ∧ X.size ≤ 3 ∧ Sec (RM w g wx))
    case first =>
      by_cases h11 : 11 < c / 16
      · have h11i : (11 : Int) < (c : Int) / 16 := by omega
        go_wp2
        go_meet
        exact ⟨_, rfl, by decide, HRM2⟩
      · have h11i : ¬ (11 : Int) < (c : Int) / 16 := by omega
        go_wp2
        go_meet
        exact ⟨_, rfl, hX, HRM2⟩
    case rest =>
      rename World => w3
      obtain ⟨X, rfl, hX, HRM⟩ := hcut
      clear HRM2
      go_upto_if 21 with (fail)
      go_cut [5] (fun s wx => ∃ X : ByteArray, s = .string X ∧ X.size ≤ 4 ∧ Sec (RM w g wx))
      case first =>
        by_cases h11 : 128 ≤ c
        · have h11i : (128 : Int) ≤ (c : Int) := by omega
          go_wp2_with fail
          refine (rm_word (m := 3) HRM _ (by decide) (by decide)).mono ?_
          rintro e w4 ⟨U, rfl, hU, HRM4⟩
          go_wp2
          go_meet
          exact ⟨_, rfl, by simp only [ByteArray.size_append, szMk, List.size_toArray, List.length_cons, List.length_nil]; omega, HRM4⟩
        · have h11i : ¬ (128 : Int) ≤ (c : Int) := by omega
          go_wp2
          go_meet
          exact ⟨_, rfl, by decide, HRM⟩
      case rest =>
        rename World => w4
        obtain ⟨U, rfl, hU, HRM4⟩ := hcut
        clear HRM
        have HRM := HRM4
        clear HRM4
        rcases (show (c % 16 = 0 ∨ c % 16 = 1) ∨ c % 16 = 2 ∨ (c % 16 = 3 ∨ c % 16 = 4 ∨ c % 16 = 5 ∨ c % 16 = 6) ∨ (c % 16 = 7 ∨ c % 16 = 8 ∨ c % 16 = 9 ∨ c % 16 = 10) ∨ (c % 16 = 11 ∨ c % 16 = 12 ∨ c % 16 = 13) ∨ c % 16 = 14 ∨ c % 16 = 15 by omega) with hj | hj | hj | hj | hj | hj | hj
        · rcases hj with hj | hj
          all_goals
            have hi : ((c : Int) % 16) = ((c % 16 : Nat) : Int) := by omega
            rw [hj] at hi
            clear hj
            go_wp2_with fail
            refine (rm_word (m := 4) HRM _ (by decide) (by decide)).mono ?_
            rintro e w5 ⟨Y5, rfl, hY5, HRM⟩
            go_wp2
            go_ret
            exact ⟨_, rfl, by simp only [ByteArray.size_append, szMk, List.size_toArray, List.length_cons, List.length_nil]; omega, HRM⟩
        · have hi : ((c : Int) % 16) = 2 := by omega
          clear hj
          go_wp2_with fail
          refine (rm_word (m := 7) HRM _ (by decide) (by decide)).mono ?_
          rintro e w5 ⟨Y5, rfl, hY5, HRM⟩
          go_wp2
          go_ret
          exact ⟨_, rfl, by simp only [ByteArray.size_append, szMk, List.size_toArray, List.length_cons, List.length_nil]; omega, HRM⟩
        · rcases hj with hj | hj | hj | hj
          all_goals
            have hi : ((c : Int) % 16) = ((c % 16 : Nat) : Int) := by omega
            rw [hj] at hi
            clear hj
            go_wp2_with fail
            refine (rm_word (m := 5) HRM _ (by decide) (by decide)).mono ?_
            rintro e w5 ⟨Y5, rfl, hY5, HRM⟩
            go_wp2_with fail
            refine (rm_set HRM).mono ?_
            rintro e w6 ⟨Y6, rfl, hY6, HRM⟩
            go_wp2_with fail
            refine (rm_items HRM).mono ?_
            rintro e w7 ⟨Y7, rfl, hY7, HRM⟩
            go_wp2
            go_ret
            exact ⟨_, rfl, by simp only [ByteArray.size_append, szMk, List.size_toArray, List.length_cons, List.length_nil]; omega, HRM⟩
        · rcases hj with hj | hj | hj | hj
          all_goals
            have hi : ((c : Int) % 16) = ((c % 16 : Nat) : Int) := by omega
            rw [hj] at hi
            clear hj
            go_wp2_with fail
            have HRM := Sec.mk HRM.out.drew
            have HSS : True := trivial
            refine reg_start [] (fun _ => True) (by kernel_rfl) ?_
            clear hi
            generalize w4.drew = wr at *
            refine reg_take (.string X) (i := 0) (n := 66) HSS rfl (by kernel_rfl) (by kernel_rfl) (by kernel_rfl) (by kernel_rfl) (fun _ _ _ h => h) (fun W hW => exec_move rfl rfl) ?_
            simp only [Act.put, List.setIfInBounds_toArray, List.set_cons_zero, List.set_cons_succ]
            refine reg_take (.string U) (i := 1) (n := 67) HSS rfl (by kernel_rfl) (by kernel_rfl) (by kernel_rfl) (by kernel_rfl) (fun _ _ _ h => h) (fun W hW => exec_move rfl rfl) ?_
            simp only [Act.put, List.setIfInBounds_toArray, List.set_cons_zero, List.set_cons_succ]
            refine reg_take (.pointer (some ⟨g, 0, none⟩)) (i := 2) (n := 68) HSS rfl (by kernel_rfl) (by kernel_rfl) (by kernel_rfl) (by kernel_rfl) (fun _ _ _ h => h) (fun W hW => exec_move rfl rfl) ?_
            simp only [Act.put, List.setIfInBounds_toArray, List.set_cons_zero, List.set_cons_succ]
            refine reg_take (.pointer (some ⟨g, 0, none⟩)) (i := 6) (n := 72) HSS rfl (by kernel_rfl) (by kernel_rfl) (by kernel_rfl) (by kernel_rfl) (fun _ _ _ h => h) (fun W hW => exec_move rfl rfl) ?_
            simp only [Act.put, List.setIfInBounds_toArray, List.set_cons_zero, List.set_cons_succ]
            refine reg_take (.int .i64 (c : Int)) (i := 11) (n := 77) HSS rfl (by kernel_rfl) (by kernel_rfl) (by kernel_rfl) (by kernel_rfl) (fun _ _ _ h => h) (fun W hW => exec_move rfl rfl) ?_
            simp only [Act.put, List.setIfInBounds_toArray, List.set_cons_zero, List.set_cons_succ]
            refine reg_take (.int .i64 ((c / 16 : Nat) : Int)) (i := 12) (n := 78) HSS rfl (by kernel_rfl) (by kernel_rfl) (by kernel_rfl) (by kernel_rfl) (fun _ _ _ h => h) (fun W hW => exec_bin rfl rfl rfl (quoN _ _ _ hc _)) ?_
            simp only [Act.put, List.setIfInBounds_toArray, List.set_cons_zero, List.set_cons_succ]
            refine reg_take (.int .i64 ((c / 16 % 4 : Nat) : Int)) (i := 13) (n := 79) HSS rfl (by kernel_rfl) (by kernel_rfl) (by kernel_rfl) (by kernel_rfl) (fun _ _ _ h => h) (fun W hW => exec_bin rfl rfl rfl (remN _ _ _ (by omega) _)) ?_
            simp only [Act.put, List.setIfInBounds_toArray, List.set_cons_zero, List.set_cons_succ]
            refine reg_take (.pointer (some ⟨g, 0, none⟩)) (i := 18) (n := 84) HSS rfl (by kernel_rfl) (by kernel_rfl) (by kernel_rfl) (by kernel_rfl) (fun _ _ _ h => h) (fun W hW => exec_move rfl rfl) ?_
            simp only [Act.put, List.setIfInBounds_toArray, List.set_cons_zero, List.set_cons_succ]
            refine reg_step2 (i := 3) (j := 10) rfl rfl (by kernel_rfl) (fun K hK => ?_) (fun K hK => ?_)
            · have HRC := HRM
              clear HRM
              refine wp_call (n := 69) (vals := [.pointer (some ⟨g, 0, none⟩), .string ⟨#[83, 84, 79, 82, 69]⟩]) rfl rfl rfl (by kernel_rfl) (rm_word (m := 5) HRC _ (by decide) (by decide)) ?_
              rintro e wn ⟨Y1, rfl, hY1, HRM⟩
              refine ⟨_, rfl, hK.out _ _ (fun _ => trivial) ?_⟩
              clear HRC
              clear hK K
              simp only [Act.put, List.setIfInBounds_toArray, List.set_cons_zero, List.set_cons_succ]
              obtain ⟨S70, hS70, hz70⟩ : ∃ S : ByteArray, Sec (S = U ++ Y1) ∧ S.size ≤ 9 := ⟨_, ⟨rfl⟩, by (first | omega | (simp only [ByteArray.size_append, szMk, List.size_toArray, List.length_cons, List.length_nil]; omega))⟩
              refine reg_take (.string S70) (i := 4) (n := 70) HSS rfl (by kernel_rfl) (by kernel_rfl) (by kernel_rfl) (by kernel_rfl) (fun _ _ _ h => h) (fun W hW => exec_bin rfl rfl rfl (strAddE hS70 (by (first | omega | (simp only [ByteArray.size_append, szMk, List.size_toArray, List.length_cons, List.length_nil]; omega))) _ _ _)) ?_
              simp only [Act.put, List.setIfInBounds_toArray, List.set_cons_zero, List.set_cons_succ]
              obtain ⟨S71, hS71, hz71⟩ : ∃ S : ByteArray, Sec (S = S70 ++ ⟨#[32]⟩) ∧ S.size ≤ 10 := ⟨_, ⟨rfl⟩, by (first | omega | (simp only [ByteArray.size_append, szMk, List.size_toArray, List.length_cons, List.length_nil]; omega))⟩
              refine reg_take (.string S71) (i := 5) (n := 71) HSS rfl (by kernel_rfl) (by kernel_rfl) (by kernel_rfl) (by kernel_rfl) (fun _ _ _ h => h) (fun W hW => exec_bin rfl rfl rfl (strAddE hS71 (by (first | omega | (simp only [ByteArray.size_append, szMk, List.size_toArray, List.length_cons, List.length_nil]; omega))) _ _ _)) ?_
              simp only [Act.put, List.setIfInBounds_toArray, List.set_cons_zero, List.set_cons_succ]
              refine reg_step2 (i := 7) (j := 10) rfl rfl (by kernel_rfl) (fun K hK => ?_) (fun K hK => ?_)
              · have HRC := HRM
                clear HRM
                refine wp_call (n := 73) (vals := [.pointer (some ⟨g, 0, none⟩)]) rfl rfl rfl (by kernel_rfl) (rm_set HRC) ?_
                rintro e wn ⟨Y2, rfl, hY2, HRM⟩
                refine ⟨_, rfl, hK.out _ _ (fun _ => trivial) ?_⟩
                clear HRC
                clear hK K
                simp only [Act.put, List.setIfInBounds_toArray, List.set_cons_zero, List.set_cons_succ]
                obtain ⟨S74, hS74, hz74⟩ : ∃ S : ByteArray, Sec (S = S71 ++ Y2) ∧ S.size ≤ 100 := ⟨_, ⟨rfl⟩, by (first | omega | (simp only [ByteArray.size_append, szMk, List.size_toArray, List.length_cons, List.length_nil]; omega))⟩
                refine reg_take (.string S74) (i := 8) (n := 74) HSS rfl (by kernel_rfl) (by kernel_rfl) (by kernel_rfl) (by kernel_rfl) (fun _ _ _ h => h) (fun W hW => exec_bin rfl rfl rfl (strAddE hS74 (by (first | omega | (simp only [ByteArray.size_append, szMk, List.size_toArray, List.length_cons, List.length_nil]; omega))) _ _ _)) ?_
                simp only [Act.put, List.setIfInBounds_toArray, List.set_cons_zero, List.set_cons_succ]
                obtain ⟨S75, hS75, hz75⟩ : ∃ S : ByteArray, Sec (S = S74 ++ ⟨#[32]⟩) ∧ S.size ≤ 101 := ⟨_, ⟨rfl⟩, by (first | omega | (simp only [ByteArray.size_append, szMk, List.size_toArray, List.length_cons, List.length_nil]; omega))⟩
                refine reg_take (.string S75) (i := 9) (n := 75) HSS rfl (by kernel_rfl) (by kernel_rfl) (by kernel_rfl) (by kernel_rfl) (fun _ _ _ h => h) (fun W hW => exec_bin rfl rfl rfl (strAddE hS75 (by (first | omega | (simp only [ByteArray.size_append, szMk, List.size_toArray, List.length_cons, List.length_nil]; omega))) _ _ _)) ?_
                simp only [Act.put, List.setIfInBounds_toArray, List.set_cons_zero, List.set_cons_succ]
                refine reg_step2 (i := 10) (j := 19) rfl rfl (by kernel_rfl) (fun K hK => ?_) (fun K hK => ?_)
                · refine wp_valw (n := 76) (v := .slice (some ⟨wn.heap.size, 0, none⟩) 4 4) (w' := wn.alloc (.cells fourS 9)) (exec_buildSlice (parts := [(0, .const (.string ⟨#[70, 76, 65, 71, 83]⟩)), (1, .const (.string ⟨#[43, 70, 76, 65, 71, 83]⟩)), (2, .const (.string ⟨#[45, 102, 108, 97, 103, 115]⟩)), (3, .const (.string ⟨#[43, 70, 76, 65, 71, 83]⟩))]) (vs := [(0, .string ⟨#[70, 76, 65, 71, 83]⟩), (1, .string ⟨#[43, 70, 76, 65, 71, 83]⟩), (2, .string ⟨#[45, 102, 108, 97, 103, 115]⟩), (3, .string ⟨#[43, 70, 76, 65, 71, 83]⟩)]) rfl rfl (four_run _)) rfl ?_
                  refine hK.out _ _ (fun _ => trivial) ?_
                  clear hK K
                  obtain ⟨Z, hZ, hcell⟩ := four_cell wn (c / 16 % 4) (Nat.mod_lt _ (by decide))
                  have hbg : wn.heap.size ≠ g := Nat.ne_of_gt HRM.out.lt
                  have HRM2 := Sec.mk (HRM.out.alloc (.cells fourS 9))
                  clear HRM
                  have HSS : Sec ((wn.alloc (.cells fourS 9)).cell? ⟨wn.heap.size, c / 16 % 4, none⟩ = some (.string Z)) := ⟨hcell⟩
                  clear hcell
                  refine reg_strong (T' := fun W => Sec (W.cell? ⟨wn.heap.size, c / 16 % 4, none⟩ = some (.string Z))) (fun _ _ => trivial) _ _ _ _ ?_
                  generalize hwb : wn.alloc (.cells fourS 9) = wc at *
                  clear hwb
                  generalize wn = wb at *
                  have HRM := HRM2
                  clear HRM2
                  simp only [Act.put, List.setIfInBounds_toArray, List.set_cons_zero, List.set_cons_succ]
                  refine reg_take (.pointer (some ⟨wb.heap.size, c / 16 % 4, none⟩)) (i := 14) (n := 80) HSS rfl (by kernel_rfl) (by kernel_rfl) (by kernel_rfl) (by kernel_rfl) (fun _ _ _ h => h) (fun W hW => exec_indexAddr rfl rfl rfl (idxStrs _ 4 _ (Nat.mod_lt _ (by decide)) _)) ?_
                  simp only [Act.put, List.setIfInBounds_toArray, List.set_cons_zero, List.set_cons_succ]
                  refine reg_take (.string Z) (i := 15) (n := 81) HSS rfl (by kernel_rfl) (by kernel_rfl) (by kernel_rfl) (by kernel_rfl) (fun _ _ _ h => h) (fun W hW => exec_load rfl rfl (ldStrs hW.out)) ?_
                  simp only [Act.put, List.setIfInBounds_toArray, List.set_cons_zero, List.set_cons_succ]
                  obtain ⟨S82, hS82, hz82⟩ : ∃ S : ByteArray, Sec (S = S75 ++ Z) ∧ S.size ≤ 107 := ⟨_, ⟨rfl⟩, by (first | omega | (simp only [ByteArray.size_append, szMk, List.size_toArray, List.length_cons, List.length_nil]; omega))⟩
                  refine reg_take (.string S82) (i := 16) (n := 82) HSS rfl (by kernel_rfl) (by kernel_rfl) (by kernel_rfl) (by kernel_rfl) (fun _ _ _ h => h) (fun W hW => exec_bin rfl rfl rfl (strAddE hS82 (by (first | omega | (simp only [ByteArray.size_append, szMk, List.size_toArray, List.length_cons, List.length_nil]; omega))) _ _ _)) ?_
                  simp only [Act.put, List.setIfInBounds_toArray, List.set_cons_zero, List.set_cons_succ]
                  obtain ⟨S83, hS83, hz83⟩ : ∃ S : ByteArray, Sec (S = S82 ++ ⟨#[32]⟩) ∧ S.size ≤ 108 := ⟨_, ⟨rfl⟩, by (first | omega | (simp only [ByteArray.size_append, szMk, List.size_toArray, List.length_cons, List.length_nil]; omega))⟩
                  refine reg_take (.string S83) (i := 17) (n := 83) HSS rfl (by kernel_rfl) (by kernel_rfl) (by kernel_rfl) (by kernel_rfl) (fun _ _ _ h => h) (fun W hW => exec_bin rfl rfl rfl (strAddE hS83 (by (first | omega | (simp only [ByteArray.size_append, szMk, List.size_toArray, List.length_cons, List.length_nil]; omega))) _ _ _)) ?_
                  simp only [Act.put, List.setIfInBounds_toArray, List.set_cons_zero, List.set_cons_succ]
                  refine reg_step (i := 19) rfl (by kernel_rfl) (fun K hK => ?_)
                  obtain ⟨ysr, hyr⟩ := HRM.out.1
                  refine wp_call (n := 85) (vals := [.pointer (some ⟨g, 0, none⟩)]) rfl rfl rfl (by kernel_rfl) (l6Flags_calls hyr) ?_
                  intro e wn hfew
                  obtain ⟨Y3, rfl, hY3, hrm, hmod⟩ := HRM.out.few2 hfew
                  clear HRM
                  have HRM := Sec.mk hrm
                  have HSS : Sec (wn.cell? ⟨wb.heap.size, c / 16 % 4, none⟩ = some (.string Z)) := ⟨cell_mod HSS.out hmod hbg⟩
                  refine ⟨_, rfl, hK.out _ _ (fun _ => HSS) ?_⟩
                  clear hfew hrm hmod hyr
                  clear hK K
                  simp only [Act.put, List.setIfInBounds_toArray, List.set_cons_zero, List.set_cons_succ]
                  obtain ⟨S86, hS86, hz86⟩ : ∃ S : ByteArray, Sec (S = S83 ++ Y3) ∧ S.size ≤ 508 := ⟨_, ⟨rfl⟩, by (first | omega | (simp only [ByteArray.size_append, szMk, List.size_toArray, List.length_cons, List.length_nil]; omega))⟩
                  refine reg_take (.string S86) (i := 20) (n := 86) HSS rfl (by kernel_rfl) (by kernel_rfl) (by kernel_rfl) (by kernel_rfl) (fun _ _ _ h => h) (fun W hW => exec_bin rfl rfl rfl (strAddE hS86 (by (first | omega | (simp only [ByteArray.size_append, szMk, List.size_toArray, List.length_cons, List.length_nil]; omega))) _ _ _)) ?_
                  simp only [Act.put, List.setIfInBounds_toArray, List.set_cons_zero, List.set_cons_succ]
                  obtain ⟨S87, hS87, hz87⟩ : ∃ S : ByteArray, Sec (S = X ++ S86) ∧ S.size ≤ 511 := ⟨_, ⟨rfl⟩, by (first | omega | (simp only [ByteArray.size_append, szMk, List.size_toArray, List.length_cons, List.length_nil]; omega))⟩
                  refine reg_take (.string S87) (i := 21) (n := 87) HSS rfl (by kernel_rfl) (by kernel_rfl) (by kernel_rfl) (by kernel_rfl) (fun _ _ _ h => h) (fun W hW => exec_bin rfl rfl rfl (strAddE hS87 (by (first | omega | (simp only [ByteArray.size_append, szMk, List.size_toArray, List.length_cons, List.length_nil]; omega))) _ _ _)) ?_
                  simp only [Act.put, List.setIfInBounds_toArray, List.set_cons_zero, List.set_cons_succ]
                  refine reg_take (.string S87) (i := 22) (n := 4) HSS rfl (by kernel_rfl) (by kernel_rfl) (by kernel_rfl) (by kernel_rfl) (fun _ _ _ h => h) (fun W hW => exec_assign rfl rfl) ?_
                  simp only [Act.put, List.setIfInBounds_toArray, List.set_cons_zero, List.set_cons_succ]
                  refine reg_done (by kernel_rfl) ?_ _
                  go_wp2
                  go_ret
                  exact ⟨_, rfl, by simp only [ByteArray.size_append, szMk, List.size_toArray, List.length_cons, List.length_nil]; omega, HRM⟩
                · have HRC := HRM
                  clear HRM
                  refine wp_call (n := 85) (vals := [.pointer (some ⟨g, 0, none⟩)]) rfl rfl rfl (by kernel_rfl) (rm_flags HRC) ?_
                  rintro e wn ⟨Y3, rfl, hY3, HRM⟩
                  refine ⟨_, rfl, hK.out _ _ (fun _ => trivial) ?_⟩
                  clear HRC
                  clear hK K
                  simp only [Act.put, List.setIfInBounds_toArray, List.set_cons_zero, List.set_cons_succ]
                  refine reg_step (i := 10) rfl (by kernel_rfl) (fun K hK => ?_)
                  refine wp_valw (n := 76) (v := .slice (some ⟨wn.heap.size, 0, none⟩) 4 4) (w' := wn.alloc (.cells fourS 9)) (exec_buildSlice (parts := [(0, .const (.string ⟨#[70, 76, 65, 71, 83]⟩)), (1, .const (.string ⟨#[43, 70, 76, 65, 71, 83]⟩)), (2, .const (.string ⟨#[45, 102, 108, 97, 103, 115]⟩)), (3, .const (.string ⟨#[43, 70, 76, 65, 71, 83]⟩))]) (vs := [(0, .string ⟨#[70, 76, 65, 71, 83]⟩), (1, .string ⟨#[43, 70, 76, 65, 71, 83]⟩), (2, .string ⟨#[45, 102, 108, 97, 103, 115]⟩), (3, .string ⟨#[43, 70, 76, 65, 71, 83]⟩)]) rfl rfl (four_run _)) rfl ?_
                  refine hK.out _ _ (fun _ => trivial) ?_
                  clear hK K
                  obtain ⟨Z, hZ, hcell⟩ := four_cell wn (c / 16 % 4) (Nat.mod_lt _ (by decide))
                  have hbg : wn.heap.size ≠ g := Nat.ne_of_gt HRM.out.lt
                  have HRM2 := Sec.mk (HRM.out.alloc (.cells fourS 9))
                  clear HRM
                  have HSS : Sec ((wn.alloc (.cells fourS 9)).cell? ⟨wn.heap.size, c / 16 % 4, none⟩ = some (.string Z)) := ⟨hcell⟩
                  clear hcell
                  refine reg_strong (T' := fun W => Sec (W.cell? ⟨wn.heap.size, c / 16 % 4, none⟩ = some (.string Z))) (fun _ _ => trivial) _ _ _ _ ?_
                  generalize hwb : wn.alloc (.cells fourS 9) = wc at *
                  clear hwb
                  generalize wn = wb at *
                  have HRM := HRM2
                  clear HRM2
                  simp only [Act.put, List.setIfInBounds_toArray, List.set_cons_zero, List.set_cons_succ]
                  refine reg_take (.pointer (some ⟨wb.heap.size, c / 16 % 4, none⟩)) (i := 14) (n := 80) HSS rfl (by kernel_rfl) (by kernel_rfl) (by kernel_rfl) (by kernel_rfl) (fun _ _ _ h => h) (fun W hW => exec_indexAddr rfl rfl rfl (idxStrs _ 4 _ (Nat.mod_lt _ (by decide)) _)) ?_
                  simp only [Act.put, List.setIfInBounds_toArray, List.set_cons_zero, List.set_cons_succ]
                  refine reg_take (.string Z) (i := 15) (n := 81) HSS rfl (by kernel_rfl) (by kernel_rfl) (by kernel_rfl) (by kernel_rfl) (fun _ _ _ h => h) (fun W hW => exec_load rfl rfl (ldStrs hW.out)) ?_
                  simp only [Act.put, List.setIfInBounds_toArray, List.set_cons_zero, List.set_cons_succ]
                  obtain ⟨S82, hS82, hz82⟩ : ∃ S : ByteArray, Sec (S = S75 ++ Z) ∧ S.size ≤ 107 := ⟨_, ⟨rfl⟩, by (first | omega | (simp only [ByteArray.size_append, szMk, List.size_toArray, List.length_cons, List.length_nil]; omega))⟩
                  refine reg_take (.string S82) (i := 16) (n := 82) HSS rfl (by kernel_rfl) (by kernel_rfl) (by kernel_rfl) (by kernel_rfl) (fun _ _ _ h => h) (fun W hW => exec_bin rfl rfl rfl (strAddE hS82 (by (first | omega | (simp only [ByteArray.size_append, szMk, List.size_toArray, List.length_cons, List.length_nil]; omega))) _ _ _)) ?_
                  simp only [Act.put, List.setIfInBounds_toArray, List.set_cons_zero, List.set_cons_succ]
                  obtain ⟨S83, hS83, hz83⟩ : ∃ S : ByteArray, Sec (S = S82 ++ ⟨#[32]⟩) ∧ S.size ≤ 108 := ⟨_, ⟨rfl⟩, by (first | omega | (simp only [ByteArray.size_append, szMk, List.size_toArray, List.length_cons, List.length_nil]; omega))⟩
                  refine reg_take (.string S83) (i := 17) (n := 83) HSS rfl (by kernel_rfl) (by kernel_rfl) (by kernel_rfl) (by kernel_rfl) (fun _ _ _ h => h) (fun W hW => exec_bin rfl rfl rfl (strAddE hS83 (by (first | omega | (simp only [ByteArray.size_append, szMk, List.size_toArray, List.length_cons, List.length_nil]; omega))) _ _ _)) ?_
                  simp only [Act.put, List.setIfInBounds_toArray, List.set_cons_zero, List.set_cons_succ]
                  obtain ⟨S86, hS86, hz86⟩ : ∃ S : ByteArray, Sec (S = S83 ++ Y3) ∧ S.size ≤ 508 := ⟨_, ⟨rfl⟩, by (first | omega | (simp only [ByteArray.size_append, szMk, List.size_toArray, List.length_cons, List.length_nil]; omega))⟩
                  refine reg_take (.string S86) (i := 20) (n := 86) HSS rfl (by kernel_rfl) (by kernel_rfl) (by kernel_rfl) (by kernel_rfl) (fun _ _ _ h => h) (fun W hW => exec_bin rfl rfl rfl (strAddE hS86 (by (first | omega | (simp only [ByteArray.size_append, szMk, List.size_toArray, List.length_cons, List.length_nil]; omega))) _ _ _)) ?_
                  simp only [Act.put, List.setIfInBounds_toArray, List.set_cons_zero, List.set_cons_succ]
                  obtain ⟨S87, hS87, hz87⟩ : ∃ S : ByteArray, Sec (S = X ++ S86) ∧ S.size ≤ 511 := ⟨_, ⟨rfl⟩, by (first | omega | (simp only [ByteArray.size_append, szMk, List.size_toArray, List.length_cons, List.length_nil]; omega))⟩
                  refine reg_take (.string S87) (i := 21) (n := 87) HSS rfl (by kernel_rfl) (by kernel_rfl) (by kernel_rfl) (by kernel_rfl) (fun _ _ _ h => h) (fun W hW => exec_bin rfl rfl rfl (strAddE hS87 (by (first | omega | (simp only [ByteArray.size_append, szMk, List.size_toArray, List.length_cons, List.length_nil]; omega))) _ _ _)) ?_
                  simp only [Act.put, List.setIfInBounds_toArray, List.set_cons_zero, List.set_cons_succ]
                  refine reg_take (.string S87) (i := 22) (n := 4) HSS rfl (by kernel_rfl) (by kernel_rfl) (by kernel_rfl) (by kernel_rfl) (fun _ _ _ h => h) (fun W hW => exec_assign rfl rfl) ?_
                  simp only [Act.put, List.setIfInBounds_toArray, List.set_cons_zero, List.set_cons_succ]
                  refine reg_done (by kernel_rfl) ?_ _
                  go_wp2
                  go_ret
                  exact ⟨_, rfl, by simp only [ByteArray.size_append, szMk, List.size_toArray, List.length_cons, List.length_nil]; omega, HRM⟩
              · refine wp_valw (n := 76) (v := .slice (some ⟨wn.heap.size, 0, none⟩) 4 4) (w' := wn.alloc (.cells fourS 9)) (exec_buildSlice (parts := [(0, .const (.string ⟨#[70, 76, 65, 71, 83]⟩)), (1, .const (.string ⟨#[43, 70, 76, 65, 71, 83]⟩)), (2, .const (.string ⟨#[45, 102, 108, 97, 103, 115]⟩)), (3, .const (.string ⟨#[43, 70, 76, 65, 71, 83]⟩))]) (vs := [(0, .string ⟨#[70, 76, 65, 71, 83]⟩), (1, .string ⟨#[43, 70, 76, 65, 71, 83]⟩), (2, .string ⟨#[45, 102, 108, 97, 103, 115]⟩), (3, .string ⟨#[43, 70, 76, 65, 71, 83]⟩)]) rfl rfl (four_run _)) rfl ?_
                refine hK.out _ _ (fun _ => trivial) ?_
                clear hK K
                obtain ⟨Z, hZ, hcell⟩ := four_cell wn (c / 16 % 4) (Nat.mod_lt _ (by decide))
                have hbg : wn.heap.size ≠ g := Nat.ne_of_gt HRM.out.lt
                have HRM2 := Sec.mk (HRM.out.alloc (.cells fourS 9))
                clear HRM
                have HSS : Sec ((wn.alloc (.cells fourS 9)).cell? ⟨wn.heap.size, c / 16 % 4, none⟩ = some (.string Z)) := ⟨hcell⟩
                clear hcell
                refine reg_strong (T' := fun W => Sec (W.cell? ⟨wn.heap.size, c / 16 % 4, none⟩ = some (.string Z))) (fun _ _ => trivial) _ _ _ _ ?_
                generalize hwb : wn.alloc (.cells fourS 9) = wc at *
                clear hwb
                generalize wn = wb at *
                have HRM := HRM2
                clear HRM2
                simp only [Act.put, List.setIfInBounds_toArray, List.set_cons_zero, List.set_cons_succ]
                refine reg_take (.pointer (some ⟨wb.heap.size, c / 16 % 4, none⟩)) (i := 14) (n := 80) HSS rfl (by kernel_rfl) (by kernel_rfl) (by kernel_rfl) (by kernel_rfl) (fun _ _ _ h => h) (fun W hW => exec_indexAddr rfl rfl rfl (idxStrs _ 4 _ (Nat.mod_lt _ (by decide)) _)) ?_
                simp only [Act.put, List.setIfInBounds_toArray, List.set_cons_zero, List.set_cons_succ]
                refine reg_take (.string Z) (i := 15) (n := 81) HSS rfl (by kernel_rfl) (by kernel_rfl) (by kernel_rfl) (by kernel_rfl) (fun _ _ _ h => h) (fun W hW => exec_load rfl rfl (ldStrs hW.out)) ?_
                simp only [Act.put, List.setIfInBounds_toArray, List.set_cons_zero, List.set_cons_succ]
                refine reg_step (i := 7) rfl (by kernel_rfl) (fun K hK => ?_)
                obtain ⟨ysr, hyr⟩ := HRM.out.1
                refine wp_call (n := 73) (vals := [.pointer (some ⟨g, 0, none⟩)]) rfl rfl rfl (by kernel_rfl) (l6SetText_calls hyr) ?_
                intro e wn hfew
                obtain ⟨Y2, rfl, hY2, hrm, hmod⟩ := HRM.out.few2 hfew
                clear HRM
                have HRM := Sec.mk hrm
                have HSS : Sec (wn.cell? ⟨wb.heap.size, c / 16 % 4, none⟩ = some (.string Z)) := ⟨cell_mod HSS.out hmod hbg⟩
                refine ⟨_, rfl, hK.out _ _ (fun _ => HSS) ?_⟩
                clear hfew hrm hmod hyr
                clear hK K
                simp only [Act.put, List.setIfInBounds_toArray, List.set_cons_zero, List.set_cons_succ]
                obtain ⟨S74, hS74, hz74⟩ : ∃ S : ByteArray, Sec (S = S71 ++ Y2) ∧ S.size ≤ 100 := ⟨_, ⟨rfl⟩, by (first | omega | (simp only [ByteArray.size_append, szMk, List.size_toArray, List.length_cons, List.length_nil]; omega))⟩
                refine reg_take (.string S74) (i := 8) (n := 74) HSS rfl (by kernel_rfl) (by kernel_rfl) (by kernel_rfl) (by kernel_rfl) (fun _ _ _ h => h) (fun W hW => exec_bin rfl rfl rfl (strAddE hS74 (by (first | omega | (simp only [ByteArray.size_append, szMk, List.size_toArray, List.length_cons, List.length_nil]; omega))) _ _ _)) ?_
                simp only [Act.put, List.setIfInBounds_toArray, List.set_cons_zero, List.set_cons_succ]
                obtain ⟨S75, hS75, hz75⟩ : ∃ S : ByteArray, Sec (S = S74 ++ ⟨#[32]⟩) ∧ S.size ≤ 101 := ⟨_, ⟨rfl⟩, by (first | omega | (simp only [ByteArray.size_append, szMk, List.size_toArray, List.length_cons, List.length_nil]; omega))⟩
                refine reg_take (.string S75) (i := 9) (n := 75) HSS rfl (by kernel_rfl) (by kernel_rfl) (by kernel_rfl) (by kernel_rfl) (fun _ _ _ h => h) (fun W hW => exec_bin rfl rfl rfl (strAddE hS75 (by (first | omega | (simp only [ByteArray.size_append, szMk, List.size_toArray, List.length_cons, List.length_nil]; omega))) _ _ _)) ?_
                simp only [Act.put, List.setIfInBounds_toArray, List.set_cons_zero, List.set_cons_succ]
                obtain ⟨S82, hS82, hz82⟩ : ∃ S : ByteArray, Sec (S = S75 ++ Z) ∧ S.size ≤ 107 := ⟨_, ⟨rfl⟩, by (first | omega | (simp only [ByteArray.size_append, szMk, List.size_toArray, List.length_cons, List.length_nil]; omega))⟩
                refine reg_take (.string S82) (i := 16) (n := 82) HSS rfl (by kernel_rfl) (by kernel_rfl) (by kernel_rfl) (by kernel_rfl) (fun _ _ _ h => h) (fun W hW => exec_bin rfl rfl rfl (strAddE hS82 (by (first | omega | (simp only [ByteArray.size_append, szMk, List.size_toArray, List.length_cons, List.length_nil]; omega))) _ _ _)) ?_
                simp only [Act.put, List.setIfInBounds_toArray, List.set_cons_zero, List.set_cons_succ]
                obtain ⟨S83, hS83, hz83⟩ : ∃ S : ByteArray, Sec (S = S82 ++ ⟨#[32]⟩) ∧ S.size ≤ 108 := ⟨_, ⟨rfl⟩, by (first | omega | (simp only [ByteArray.size_append, szMk, List.size_toArray, List.length_cons, List.length_nil]; omega))⟩
                refine reg_take (.string S83) (i := 17) (n := 83) HSS rfl (by kernel_rfl) (by kernel_rfl) (by kernel_rfl) (by kernel_rfl) (fun _ _ _ h => h) (fun W hW => exec_bin rfl rfl rfl (strAddE hS83 (by (first | omega | (simp only [ByteArray.size_append, szMk, List.size_toArray, List.length_cons, List.length_nil]; omega))) _ _ _)) ?_
                simp only [Act.put, List.setIfInBounds_toArray, List.set_cons_zero, List.set_cons_succ]
                refine reg_step (i := 19) rfl (by kernel_rfl) (fun K hK => ?_)
                obtain ⟨ysr, hyr⟩ := HRM.out.1
                refine wp_call (n := 85) (vals := [.pointer (some ⟨g, 0, none⟩)]) rfl rfl rfl (by kernel_rfl) (l6Flags_calls hyr) ?_
                intro e wn hfew
                obtain ⟨Y3, rfl, hY3, hrm, hmod⟩ := HRM.out.few2 hfew
                clear HRM
                have HRM := Sec.mk hrm
                have HSS : Sec (wn.cell? ⟨wb.heap.size, c / 16 % 4, none⟩ = some (.string Z)) := ⟨cell_mod HSS.out hmod hbg⟩
                refine ⟨_, rfl, hK.out _ _ (fun _ => HSS) ?_⟩
                clear hfew hrm hmod hyr
                clear hK K
                simp only [Act.put, List.setIfInBounds_toArray, List.set_cons_zero, List.set_cons_succ]
                obtain ⟨S86, hS86, hz86⟩ : ∃ S : ByteArray, Sec (S = S83 ++ Y3) ∧ S.size ≤ 508 := ⟨_, ⟨rfl⟩, by (first | omega | (simp only [ByteArray.size_append, szMk, List.size_toArray, List.length_cons, List.length_nil]; omega))⟩
                refine reg_take (.string S86) (i := 20) (n := 86) HSS rfl (by kernel_rfl) (by kernel_rfl) (by kernel_rfl) (by kernel_rfl) (fun _ _ _ h => h) (fun W hW => exec_bin rfl rfl rfl (strAddE hS86 (by (first | omega | (simp only [ByteArray.size_append, szMk, List.size_toArray, List.length_cons, List.length_nil]; omega))) _ _ _)) ?_
                simp only [Act.put, List.setIfInBounds_toArray, List.set_cons_zero, List.set_cons_succ]
                obtain ⟨S87, hS87, hz87⟩ : ∃ S : ByteArray, Sec (S = X ++ S86) ∧ S.size ≤ 511 := ⟨_, ⟨rfl⟩, by (first | omega | (simp only [ByteArray.size_append, szMk, List.size_toArray, List.length_cons, List.length_nil]; omega))⟩
                refine reg_take (.string S87) (i := 21) (n := 87) HSS rfl (by kernel_rfl) (by kernel_rfl) (by kernel_rfl) (by kernel_rfl) (fun _ _ _ h => h) (fun W hW => exec_bin rfl rfl rfl (strAddE hS87 (by (first | omega | (simp only [ByteArray.size_append, szMk, List.size_toArray, List.length_cons, List.length_nil]; omega))) _ _ _)) ?_
                simp only [Act.put, List.setIfInBounds_toArray, List.set_cons_zero, List.set_cons_succ]
                refine reg_take (.string S87) (i := 22) (n := 4) HSS rfl (by kernel_rfl) (by kernel_rfl) (by kernel_rfl) (by kernel_rfl) (fun _ _ _ h => h) (fun W hW => exec_assign rfl rfl) ?_
                simp only [Act.put, List.setIfInBounds_toArray, List.set_cons_zero, List.set_cons_succ]
                refine reg_done (by kernel_rfl) ?_ _
                go_wp2
                go_ret
                exact ⟨_, rfl, by simp only [ByteArray.size_append, szMk, List.size_toArray, List.length_cons, List.length_nil]; omega, HRM⟩
            · refine wp_valw (n := 76) (v := .slice (some ⟨wr.heap.size, 0, none⟩) 4 4) (w' := wr.alloc (.cells fourS 9)) (exec_buildSlice (parts := [(0, .const (.string ⟨#[70, 76, 65, 71, 83]⟩)), (1, .const (.string ⟨#[43, 70, 76, 65, 71, 83]⟩)), (2, .const (.string ⟨#[45, 102, 108, 97, 103, 115]⟩)), (3, .const (.string ⟨#[43, 70, 76, 65, 71, 83]⟩))]) (vs := [(0, .string ⟨#[70, 76, 65, 71, 83]⟩), (1, .string ⟨#[43, 70, 76, 65, 71, 83]⟩), (2, .string ⟨#[45, 102, 108, 97, 103, 115]⟩), (3, .string ⟨#[43, 70, 76, 65, 71, 83]⟩)]) rfl rfl (four_run _)) rfl ?_
              refine hK.out _ _ (fun _ => trivial) ?_
              clear hK K
              obtain ⟨Z, hZ, hcell⟩ := four_cell wr (c / 16 % 4) (Nat.mod_lt _ (by decide))
              have hbg : wr.heap.size ≠ g := Nat.ne_of_gt HRM.out.lt
              have HRM2 := Sec.mk (HRM.out.alloc (.cells fourS 9))
              clear HRM
              have HSS : Sec ((wr.alloc (.cells fourS 9)).cell? ⟨wr.heap.size, c / 16 % 4, none⟩ = some (.string Z)) := ⟨hcell⟩
              clear hcell
              refine reg_strong (T' := fun W => Sec (W.cell? ⟨wr.heap.size, c / 16 % 4, none⟩ = some (.string Z))) (fun _ _ => trivial) _ _ _ _ ?_
              generalize hwb : wr.alloc (.cells fourS 9) = wc at *
              clear hwb
              generalize wr = wb at *
              have HRM := HRM2
              clear HRM2
              simp only [Act.put, List.setIfInBounds_toArray, List.set_cons_zero, List.set_cons_succ]
              refine reg_take (.pointer (some ⟨wb.heap.size, c / 16 % 4, none⟩)) (i := 14) (n := 80) HSS rfl (by kernel_rfl) (by kernel_rfl) (by kernel_rfl) (by kernel_rfl) (fun _ _ _ h => h) (fun W hW => exec_indexAddr rfl rfl rfl (idxStrs _ 4 _ (Nat.mod_lt _ (by decide)) _)) ?_
              simp only [Act.put, List.setIfInBounds_toArray, List.set_cons_zero, List.set_cons_succ]
              refine reg_take (.string Z) (i := 15) (n := 81) HSS rfl (by kernel_rfl) (by kernel_rfl) (by kernel_rfl) (by kernel_rfl) (fun _ _ _ h => h) (fun W hW => exec_load rfl rfl (ldStrs hW.out)) ?_
              simp only [Act.put, List.setIfInBounds_toArray, List.set_cons_zero, List.set_cons_succ]
              refine reg_step (i := 3) rfl (by kernel_rfl) (fun K hK => ?_)
              obtain ⟨ysr, hyr⟩ := HRM.out.1
              refine wp_call (n := 69) (vals := [.pointer (some ⟨g, 0, none⟩), .string ⟨#[83, 84, 79, 82, 69]⟩]) rfl rfl rfl (by kernel_rfl) (l6Word_calls (m := 5) hyr _ (by decide) (by decide)) ?_
              intro e wn hfew
              obtain ⟨Y1, rfl, hY1, hrm, hmod⟩ := HRM.out.few2 hfew
              clear HRM
              have HRM := Sec.mk hrm
              have HSS : Sec (wn.cell? ⟨wb.heap.size, c / 16 % 4, none⟩ = some (.string Z)) := ⟨cell_mod HSS.out hmod hbg⟩
              refine ⟨_, rfl, hK.out _ _ (fun _ => HSS) ?_⟩
              clear hfew hrm hmod hyr
              clear hK K
              simp only [Act.put, List.setIfInBounds_toArray, List.set_cons_zero, List.set_cons_succ]
              obtain ⟨S70, hS70, hz70⟩ : ∃ S : ByteArray, Sec (S = U ++ Y1) ∧ S.size ≤ 9 := ⟨_, ⟨rfl⟩, by (first | omega | (simp only [ByteArray.size_append, szMk, List.size_toArray, List.length_cons, List.length_nil]; omega))⟩
              refine reg_take (.string S70) (i := 4) (n := 70) HSS rfl (by kernel_rfl) (by kernel_rfl) (by kernel_rfl) (by kernel_rfl) (fun _ _ _ h => h) (fun W hW => exec_bin rfl rfl rfl (strAddE hS70 (by (first | omega | (simp only [ByteArray.size_append, szMk, List.size_toArray, List.length_cons, List.length_nil]; omega))) _ _ _)) ?_
              simp only [Act.put, List.setIfInBounds_toArray, List.set_cons_zero, List.set_cons_succ]
              obtain ⟨S71, hS71, hz71⟩ : ∃ S : ByteArray, Sec (S = S70 ++ ⟨#[32]⟩) ∧ S.size ≤ 10 := ⟨_, ⟨rfl⟩, by (first | omega | (simp only [ByteArray.size_append, szMk, List.size_toArray, List.length_cons, List.length_nil]; omega))⟩
              refine reg_take (.string S71) (i := 5) (n := 71) HSS rfl (by kernel_rfl) (by kernel_rfl) (by kernel_rfl) (by kernel_rfl) (fun _ _ _ h => h) (fun W hW => exec_bin rfl rfl rfl (strAddE hS71 (by (first | omega | (simp only [ByteArray.size_append, szMk, List.size_toArray, List.length_cons, List.length_nil]; omega))) _ _ _)) ?_
              simp only [Act.put, List.setIfInBounds_toArray, List.set_cons_zero, List.set_cons_succ]
              refine reg_step (i := 7) rfl (by kernel_rfl) (fun K hK => ?_)
              obtain ⟨ysr, hyr⟩ := HRM.out.1
              refine wp_call (n := 73) (vals := [.pointer (some ⟨g, 0, none⟩)]) rfl rfl rfl (by kernel_rfl) (l6SetText_calls hyr) ?_
              intro e wn hfew
              obtain ⟨Y2, rfl, hY2, hrm, hmod⟩ := HRM.out.few2 hfew
              clear HRM
              have HRM := Sec.mk hrm
              have HSS : Sec (wn.cell? ⟨wb.heap.size, c / 16 % 4, none⟩ = some (.string Z)) := ⟨cell_mod HSS.out hmod hbg⟩
              refine ⟨_, rfl, hK.out _ _ (fun _ => HSS) ?_⟩
              clear hfew hrm hmod hyr
              clear hK K
              simp only [Act.put, List.setIfInBounds_toArray, List.set_cons_zero, List.set_cons_succ]
              obtain ⟨S74, hS74, hz74⟩ : ∃ S : ByteArray, Sec (S = S71 ++ Y2) ∧ S.size ≤ 100 := ⟨_, ⟨rfl⟩, by (first | omega | (simp only [ByteArray.size_append, szMk, List.size_toArray, List.length_cons, List.length_nil]; omega))⟩
              refine reg_take (.string S74) (i := 8) (n := 74) HSS rfl (by kernel_rfl) (by kernel_rfl) (by kernel_rfl) (by kernel_rfl) (fun _ _ _ h => h) (fun W hW => exec_bin rfl rfl rfl (strAddE hS74 (by (first | omega | (simp only [ByteArray.size_append, szMk, List.size_toArray, List.length_cons, List.length_nil]; omega))) _ _ _)) ?_
              simp only [Act.put, List.setIfInBounds_toArray, List.set_cons_zero, List.set_cons_succ]
              obtain ⟨S75, hS75, hz75⟩ : ∃ S : ByteArray, Sec (S = S74 ++ ⟨#[32]⟩) ∧ S.size ≤ 101 := ⟨_, ⟨rfl⟩, by (first | omega | (simp only [ByteArray.size_append, szMk, List.size_toArray, List.length_cons, List.length_nil]; omega))⟩
              refine reg_take (.string S75) (i := 9) (n := 75) HSS rfl (by kernel_rfl) (by kernel_rfl) (by kernel_rfl) (by kernel_rfl) (fun _ _ _ h => h) (fun W hW => exec_bin rfl rfl rfl (strAddE hS75 (by (first | omega | (simp only [ByteArray.size_append, szMk, List.size_toArray, List.length_cons, List.length_nil]; omega))) _ _ _)) ?_
              simp only [Act.put, List.setIfInBounds_toArray, List.set_cons_zero, List.set_cons_succ]
              obtain ⟨S82, hS82, hz82⟩ : ∃ S : ByteArray, Sec (S = S75 ++ Z) ∧ S.size ≤ 107 := ⟨_, ⟨rfl⟩, by (first | omega | (simp only [ByteArray.size_append, szMk, List.size_toArray, List.length_cons, List.length_nil]; omega))⟩
              refine reg_take (.string S82) (i := 16) (n := 82) HSS rfl (by kernel_rfl) (by kernel_rfl) (by kernel_rfl) (by kernel_rfl) (fun _ _ _ h => h) (fun W hW => exec_bin rfl rfl rfl (strAddE hS82 (by (first | omega | (simp only [ByteArray.size_append, szMk, List.size_toArray, List.length_cons, List.length_nil]; omega))) _ _ _)) ?_
              simp only [Act.put, List.setIfInBounds_toArray, List.set_cons_zero, List.set_cons_succ]
              obtain ⟨S83, hS83, hz83⟩ : ∃ S : ByteArray, Sec (S = S82 ++ ⟨#[32]⟩) ∧ S.size ≤ 108 := ⟨_, ⟨rfl⟩, by (first | omega | (simp only [ByteArray.size_append, szMk, List.size_toArray, List.length_cons, List.length_nil]; omega))⟩
              refine reg_take (.string S83) (i := 17) (n := 83) HSS rfl (by kernel_rfl) (by kernel_rfl) (by kernel_rfl) (by kernel_rfl) (fun _ _ _ h => h) (fun W hW => exec_bin rfl rfl rfl (strAddE hS83 (by (first | omega | (simp only [ByteArray.size_append, szMk, List.size_toArray, List.length_cons, List.length_nil]; omega))) _ _ _)) ?_
              simp only [Act.put, List.setIfInBounds_toArray, List.set_cons_zero, List.set_cons_succ]
              refine reg_step (i := 19) rfl (by kernel_rfl) (fun K hK => ?_)
              obtain ⟨ysr, hyr⟩ := HRM.out.1
              refine wp_call (n := 85) (vals := [.pointer (some ⟨g, 0, none⟩)]) rfl rfl rfl (by kernel_rfl) (l6Flags_calls hyr) ?_
              intro e wn hfew
              obtain ⟨Y3, rfl, hY3, hrm, hmod⟩ := HRM.out.few2 hfew
              clear HRM
              have HRM := Sec.mk hrm
              have HSS : Sec (wn.cell? ⟨wb.heap.size, c / 16 % 4, none⟩ = some (.string Z)) := ⟨cell_mod HSS.out hmod hbg⟩
              refine ⟨_, rfl, hK.out _ _ (fun _ => HSS) ?_⟩
              clear hfew hrm hmod hyr
              clear hK K
              simp only [Act.put, List.setIfInBounds_toArray, List.set_cons_zero, List.set_cons_succ]
              obtain ⟨S86, hS86, hz86⟩ : ∃ S : ByteArray, Sec (S = S83 ++ Y3) ∧ S.size ≤ 508 := ⟨_, ⟨rfl⟩, by (first | omega | (simp only [ByteArray.size_append, szMk, List.size_toArray, List.length_cons, List.length_nil]; omega))⟩
              refine reg_take (.string S86) (i := 20) (n := 86) HSS rfl (by kernel_rfl) (by kernel_rfl) (by kernel_rfl) (by kernel_rfl) (fun _ _ _ h => h) (fun W hW => exec_bin rfl rfl rfl (strAddE hS86 (by (first | omega | (simp only [ByteArray.size_append, szMk, List.size_toArray, List.length_cons, List.length_nil]; omega))) _ _ _)) ?_
              simp only [Act.put, List.setIfInBounds_toArray, List.set_cons_zero, List.set_cons_succ]
              obtain ⟨S87, hS87, hz87⟩ : ∃ S : ByteArray, Sec (S = X ++ S86) ∧ S.size ≤ 511 := ⟨_, ⟨rfl⟩, by (first | omega | (simp only [ByteArray.size_append, szMk, List.size_toArray, List.length_cons, List.length_nil]; omega))⟩
              refine reg_take (.string S87) (i := 21) (n := 87) HSS rfl (by kernel_rfl) (by kernel_rfl) (by kernel_rfl) (by kernel_rfl) (fun _ _ _ h => h) (fun W hW => exec_bin rfl rfl rfl (strAddE hS87 (by (first | omega | (simp only [ByteArray.size_append, szMk, List.size_toArray, List.length_cons, List.length_nil]; omega))) _ _ _)) ?_
              simp only [Act.put, List.setIfInBounds_toArray, List.set_cons_zero, List.set_cons_succ]
              refine reg_take (.string S87) (i := 22) (n := 4) HSS rfl (by kernel_rfl) (by kernel_rfl) (by kernel_rfl) (by kernel_rfl) (fun _ _ _ h => h) (fun W hW => exec_assign rfl rfl) ?_
              simp only [Act.put, List.setIfInBounds_toArray, List.set_cons_zero, List.set_cons_succ]
              refine reg_done (by kernel_rfl) ?_ _
              go_wp2
              go_ret
              exact ⟨_, rfl, by simp only [ByteArray.size_append, szMk, List.size_toArray, List.length_cons, List.length_nil]; omega, HRM⟩
        · rcases Decidable.em (c = 60) with h60 | h60
          · subst h60
            clear hj hc
            go_wp2_with fail
            refine (rm_body HRM).mono ?_
            rintro e w5 ⟨A, ca, zs, rfl, hz, HROW, HRM⟩
            have hcv := HROW.out.conv (P := Try.prog) Try.underlying22 Try.underlying5 Try.underlying9 ca
            clear HROW
            go_wp2_with fail
            refine (rm_word (m := 6) HRM _ (by decide) (by decide)).mono ?_
            rintro e w6 ⟨Y6, rfl, hY6, HRM⟩
            go_wp2_with fail
            refine (rm_dec1 HRM zs.length (by omega)).mono ?_
            rintro e w8 ⟨Y8, rfl, hY8, HRM⟩
            go_wp2
            go_ret
            exact ⟨_, rfl, by simp only [ByteArray.size_append, szMk, List.size_toArray, List.length_cons, List.length_nil]; omega, HRM⟩
          rcases hj with hj | hj | hj
          all_goals
            have hi : ((c : Int) % 16) = ((c % 16 : Nat) : Int) := by omega
            rw [hj] at hi
            clear hj
            have i60 : (c : Int) ≠ 60 := by omega
            clear h60
            by_cases h100 : 100 ≤ c
            · have i100 : (100 : Int) ≤ (c : Int) := by omega
              clear h100
              go_wp2_with fail
              refine (rm_body HRM).mono ?_
              rintro e w5 ⟨A, ca, zs, rfl, hz, HROW, HRM⟩
              have hcv := HROW.out.conv (P := Try.prog) Try.underlying22 Try.underlying5 Try.underlying9 ca
              clear HROW
              go_wp2_with fail
              refine (rm_word (m := 6) HRM _ (by decide) (by decide)).mono ?_
              rintro e w6 ⟨Y6, rfl, hY6, HRM⟩
              go_wp2_with fail
              refine (rm_flags HRM).mono ?_
              rintro e w7 ⟨Y7, rfl, hY7, HRM⟩
              go_wp2_with fail
              refine (rm_dec HRM zs.length (by omega)).mono ?_
              rintro e w8 ⟨Y8, rfl, hY8, HRM⟩
              go_wp2
              go_ret
              exact ⟨_, rfl, by simp only [ByteArray.size_append, szMk, List.size_toArray, List.length_cons, List.length_nil]; omega, HRM⟩
            · have i100 : ¬ (100 : Int) ≤ (c : Int) := by omega
              clear h100
              go_wp2_with fail
              refine (rm_body HRM).mono ?_
              rintro e w5 ⟨A, ca, zs, rfl, hz, HROW, HRM⟩
              have hcv := HROW.out.conv (P := Try.prog) Try.underlying22 Try.underlying5 Try.underlying9 ca
              clear HROW
              go_wp2_with fail
              refine (rm_word (m := 6) HRM _ (by decide) (by decide)).mono ?_
              rintro e w6 ⟨Y6, rfl, hY6, HRM⟩
              go_wp2_with fail
              refine (rm_dec HRM zs.length (by omega)).mono ?_
              rintro e w8 ⟨Y8, rfl, hY8, HRM⟩
              go_wp2
              go_ret
              exact ⟨_, rfl, by simp only [ByteArray.size_append, szMk, List.size_toArray, List.length_cons, List.length_nil]; omega, HRM⟩
        · by_cases h14 : c = 14
          · subst h14
            clear hj hc
            go_wp2_with fail
            refine (rm_word (m := 6) HRM _ (by decide) (by decide)).mono ?_
            rintro e w5 ⟨Y5, rfl, hY5, HRM⟩
            go_wp2
            go_ret
            exact ⟨_, rfl, by simp only [ByteArray.size_append, szMk, List.size_toArray, List.length_cons, List.length_nil]; omega, HRM⟩
          · have hi : ((c : Int) % 16) = 14 := by omega
            have i14 : (c : Int) ≠ 14 := by omega
            clear hj h14
            go_wp2
            go_ret
            exact ⟨_, rfl, by simp only [ByteArray.size_append, szMk, List.size_toArray, List.length_cons, List.length_nil]; omega, HRM⟩
        · have hi : ((c : Int) % 16) = 15 := by omega
          clear hj
          go_wp2
          go_ret
          exact ⟨_, rfl, by simp only [ByteArray.size_append, szMk, List.size_toArray, List.length_cons, List.length_nil]; omega, HRM⟩
end Go.Proofs.Ytciiejkfppnimaa
