/- Drawn records. -/
import Derived.Test.YtciaoedjiggonaaDraw
import Derived.Test.YtciaoedjiggonaaBss
namespace Go.Proofs.Ytciaoedjiggonaa
open Go.RowKit Mem
set_option linter.unusedVariables false

def takeD : Nat → Bytes → Bytes × Bytes
  | 0, ys => ([], ys)
  | n + 1, ys => (UInt8.ofNat (nextD ys).1 :: (takeD n (nextD ys).2).1, (takeD n (nextD ys).2).2)
theorem takeD_len (n : Nat) : ∀ ys, (takeD n ys).1.length = n := by
  induction n with
  | zero => intro ys; rfl
  | succ n ih => intro ys; simp [takeD, ih]
def dataN (c : Nat) : Nat := if c < 200 then c % 12 else c
def dataD (ys : Bytes) : Bytes × Bytes := takeD (dataN (nextD ys).1) (nextD ys).2
theorem dataD_len (ys : Bytes) : (dataD ys).1.length < 256 := by
  unfold dataD; rw [takeD_len]; have := nextD_lt ys; unfold dataN; split <;> omega
/-- an answer of bytes, and the reader's next state -/
def DrawB (w : World) (g : Nat) (x : Bytes × Bytes) (e : Ending) (w' : World) : Prop :=
  ∃ A c, e = .returned (.slice A x.1.length c) ∧ OwP Ty.byte 5 w' (fun k => w.heap.size ≤ k) (.slice A x.1.length c) x.1 ∧ Rdr w' g x.2 ∧ Mod (· = g) w w'
set_option maxHeartbeats 1000000 in
set_option maxRecDepth 100000 in
theorem l1Data_calls {w : World} {g : Nat} {ys : Bytes} (h : Rdr w g ys) : Calls Try.prog 85 #[.pointer (some ⟨g, 0, none⟩)] w (DrawB w g (dataD ys)) := by
  have HR := Sec.mk h
  have hg := h.lt
  have hb := nextD_lt ys
  have HD : Sec (dataD ys = takeD (dataN (nextD ys).1) (nextD ys).2) := ⟨rfl⟩
  clear h
  go_enter Try.func85, Try.ntmps85
  go_wp2_with fail
  refine (next_calls HR.out).mono ?_
  rintro e w1 ⟨rfl, hr1, hm1⟩
  have hs1 := hm1.size
  generalize (nextD ys).1 = c at *
  generalize (nextD ys).2 = zs at *
  have HR1 := Sec.mk hr1
  have HM1 := Sec.mk hm1
  clear hr1 hm1
  have hn : dataN c < 256 := by unfold dataN; split <;> omega
  have HN : Sec (dataN c = if c < 200 then c % 12 else c) := ⟨rfl⟩
  generalize dataN c = n at *
  by_cases hc : c < 200
  · have hq : ((c : Int) % 12) = (n : Int) := by have := HN.out; rw [if_pos hc] at this; omega
    have hci : (c : Int) < 200 := by omega
    go_wp2_with (refine wpList_mkRoom _ rfl (.const (.int .i64 0)) (.tmp 11) _ rfl 5 Try.underlying22 (by kernel_rfl) n rfl (congrArg (Value.int .i64) hq) (by omega) ?_; intro w2 ho2)
    have HO0 : Sec (OwP Ty.byte 5 w2 (fun k => w.heap.size ≤ k) (.slice (some ⟨w1.heap.size, 0, none⟩) 0 n) []) := ⟨ho2.owp fun k h1 h2 => by omega⟩
    have HR2 := Sec.mk (HR1.out.mod ho2.new (fun _ _ h => h))
    have HM2 := Sec.mk (HM1.out.trans ho2.new (fun i h => h.elim))
    clear ho2
    go_wp2
    go_loopw [3, 4] (fun i o wr => ∃ (m : Nat) (done rest : Bytes) (A : Option Addr) (n' c' : Nat), i = .int .i64 (m : Int) ∧ done.length + m = n ∧ o = .slice A n' c' ∧ Sec (OwP Ty.byte 5 wr (fun k => w.heap.size ≤ k) (.slice A n' c') done) ∧ Sec (Rdr wr g rest) ∧ Sec (Mod (· = g) w wr) ∧ Sec (takeD n zs = (done ++ (takeD m rest).1, (takeD m rest).2))) (fun i _ _ => (intOf i).toNat)
    case atStart => exact ⟨n, [], zs, _, _, _, rfl, by simp, rfl, HO0, HR2, HM2, ⟨by simp⟩⟩
    case round =>
      obtain ⟨m, done, rest, A, n', c', rfl, hml, rfl, HO, HRr, HM, HT⟩ := hrel
      clear HO0 HR2 HM2
      by_cases hm : m = 0
      · subst hm
        have HE : Sec (dataD ys = (done, rest)) := ⟨by rw [HD.out, HT.out]; simp [takeD]⟩
        obtain rfl := HO.out.len.1
        go_wp2
        go_ret
        rw [HE.out]
        exact ⟨A, c', rfl, HO.out, HRr.out, HM.out⟩
      · obtain ⟨m, rfl⟩ : ∃ k, m = k + 1 := ⟨m - 1, by omega⟩
        have HTD : Sec (takeD (m + 1) rest = (UInt8.ofNat (nextD rest).1 :: (takeD m (nextD rest).2).1, (takeD m (nextD rest).2).2)) := ⟨rfl⟩
        have hnb := nextD_lt rest
        have hmi : (0 : Int) < ((m + 1 : Nat) : Int) := by omega
        go_wp2_with fail
        refine (next_calls HRr.out).mono ?_
        rintro e w3 ⟨rfl, hr3, hm3⟩
        generalize (nextD rest).1 = b at *
        generalize (nextD rest).2 = rest' at *
        have HR3 := Sec.mk hr3
        have hg3 := hg
        have HM3 := Sec.mk (HM.out.trans hm3 (fun i h _ => h))
        have hs3 := HM3.out.size
        have HO3 := Sec.mk (HO.out.keep hm3 (fun k hk he => by omega))
        have HX : Sec (∀ W, New w3 W → ∀ k, W.heap.size ≤ k → w.heap.size ≤ k) := ⟨fun W hW k hk => by have := hW.size; omega⟩
        have HRO : Sec (Row Ty.byte (w3.alloc (.cells #[.int .u8 (b : Int)] 5)) (· = w3.heap.size) (some ⟨w3.heap.size, 0, none⟩) 1 [UInt8.ofNat b]) := ⟨Row.one w3 5 (UInt8.ofNat b) b (by rw [UInt8.toNat_ofNat']; omega)⟩
        clear hr3 hm3
        go_wp2_with (at_builtin; go_loud (refine wpList_appP _ rfl (.tmp 17) (.tmp 21) _ rfl Try.underlying22 elt_byte flat_byte rfl rfl (HO3.out.new ((Mod.refl _ _).alloc _)) HRO.out (HX.out _ ((Mod.refl _ _).alloc _)) (show done.length + [UInt8.ofNat b].length ≤ 34359738368 by simp only [List.length_singleton]; omega) ?_; intro A6 n6 c6 w6 HO6 hm6))
        have HM6 := Sec.mk ((HM3.out.alloc (.cells #[.int .u8 (b : Int)] 5)).trans hm6 (fun i h1 h2 => by omega))
        have HR6 := Sec.mk ((HR3.out.mod ((Mod.refl (fun _ => False) w3).alloc (.cells #[.int .u8 (b : Int)] 5)) (fun _ _ h => h)).mod hm6 (fun k h1 h2 => by omega))
        go_roundw
        case rel =>
          refine ⟨m, done ++ [UInt8.ofNat b], rest', A6, n6, c6, by go_num, by simp; omega, rfl, ⟨HO6⟩, HR6, HM6, ⟨?_⟩⟩
          rw [HT.out, HTD.out]
          try simp
        case measure => simp [intOf]
  · have hq : n = c := by have := HN.out; rw [if_neg hc] at this; exact this
    subst hq
    have hci : ¬ (n : Int) < 200 := by omega
    go_wp2_with (refine wpList_mkRoom _ rfl (.const (.int .i64 0)) (.tmp 11) _ rfl 5 Try.underlying22 (by kernel_rfl) n rfl rfl (by omega) ?_; intro w2 ho2)
    have HO0 : Sec (OwP Ty.byte 5 w2 (fun k => w.heap.size ≤ k) (.slice (some ⟨w1.heap.size, 0, none⟩) 0 n) []) := ⟨ho2.owp fun k h1 h2 => by omega⟩
    have HR2 := Sec.mk (HR1.out.mod ho2.new (fun _ _ h => h))
    have HM2 := Sec.mk (HM1.out.trans ho2.new (fun i h => h.elim))
    clear ho2
    go_wp2
    go_loopw [3, 4] (fun i o wr => ∃ (m : Nat) (done rest : Bytes) (A : Option Addr) (n' c' : Nat), i = .int .i64 (m : Int) ∧ done.length + m = n ∧ o = .slice A n' c' ∧ Sec (OwP Ty.byte 5 wr (fun k => w.heap.size ≤ k) (.slice A n' c') done) ∧ Sec (Rdr wr g rest) ∧ Sec (Mod (· = g) w wr) ∧ Sec (takeD n zs = (done ++ (takeD m rest).1, (takeD m rest).2))) (fun i _ _ => (intOf i).toNat)
    case atStart => exact ⟨n, [], zs, _, _, _, rfl, by simp, rfl, HO0, HR2, HM2, ⟨by simp⟩⟩
    case round =>
      obtain ⟨m, done, rest, A, n', c', rfl, hml, rfl, HO, HRr, HM, HT⟩ := hrel
      clear HO0 HR2 HM2
      by_cases hm : m = 0
      · subst hm
        have HE : Sec (dataD ys = (done, rest)) := ⟨by rw [HD.out, HT.out]; simp [takeD]⟩
        obtain rfl := HO.out.len.1
        go_wp2
        go_ret
        rw [HE.out]
        exact ⟨A, c', rfl, HO.out, HRr.out, HM.out⟩
      · obtain ⟨m, rfl⟩ : ∃ k, m = k + 1 := ⟨m - 1, by omega⟩
        have HTD : Sec (takeD (m + 1) rest = (UInt8.ofNat (nextD rest).1 :: (takeD m (nextD rest).2).1, (takeD m (nextD rest).2).2)) := ⟨rfl⟩
        have hnb := nextD_lt rest
        have hmi : (0 : Int) < ((m + 1 : Nat) : Int) := by omega
        go_wp2_with fail
        refine (next_calls HRr.out).mono ?_
        rintro e w3 ⟨rfl, hr3, hm3⟩
        generalize (nextD rest).1 = b at *
        generalize (nextD rest).2 = rest' at *
        have HR3 := Sec.mk hr3
        have hg3 := hg
        have HM3 := Sec.mk (HM.out.trans hm3 (fun i h _ => h))
        have hs3 := HM3.out.size
        have HO3 := Sec.mk (HO.out.keep hm3 (fun k hk he => by omega))
        have HX : Sec (∀ W, New w3 W → ∀ k, W.heap.size ≤ k → w.heap.size ≤ k) := ⟨fun W hW k hk => by have := hW.size; omega⟩
        have HRO : Sec (Row Ty.byte (w3.alloc (.cells #[.int .u8 (b : Int)] 5)) (· = w3.heap.size) (some ⟨w3.heap.size, 0, none⟩) 1 [UInt8.ofNat b]) := ⟨Row.one w3 5 (UInt8.ofNat b) b (by rw [UInt8.toNat_ofNat']; omega)⟩
        clear hr3 hm3
        go_wp2_with (at_builtin; go_loud (refine wpList_appP _ rfl (.tmp 17) (.tmp 21) _ rfl Try.underlying22 elt_byte flat_byte rfl rfl (HO3.out.new ((Mod.refl _ _).alloc _)) HRO.out (HX.out _ ((Mod.refl _ _).alloc _)) (show done.length + [UInt8.ofNat b].length ≤ 34359738368 by simp only [List.length_singleton]; omega) ?_; intro A6 n6 c6 w6 HO6 hm6))
        have HM6 := Sec.mk ((HM3.out.alloc (.cells #[.int .u8 (b : Int)] 5)).trans hm6 (fun i h1 h2 => by omega))
        have HR6 := Sec.mk ((HR3.out.mod ((Mod.refl (fun _ => False) w3).alloc (.cells #[.int .u8 (b : Int)] 5)) (fun _ _ h => h)).mod hm6 (fun k h1 h2 => by omega))
        go_roundw
        case rel =>
          refine ⟨m, done ++ [UInt8.ofNat b], rest', A6, n6, c6, by go_num, by simp; omega, rfl, ⟨HO6⟩, HR6, HM6, ⟨?_⟩⟩
          rw [HT.out, HTD.out]
          try simp
        case measure => simp [intOf]

def recD (ys : Bytes) : Bytes × Bytes := (if (dataD ys).1 = [] then [120] else (dataD ys).1, (dataD ys).2)
def recordsD : Nat → Bytes → List Bytes × Bytes
  | 0, ys => ([], ys)
  | m + 1, ys => ((recD ys).1 :: (recordsD m (recD ys).2).1, (recordsD m (recD ys).2).2)
def DrawSS (w : World) (g : Nat) (x : List Bytes × Bytes) (e : Ending) (w' : World) : Prop :=
  ∃ A c, e = .returned (.slice A x.1.length c) ∧ OwI tB 22 w' w.heap.size w'.heap.size (.slice A x.1.length c) x.1 ∧ Rdr w' g x.2 ∧ Mod (· = g) w w'
def recsD (ys : Bytes) : List Bytes × Bytes := recordsD ((nextD ys).1 % 9) (nextD ys).2
theorem recordsD_len (m : Nat) : ∀ ys, (recordsD m ys).1.length = m := by
  induction m with
  | zero => intro ys; rfl
  | succ m ih => intro ys; simp [recordsD, ih]
set_option maxHeartbeats 1000000 in
set_option maxRecDepth 100000 in
theorem l2Records_calls {w : World} {g : Nat} {ys : Bytes} (h : Rdr w g ys) : Calls Try.prog 51 #[.pointer (some ⟨g, 0, none⟩)] w (DrawSS w g (recsD ys)) := by
  have HR := Sec.mk h
  have hg := h.lt
  have hb := nextD_lt ys
  have HD : Sec (recsD ys = recordsD ((nextD ys).1 % 9) (nextD ys).2) := ⟨rfl⟩
  clear h
  go_enter Try.func51, Try.ntmps51
  go_wp2_with fail
  refine (next_calls HR.out).mono ?_
  rintro e w1 ⟨rfl, hr1, hm1⟩
  have hs1 := hm1.size
  generalize (nextD ys).1 = c at *
  generalize (nextD ys).2 = zs at *
  have HR1 := Sec.mk hr1
  have HM1 := Sec.mk hm1
  clear hr1 hm1
  go_wp2
  go_loopw [3, 4] (fun o i wr => ∃ (m : Nat) (done : List Bytes) (rest : Bytes) (A : Option Addr) (n' c' : Nat), i = .int .i64 (m : Int) ∧ done.length + m ≤ 8 ∧ o = .slice A n' c' ∧ Sec (OwI tB 22 wr w.heap.size wr.heap.size (.slice A n' c') done) ∧ Sec (Rdr wr g rest) ∧ Sec (Mod (· = g) w wr) ∧ Sec (recordsD (c % 9) zs = (done ++ (recordsD m rest).1, (recordsD m rest).2))) (fun _ i _ => (intOf i).toNat)
  case atStart => exact ⟨c % 9, [], zs, none, 0, 0, by congr 1, by simp; omega, rfl, ⟨OwI.nil _ _ _ _ _⟩, HR1, HM1, ⟨by simp⟩⟩
  case round =>
    obtain ⟨m, done, rest, A, n', c', rfl, hml, rfl, HO, HRr, HM, HT⟩ := hrel
    clear HR1 HM1
    by_cases hm : m = 0
    · subst hm
      have HE : Sec (recsD ys = (done, rest)) := ⟨by rw [HD.out, HT.out]; simp [recordsD]⟩
      obtain rfl := HO.out.len.1
      go_wp2
      go_ret
      rw [HE.out]
      exact ⟨A, c', rfl, HO.out, HRr.out, HM.out⟩
    · obtain ⟨m, rfl⟩ : ∃ k, m = k + 1 := ⟨m - 1, by omega⟩
      have HTD : Sec (recordsD (m + 1) rest = ((recD rest).1 :: (recordsD m (recD rest).2).1, (recordsD m (recD rest).2).2)) := ⟨rfl⟩
      have HRD : Sec (recD rest = (if (dataD rest).1 = [] then [120] else (dataD rest).1, (dataD rest).2)) := ⟨rfl⟩
      have hdl := dataD_len rest
      have hmi : (0 : Int) < ((m + 1 : Nat) : Int) := by omega
      have hsr := HM.out.size
      go_wp2_with fail
      refine (l1Data_calls HRr.out).mono ?_
      rintro e w3 ⟨A3, c3, rfl, ho3, hr3, hm3⟩
      generalize (dataD rest).1 = x at *
      generalize (dataD rest).2 = rest' at *
      have hs3 := hm3.size
      have HR3 := Sec.mk hr3
      have HM3 := Sec.mk (HM.out.trans hm3 (fun i h _ => h))
      have HO3 := Sec.mk (HO.out.keep hm3 (fun k h1 h2 he => by omega))
      have HV3 := Sec.mk ho3
      have hlo : w.heap.size ≤ wr.heap.size := hsr
      clear hr3 hm3 ho3
      by_cases hx : x = []
      · subst hx
        have HX : Sec (∀ W, New w3 W → ∀ k, W.heap.size ≤ k → wr.heap.size ≤ k) := ⟨fun W hW k hk => by have := hW.size; omega⟩
        have HRO : Sec (Row Ty.byte (w3.alloc (.cells #[.int .u8 120] 5)) (· = w3.heap.size) (some ⟨w3.heap.size, 0, none⟩) 1 [120]) := ⟨Row.one w3 5 120 120 (by decide)⟩
        have hl0 : (([] : Bytes).length : Int) = 0 := rfl
        go_wp2_with (first
          | (at_builtin; refine wpList_appP _ rfl (.tmp 18) (.tmp 19) _ rfl Try.underlying22 elt_byte flat_byte rfl rfl (HV3.out.new ((Mod.refl _ _).alloc _)) HRO.out (HX.out _ ((Mod.refl _ _).alloc _)) (show ([] : Bytes).length + [(120 : UInt8)].length ≤ 34359738368 by decide) ?_; intro A6 n6 c6 w6 HO6 hm6; have HM6s := Sec.mk hm6; obtain ⟨F6, ho6, hF6⟩ := HO6; have HOW := Sec.mk (((HO3.out.new ((Mod.refl _ _).alloc (.cells #[.int .u8 120] 5))).keep HM6s.out (fun k h1 h2 h3 => by omega)).new ((Mod.refl _ _).alloc (.cells #[.slice A6 n6 c6] 22))); have HSZ : Sec (wr.heap.size ≤ (w6.alloc (.cells #[.slice A6 n6 c6] 22)).heap.size) := ⟨by have := HM6s.out.size; simp at this ⊢; omega⟩; have HG := Sec.mk hF6; have HF6 := Sec.mk ho6; clear hF6 ho6; clear hm6)
          | (at_builtin; go_loud (refine wpList_appO _ rfl (.tmp 21) (.tmp 23) _ rfl Try.underlying23 elt_b rfl rfl HOW.out (y := [120]) (G := F6) ⟨_, rfl, HF6.out.new ((Mod.refl _ _).alloc _)⟩ HG.out (lit_cells _ _ _ rfl) (show w.heap.size ≤ wr.heap.size from hlo) HSZ.out (show done.length + 1 ≤ 34359738368 by omega) ?_; intro A7 n7 c7 w7 HO7 hm7; have HO7s := Sec.mk HO7; have HM7s := Sec.mk hm7; clear HO7 hm7)))
        have HM6 := Sec.mk ((HM3.out.alloc (.cells #[.int .u8 120] 5)).trans HM6s.out (fun i h1 h2 => by omega))
        have HR6 := Sec.mk ((HR3.out.mod ((Mod.refl (fun _ => False) w3).alloc (.cells #[.int .u8 120] 5)) (fun _ _ h => h)).mod HM6s.out (fun k h1 h2 => by omega))
        have HM7 := Sec.mk ((HM6.out.alloc (.cells #[.slice A6 n6 c6] 22)).trans HM7s.out (fun i h1 h2 => by omega))
        have HR7 := Sec.mk ((HR6.out.mod ((Mod.refl (fun _ => False) _).alloc (.cells #[.slice A6 n6 c6] 22)) (fun _ _ h => h)).mod HM7s.out (fun k h1 h2 => by omega))
        go_roundw
        case rel =>
          refine ⟨m, done ++ [[120]], rest', A7, n7, c7, by go_num, by simp; omega, rfl, HO7s, HR7, HM7, ⟨?_⟩⟩
          rw [HT.out, HTD.out, HRD.out]
          simp
        case measure => simp [intOf]
      · have hxl : ¬ ((x.length : Int) = 0) := by
          have : x.length ≠ 0 := fun h => hx (List.eq_nil_of_length_eq_zero h)
          omega
        have hxq : ((x.length : Int) == 0) = false := by simp only [beq_eq_false_iff_ne, ne_eq]; exact hxl
        have HNE := Sec.mk hx
        clear hx
        obtain ⟨F6, ho6, hF6⟩ := HV3.out
        have HOW := Sec.mk (HO3.out.new ((Mod.refl _ _).alloc (.cells #[.slice A3 x.length c3] 22)))
        have HSZ : Sec (wr.heap.size ≤ (w3.alloc (.cells #[.slice A3 x.length c3] 22)).heap.size) := ⟨by have := hs3; simp at this ⊢; omega⟩
        have HG := Sec.mk hF6
        have HF6 := Sec.mk ho6
        clear hF6 ho6
        go_wp2_with (at_builtin; go_loud (refine wpList_appO _ rfl (.tmp 21) (.tmp 23) _ rfl Try.underlying23 elt_b rfl rfl HOW.out (y := x) (G := F6) ⟨_, rfl, HF6.out.new ((Mod.refl _ _).alloc _)⟩ HG.out (lit_cells _ _ _ rfl) (show w.heap.size ≤ wr.heap.size from hlo) HSZ.out (show done.length + 1 ≤ 34359738368 by omega) ?_; intro A7 n7 c7 w7 HO7 hm7; have HO7s := Sec.mk HO7; have HM7s := Sec.mk hm7; clear HO7 hm7))
        have HM7 := Sec.mk ((HM3.out.alloc (.cells #[.slice A3 x.length c3] 22)).trans HM7s.out (fun i h1 h2 => by omega))
        have HR7 := Sec.mk ((HR3.out.mod ((Mod.refl (fun _ => False) _).alloc (.cells #[.slice A3 x.length c3] 22)) (fun _ _ h => h)).mod HM7s.out (fun k h1 h2 => by omega))
        go_roundw
        case rel =>
          refine ⟨m, done ++ [x], rest', A7, n7, c7, by go_num, by simp; omega, rfl, HO7s, HR7, HM7, ⟨?_⟩⟩
          rw [HT.out, HTD.out, HRD.out]
          rw [if_neg HNE.out]; simp
        case measure => simp [intOf]
end Go.Proofs.Ytciaoedjiggonaa
