/- A new mailbox, of the specification. -/
import Derived.Test.YtiaknomadhgckaaDoorPk15
namespace Go.Proofs.YtiaknomadhgckaaDoor
open Go.RowKit Mem
set_option linter.unusedVariables false
set_option linter.unusedSimpArgs false
theorem nilB (w : World) : RdV false dBS w (.slice none 0 0) [] := RdV.of_row (xs := []) (Row.none_ _ _ _ _) (by simp) (by simp)
theorem l5Put_v {nm F : Bytes} {w : World} {v : Value} (hv : RdV false dBS w v F) (hnm : nm.length ≤ 1000) (hF : F.length ≤ 1048576) : Calls Tryd.prog 19 #[.string ⟨nm.toArray⟩, v] w (RetOwn dOp 55 w (putL nm F)) := by
  obtain ⟨A, c, rfl, hc, hr⟩ := hv.slice
  have HR := Sec.mk hr
  clear hv hr
  go_enter Tryd.func19, Tryd.ntmps19
  go_wp2_with fail
  refine (l1Bytes_calls HR.out (fun _ h => h) hF).mono ?_
  intro e w2 hret
  obtain ⟨A5, c5, rfl, hmine⟩ := hret.mine
  obtain ⟨⟨G, ho, hG⟩, hn⟩ := hmine
  have hE := ((Elems.one (mOp (w := w2) (x := (1, nm, [], [])) (show IntKind.i64.wrap 1 = 1 by decide) (show nm.length ≤ 9223372036854775807 by omega) (by simp) (Own.nil _ _ _))).append (Elems.one (mOp (x := (2, nm, [], F)) (show IntKind.i64.wrap 2 = 2 by decide) (show nm.length ≤ 9223372036854775807 by omega) (by simp) ho))).append (Elems.one (mOp (w := w2) (x := (3, nm, [], [])) (show IntKind.i64.wrap 3 = 3 by decide) (show nm.length ≤ 9223372036854775807 by omega) (by simp) (Own.nil _ _ _)))
  have HB := Sec.mk (Own.build (e := 55) hE (by simpa using ho.nd) (fun k hk => ho.lt k (by simpa using hk)) (by simp) (by simp; rfl))
  have HG := Sec.mk hG
  have HN := Sec.mk (hn.alloc (.cells #[.int .i64 1, .string ⟨nm.toArray⟩, .string ⟨#[]⟩, .slice none 0 0, .int .i64 2, .string ⟨nm.toArray⟩, .string ⟨#[]⟩, .slice A5 F.length c5, .int .i64 3, .string ⟨nm.toArray⟩, .string ⟨#[]⟩, .slice none 0 0] 55))
  have hs := hn.size
  clear hE hG hn hret ho
  go_wp2
  go_ret
  refine RetOwn.of HB.out (fun k hk => ?_) HN.out
  have hk' : k = w2.heap.size ∨ k ∈ G := by simpa using hk
  rcases hk' with rfl | hk'
  · exact hs
  · exact HG.out k hk'
theorem zOut4 (X : Nat → Prop) (w : World) {q : Int} (hq : IntKind.i64.wrap q = q) : Out4 X w (.slice none 0 0) (.slice none 0 0) (.slice none 0 0) (.slice none 0 0) ([], [], [], [], q) :=
  ⟨[], [], [], [], Own.nil _ _ _, Own.nil _ _ _, Own.nil _ _ _, Own.nil _ _ _, ⟨fun k h => by simp at h, fun k h => by simp at h, fun k h => by simp at h⟩, fun k h => by simp [In4] at h, hq⟩
theorem opDir_own (w : World) : Elems dOp w [[]] [dirOpL] [.int .i64 6, .string ⟨#[]⟩, .string ⟨#[]⟩, .slice none 0 0] := Elems.one (mOp (w := w) (x := dirOpL) (show IntKind.i64.wrap 6 = 6 by decide) (by decide) (by decide) (Own.nil _ _ _))
def formatL (kind : Int) (v : Nat) (q : Int) : DiskL :=
  if kind = 1 then (if v = 0 ∨ q < ((FrameL [recM v]).length : Int) ∨ 1000000 < q then ([], [], [], [], 0) else mboxD (FrameL [recM v]) q)
  else if kind = 3 then (if v = 0 ∨ q < ((FrameL [recD v]).length : Int) ∨ 1000000 < q then ([], [], [], [], 0) else uidD (FrameL [recD v]) q)
  else ([], [], [], [], 0)
theorem recM_len {v : Nat} (h : v < 4294967296) : (recM v).length ≤ 1000 := by have := dec_len v (by omega); simp [recM]; omega
theorem recD_len {v : Nat} (h : v < 4294967296) : (recD v).length ≤ 1000 := by have := dec_len v (by omega); simp [recD]; omega
theorem recM_str (v : Nat) : (⟨#[86, 32]⟩ : ByteArray) ++ ⟨(Lib.decDigits v).toArray⟩ ++ ⟨#[32, 49, 32, 48]⟩ = ⟨(recM v).toArray⟩ := by
  rw [show (⟨#[86, 32]⟩ : ByteArray) = ⟨([86, 32] : Bytes).toArray⟩ from rfl, show (⟨#[32, 49, 32, 48]⟩ : ByteArray) = ⟨([32, 49, 32, 48] : Bytes).toArray⟩ from rfl, ba_app', ba_app']; rfl
theorem recD_str (v : Nat) : (⟨#[86, 32]⟩ : ByteArray) ++ ⟨(Lib.decDigits v).toArray⟩ ++ ⟨#[32, 49]⟩ = ⟨(recD v).toArray⟩ := by
  rw [show (⟨#[86, 32]⟩ : ByteArray) = ⟨([86, 32] : Bytes).toArray⟩ from rfl, show (⟨#[32, 49]⟩ : ByteArray) = ⟨([32, 49] : Bytes).toArray⟩ from rfl, ba_app', ba_app']; rfl
theorem frame_len (x : List Bytes) : (FrameL x).length ≤ 40000 := by
  unfold FrameL logL
  split
  · rename_i h; exact h.2
  · simp
set_option maxHeartbeats 4000000 in
set_option maxRecDepth 100000 in
theorem formatS_v {w : World} (kind : Int) (v : Nat) (q : Int) (hk : IntKind.i64.wrap kind = kind) (hv : v < 4294967296) (hq : IntKind.i64.wrap q = q) : Calls Tryd.prog 5 #[.int .i64 kind, .int .u32 (v : Int), .int .i64 q] w (RetV true dDisk w (formatL kind v q)) := by
  have HQ := Sec.mk hq
  have HE : Sec (formatL kind v q = if kind = 1 then (if v = 0 ∨ q < ((FrameL [recM v]).length : Int) ∨ 1000000 < q then ([], [], [], [], 0) else mboxD (FrameL [recM v]) q)
    else if kind = 3 then (if v = 0 ∨ q < ((FrameL [recD v]).length : Int) ∨ 1000000 < q then ([], [], [], [], 0) else uidD (FrameL [recD v]) q)
    else ([], [], [], [], 0)) := ⟨rfl⟩
  generalize hres : formatL kind v q = res at *
  clear hres hq hk
  have HBR := Sec.mk (Blk.new w 27 zDisk)
  have HM0 : Sec (New w (w.alloc (.cells zDisk.toArray 27))) := ⟨(Mod.refl _ _).alloc _⟩
  have hsz : (w.alloc (.cells zDisk.toArray 27)).heap.size = w.heap.size + 1 := by simp
  go_enter Tryd.func5, Tryd.ntmps5
  go_upto_region 1 with (fail)
  generalize (w.alloc (.cells zDisk.toArray 27)) = wz at *
  have hvi : (v : Int) < 4294967296 := by omega
  have HDC := Sec.mk (fun w => l1Dec_calls v (by omega) w)
  have HSM := Sec.mk (recM_str v)
  have HSD := Sec.mk (recD_str v)
  have HLM := Sec.mk (recM_len hv)
  have HLD := Sec.mk (recD_len hv)
  have hdl : (Lib.decDigits v).length ≤ 13 := dec_len v (by omega)
  generalize recM v = rm at *
  generalize recD v = rd at *
  generalize Lib.decDigits v = dv at *
  by_cases hk1 : kind = 1
  · subst hk1
    have HE2 : Sec (res = if v = 0 ∨ q < ((FrameL [rm]).length : Int) ∨ 1000000 < q then ([], [], [], [], 0) else mboxD (FrameL [rm]) q) := ⟨HE.out.trans (if_pos rfl)⟩
    clear HE
    go_wp2_with fail
    refine (HDC.out _).mono ?_
    rintro e w1 ⟨rfl, hm1⟩
    have HB1 := Sec.mk (HBR.out.mod hm1 id)
    have HM1 := Sec.mk (HM0.out.transN hm1)
    clear hm1
    go_wp2_with fail
    rw [HSM.out]
    refine (l5Rec_v rm HLM.out w1).mono ?_
    rintro e w2 ⟨v1, rfl, ho2, hm2⟩
    have HFL : Sec ((FrameL [rm]).length ≤ 40000) := ⟨frame_len _⟩
    have HB2 := Sec.mk (HB1.out.mod hm2 id)
    have HM2 := Sec.mk (HM1.out.transN hm2)
    have HV2 := Sec.mk ho2.rd
    have hs2 := HB2.out.lt
    clear ho2 hm2
    go_wp2_with fail
    refine (l5Put_v (nm := idxN) HV2.out (by decide) (Nat.le_trans HFL.out (by decide))).mono ?_
    rintro e w3 ⟨A3, c3, F3, rfl, ho3, hF3, hm3⟩
    have HB3 := Sec.mk (HB2.out.mod hm3 id)
    have HM3 := Sec.mk (HM2.out.transN hm3)
    have HO3 := Sec.mk ho3
    have HF3 : Sec (∀ k, k ∈ F3 → w.heap.size + 1 ≤ k) := ⟨fun k hk => by have := hF3 k hk; omega⟩
    have hs3 := hm3.size
    clear ho3 hF3 hm3
    go_wp2_with fail
    refine (l5Put_v (nm := mboxN) (nilB _) (by decide) (by decide)).mono ?_
    rintro e w4 ⟨A4, c4, F4, rfl, ho4, hF4, hm4⟩
    have HB4 := Sec.mk (HB3.out.mod hm4 id)
    have HM4 := Sec.mk (HM3.out.transN hm4)
    have HO34 := Sec.mk (HO3.out.keep hm4 (fun _ _ h => h))
    obtain ⟨ne4, G4, hE4, hA4, hn4, hG4⟩ := Own.parts ho4
    have HE4 := Sec.mk hE4
    have HA4 := Sec.mk hA4
    have HN4 := Sec.mk hn4
    have HG4 : Sec (∀ k, k ∈ G4.flatten → w3.heap.size ≤ k) := ⟨fun k hk => hF4 k (hG4 k hk)⟩
    have hs4 := hm4.size
    clear hE4 hA4 hn4 hG4 ho4 hF4 hm4
    have hl6 : (putL idxN (FrameL [rm])).length + (putL mboxN []).length ≤ 34359738368 := by simp [putL]
    go_upto_region 8 with (at_builtin; go_loud (refine wpList_append _ rfl (.tmp 19) (.tmp 20) _ rfl dOp 55 Tryd.underlying47 eltOp rfl HO34.out rfl HE4.out rfl HA4.out HN4.out (fun k hk h => by have h1 := HG4.out k hk; have h2 := HO3.out.lt k h; omega) hl6 ?_; intro A5 n5 c5 w5 F5 ho5 hn5 hm5 hF5; clear hn5; have HO5 := Sec.mk ho5; have HF5 : Sec (∀ k, k ∈ F5 → w.heap.size + 1 ≤ k) := ⟨fun k hk => by (rcases hF5 k hk with h | h | h); exact HF3.out k h; have := HG4.out k h; omega; omega⟩; have HM5 := Sec.mk (HM4.out.trans hm5 (fun i hi hlt => by have := HF3.out i (HO34.out.own_mem i hi); omega)); have HB5 := Sec.mk (HB4.out.mod hm5 (fun h => by have := HF3.out _ (HO34.out.own_mem _ h); omega)); clear ho5 hm5 hF5))
    by_cases hv0 : v = 0
    · have HF : Sec (res = ([], [], [], [], 0)) := ⟨HE2.out.trans (if_pos (Or.inl hv0))⟩
      subst hv0
      have rc0 : w5.cell? ⟨w.heap.size, 0, none⟩ = some (.slice none 0 0) := HB5.out.cell 0
      have rf0 : w5.frozen? ⟨w.heap.size, 0, none⟩ = false := HB5.out.frozen 0
      have rc1 : w5.cell? ⟨w.heap.size, 1, none⟩ = some (.slice none 0 0) := HB5.out.cell 1
      have rf1 : w5.frozen? ⟨w.heap.size, 1, none⟩ = false := HB5.out.frozen 1
      have rc2 : w5.cell? ⟨w.heap.size, 2, none⟩ = some (.slice none 0 0) := HB5.out.cell 2
      have rf2 : w5.frozen? ⟨w.heap.size, 2, none⟩ = false := HB5.out.frozen 2
      have rc3 : w5.cell? ⟨w.heap.size, 3, none⟩ = some (.slice none 0 0) := HB5.out.cell 3
      have rf3 : w5.frozen? ⟨w.heap.size, 3, none⟩ = false := HB5.out.frozen 3
      have rc4 : w5.cell? ⟨w.heap.size, 4, none⟩ = some (.int .i64 0) := HB5.out.cell 4
      have rf4 : w5.frozen? ⟨w.heap.size, 4, none⟩ = false := HB5.out.frozen 4
      have hwr : w.heap.size < w5.heap.size := HB5.out.lt
      have HFB := Sec.mk (set5_blk HB5.out (.slice none 0 0) (.slice none 0 0) (.slice none 0 0) (.slice none 0 0) (.int .i64 0))
      have HFM := set5_mod w5 (w.heap.size) (.slice none 0 0) (.slice none 0 0) (.slice none 0 0) (.slice none 0 0) (.int .i64 0)
      have HMG := Sec.mk ((HM5.out.mono (T := fun k => w.heap.size ≤ k) (fun i hlt h => h.elim)).trans HFM (fun i hi hlt => by omega))
      clear HFM
      go_wp2
      refine bodyPost_ret (results_blk rfl rfl HFB.out Tryd.underlying27 (by kernel_rfl)) rfl ?_
      rw [HF.out]
      exact ⟨_, rfl, (zOut4 (fun k => w.heap.size ≤ k) _ (by decide)).disk (fun k h => h), HMG.out.mono (fun i hlt h => by omega)⟩
    have hv0i : ¬ (v : Int) = 0 := by omega
    have hv0b : ((v : Int) == 0) = false := by simp only [beq_eq_false_iff_ne, ne_eq]; exact hv0i
    have HE3 : Sec (res = if q < ((FrameL [rm]).length : Int) ∨ 1000000 < q then ([], [], [], [], 0) else mboxD (FrameL [rm]) q) := ⟨by
      rw [HE2.out]
      by_cases hx : q < ((FrameL [rm]).length : Int) ∨ 1000000 < q
      · rw [if_pos (Or.inr hx), if_pos hx]
      · rw [if_neg (by simp only [hv0, false_or]; exact hx), if_neg hx]⟩
    clear HE2
    have hlo : (putL idxN (FrameL [rm]) ++ putL mboxN []).length ≤ 6 := by simp [putL]
    have HDD := Sec.mk (dd_mbox (F := FrameL [rm]) (q := q) HFL.out)
    have HDL : Sec (∀ o, o ∈ putL idxN (FrameL [rm]) ++ putL mboxN [] ++ [dirOpL] → o.2.2.2.length ≤ 1048576) := ⟨fun o ho => by
      have := HFL.out
      simp [putL, dirOpL] at ho
      rcases ho with rfl | rfl | rfl | rfl | rfl | rfl | rfl <;> simp <;> omega⟩
    rw [← List.append_assoc] at HDD
    generalize hops : putL idxN (FrameL [rm]) ++ putL mboxN [] = ops at *
    clear hops
    generalize FrameL [rm] = fr at *
    have HOA := Sec.mk (HO5.out.keep ((Mod.refl (fun _ => False) w5).alloc (.cells #[.int .i64 6, .string ⟨#[]⟩, .string ⟨#[]⟩, .slice none 0 0] 55)) (fun _ _ h => h))
    have HAA := Sec.mk (lit_cells w5 55 [.int .i64 6, .string ⟨#[]⟩, .string ⟨#[]⟩, .slice none 0 0] rfl)
    have hlz : ops.length + 1 ≤ 34359738368 := by omega
    go_wp2_with (at_builtin; go_loud (refine wpList_append _ rfl (.tmp 36) (.tmp 38) _ rfl dOp 55 Tryd.underlying47 eltOp rfl HOA.out rfl (opDir_own _) rfl (fun _ => HAA.out) (by simp) (fun k hk => by simp at hk) hlz ?_; intro A9 n9 c9 w9 F9 ho9 hn9 hm9 hF9; clear hn9; have HO9 := Sec.mk (OwV.of_slice (lo := 0) (hi := w9.heap.size) ho9 (fun k hk => ⟨Nat.zero_le _, ho9.lt k hk⟩)); have HM9 := Sec.mk ((HM5.out.alloc _).trans hm9 (fun i hi hlt => by have := HF5.out i (HO5.out.own_mem i hi); omega)); have HB9 := Sec.mk ((HB5.out.alloc _).mod hm9 (fun h => by have := HF5.out _ (HO5.out.own_mem _ h); omega)); clear ho9 hm9 hF9))
    refine (diskDoS_v (d := ([], [], [], [], q)) (zOut4 (fun _ => True) _ HQ.out).rd HO9.out.rd HDL.out).mono ?_
    generalize diskDoL ([], [], [], [], q) (ops ++ [dirOpL]) = r at *
    rintro e w10 ⟨z0, z1, z2, z3, rfl, ho10, hm10⟩
    obtain ⟨dn, cnt, code⟩ := r
    obtain ⟨z0, z0', z1, z1', z2, z2', z3, z3', rfl, rfl, rfl, rfl, -⟩ := ho10.forms
    simp only at *
    have hma : New w10 (w10.alloc (.cells #[.slice z0 dn.1.length z0', .slice z1 dn.2.1.length z1', .slice z2 dn.2.2.1.length z2', .slice z3 dn.2.2.2.1.length z3', .int .i64 dn.2.2.2.2, .int .i64 cnt, .int .i64 code] 52)) := (Mod.refl _ _).alloc _
    have HBN := Sec.mk (Blk.new w10 52 [.slice z0 dn.1.length z0', .slice z1 dn.2.1.length z1', .slice z2 dn.2.2.1.length z2', .slice z3 dn.2.2.2.1.length z3', .int .i64 dn.2.2.2.2, .int .i64 cnt, .int .i64 code])
    have HO11 := Sec.mk ((ho10.wide (X' := fun k => w.heap.size + 1 ≤ k) (fun k h1 h2 => by have := HB9.out.lt; omega)).new hma)
    have HM11 := Sec.mk ((HM9.out.transN hm10).transN hma)
    have HB11 := Sec.mk ((HB9.out.mod hm10 id).mod hma id)
    have hs11 : w10.heap.size < (w10.alloc (.cells #[.slice z0 dn.1.length z0', .slice z1 dn.2.1.length z1', .slice z2 dn.2.2.1.length z2', .slice z3 dn.2.2.2.1.length z3', .int .i64 dn.2.2.2.2, .int .i64 cnt, .int .i64 code] 52)).heap.size := by simp
    have hs10 : w9.heap.size ≤ w10.heap.size := hm10.size
    have hs9 := HB9.out.lt
    clear hma ho10 hm10
    go_upto_region 11 with (fail)
    generalize (w10.alloc (.cells #[.slice z0 dn.1.length z0', .slice z1 dn.2.1.length z1', .slice z2 dn.2.2.1.length z2', .slice z3 dn.2.2.2.1.length z3', .int .i64 dn.2.2.2.2, .int .i64 cnt, .int .i64 code] 52)) = w11 at *
    have nc0 : w11.cell? ⟨w10.heap.size, 0, none⟩ = some (.slice z0 dn.1.length z0') := HBN.out.cell 0
    have nc1 : w11.cell? ⟨w10.heap.size, 1, none⟩ = some (.slice z1 dn.2.1.length z1') := HBN.out.cell 1
    have nc2 : w11.cell? ⟨w10.heap.size, 2, none⟩ = some (.slice z2 dn.2.2.1.length z2') := HBN.out.cell 2
    have nc3 : w11.cell? ⟨w10.heap.size, 3, none⟩ = some (.slice z3 dn.2.2.2.1.length z3') := HBN.out.cell 3
    have nc4 : w11.cell? ⟨w10.heap.size, 4, none⟩ = some (.int .i64 dn.2.2.2.2) := HBN.out.cell 4
    have nc5 : w11.cell? ⟨w10.heap.size, 5, none⟩ = some (.int .i64 cnt) := HBN.out.cell 5
    have nc6 : w11.cell? ⟨w10.heap.size, 6, none⟩ = some (.int .i64 code) := HBN.out.cell 6
    by_cases hcode : code = 0
    rotate_left
    · have HF : Sec (res = ([], [], [], [], 0)) := ⟨HE3.out.trans (if_pos (Decidable.byContradiction fun hx => hcode (by have := HDD.out.2 hx; injection this with _ h2; injection h2)))⟩
      have hcb : (code != 0) = true := by simpa using hcode
      have rc0 : w11.cell? ⟨w.heap.size, 0, none⟩ = some (.slice none 0 0) := HB11.out.cell 0
      have rf0 : w11.frozen? ⟨w.heap.size, 0, none⟩ = false := HB11.out.frozen 0
      have rc1 : w11.cell? ⟨w.heap.size, 1, none⟩ = some (.slice none 0 0) := HB11.out.cell 1
      have rf1 : w11.frozen? ⟨w.heap.size, 1, none⟩ = false := HB11.out.frozen 1
      have rc2 : w11.cell? ⟨w.heap.size, 2, none⟩ = some (.slice none 0 0) := HB11.out.cell 2
      have rf2 : w11.frozen? ⟨w.heap.size, 2, none⟩ = false := HB11.out.frozen 2
      have rc3 : w11.cell? ⟨w.heap.size, 3, none⟩ = some (.slice none 0 0) := HB11.out.cell 3
      have rf3 : w11.frozen? ⟨w.heap.size, 3, none⟩ = false := HB11.out.frozen 3
      have rc4 : w11.cell? ⟨w.heap.size, 4, none⟩ = some (.int .i64 0) := HB11.out.cell 4
      have rf4 : w11.frozen? ⟨w.heap.size, 4, none⟩ = false := HB11.out.frozen 4
      have hwr : w.heap.size < w11.heap.size := HB11.out.lt
      have HFB := Sec.mk (set5_blk HB11.out (.slice none 0 0) (.slice none 0 0) (.slice none 0 0) (.slice none 0 0) (.int .i64 0))
      have HFM := set5_mod w11 (w.heap.size) (.slice none 0 0) (.slice none 0 0) (.slice none 0 0) (.slice none 0 0) (.int .i64 0)
      have HMG := Sec.mk ((HM11.out.mono (T := fun k => w.heap.size ≤ k) (fun i hlt h => h.elim)).trans HFM (fun i hi hlt => by omega))
      clear HFM
      go_wp2
      refine bodyPost_ret (results_blk rfl rfl HFB.out Tryd.underlying27 (by kernel_rfl)) rfl ?_
      rw [HF.out]
      exact ⟨_, rfl, (zOut4 (fun k => w.heap.size ≤ k) _ (by decide)).disk (fun k h => h), HMG.out.mono (fun i hlt h => by omega)⟩
    have HF : Sec (res = dn) := ⟨by
      have hx : ¬ (q < (fr.length : Int) ∨ 1000000 < q) := fun hx => HDD.out.1 hx hcode
      rw [HE3.out, if_neg hx]
      have := HDD.out.2 hx
      injection this with h1
      exact h1.symm⟩
    subst hcode
    have rc0 : w11.cell? ⟨w.heap.size, 0, none⟩ = some (.slice none 0 0) := HB11.out.cell 0
    have rf0 : w11.frozen? ⟨w.heap.size, 0, none⟩ = false := HB11.out.frozen 0
    have rc1 : w11.cell? ⟨w.heap.size, 1, none⟩ = some (.slice none 0 0) := HB11.out.cell 1
    have rf1 : w11.frozen? ⟨w.heap.size, 1, none⟩ = false := HB11.out.frozen 1
    have rc2 : w11.cell? ⟨w.heap.size, 2, none⟩ = some (.slice none 0 0) := HB11.out.cell 2
    have rf2 : w11.frozen? ⟨w.heap.size, 2, none⟩ = false := HB11.out.frozen 2
    have rc3 : w11.cell? ⟨w.heap.size, 3, none⟩ = some (.slice none 0 0) := HB11.out.cell 3
    have rf3 : w11.frozen? ⟨w.heap.size, 3, none⟩ = false := HB11.out.frozen 3
    have rc4 : w11.cell? ⟨w.heap.size, 4, none⟩ = some (.int .i64 0) := HB11.out.cell 4
    have rf4 : w11.frozen? ⟨w.heap.size, 4, none⟩ = false := HB11.out.frozen 4
    have hwr : w.heap.size < w11.heap.size := HB11.out.lt
    have HFB := Sec.mk (set5_blk HB11.out (.slice z0 dn.1.length z0') (.slice z1 dn.2.1.length z1') (.slice z2 dn.2.2.1.length z2') (.slice z3 dn.2.2.2.1.length z3') (.int .i64 dn.2.2.2.2))
    have HFM := set5_mod w11 w.heap.size (.slice z0 dn.1.length z0') (.slice z1 dn.2.1.length z1') (.slice z2 dn.2.2.1.length z2') (.slice z3 dn.2.2.2.1.length z3') (.int .i64 dn.2.2.2.2)
    have H4 := Sec.mk (HO11.out.keep HFM (fun k h e => by omega))
    have HMG := Sec.mk ((HM11.out.mono (T := fun k => w.heap.size ≤ k) (fun i hlt h => h.elim)).trans HFM (fun i hi hlt => by omega))
    clear HFM
    go_wp2
    refine bodyPost_ret (results_blk rfl rfl HFB.out Tryd.underlying27 (by kernel_rfl)) rfl ?_
    rw [HF.out]
    exact ⟨_, rfl, H4.out.disk (fun k h => by omega), HMG.out.mono (fun i hlt h => by omega)⟩
  by_cases hk3 : kind = 3
  · subst hk3
    have HE2 : Sec (res = if v = 0 ∨ q < ((FrameL [rd]).length : Int) ∨ 1000000 < q then ([], [], [], [], 0) else uidD (FrameL [rd]) q) := ⟨HE.out.trans ((if_neg hk1).trans (if_pos rfl))⟩
    clear HE
    go_wp2_with fail
    refine (HDC.out _).mono ?_
    rintro e w1 ⟨rfl, hm1⟩
    have HB1 := Sec.mk (HBR.out.mod hm1 id)
    have HM1 := Sec.mk (HM0.out.transN hm1)
    clear hm1
    go_wp2_with fail
    rw [HSD.out]
    refine (l5Rec_v rd HLD.out w1).mono ?_
    rintro e w2 ⟨v1, rfl, ho2, hm2⟩
    have HFL : Sec ((FrameL [rd]).length ≤ 40000) := ⟨frame_len _⟩
    have HB2 := Sec.mk (HB1.out.mod hm2 id)
    have HM2 := Sec.mk (HM1.out.transN hm2)
    have HV2 := Sec.mk ho2.rd
    have hs2 := HB2.out.lt
    clear ho2 hm2
    go_wp2_with fail
    refine (l5Put_v (nm := uidN) HV2.out (by decide) (Nat.le_trans HFL.out (by decide))).mono ?_
    rintro e w3 ⟨A3, c3, F3, rfl, ho3, hF3, hm3⟩
    have HB3 := Sec.mk (HB2.out.mod hm3 id)
    have HM3 := Sec.mk (HM2.out.transN hm3)
    have HO3 := Sec.mk ho3
    have HF3 : Sec (∀ k, k ∈ F3 → w.heap.size + 1 ≤ k) := ⟨fun k hk => by have := hF3 k hk; omega⟩
    have hs3 := hm3.size
    clear ho3 hF3 hm3
    go_upto_region 8 with (fail)
    by_cases hv0 : v = 0
    · have HF : Sec (res = ([], [], [], [], 0)) := ⟨HE2.out.trans (if_pos (Or.inl hv0))⟩
      subst hv0
      have rc0 : w3.cell? ⟨w.heap.size, 0, none⟩ = some (.slice none 0 0) := HB3.out.cell 0
      have rf0 : w3.frozen? ⟨w.heap.size, 0, none⟩ = false := HB3.out.frozen 0
      have rc1 : w3.cell? ⟨w.heap.size, 1, none⟩ = some (.slice none 0 0) := HB3.out.cell 1
      have rf1 : w3.frozen? ⟨w.heap.size, 1, none⟩ = false := HB3.out.frozen 1
      have rc2 : w3.cell? ⟨w.heap.size, 2, none⟩ = some (.slice none 0 0) := HB3.out.cell 2
      have rf2 : w3.frozen? ⟨w.heap.size, 2, none⟩ = false := HB3.out.frozen 2
      have rc3 : w3.cell? ⟨w.heap.size, 3, none⟩ = some (.slice none 0 0) := HB3.out.cell 3
      have rf3 : w3.frozen? ⟨w.heap.size, 3, none⟩ = false := HB3.out.frozen 3
      have rc4 : w3.cell? ⟨w.heap.size, 4, none⟩ = some (.int .i64 0) := HB3.out.cell 4
      have rf4 : w3.frozen? ⟨w.heap.size, 4, none⟩ = false := HB3.out.frozen 4
      have hwr : w.heap.size < w3.heap.size := HB3.out.lt
      have HFB := Sec.mk (set5_blk HB3.out (.slice none 0 0) (.slice none 0 0) (.slice none 0 0) (.slice none 0 0) (.int .i64 0))
      have HFM := set5_mod w3 (w.heap.size) (.slice none 0 0) (.slice none 0 0) (.slice none 0 0) (.slice none 0 0) (.int .i64 0)
      have HMG := Sec.mk ((HM3.out.mono (T := fun k => w.heap.size ≤ k) (fun i hlt h => h.elim)).trans HFM (fun i hi hlt => by omega))
      clear HFM
      go_wp2
      refine bodyPost_ret (results_blk rfl rfl HFB.out Tryd.underlying27 (by kernel_rfl)) rfl ?_
      rw [HF.out]
      exact ⟨_, rfl, (zOut4 (fun k => w.heap.size ≤ k) _ (by decide)).disk (fun k h => h), HMG.out.mono (fun i hlt h => by omega)⟩
    have hv0i : ¬ (v : Int) = 0 := by omega
    have hv0b : ((v : Int) == 0) = false := by simp only [beq_eq_false_iff_ne, ne_eq]; exact hv0i
    have HE3 : Sec (res = if q < ((FrameL [rd]).length : Int) ∨ 1000000 < q then ([], [], [], [], 0) else uidD (FrameL [rd]) q) := ⟨by
      rw [HE2.out]
      by_cases hx : q < ((FrameL [rd]).length : Int) ∨ 1000000 < q
      · rw [if_pos (Or.inr hx), if_pos hx]
      · rw [if_neg (by simp only [hv0, false_or]; exact hx), if_neg hx]⟩
    clear HE2
    have hlo : (putL uidN (FrameL [rd])).length ≤ 6 := by simp [putL]
    have HDD := Sec.mk (dd_uid (F := FrameL [rd]) (q := q) HFL.out)
    have HDL : Sec (∀ o, o ∈ putL uidN (FrameL [rd]) ++ [dirOpL] → o.2.2.2.length ≤ 1048576) := ⟨fun o ho => by
      have := HFL.out
      simp [putL, dirOpL] at ho
      rcases ho with rfl | rfl | rfl | rfl <;> simp <;> omega⟩
    generalize hops : putL uidN (FrameL [rd]) = ops at *
    clear hops
    generalize FrameL [rd] = fr at *
    have HOA := Sec.mk (HO3.out.keep ((Mod.refl (fun _ => False) w3).alloc (.cells #[.int .i64 6, .string ⟨#[]⟩, .string ⟨#[]⟩, .slice none 0 0] 55)) (fun _ _ h => h))
    have HAA := Sec.mk (lit_cells w3 55 [.int .i64 6, .string ⟨#[]⟩, .string ⟨#[]⟩, .slice none 0 0] rfl)
    have hlz : ops.length + 1 ≤ 34359738368 := by omega
    go_wp2_with (at_builtin; go_loud (refine wpList_append _ rfl (.tmp 36) (.tmp 38) _ rfl dOp 55 Tryd.underlying47 eltOp rfl HOA.out rfl (opDir_own _) rfl (fun _ => HAA.out) (by simp) (fun k hk => by simp at hk) hlz ?_; intro A9 n9 c9 w9 F9 ho9 hn9 hm9 hF9; clear hn9; have HO9 := Sec.mk (OwV.of_slice (lo := 0) (hi := w9.heap.size) ho9 (fun k hk => ⟨Nat.zero_le _, ho9.lt k hk⟩)); have HM9 := Sec.mk ((HM3.out.alloc _).trans hm9 (fun i hi hlt => by have := HF3.out i (HO3.out.own_mem i hi); omega)); have HB9 := Sec.mk ((HB3.out.alloc _).mod hm9 (fun h => by have := HF3.out _ (HO3.out.own_mem _ h); omega)); clear ho9 hm9 hF9))
    refine (diskDoS_v (d := ([], [], [], [], q)) (zOut4 (fun _ => True) _ HQ.out).rd HO9.out.rd HDL.out).mono ?_
    generalize diskDoL ([], [], [], [], q) (ops ++ [dirOpL]) = r at *
    rintro e w10 ⟨z0, z1, z2, z3, rfl, ho10, hm10⟩
    obtain ⟨dn, cnt, code⟩ := r
    obtain ⟨z0, z0', z1, z1', z2, z2', z3, z3', rfl, rfl, rfl, rfl, -⟩ := ho10.forms
    simp only at *
    have hma : New w10 (w10.alloc (.cells #[.slice z0 dn.1.length z0', .slice z1 dn.2.1.length z1', .slice z2 dn.2.2.1.length z2', .slice z3 dn.2.2.2.1.length z3', .int .i64 dn.2.2.2.2, .int .i64 cnt, .int .i64 code] 52)) := (Mod.refl _ _).alloc _
    have HBN := Sec.mk (Blk.new w10 52 [.slice z0 dn.1.length z0', .slice z1 dn.2.1.length z1', .slice z2 dn.2.2.1.length z2', .slice z3 dn.2.2.2.1.length z3', .int .i64 dn.2.2.2.2, .int .i64 cnt, .int .i64 code])
    have HO11 := Sec.mk ((ho10.wide (X' := fun k => w.heap.size + 1 ≤ k) (fun k h1 h2 => by have := HB9.out.lt; omega)).new hma)
    have HM11 := Sec.mk ((HM9.out.transN hm10).transN hma)
    have HB11 := Sec.mk ((HB9.out.mod hm10 id).mod hma id)
    have hs11 : w10.heap.size < (w10.alloc (.cells #[.slice z0 dn.1.length z0', .slice z1 dn.2.1.length z1', .slice z2 dn.2.2.1.length z2', .slice z3 dn.2.2.2.1.length z3', .int .i64 dn.2.2.2.2, .int .i64 cnt, .int .i64 code] 52)).heap.size := by simp
    have hs10 : w9.heap.size ≤ w10.heap.size := hm10.size
    have hs9 := HB9.out.lt
    clear hma ho10 hm10
    go_upto_region 11 with (fail)
    generalize (w10.alloc (.cells #[.slice z0 dn.1.length z0', .slice z1 dn.2.1.length z1', .slice z2 dn.2.2.1.length z2', .slice z3 dn.2.2.2.1.length z3', .int .i64 dn.2.2.2.2, .int .i64 cnt, .int .i64 code] 52)) = w11 at *
    have nc0 : w11.cell? ⟨w10.heap.size, 0, none⟩ = some (.slice z0 dn.1.length z0') := HBN.out.cell 0
    have nc1 : w11.cell? ⟨w10.heap.size, 1, none⟩ = some (.slice z1 dn.2.1.length z1') := HBN.out.cell 1
    have nc2 : w11.cell? ⟨w10.heap.size, 2, none⟩ = some (.slice z2 dn.2.2.1.length z2') := HBN.out.cell 2
    have nc3 : w11.cell? ⟨w10.heap.size, 3, none⟩ = some (.slice z3 dn.2.2.2.1.length z3') := HBN.out.cell 3
    have nc4 : w11.cell? ⟨w10.heap.size, 4, none⟩ = some (.int .i64 dn.2.2.2.2) := HBN.out.cell 4
    have nc5 : w11.cell? ⟨w10.heap.size, 5, none⟩ = some (.int .i64 cnt) := HBN.out.cell 5
    have nc6 : w11.cell? ⟨w10.heap.size, 6, none⟩ = some (.int .i64 code) := HBN.out.cell 6
    by_cases hcode : code = 0
    rotate_left
    · have HF : Sec (res = ([], [], [], [], 0)) := ⟨HE3.out.trans (if_pos (Decidable.byContradiction fun hx => hcode (by have := HDD.out.2 hx; injection this with _ h2; injection h2)))⟩
      have hcb : (code != 0) = true := by simpa using hcode
      have rc0 : w11.cell? ⟨w.heap.size, 0, none⟩ = some (.slice none 0 0) := HB11.out.cell 0
      have rf0 : w11.frozen? ⟨w.heap.size, 0, none⟩ = false := HB11.out.frozen 0
      have rc1 : w11.cell? ⟨w.heap.size, 1, none⟩ = some (.slice none 0 0) := HB11.out.cell 1
      have rf1 : w11.frozen? ⟨w.heap.size, 1, none⟩ = false := HB11.out.frozen 1
      have rc2 : w11.cell? ⟨w.heap.size, 2, none⟩ = some (.slice none 0 0) := HB11.out.cell 2
      have rf2 : w11.frozen? ⟨w.heap.size, 2, none⟩ = false := HB11.out.frozen 2
      have rc3 : w11.cell? ⟨w.heap.size, 3, none⟩ = some (.slice none 0 0) := HB11.out.cell 3
      have rf3 : w11.frozen? ⟨w.heap.size, 3, none⟩ = false := HB11.out.frozen 3
      have rc4 : w11.cell? ⟨w.heap.size, 4, none⟩ = some (.int .i64 0) := HB11.out.cell 4
      have rf4 : w11.frozen? ⟨w.heap.size, 4, none⟩ = false := HB11.out.frozen 4
      have hwr : w.heap.size < w11.heap.size := HB11.out.lt
      have HFB := Sec.mk (set5_blk HB11.out (.slice none 0 0) (.slice none 0 0) (.slice none 0 0) (.slice none 0 0) (.int .i64 0))
      have HFM := set5_mod w11 (w.heap.size) (.slice none 0 0) (.slice none 0 0) (.slice none 0 0) (.slice none 0 0) (.int .i64 0)
      have HMG := Sec.mk ((HM11.out.mono (T := fun k => w.heap.size ≤ k) (fun i hlt h => h.elim)).trans HFM (fun i hi hlt => by omega))
      clear HFM
      go_wp2
      refine bodyPost_ret (results_blk rfl rfl HFB.out Tryd.underlying27 (by kernel_rfl)) rfl ?_
      rw [HF.out]
      exact ⟨_, rfl, (zOut4 (fun k => w.heap.size ≤ k) _ (by decide)).disk (fun k h => h), HMG.out.mono (fun i hlt h => by omega)⟩
    have HF : Sec (res = dn) := ⟨by
      have hx : ¬ (q < (fr.length : Int) ∨ 1000000 < q) := fun hx => HDD.out.1 hx hcode
      rw [HE3.out, if_neg hx]
      have := HDD.out.2 hx
      injection this with h1
      exact h1.symm⟩
    subst hcode
    have rc0 : w11.cell? ⟨w.heap.size, 0, none⟩ = some (.slice none 0 0) := HB11.out.cell 0
    have rf0 : w11.frozen? ⟨w.heap.size, 0, none⟩ = false := HB11.out.frozen 0
    have rc1 : w11.cell? ⟨w.heap.size, 1, none⟩ = some (.slice none 0 0) := HB11.out.cell 1
    have rf1 : w11.frozen? ⟨w.heap.size, 1, none⟩ = false := HB11.out.frozen 1
    have rc2 : w11.cell? ⟨w.heap.size, 2, none⟩ = some (.slice none 0 0) := HB11.out.cell 2
    have rf2 : w11.frozen? ⟨w.heap.size, 2, none⟩ = false := HB11.out.frozen 2
    have rc3 : w11.cell? ⟨w.heap.size, 3, none⟩ = some (.slice none 0 0) := HB11.out.cell 3
    have rf3 : w11.frozen? ⟨w.heap.size, 3, none⟩ = false := HB11.out.frozen 3
    have rc4 : w11.cell? ⟨w.heap.size, 4, none⟩ = some (.int .i64 0) := HB11.out.cell 4
    have rf4 : w11.frozen? ⟨w.heap.size, 4, none⟩ = false := HB11.out.frozen 4
    have hwr : w.heap.size < w11.heap.size := HB11.out.lt
    have HFB := Sec.mk (set5_blk HB11.out (.slice z0 dn.1.length z0') (.slice z1 dn.2.1.length z1') (.slice z2 dn.2.2.1.length z2') (.slice z3 dn.2.2.2.1.length z3') (.int .i64 dn.2.2.2.2))
    have HFM := set5_mod w11 w.heap.size (.slice z0 dn.1.length z0') (.slice z1 dn.2.1.length z1') (.slice z2 dn.2.2.1.length z2') (.slice z3 dn.2.2.2.1.length z3') (.int .i64 dn.2.2.2.2)
    have H4 := Sec.mk (HO11.out.keep HFM (fun k h e => by omega))
    have HMG := Sec.mk ((HM11.out.mono (T := fun k => w.heap.size ≤ k) (fun i hlt h => h.elim)).trans HFM (fun i hi hlt => by omega))
    clear HFM
    go_wp2
    refine bodyPost_ret (results_blk rfl rfl HFB.out Tryd.underlying27 (by kernel_rfl)) rfl ?_
    rw [HF.out]
    exact ⟨_, rfl, H4.out.disk (fun k h => by omega), HMG.out.mono (fun i hlt h => by omega)⟩
  have HF : Sec (res = ([], [], [], [], 0)) := ⟨HE.out.trans ((if_neg hk1).trans (if_neg hk3))⟩
  have hk1b : (kind == 1) = false := by simp only [beq_eq_false_iff_ne]; exact hk1
  have hk3b : (kind == 3) = false := by simp only [beq_eq_false_iff_ne]; exact hk3
  have rc0 : wz.cell? ⟨w.heap.size, 0, none⟩ = some (.slice none 0 0) := HBR.out.cell 0
  have rf0 : wz.frozen? ⟨w.heap.size, 0, none⟩ = false := HBR.out.frozen 0
  have rc1 : wz.cell? ⟨w.heap.size, 1, none⟩ = some (.slice none 0 0) := HBR.out.cell 1
  have rf1 : wz.frozen? ⟨w.heap.size, 1, none⟩ = false := HBR.out.frozen 1
  have rc2 : wz.cell? ⟨w.heap.size, 2, none⟩ = some (.slice none 0 0) := HBR.out.cell 2
  have rf2 : wz.frozen? ⟨w.heap.size, 2, none⟩ = false := HBR.out.frozen 2
  have rc3 : wz.cell? ⟨w.heap.size, 3, none⟩ = some (.slice none 0 0) := HBR.out.cell 3
  have rf3 : wz.frozen? ⟨w.heap.size, 3, none⟩ = false := HBR.out.frozen 3
  have rc4 : wz.cell? ⟨w.heap.size, 4, none⟩ = some (.int .i64 0) := HBR.out.cell 4
  have rf4 : wz.frozen? ⟨w.heap.size, 4, none⟩ = false := HBR.out.frozen 4
  have hwr : w.heap.size < wz.heap.size := HBR.out.lt
  have HFB := Sec.mk (set5_blk HBR.out (.slice none 0 0) (.slice none 0 0) (.slice none 0 0) (.slice none 0 0) (.int .i64 0))
  have HFM := set5_mod wz (w.heap.size) (.slice none 0 0) (.slice none 0 0) (.slice none 0 0) (.slice none 0 0) (.int .i64 0)
  have HMG := Sec.mk ((HM0.out.mono (T := fun k => w.heap.size ≤ k) (fun i hlt h => h.elim)).trans HFM (fun i hi hlt => by omega))
  clear HFM
  go_wp2
  refine bodyPost_ret (results_blk rfl rfl HFB.out Tryd.underlying27 (by kernel_rfl)) rfl ?_
  rw [HF.out]
  exact ⟨_, rfl, (zOut4 (fun k => w.heap.size ≤ k) _ (by decide)).disk (fun k h => h), HMG.out.mono (fun i hlt h => by omega)⟩
end Go.Proofs.YtiaknomadhgckaaDoor
