/- The walk of the law FnQuotes. -/
import Derived.Test.YtciiejkfppnimaaQ3
import Derived.Test.YtciiejkfppnimaaDrawQ
import Derived.Test.YtciiejkfppnimaaSame
import Derived.Test.YtciiejkfppnimaaMboxV
import Derived.Test.YtciiejkfppnimaaQuote
import Derived.Test.YtciiejkfppnimaaUnquote
import Derived.Test.YtciiejkfppnimaaEntry
import Derived.Deep.DeepCutAuto
import Derived.Deep.Cut
namespace Go.Proofs.Ytciiejkfppnimaa
open Go.RowKit Mem
set_option linter.unusedVariables false
set_option linter.unusedSimpArgs false
theorem quoteI_at {A : Option Addr} {n c : Nat} {xs : Bytes} {B : Nat → Prop} {w : World} (h : Row Ty.byte w B A n xs) (hB : ∀ k, B k → k < w.heap.size) (hc : n ≤ c) (hl : xs.length ≤ 4294967296) : Calls Try.prog 9 #[.slice A n c] w (RetOwn Ty.byte 5 w (quote xs)) := by
  obtain rfl := h.1
  exact quoteImpl_calls h hB hc hl
theorem entryI_at {A : Option Addr} {n c : Nat} {xs : Bytes} {B : Nat → Prop} {w : World} (h : Row Ty.byte w B A n xs) (hB : ∀ k, B k → k < w.heap.size) (hc : n ≤ c) (hl : xs.length ≤ 4294967296) : Calls Try.prog 10 #[.slice A n c] w (RetOwn Ty.byte 5 w (entry xs)) := by
  obtain rfl := h.1
  exact entryImpl_calls h hB hc hl
theorem entry_entL {l : Bytes} (h : l.length ≤ 8000) : entry l = entL l := by
  obtain ⟨ls, -, -, hq⟩ := fin_shape l
  unfold entry entL
  rw [if_neg (by omega), hq]
  show fromLine ++ quote l ++ (if bare l = true then [10] else []) ++ [10] = fromMail ++ (quote l ++ (if bareL l = true then [10] else [])) ++ [10]
  rw [← List.append_assoc]
  rfl
theorem finL_len (l : Bytes) : (finL l).length ≤ l.length + 1 := by unfold finL; split <;> simp
theorem entL_short {l : Bytes} (h : l.length ≤ 1000) : (entL l).length ≤ 2100 := by
  have h1 := quote_len (finL l)
  have h2 := finL_len l
  rw [entL_len]; omega
theorem flat_short : ∀ {bs : List Bytes}, (∀ b, b ∈ bs → b.length ≤ 1000) → (bs.flatMap entL).length ≤ 2100 * bs.length
  | [], _ => by simp
  | b :: bs, h => by
    have h1 := flat_short (fun c hc => h c (List.mem_cons_of_mem b hc))
    have h2 := entL_short (h b (List.mem_cons_self))
    rw [List.flatMap_cons, List.length_append, List.length_cons]
    omega
/-- where the entries end -/
def endsL : List Bytes → Nat → List Int
  | [], _ => []
  | b :: r, a => ((a + (entL b).length : Nat) : Int) :: endsL r (a + (entL b).length)
theorem endsL_snoc (b : Bytes) : ∀ (bs : List Bytes) (a : Nat), endsL (bs ++ [b]) a = endsL bs a ++ [((a + ((bs ++ [b]).flatMap entL).length : Nat) : Int)]
  | [], a => by simp [endsL]
  | c :: r, a => by
    show _ :: endsL (r ++ [b]) _ = _
    rw [endsL_snoc b r]
    show _ = _ :: (endsL r _ ++ [_])
    simp only [List.cons_append, List.flatMap_cons, List.length_append, Nat.add_assoc]
theorem endsL_len : ∀ (bs : List Bytes) (a : Nat), (endsL bs a).length = bs.length
  | [], _ => rfl
  | b :: r, a => by show (endsL r _).length + 1 = _; rw [endsL_len r]; rfl
theorem placesL_len : ∀ (bs : List Bytes) (a : Nat), (placesL bs a).length = bs.length
  | [], _ => rfl
  | b :: r, a => by show (placesL r _).length + 1 = _; rw [placesL_len r]; rfl
theorem span_at {w w' : World} {B : Nat → Prop} {A : Option Addr} {n : Nat} {xs : List SpanT} (h : Row dSpan w B A n xs) (hb : ∀ k, B k → w'.heap[k]? = w.heap[k]?) {k : Nat} (hk : k < xs.length) :
    ∃ ad A' c', A = some ad ∧ w'.cell? (ad.add (k * 3)) = some (.int .i64 xs[k].1) ∧ w'.cell? ⟨(ad.add (k * 3)).block, (ad.add (k * 3)).off + 1, none⟩ = some (.int .i64 xs[k].2.1) ∧ w'.cell? ⟨(ad.add (k * 3)).block, (ad.add (k * 3)).off + 2, none⟩ = some (.slice A' xs[k].2.2.length c') ∧ Row Ty.byte w' B A' xs[k].2.2.length xs[k].2.2 := by
  obtain ⟨ad, cs, rfl, hK, h0, h1⟩ := h.cells_at hb hk
  obtain ⟨c0, r0, rfl, ⟨rfl, g0⟩, c1, r1, rfl, ⟨rfl, g1⟩, ⟨A', c', rfl, g2, g3, g4⟩⟩ := hK
  exact ⟨ad, A', c', rfl, h0 _ rfl, h1 0 _ rfl, h1 1 _ rfl, g4.mod (fun _ h => h) hb⟩
def offL (bs : List Bytes) (a j : Nat) : Nat := a + ((bs.take j).flatMap entL).length
theorem places_at : ∀ (bs : List Bytes) (a j : Nat) (hj : j < bs.length), (placesL bs a)[j]? = some ((offL bs a j : Int), (offL bs a (j + 1) : Int), finL bs[j]) ∧ (endsL bs a)[j]? = some (offL bs a (j + 1) : Int)
  | [], a, j, hj => by simp at hj
  | b :: r, a, 0, hj => by
    have e0 : offL (b :: r) a 0 = a := by simp [offL]
    have e1 : offL (b :: r) a 1 = a + (entL b).length := by simp [offL]
    rw [e0, e1]
    exact ⟨rfl, rfl⟩
  | b :: r, a, j + 1, hj => by
    have ih := places_at r (a + (entL b).length) j (by simpa using hj)
    have e : ∀ i, offL (b :: r) a (i + 1) = offL r (a + (entL b).length) i := fun i => by unfold offL; rw [List.take_succ_cons, List.flatMap_cons, List.length_append]; omega
    rw [e j, e (j + 1)]
    show (placesL r _)[j]? = _ ∧ (endsL r _)[j]? = _
    rw [ih.1, ih.2]
    exact ⟨rfl, rfl⟩
theorem fptSpanQ0 (p : Addr) (w : World) : (Instr.fieldAt 32 (.pointer (some p)) 0).run Try.prog w = .ok (.pointer (some p)) w := by go_simp
theorem fptSpanQ1 (p : Addr) (w : World) : (Instr.fieldAt 32 (.pointer (some p)) 1).run Try.prog w = .ok (.pointer (some ⟨p.block, p.off + 1, none⟩)) w := by go_simp
theorem fptSpanQ2 (p : Addr) (w : World) : (Instr.fieldAt 32 (.pointer (some p)) 2).run Try.prog w = .ok (.pointer (some ⟨p.block, p.off + 2, none⟩)) w := by go_simp
theorem ldIntQ {w : World} {p : Addr} {v : Value} (h : w.cell? p = some v) : (Instr.loadAt 3 (.pointer (some p))).run Try.prog w = .ok v w := by go_simp
theorem ldBsQ {w : World} {p : Addr} {v : Value} (h : w.cell? p = some v) : (Instr.loadAt 22 (.pointer (some p))).run Try.prog w = .ok v w := by go_simp
theorem neQ (a : Int) (x y : Operand) (w : World) : (do eqGuard .neq 3 x y (.int .i64 a) (.int .i64 a); binOp .neq 3 (.int .i64 a) (.int .i64 a) : Sem Value).run Try.prog w = .ok (.bool false) w := by go_simp
theorem idxIntQ (ad : Addr) (n c k : Nat) (h : k < n) (w : World) : (Instr.indexAt 24 (.slice (some ad) n c) (.int .i64 (k : Int))).run Try.prog w = .ok (.pointer (some (ad.add k))) w := by
  have hk : (k : Int) < (n : Int) := by omega
  go_simp
theorem idxBssQ (ad : Addr) (n c k : Nat) (h : k < n) (w : World) : (Instr.indexAt 23 (.slice (some ad) n c) (.int .i64 (k : Int))).run Try.prog w = .ok (.pointer (some (ad.add k))) w := by
  have hk : (k : Int) < (n : Int) := by omega
  go_simp
theorem mulInt (x y : Operand) (a b m : Int) (h : a * b = m) (hw : IntKind.i64.wrap m = m) (w : World) : (do eqGuard .mul 3 x y (.int .i64 a) (.int .i64 b); binOp .mul 3 (.int .i64 a) (.int .i64 b) : Sem Value).run Try.prog w = .ok (.int .i64 m) w := by
  subst h
  go_simp
theorem wpList_bin {P : Program} (w : World) {ops : Array Oper} {rest : List Oper} {o : Oper} {a : Act} {Q : Exit → Act → World → Prop} (hgd : o.guard = none) (op : BinOp) (t t' : TypeId) (x y : Operand) (ho : o.op = .binOp op t x y t') {n : Nat} (hd : o.dst = some n) {vx vy v : Value} (hx : a.eval x = vx) (hy : a.eval y = vy) (hr : (do eqGuard op t x y vx vy; binOp op t vx vy : Sem Value).run P w = .ok v w)
    (h : wpList P ops Q rest (a.put (some n) v) w) : wpList P ops Q (o :: rest) a w := by
  refine wpList_plain hgd fun K hK => wp_val (exec_bin ho hx hy hr) hd ?_
  rw [← hd] at h ⊢
  exact hK _ _ h
set_option maxHeartbeats 4000000 in
set_option maxRecDepth 100000 in
theorem lawFnQuotes_walk {w : World} {A A' : Option Addr} {c c' : Nat} {xs ys : Bytes} (h : Row Ty.byte w (· < w.heap.size) A xs.length xs) (hc : xs.length ≤ c) (h' : Row Ty.byte w (· < w.heap.size) A' ys.length ys) (hc' : ys.length ≤ c') : Calls Try.prog 3 #[.slice A xs.length c, .slice A' ys.length c'] w (Ret (.bool true) w) := by
  have HR := Sec.mk h
  have hmax := h.2.1
  have hmax' := h'.2.1
  clear h h'
  by_cases hlong : 1048576 < xs.length
  · have hlb : ((1048576 : Int) < (xs.length : Int)) := by omega
    go_enter Try.func3, Try.ntmps3
    go_wp2
    go_ret
    exact ⟨by simp, Mod.refl _ _⟩
  have hlb : ¬ ((1048576 : Int) < (xs.length : Int)) := by omega
  by_cases hlong' : 1048576 < ys.length
  · have hlb' : ((1048576 : Int) < (ys.length : Int)) := by omega
    go_enter Try.func3, Try.ntmps3
    go_wp2
    go_ret
    exact ⟨by simp, Mod.refl _ _⟩
  have hlb' : ¬ ((1048576 : Int) < (ys.length : Int)) := by omega
  go_enter Try.func3, Try.ntmps3
  go_wp2
  go_loopw [5, 6, 7, 8] (fun t b e i wr => ∃ (k : Nat) (bs : List Bytes) (hs : List Hdr) (A0 A1 A2 : Option Addr) (n0 c0 n1 c1 n2 c2 : Nat), k ≤ 7 ∧ i = .int .i64 (k : Int) ∧ t = .slice A0 n0 c0 ∧ b = .slice A1 n1 c1 ∧ e = .slice A2 n2 c2 ∧ bs.length = k ∧ Sec (∀ b, b ∈ bs → b.length ≤ 1000) ∧ Sec (Q3 (fun k => w.heap.size ≤ k) wr (.slice A0 n0 c0) (.slice A1 n1 c1) (.slice A2 n2 c2) (bs.flatMap entL) hs (endsL bs 0) (bs.map finL)) ∧ Sec (New w wr)) (fun _ _ _ i _ => 7 - (intOf i).toNat)
  case atStart => exact ⟨0, [], [], none, none, none, 0, 0, 0, 0, 0, 0, by omega, rfl, rfl, rfl, rfl, rfl, ⟨by simp⟩, ⟨Q3.nil _ _⟩, ⟨Mod.refl _ _⟩⟩
  case round =>
    obtain ⟨k, bs, hs, A0, A1, A2, n0, c0, n1, c1, n2, c2, hk7, rfl, rfl, rfl, rfl, hbl, HBS, HQ, HM⟩ := hrel
    by_cases hk : k < 7
    · have hki : (k : Int) < 7 := by omega
      have hkf : k * xs.length ≤ 7 * xs.length := Nat.mul_le_mul_right _ hk7
      obtain ⟨f, hf, hfl⟩ : ∃ f : Nat, ((k : Int) * (xs.length : Int)) / 7 = (f : Int) ∧ f ≤ xs.length := ⟨k * xs.length / 7, by rw [← Int.natCast_mul]; omega, by omega⟩
      have hmul : ((k : Int) * (xs.length : Int)) = ((k * xs.length : Nat) : Int) := by rw [Int.natCast_mul]
      have hwm : IntKind.i64.wrap ((k * xs.length : Nat) : Int) = ((k * xs.length : Nat) : Int) := by rw [IntKind.wrap_i64]; omega
      have HMU := Sec.mk hmul
      have HWM := Sec.mk hwm
      have hf2 : (((k * xs.length : Nat) : Int)) / 7 = (f : Int) := by rw [← hmul]; exact hf
      clear hf hmul hwm hkf
      generalize k * xs.length = pr at *
      have hsr := HM.out.size
      go_upto_region 10 with (refine wpList_bin _ rfl .mul _ _ (.tmp 27) (.tmp 29) rfl rfl rfl rfl (mulInt _ _ _ _ _ HMU.out HWM.out _) ?_)
      go_cut [10] (fun b wx => ∃ (Ab : Option Addr) (cb : Nat) (zs : Bytes), b = .slice Ab zs.length cb ∧ zs.length ≤ 2400 ∧ Sec (OwP Ty.byte 5 wx (fun k => wr.heap.size ≤ k) (.slice Ab zs.length cb) zs) ∧ Sec (New wr wx))
      case first =>
        have hrow := HR.out.cut hfl (Nat.le_refl _) hc
        rw [List.take_length] at hrow
        by_cases hcf : c = f
        · subst hcf
          rw [if_pos rfl] at hrow
          have HRW := Sec.mk (hrow.mod (w' := wr) (fun _ h => h) (fun k hk => HM.out.block k hk id))
          rw [show xs.length - c = 0 by omega] at HRW
          clear hrow
          go_wp2_with fail
          refine (drawQuote_calls HRW.out (fun k hk => Nat.lt_of_lt_of_le hk hsr) (by rw [List.length_drop]; omega)).mono ?_
          rintro e w2 ⟨Ab, cb, zs, rfl, hzl, ho2, hm2⟩
          have HO2 := Sec.mk ho2
          have HM2 := Sec.mk hm2
          clear ho2 hm2
          go_wp2
          go_meet
          exact ⟨_, _, zs, rfl, hzl, HO2, HM2⟩
        · rw [if_neg hcf] at hrow
          have HRW := Sec.mk (hrow.mod (w' := wr) (fun _ h => h) (fun k hk => HM.out.block k hk id))
          rw [show f * Ty.byte.sz = f from Nat.mul_one f] at HRW
          clear hrow
          go_wp2_with fail
          refine (drawQuote_calls HRW.out (fun k hk => Nat.lt_of_lt_of_le hk hsr) (by rw [List.length_drop]; omega)).mono ?_
          rintro e w2 ⟨Ab, cb, zs, rfl, hzl, ho2, hm2⟩
          have HO2 := Sec.mk ho2
          have HM2 := Sec.mk hm2
          clear ho2 hm2
          go_wp2
          go_meet
          exact ⟨_, _, zs, rfl, hzl, HO2, HM2⟩
      case rest =>
        rename World => w2
        obtain ⟨Ab, cb, zs, rfl, hzl, HO2, HM2⟩ := hcut
        have hs2 := HM2.out.size
        have hzc := HO2.out.len.2
        go_upto_if 38 with (fail)
        go_cut [10] (fun b wx => ∃ (Ad : Option Addr) (nb cb : Nat) (l : Bytes), b = .slice Ad nb cb ∧ nb ≤ 1000 ∧ nb ≤ cb ∧ Sec (Row Ty.byte w2 (fun k => wr.heap.size ≤ k ∧ k < w2.heap.size) Ad nb l) ∧ wx = w2)
        case first =>
          have HRW := Sec.mk (HO2.out.row.mod (w' := w2) (B' := fun k => wr.heap.size ≤ k) (fun _ h => h) (fun _ _ => rfl))
          by_cases h1000 : 1000 < zs.length
          · have hz1 : (1000 : Int) < (zs.length : Int) := by omega
            have HRT := Sec.mk ((HO2.out.row.take (m := 1000) (by omega)).mod (w' := w2) (B' := fun k => wr.heap.size ≤ k) (fun _ h => h) (fun _ _ => rfl))
            go_wp2
            go_meet
            obtain ⟨F, ho, hF⟩ := HO2.out
            have hrr := (ho.row rfl).take (m := 1000) (by omega)
            exact ⟨_, _, _, _, rfl, Nat.le_refl _, by omega, ⟨hrr.mod (fun k hk => ⟨hF k hk, ho.lt k hk⟩) (fun _ _ => rfl)⟩, rfl⟩
          · have hz1 : ¬ (1000 : Int) < (zs.length : Int) := by omega
            go_wp2
            go_meet
            obtain ⟨F, ho, hF⟩ := HO2.out
            exact ⟨_, _, _, _, rfl, by omega, hzc.1, ⟨(ho.row rfl).mod (fun k hk => ⟨hF k hk, ho.lt k hk⟩) (fun _ _ => rfl)⟩, rfl⟩
        case rest =>
          obtain ⟨Ad, nb, cd, l, rfl, hnb, hnc, HRL, hwx⟩ := hcut
          obtain rfl : w2 = wc := hwx.symm
          have hln := HRL.out.1
          clear HO2 hzc HWM HMU hf2 hzl
          have hwq : wr.heap.size ≤ w2.heap.size := hs2
          go_wp2_with fail
          refine (quoteI_at HRL.out (fun k hk => hk.2) hnc (by omega)).mono ?_
          intro e w3 h3
          obtain ⟨A3, c3, rfl, ho3⟩ := h3.mine
          have HN3 := Sec.mk ho3.new
          have HR3 := Sec.mk (ho3.row.mod (w' := w3) (B' := (· < w3.heap.size)) (fun _ h => h.2) (fun _ _ => rfl))
          have hc3 := ho3.len.2.1
          have hq3 := quote_len l
          clear h3 ho3
          go_wp2_with fail
          refine (unquoteImpl_calls HR3.out (fun _ h => h) hc3 (by omega)).mono ?_
          intro e w4 h4
          obtain ⟨A4, c4, rfl, ho4⟩ := h4.mine
          have HN4 := Sec.mk (HN3.out.transN ho4.new)
          have HR4 := Sec.mk (ho4.row.mod (w' := w4) (B' := (· < w4.heap.size)) (fun _ h => h.2) (fun _ _ => rfl))
          have HRL4 := Sec.mk (HRL.out.mod (w' := w4) (fun _ h => h) (fun k hk => HN4.out.block k hk.2 id))
          have HUQ := Sec.mk (unquote_quote l)
          clear h4 ho4 HN3 HR3
          go_wp2_with fail
          refine (sameBytes_calls HR4.out HRL4.out).mono ?_
          rintro e w5 ⟨rfl, rfl⟩
          rw [show decide (unquote (quote l) = l) = true by rw [HUQ.out]; simp]
          clear HR4 hc3 hq3
          go_wp2_with fail
          refine (entryI_at HRL4.out (fun k hk => Nat.lt_of_lt_of_le hk.2 HN4.out.size) hnc (by omega)).mono ?_
          intro e w6 h6
          have hl1 : l.length ≤ 1000 := by omega
          rw [entry_entL (show l.length ≤ 8000 by omega)] at h6
          obtain ⟨A6, c6, rfl, ho6⟩ := h6.mine
          have HN6 := Sec.mk (HN4.out.transN ho6.new)
          have HR6 := Sec.mk (ho6.row.mod (w' := w6) (B' := (· < w6.heap.size)) (fun _ h => h.2) (fun _ _ => rfl))
          have hs6 := HN6.out.size
          have HQ6 := Sec.mk ((HQ.out.wide (X' := fun k => w.heap.size ≤ k ∧ (k < wr.heap.size ∨ w2.heap.size ≤ k)) (fun k h1 h2 => ⟨h2, Or.inl h1⟩)).new (HM2.out.transN HN6.out))
          have HRL6 := Sec.mk (HRL.out.mod (w' := w6) (fun _ h => h) (fun k hk => HN6.out.block k hk.2 id))
          have HMW := Sec.mk ((HM.out.transN HM2.out).transN HN6.out)
          have HBB : Sec (∀ b, b ∈ bs ++ [l] → b.length ≤ 1000) := ⟨fun b hb => by
            rcases List.mem_append.1 hb with hb | hb
            · exact HBS.out b hb
            · rw [List.mem_singleton.1 hb]; exact hl1⟩
          have hfl := flat_short HBB.out
          rw [List.flatMap_append, List.length_append, List.length_append, List.length_singleton, List.flatMap_singleton] at hfl
          have hel := endsL_len bs 0
          have HBL := Sec.mk hbl
          have HEL := Sec.mk hel
          have hcar : w.heap.size ≤ wr.heap.size := HM.out.size
          clear h6 ho6 HUQ HN4 HRL4 hel
          go_upto_region 17 with (first
            | (at_builtin; refine Q3.listT _ rfl (.tmp 47) (.tmp 49) _ rfl Try.underlying22 rfl rfl HQ6.out HR6.out (fun k hk => ⟨by omega, Or.inr (by omega)⟩) (by omega) ?_; intro A7 n7 c7 w7 h7 hm7; have HQ7 := Sec.mk h7; have hs7 := hm7.size; have HRL7 := Sec.mk (HRL6.out.mod (w' := w7) (fun _ h => h) (fun k hk => hm7.block k (by omega) (by omega))); have HM7 := Sec.mk (HMW.out.trans hm7 (fun i hi hlt => by omega)); have HN7 := Sec.mk h7.row0.2.2; clear h7 hm7)
            | (at_builtin; go_loud (refine Q3.listE (y := (n7 : Int)) _ rfl (.tmp 51) (.tmp 54) _ rfl Try.underlying24 rfl rfl (HQ7.out.new ((Mod.refl _ _).alloc _)) ((Blk.new w7 3 [.int .i64 (n7 : Int)]).cell 0) (by have hn7 := HN7.out; rw [IntKind.wrap_i64]; rw [List.length_append] at hn7; omega) (fun k hk => by simp at hk; exact ⟨by omega, Or.inr (by omega)⟩) (by rw [HEL.out, HBL.out]; omega) ?_; intro A9 n9 c9 w9 h9 hm9; have HQ9 := Sec.mk h9; have hs9 : w7.heap.size ≤ w9.heap.size := (by have := hm9.size; simp at this; omega); have HRL9 := Sec.mk (HRL7.out.mod (w' := w9) (fun _ h => h) (fun k hk => ((Below.heap_alloc _ _ _ (by omega)).symm.trans (hm9.block k (by simp; omega) (by omega)).symm).symm)); have HM9 := Sec.mk ((HM7.out.alloc _).trans hm9 (fun i hi hlt => by omega)); clear h9 hm9)))
          go_cut [67] (fun b wx => b = .bool (bareL l) ∧ wx = w9)
          case first =>
            by_cases hl0 : l.length = 0
            · have hnb0 : ¬ (0 : Int) < (nb : Int) := by omega
              have hb : Sec (bareL l = false) := ⟨by rw [List.eq_nil_of_length_eq_zero hl0]; rfl⟩
              go_wp2
              go_meet
              exact ⟨by rw [hb.out], rfl⟩
            · subst hln
              obtain ⟨al, hAl, hcl⟩ := HRL9.out.byte_at (w' := w9) (fun _ _ => rfl) (k := l.length - 1) (by omega)
              subst hAl
              have hb : Sec (bareL l = (((l[l.length - 1]'(by omega)).toNat : Int) != 10)) := ⟨by
                rw [u8_ne10]
                exact bare_at l (by omega)⟩
              have hnbp : (0 : Int) < (l.length : Int) := by omega
              generalize ((l[l.length - 1]'(by omega)).toNat : Int) = bt at *
              go_wp2
              go_meet
              exact ⟨by rw [hb.out], rfl⟩
          case rest =>
            obtain ⟨rfl, hwx⟩ := hcut
            obtain rfl : w9 = wc := hwx.symm
            have HFL := Sec.mk (finL_len l)
            have hlh : hs.length = bs.length := by
              obtain ⟨F0, F1, F2, -, -, -, -, -, -, -, hh⟩ := HQ9.out
              have := hh.1
              simpa using this
            have HSN : Sec (endsL (bs ++ [l]) 0 = endsL bs 0 ++ [(n7 : Int)]) := ⟨by rw [endsL_snoc, Nat.zero_add, HN7.out, List.flatMap_append, List.flatMap_singleton]⟩
            cases hb : bareL l
            · have hfin : finL l = l := by unfold finL; rw [hb]; rfl
              have HFI := Sec.mk hfin
              clear hb hfin
              go_wp2_with (at_builtin; go_loud (refine Q3.listB (y := ⟨Ad, nb, cd⟩) (l := l) _ rfl (.tmp 73) (.tmp 75) _ rfl Try.underlying23 rfl rfl (HQ9.out.new ((Mod.refl _ _).alloc _)) ((Blk.new w9 22 [.slice Ad nb cd]).cell 0) (HRL9.out.mod (fun _ h => h) (fun k hk => Below.heap_alloc _ _ _ (by omega))) hnc (fun k hk => ⟨by simp; omega, by omega⟩) (fun k hk => by simp at hk; exact ⟨by omega, Or.inr (by omega)⟩) (by omega) ?_; intro A10 n10 c10 w10 h10 hm10; have HQ10 := Sec.mk h10; have HM10 := Sec.mk ((HM9.out.alloc _).trans hm10 (fun i hi hlt => by omega)); clear h10 hm10))
              go_roundw
              case rel =>
                refine ⟨k + 1, bs ++ [l], hs ++ [⟨Ad, nb, cd⟩], A7, A10, A9, n7, c7, n10, c10, n9, c9, by omega, by go_num, rfl, rfl, rfl, by rw [List.length_append, List.length_singleton]; omega, HBB, ⟨?_⟩, HM10⟩
                have := HQ10.out.wide (X' := fun k => w.heap.size ≤ k) (fun k h1 h2 => h2.1)
                rw [HSN.out, List.flatMap_append, List.flatMap_singleton, List.map_append, List.map_singleton, HFI.out]
                exact this
              case measure => simp [intOf]; omega
            · have hfin : finL l = l ++ [10] := by unfold finL; rw [hb]; rfl
              have HFI := Sec.mk hfin
              clear hb hfin
              have HM1 : Sec (Mine Ty.byte 5 w9 (w9.alloc (.cells #[] 5)) (.slice (some ⟨w9.heap.size, 0, none⟩) 0 0) []) := ⟨Mine.lit0 _ rfl (Mod.refl _ _)⟩
              go_wp2_with (first
                | (at_builtin; refine wpList_app _ rfl (.tmp 68) (.tmp 69) _ rfl Try.underlying22 elt_byte flat_byte rfl rfl HM1.out (HRL9.out.mod (fun _ h => h) (fun k hk => Below.heap_alloc _ _ _ (by omega))) (show ([] : Bytes).length + l.length ≤ 34359738368 by simp; omega) ?_; intro A11 n11 c11 w11 h11; have HO11 := Sec.mk h11; clear h11)
                | (at_builtin; refine wpList_app _ rfl (.tmp 70) (.tmp 71) _ rfl Try.underlying22 elt_byte flat_byte rfl rfl (HO11.out.alloc _) (Row.one _ _ 10 _ rfl) (show ([] ++ l : Bytes).length + 1 ≤ 34359738368 by rw [List.nil_append]; omega) ?_; intro A12 n12 c12 w12 h12; rw [List.nil_append] at h12; have HO12 := Sec.mk h12; have hs12 := h12.new.size; have HQ12 := Sec.mk ((HQ9.out.wide (X' := fun k => w.heap.size ≤ k ∧ (k < wr.heap.size ∨ (w2.heap.size ≤ k ∧ k < w9.heap.size) ∨ w12.heap.size ≤ k)) (fun k h1 h2 => ⟨h2.1, by omega⟩)).new h12.new); have HM12 := Sec.mk (HM9.out.transN h12.new); have HR12 := Sec.mk h12.row; have hc12 := h12.len.2.1; clear h12)
                | (at_builtin; go_loud (refine Q3.listB (y := ⟨A12, n12, c12⟩) (l := l ++ [10]) _ rfl (.tmp 73) (.tmp 75) _ rfl Try.underlying23 rfl rfl (HQ12.out.new ((Mod.refl _ _).alloc _)) ((Blk.new w12 22 [.slice A12 n12 c12]).cell 0) (HR12.out.mod (fun _ h => h) (fun k hk => Below.heap_alloc _ _ _ hk.2)) hc12 (fun k hk => ⟨by simp; omega, by omega⟩) (fun k hk => by simp at hk; exact ⟨by omega, Or.inr (by omega)⟩) (by omega) ?_; intro A10 n10 c10 w10 h10 hm10; have HQ10 := Sec.mk h10; have HM10 := Sec.mk ((HM12.out.alloc _).trans hm10 (fun i hi hlt => by omega)); clear h10 hm10)))
              go_roundw
              case rel =>
                refine ⟨k + 1, bs ++ [l], hs ++ [⟨A12, n12, c12⟩], A7, A10, A9, n7, c7, n10, c10, n9, c9, by omega, by go_num, rfl, rfl, rfl, by rw [List.length_append, List.length_singleton]; omega, HBB, ⟨?_⟩, HM10⟩
                have := HQ10.out.wide (X' := fun k => w.heap.size ≤ k) (fun k h1 h2 => h2.1)
                rw [HSN.out, List.flatMap_append, List.flatMap_singleton, List.map_append, List.map_singleton, HFI.out]
                exact this
              case measure => simp [intOf]; omega
    · obtain rfl : k = 7 := by omega
      rename World => wq
      have hs7 : (bs.flatMap entL).length ≤ 2100 * bs.length := flat_short HBS.out
      obtain ⟨hr0, hc0, hn0⟩ := HQ.out.row0
      have HRT : Sec (RdV false dBS wq (.slice A0 n0 c0) (bs.flatMap entL)) := ⟨by
        subst hn0
        exact RdV.of_row hr0 hc0 (by obtain ⟨F0, F1, F2, o0, -⟩ := HQ.out; obtain ⟨A9, c9, hv, h1, h2⟩ := o0.form; injection hv with _ _ e3; subst e3; exact h2)⟩
      have HMB := Sec.mk (mbox_entries bs (by omega))
      clear hr0 hc0 hn0
      go_wp2_with fail
      refine (implMboxSplit_v HRT.out (by unfold szBS; omega)).mono ?_
      rintro e w2 ⟨v2, rfl, ho2, hm2⟩
      rw [show MboxSplitL (bs.flatMap entL) = (true, placesL bs 0) from HMB.out] at ho2
      have HO2 := Sec.mk ho2.rd
      obtain ⟨v1, rfl, k1⟩ := rdSpans ho2.rd
      obtain ⟨Ag, cg, rfl, hcg, hrg⟩ := k1.slice
      have hpl := placesL_len bs 0
      have hpl7 : (placesL bs 0).length = 7 := by omega
      have HN2 := Sec.mk hm2
      simp only at hrg ⊢
      rw [hpl7] at hrg ⊢
      have HRG := Sec.mk (hrg.mod (w' := w2.alloc (.cells #[.bool true, .slice Ag 7 cg] 29)) (fun _ h => h) (fun k hk => Below.heap_alloc _ _ _ hk))
      have HPA := Sec.mk (fun j hj => places_at bs 0 j hj)
      have HPL := Sec.mk hpl7
      have HGB := Sec.mk (Blk.new w2 29 [.bool true, .slice Ag 7 cg])
      have HMG := Sec.mk ((HM.out.transN hm2).alloc (.cells #[.bool true, .slice Ag 7 cg] 29))
      have HBL := Sec.mk hbl
      have HNA : Sec (New wq (w2.alloc (.cells #[.bool true, .slice Ag 7 cg] 29))) := ⟨hm2.alloc _⟩
      have hwB : w2.heap.size ≤ (w2.alloc (.cells #[.bool true, .slice Ag 7 cg] 29)).heap.size := by simp
      obtain ⟨F0, F1, F2, o0, o1, o2, d01, d02, d12, hX, hh⟩ := HQ.out
      have hh1 : hs.length = 7 := by have := hh.1; simpa [hbl] using this
      obtain ⟨A1', c1', hv1, -⟩ := o1.form
      obtain ⟨A2', c2', hv2, -⟩ := o2.form
      injection hv1 with ea1 ea2 ea3
      injection hv2 with eb1 eb2 eb3
      have he7 : (endsL bs 0).length = 7 := by rw [endsL_len]; exact hbl
      subst ea1 ea3 eb1 eb3
      rw [hh1] at ea2
      rw [he7] at eb2
      subst ea2 eb2
      have HO1 := Sec.mk o1
      have HO2s := Sec.mk o2
      have HHD := Sec.mk hh
      have HE7 := Sec.mk he7
      have HH1 := Sec.mk hh1
      clear hpl hpl7 hrg hcg k1 ho2 hm2 hs7 HMB HRT HO2 hbl o0 o1 o2 d01 d02 d12 hX hh he7 hh1
      go_wp2
      generalize w2.alloc (.cells #[.bool true, .slice Ag 7 cg] 29) = wB at *
      go_loopw [12, 91] (fun a i wr => ∃ j : Nat, j ≤ 7 ∧ i = .int .i64 (j : Int) ∧ a = .int .i64 (offL bs 0 j : Int) ∧ Sec (New wB wr)) (fun _ i _ => 7 - (intOf i).toNat)
      case atStart => exact ⟨0, by omega, rfl, by simp [offL], ⟨Mod.refl _ _⟩⟩
      case round =>
        obtain ⟨j, hj7, rfl, rfl, HMr⟩ := hrel
        by_cases hj : j < 7
        · have hjb : j < bs.length := by rw [HBL.out]; exact hj
          have hji : (j : Int) < 7 := by omega
          obtain ⟨hP, hE⟩ := HPA.out j hjb
          obtain ⟨hjp, hp⟩ := List.getElem?_eq_some_iff.1 hP
          obtain ⟨hje, he⟩ := List.getElem?_eq_some_iff.1 hE
          obtain ⟨ag, Ab, cb, hAg, s0, s1, s2, hrb⟩ := span_at (HRG.out.mod (w' := wr) (fun _ h => h) (fun k hk => HMr.out.block k (Nat.lt_of_lt_of_le hk hwB) id)) (w' := wr) (fun _ _ => rfl) hjp
          rw [hp] at s0 s1 s2 hrb
          simp only at s0 s1 s2 hrb
          obtain ⟨g2, hA2, -, hce, -, -⟩ := HO2s.out.int_elem hje
          rw [he] at hce
          obtain ⟨a1, Ac, cc, hA1, hcb, hccl, hrc⟩ := HHD.out.at_ (HO1.out.row rfl) (k := j) (by simp; exact hjb)
          rw [List.getElem_map] at hcb hccl hrc
          have HRb := Sec.mk hrb
          have HRc := Sec.mk (hrc.mod (w' := wr) (fun _ h => h) (fun k hk => (HNA.out.transN HMr.out).block k hk.1 id))
          have hce' := (HNA.out.transN HMr.out).cell_of hce
          have hcb' := (HNA.out.transN HMr.out).cell_of hcb
          clear hP hE hp he hrb hrc hce hcb
          subst hAg hA2 hA1
          generalize finL bs[j] = bd at *
          generalize hoj : offL bs 0 j = oj at *
          generalize hok : offL bs 0 (j + 1) = ok at *
          have HBK := Sec.mk (Blk.new wr 32 [.int .i64 (oj : Int), .int .i64 (ok : Int), .slice Ab bd.length cb])
          have HMA := Sec.mk (HMr.out.alloc (.cells #[.int .i64 (oj : Int), .int .i64 (ok : Int), .slice Ab bd.length cb] 32))
          have hce2 := (HMr.out.alloc (.cells #[.int .i64 (oj : Int), .int .i64 (ok : Int), .slice Ab bd.length cb] 32))
          have HCE : Sec ((wr.alloc (.cells #[.int .i64 (oj : Int), .int .i64 (ok : Int), .slice Ab bd.length cb] 32)).cell? ⟨g2, j, none⟩ = some (.int .i64 (ok : Int)) ∧ (wr.alloc (.cells #[.int .i64 (oj : Int), .int .i64 (ok : Int), .slice Ab bd.length cb] 32)).cell? (a1.add j) = some (.slice Ac bd.length cc)) := ⟨((Mod.refl (fun _ => False) wr).alloc _).cell_of hce', ((Mod.refl (fun _ => False) wr).alloc _).cell_of hcb'⟩
          have HRbA := Sec.mk (HRb.out.mod (w' := wr.alloc (.cells #[.int .i64 (oj : Int), .int .i64 (ok : Int), .slice Ab bd.length cb] 32)) (fun _ h => h) (fun k hk => Below.heap_alloc _ _ _ (Nat.lt_of_lt_of_le (Nat.lt_of_lt_of_le hk hwB) HMr.out.size)))
          have HRcA := Sec.mk (HRc.out.mod (w' := wr.alloc (.cells #[.int .i64 (oj : Int), .int .i64 (ok : Int), .slice Ab bd.length cb] 32)) (fun _ h => h) (fun k hk => Below.heap_alloc _ _ _ (Nat.lt_of_lt_of_le hk.1 (HNA.out.transN HMr.out).size)))
          clear hce2 hce' hcb' hccl
          go_wp2
          clear s0 s1 s2
          generalize wr.alloc (.cells #[.int .i64 (oj : Int), .int .i64 (ok : Int), .slice Ab bd.length cb] 32) = wD at *
          refine reg_start [] (fun W => Sec (W.cell? ⟨wr.heap.size, 0, none⟩ = some (.int .i64 (oj : Int)) ∧ W.cell? ⟨wr.heap.size, 1, none⟩ = some (.int .i64 (ok : Int)) ∧ W.cell? ⟨wr.heap.size, 2, none⟩ = some (.slice Ab bd.length cb) ∧ W.cell? ⟨g2, j, none⟩ = some (.int .i64 (ok : Int)) ∧ W.cell? (a1.add j) = some (.slice Ac bd.length cc))) (by kernel_rfl) ?_
          have HSS : Sec (wD.drew.cell? ⟨wr.heap.size, 0, none⟩ = some (.int .i64 (oj : Int)) ∧ wD.drew.cell? ⟨wr.heap.size, 1, none⟩ = some (.int .i64 (ok : Int)) ∧ wD.drew.cell? ⟨wr.heap.size, 2, none⟩ = some (.slice Ab bd.length cb) ∧ wD.drew.cell? ⟨g2, j, none⟩ = some (.int .i64 (ok : Int)) ∧ wD.drew.cell? (a1.add j) = some (.slice Ac bd.length cc)) := ⟨HBK.out.cell 0, HBK.out.cell 1, HBK.out.cell 2, HCE.out.1, HCE.out.2⟩
          refine reg_take (.pointer (some ⟨wr.heap.size, 0, none⟩)) (i := 0) (n := 96) HSS rfl (by kernel_rfl) (by kernel_rfl) (by kernel_rfl) (by kernel_rfl) (fun _ _ _ h => h) (fun W hW => exec_field rfl rfl (fptSpanQ0 _ _)) ?_
          simp only [Act.put, List.setIfInBounds_toArray, List.set_cons_zero, List.set_cons_succ]
          refine reg_take (.int .i64 (oj : Int)) (i := 1) (n := 97) HSS rfl (by kernel_rfl) (by kernel_rfl) (by kernel_rfl) (by kernel_rfl) (fun _ _ _ h => h) (fun W hW => exec_load rfl rfl (ldIntQ hW.out.1)) ?_
          simp only [Act.put, List.setIfInBounds_toArray, List.set_cons_zero, List.set_cons_succ]
          refine reg_take (.int .i64 (oj : Int)) (i := 2) (n := 98) HSS rfl (by kernel_rfl) (by kernel_rfl) (by kernel_rfl) (by kernel_rfl) (fun _ _ _ h => h) (fun W hW => exec_move rfl rfl) ?_
          simp only [Act.put, List.setIfInBounds_toArray, List.set_cons_zero, List.set_cons_succ]
          refine reg_take (.bool false) (i := 3) (n := 99) HSS rfl (by kernel_rfl) (by kernel_rfl) (by kernel_rfl) (by kernel_rfl) (fun _ _ _ h => h) (fun W hW => exec_bin rfl rfl rfl (neQ _ _ _ _)) ?_
          simp only [Act.put, List.setIfInBounds_toArray, List.set_cons_zero, List.set_cons_succ]
          refine reg_take (.bool false) (i := 4) (n := 100) HSS rfl (by kernel_rfl) (by kernel_rfl) (by kernel_rfl) (by kernel_rfl) (fun _ _ _ h => h) (fun W hW => exec_move rfl rfl) ?_
          simp only [Act.put, List.setIfInBounds_toArray, List.set_cons_zero, List.set_cons_succ]
          refine reg_takeG (.pointer (some ⟨wr.heap.size, 1, none⟩)) (i := 5) (n := 101) HSS rfl (by rfl) (by kernel_rfl) (by kernel_rfl) (by kernel_rfl) (by kernel_rfl) (fun _ _ _ h => h) (fun W hW => exec_field rfl rfl (fptSpanQ1 _ _)) ?_
          simp only [Act.put, List.setIfInBounds_toArray, List.set_cons_zero, List.set_cons_succ]
          refine reg_takeG (.int .i64 (ok : Int)) (i := 6) (n := 102) HSS rfl (by rfl) (by kernel_rfl) (by kernel_rfl) (by kernel_rfl) (by kernel_rfl) (fun _ _ _ h => h) (fun W hW => exec_load rfl rfl (ldIntQ hW.out.2.1)) ?_
          simp only [Act.put, List.setIfInBounds_toArray, List.set_cons_zero, List.set_cons_succ]
          refine reg_takeG (.slice (some ⟨g2, 0, none⟩) 7 c2) (i := 7) (n := 103) HSS rfl (by rfl) (by kernel_rfl) (by kernel_rfl) (by kernel_rfl) (by kernel_rfl) (fun _ _ _ h => h) (fun W hW => exec_move rfl rfl) ?_
          simp only [Act.put, List.setIfInBounds_toArray, List.set_cons_zero, List.set_cons_succ]
          refine reg_takeG (.int .i64 (j : Int)) (i := 8) (n := 104) HSS rfl (by rfl) (by kernel_rfl) (by kernel_rfl) (by kernel_rfl) (by kernel_rfl) (fun _ _ _ h => h) (fun W hW => exec_move rfl rfl) ?_
          simp only [Act.put, List.setIfInBounds_toArray, List.set_cons_zero, List.set_cons_succ]
          refine reg_takeG (.pointer (some ⟨g2, j, none⟩)) (i := 9) (n := 105) HSS rfl (by rfl) (by kernel_rfl) (by kernel_rfl) (by kernel_rfl) (by kernel_rfl) (fun _ _ _ h => h) (fun W hW => exec_indexAddr rfl rfl rfl ((idxIntQ ⟨g2, 0, none⟩ _ _ _ hj _).trans (by rw [add_own]))) ?_
          simp only [Act.put, List.setIfInBounds_toArray, List.set_cons_zero, List.set_cons_succ]
          refine reg_takeG (.int .i64 (ok : Int)) (i := 10) (n := 106) HSS rfl (by rfl) (by kernel_rfl) (by kernel_rfl) (by kernel_rfl) (by kernel_rfl) (fun _ _ _ h => h) (fun W hW => exec_load rfl rfl (ldIntQ hW.out.2.2.2.1)) ?_
          simp only [Act.put, List.setIfInBounds_toArray, List.set_cons_zero, List.set_cons_succ]
          refine reg_takeG (.bool false) (i := 11) (n := 107) HSS rfl (by rfl) (by kernel_rfl) (by kernel_rfl) (by kernel_rfl) (by kernel_rfl) (fun _ _ _ h => h) (fun W hW => exec_bin rfl rfl rfl (neQ _ _ _ _)) ?_
          simp only [Act.put, List.setIfInBounds_toArray, List.set_cons_zero, List.set_cons_succ]
          refine reg_take (.bool false) (i := 12) (n := 108) HSS rfl (by kernel_rfl) (by kernel_rfl) (by kernel_rfl) (by kernel_rfl) (fun _ _ _ h => h) (fun W hW => exec_pick (b := false) (vx := .bool true) (vy := .bool false) rfl rfl rfl rfl rfl) ?_
          simp only [Act.put, List.setIfInBounds_toArray, List.set_cons_zero, List.set_cons_succ]
          refine reg_take (.bool false) (i := 13) (n := 109) HSS rfl (by kernel_rfl) (by kernel_rfl) (by kernel_rfl) (by kernel_rfl) (fun _ _ _ h => h) (fun W hW => exec_move rfl rfl) ?_
          simp only [Act.put, List.setIfInBounds_toArray, List.set_cons_zero, List.set_cons_succ]
          refine reg_takeG (.pointer (some ⟨wr.heap.size, 2, none⟩)) (i := 14) (n := 110) HSS rfl (by rfl) (by kernel_rfl) (by kernel_rfl) (by kernel_rfl) (by kernel_rfl) (fun _ _ _ h => h) (fun W hW => exec_field rfl rfl (fptSpanQ2 _ _)) ?_
          simp only [Act.put, List.setIfInBounds_toArray, List.set_cons_zero, List.set_cons_succ]
          refine reg_takeG (.slice Ab bd.length cb) (i := 15) (n := 111) HSS rfl (by rfl) (by kernel_rfl) (by kernel_rfl) (by kernel_rfl) (by kernel_rfl) (fun _ _ _ h => h) (fun W hW => exec_load rfl rfl (ldBsQ hW.out.2.2.1)) ?_
          simp only [Act.put, List.setIfInBounds_toArray, List.set_cons_zero, List.set_cons_succ]
          refine reg_takeG (.slice (some a1) 7 c1) (i := 16) (n := 112) HSS rfl (by rfl) (by kernel_rfl) (by kernel_rfl) (by kernel_rfl) (by kernel_rfl) (fun _ _ _ h => h) (fun W hW => exec_move rfl rfl) ?_
          simp only [Act.put, List.setIfInBounds_toArray, List.set_cons_zero, List.set_cons_succ]
          refine reg_takeG (.int .i64 (j : Int)) (i := 17) (n := 113) HSS rfl (by rfl) (by kernel_rfl) (by kernel_rfl) (by kernel_rfl) (by kernel_rfl) (fun _ _ _ h => h) (fun W hW => exec_move rfl rfl) ?_
          simp only [Act.put, List.setIfInBounds_toArray, List.set_cons_zero, List.set_cons_succ]
          refine reg_takeG (.pointer (some (a1.add j))) (i := 18) (n := 114) HSS rfl (by rfl) (by kernel_rfl) (by kernel_rfl) (by kernel_rfl) (by kernel_rfl) (fun _ _ _ h => h) (fun W hW => exec_indexAddr rfl rfl rfl (idxBssQ _ _ _ _ hj _)) ?_
          simp only [Act.put, List.setIfInBounds_toArray, List.set_cons_zero, List.set_cons_succ]
          refine reg_takeG (.slice Ac bd.length cc) (i := 19) (n := 115) HSS rfl (by rfl) (by kernel_rfl) (by kernel_rfl) (by kernel_rfl) (by kernel_rfl) (fun _ _ _ h => h) (fun W hW => exec_load rfl rfl (ldBsQ hW.out.2.2.2.2)) ?_
          simp only [Act.put, List.setIfInBounds_toArray, List.set_cons_zero, List.set_cons_succ]
          refine reg_stepG (i := 20) rfl (by rfl) (by kernel_rfl) (fun K hK => ?_)
          refine wp_call (n := 116) (vals := [.slice Ab bd.length cb, .slice Ac bd.length cc]) rfl rfl rfl (by kernel_rfl) (sameBytes_calls (w := wD.drew) (HRbA.out.mod (fun _ h => h) (fun _ _ => rfl)) (HRcA.out.mod (fun _ h => h) (fun _ _ => rfl))) ?_
          rintro e w5 ⟨rfl, rfl⟩
          rw [show decide (bd = bd) = true by simp]
          refine ⟨_, rfl, hK.out _ _ (fun _ => HSS) ?_⟩
          clear hK K
          simp only [Act.put, List.setIfInBounds_toArray, List.set_cons_zero, List.set_cons_succ]
          refine reg_takeG (.bool false) (i := 21) (n := 117) HSS rfl (by rfl) (by kernel_rfl) (by kernel_rfl) (by kernel_rfl) (by kernel_rfl) (fun _ _ _ h => h) (fun W hW => exec_un rfl rfl (by go_simp)) ?_
          simp only [Act.put, List.setIfInBounds_toArray, List.set_cons_zero, List.set_cons_succ]
          refine reg_take (.bool false) (i := 22) (n := 118) HSS rfl (by kernel_rfl) (by kernel_rfl) (by kernel_rfl) (by kernel_rfl) (fun _ _ _ h => h) (fun W hW => exec_pick (b := false) (vx := .bool true) (vy := .bool false) rfl rfl rfl rfl rfl) ?_
          simp only [Act.put, List.setIfInBounds_toArray, List.set_cons_zero, List.set_cons_succ]
          refine reg_done (by kernel_rfl) ?_ _
          have t1 := HSS.out.2.1
          clear HSS HCE HRbA HRcA
          go_wp2
          go_roundw
          case rel =>
            subst hok
            exact ⟨j + 1, by omega, by go_num, rfl, ⟨HMA.out.drew⟩⟩
          case measure => simp [intOf]; omega
        · obtain rfl : j = 7 := by omega
          go_wp2
          go_ret
          exact ⟨by simp, HMG.out.transN HMr.out⟩
end Go.Proofs.Ytciiejkfppnimaa
