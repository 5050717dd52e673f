/- Sums over a disk, of the specification. How many marks a disk holds; loads of whole disks. Three rows of one disk of the call's own. The four own rows of one disk. The specification's settling of names. -/
import Derived.Test.YtkkgighgnbbgiaaGreatDoorPk7
import Derived.Test.YtkkgighgnbbgiaaGreatDoorPk8
import Derived.Test.YtkkgighgnbbgiaaGreatDoorPk6
import Derived.Test.YtkkgighgnbbgiaaGreatDoorPk1
import Derived.Test.YtkkgighgnbbgiaaGreatDoorPk4
namespace Go.Proofs.YtkkgighgnbbgiaaGreatDoor
open Go.RowKit Mem
set_option linter.unusedVariables false
set_option linter.unusedSimpArgs false
set_option maxHeartbeats 4000000 in
set_option maxRecDepth 100000 in
theorem l1Total_v {w : World} {v : Value} {d : DiskT} {N : Nat} (h : RdV true dDisk w v d) (hI : DInv N d) (hN : N ≤ 100000) : Calls Tryz.prog 56 #[v] w (Ret (.int .i64 ((sumD d.1 : Nat) : Int)) w) := by
  have HS := Sec.mk (sumD_take_le hI.len)
  have HL := Sec.mk hI.len
  have hn := hI.nodes
  clear hI
  obtain ⟨v0, v1, v2, v3, rfl, k0, k1, k2, k3⟩ := rdDisk h
  obtain ⟨nodes, names, kept, pend, quota⟩ := d
  simp only at k0 k1 k2 k3 hn HS HL ⊢
  obtain ⟨A0, c0, rfl, hc0, hr0⟩ := k0.slice
  have HR0 := Sec.mk hr0
  have HBX := Sec.mk (Blk.new w 34 [.slice A0 nodes.length c0, v1, v2, v3, .int .i64 quota])
  have HM0 := Sec.mk ((Mod.refl (fun _ => False) w).alloc (.cells #[.slice A0 nodes.length c0, v1, v2, v3, .int .i64 quota] 34))
  clear h k0 k1 k2 k3 hr0
  go_enter Tryz.func56, Tryz.ntmps56
  go_wp2
  go_loopw [3, 9] (fun t i wr => ∃ k : Nat, k ≤ nodes.length ∧ i = .int .i64 (k : Int) ∧ t = .int .i64 ((sumD (nodes.take k) : Nat) : Int) ∧ Sec (New w wr)) (fun _ i _ => nodes.length - (intOf i).toNat)
  case atStart => exact ⟨0, Nat.zero_le _, rfl, by simp [sumD], HM0⟩
  case round =>
    obtain ⟨k, hk, rfl, rfl, HM⟩ := hrel
    by_cases hlt : k < nodes.length
    · obtain ⟨bd, An, cn, rfl, n0, n1, hcc, hcm, hrow, hw⟩ := node_at (HR0.out.mod (w' := wr) (fun _ h => h) (fun k hk => HM.out.block k hk id)) (w' := wr) (fun _ _ => rfl) hlt
      have hki : (k : Int) < (nodes.length : Int) := by omega
      have HT := Sec.mk (sumD_take hlt)
      have hs := HS.out k
      have hl := HL.out _ (List.getElem_mem hlt)
      have HMA := Sec.mk (HM.out.alloc (.cells #[.slice An nodes[k].1.length cn, .int .i64 nodes[k].2] 88))
      clear hrow hw
      generalize hz : nodes[k] = z at *
      generalize sumD (nodes.take k) = s at *
      obtain ⟨dat, safe⟩ := z
      simp only at n0 n1 hcc hl HT HMA
      clear hz
      go_wp2
      go_roundw
      case rel => exact ⟨k + 1, by omega, by go_num, by rw [HT.out]; go_num, HMA⟩
      case measure => simp [intOf]; omega
    · obtain rfl : k = nodes.length := by omega
      go_wp2
      go_ret
      exact ⟨by rw [List.take_length]; rfl, HM.out⟩
set_option maxHeartbeats 4000000 in
set_option maxRecDepth 100000 in
theorem l1Used_v {w : World} {v : Value} {d : DiskT} {N : Nat} (h : RdV true dDisk w v d) (hI : DInv N d) (hN : N ≤ 100000) : Calls Tryz.prog 55 #[v] w (Ret (.int .i64 ((usedL d : Nat) : Int)) w) := by
  have HS := Sec.mk (used_le hI)
  have HL := Sec.mk (nodeAt_len hI)
  have HQ := Sec.mk hI.inr
  have hn := hI.names
  have HUT := Sec.mk (fun k (hk : k < d.2.1.length) => used_take hk)
  have HUL : Sec (usedL d = ((d.2.1.take d.2.1.length).map fun e => (nodeAt d e.2).1.length).sum) := ⟨by rw [List.take_length]; rfl⟩
  have HNA : Sec (∀ (nd : Nat) (hnl : nd < d.1.length), nodeAt d (nd : Int) = d.1[nd]) := ⟨fun nd hnl => by unfold nodeAt; rw [Int.toNat_natCast, List.getElem?_eq_getElem hnl]; rfl⟩
  clear hI
  obtain ⟨v0, v1, v2, v3, rfl, k0, k1, k2, k3⟩ := rdDisk h
  obtain ⟨A0, c0, rfl, hc0, hr0⟩ := k0.slice
  obtain ⟨A1, c1, rfl, hc1, hr1⟩ := k1.slice
  have HR0 := Sec.mk hr0
  have HR1 := Sec.mk hr1
  have HBX := Sec.mk (Blk.new w 34 [.slice A0 d.1.length c0, .slice A1 d.2.1.length c1, v2, v3, .int .i64 d.2.2.2.2])
  have HM0 := Sec.mk ((Mod.refl (fun _ => False) w).alloc (.cells #[.slice A0 d.1.length c0, .slice A1 d.2.1.length c1, v2, v3, .int .i64 d.2.2.2.2] 34))
  clear h k0 k1 k2 k3 hr0 hr1
  go_enter Tryz.func55, Tryz.ntmps55
  go_wp2
  go_loopw [3, 9] (fun t i wr => ∃ k : Nat, k ≤ d.2.1.length ∧ i = .int .i64 (k : Int) ∧ t = .int .i64 ((((d.2.1.take k).map fun e => (nodeAt d e.2).1.length).sum : Nat) : Int) ∧ Sec (Blk wr w.heap.size 34 [.slice A0 d.1.length c0, .slice A1 d.2.1.length c1, v2, v3, .int .i64 d.2.2.2.2]) ∧ Sec (New w wr)) (fun _ i _ => d.2.1.length - (intOf i).toNat)
  case atStart => exact ⟨0, Nat.zero_le _, rfl, by simp, HBX, HM0⟩
  case round =>
    obtain ⟨k, hk, rfl, rfl, HB, HM⟩ := hrel
    clear HBX HM0
    by_cases hlt : k < d.2.1.length
    · obtain ⟨ae, rfl, d0, d1, g0, g1⟩ := ent_at (HR1.out.mod (w' := wr) (fun _ h => h) (fun k hk => HM.out.block k hk id)) (w' := wr) (fun _ _ => rfl) hlt
      have hki : (k : Int) < (d.2.1.length : Int) := by omega
      have HT := Sec.mk (HUT.out k hlt)
      have hs := HS.out k
      have hin := HQ.out _ (List.getElem_mem hlt)
      have HPX : Sec (∃ q : EntryT, q = d.2.1[k]) := ⟨⟨_, rfl⟩⟩
      obtain ⟨q, hq⟩ := HPX.out
      rw [← hq] at d0 d1 g0 g1 HT hin
      clear hq HPX
      obtain ⟨nm, u⟩ := q
      simp only at d0 d1 g0 g1 hin HT
      obtain ⟨nd, hnd⟩ := Int.eq_ofNat_of_zero_le hin.1
      subst hnd
      have hnl : nd < d.1.length := by omega
      rw [HNA.out nd hnl] at HT
      have q0 : wr.cell? ⟨w.heap.size, 0, none⟩ = some (.slice A0 d.1.length c0) := HB.out.cell 0
      have hwr := HB.out.lt
      have hl := HL.out (nd : Int)
      rw [HNA.out nd hnl] at hl
      obtain ⟨bd, An, cn, rfl, n0, n1, hcc, hcm, hrow, hw⟩ := node_at (HR0.out.mod (w' := wr.alloc (.cells #[.string ⟨nm.toArray⟩, .int .i64 (nd : Int)] 98)) (fun _ h => h) (fun k hk => (HM.out.alloc _).block k hk id)) (w' := wr.alloc (.cells #[.string ⟨nm.toArray⟩, .int .i64 (nd : Int)] 98)) (fun _ _ => rfl) hnl
      have HMA := Sec.mk (HM.out.alloc (.cells #[.string ⟨nm.toArray⟩, .int .i64 (nd : Int)] 98))
      have HBA := Sec.mk (HB.out.alloc (.cells #[.string ⟨nm.toArray⟩, .int .i64 (nd : Int)] 98))
      clear hrow hw n1
      have hndi : (nd : Int) < (d.1.length : Int) := by omega
      generalize d.1[nd].1 = dat at *
      generalize ((d.2.1.take k).map fun e => (nodeAt d e.2).1.length).sum = s at *
      clear hin
      go_wp2
      go_roundw
      case rel => exact ⟨k + 1, by omega, by go_num, by rw [HT.out]; go_num, HBA, HMA⟩
      case measure => simp [intOf]; omega
    · obtain rfl : k = d.2.1.length := by omega
      go_wp2
      go_ret
      exact ⟨by rw [HUL.out]; rfl, HM.out⟩
end Go.Proofs.YtkkgighgnbbgiaaGreatDoor

namespace Go.Proofs.YtkkgighgnbbgiaaGreatDoor
open Go.RowKit Mem
set_option linter.unusedVariables false
set_option synthInstance.maxSize 2000
theorem preS_bound {α : Type} (f : α → Nat) (g : α → Nat) (m : Nat) (h : ∀ x, f x ≤ m + m * g x) (xs : List α) : ∀ n, preS f xs n ≤ m * n + m * preS g xs n := by
  intro n
  induction n with
  | zero => simp [preS_zero]
  | succ n ih =>
    by_cases hn : n < xs.length
    · rw [preS_succ _ _ hn, preS_succ _ _ hn]
      have := h xs[n]
      rw [Nat.mul_add, Nat.mul_add]
      omega
    · have e1 : ∀ (f : α → Nat), preS f xs (n + 1) = preS f xs n := fun f => by unfold preS; rw [List.take_of_length_le (by omega), List.take_of_length_le (by omega)]
      rw [e1, e1, Nat.mul_add]
      omega
theorem cntNodeS_sz (xs : NodeST) : cntNodeS xs ≤ szNodeS xs := by
  have := preS_bound cntNode szNode 1 (fun x => by unfold cntNode szNode cntBS szBS; omega) xs xs.length
  unfold cntNodeS szNodeS
  omega
theorem cntEntryS_sz (xs : EntryST) : cntEntryS xs ≤ 2 * szEntryS xs := by
  have := preS_bound cntEntry szEntry 2 (fun x => by unfold cntEntry; omega) xs xs.length
  unfold cntEntryS szEntryS
  omega
theorem cntDirOpS_sz (xs : DirOpST) : cntDirOpS xs ≤ 4 * szDirOpS xs := by
  have := preS_bound cntDirOp szDirOp 4 (fun x => by unfold cntDirOp; omega) xs xs.length
  unfold cntDirOpS szDirOpS
  omega
theorem cntDisk_lt {x : DiskT} (h : szDisk x ≤ 1048576) : cntDisk x ≤ 4194304 := by
  have h0 := cntNodeS_sz x.1
  have h1 := cntEntryS_sz x.2.1
  have h2 := cntEntryS_sz x.2.2.1
  have h3 := cntDirOpS_sz x.2.2.2.1
  unfold szDisk at h
  unfold cntDisk
  omega
theorem ldDiskL {w : World} {g : Nat} {c0 c1 c2 c3 c4 : Value} (h : Blk w g 26 [c0, c1, c2, c3, c4]) : (Instr.loadAt 26 (.pointer (some ⟨g, 0, none⟩))).run Tryz.prog w = .ok (.agg #[c0, c1, c2, c3, c4]) w := by
  have k0 : w.cell? ⟨g, 0, none⟩ = some c0 := h.cell 0
  have k1 : w.cell? ⟨g, 1, none⟩ = some c1 := h.cell 1
  have k2 : w.cell? ⟨g, 2, none⟩ = some c2 := h.cell 2
  have k3 : w.cell? ⟨g, 3, none⟩ = some c3 := h.cell 3
  have k4 : w.cell? ⟨g, 4, none⟩ = some c4 := h.cell 4
  go_simp
theorem ldDiskI {w : World} {g : Nat} {c0 c1 c2 c3 c4 : Value} (h : Blk w g 34 [c0, c1, c2, c3, c4]) : (Instr.loadAt 34 (.pointer (some ⟨g, 0, none⟩))).run Tryz.prog w = .ok (.agg #[c0, c1, c2, c3, c4]) w := by
  have k0 : w.cell? ⟨g, 0, none⟩ = some c0 := h.cell 0
  have k1 : w.cell? ⟨g, 1, none⟩ = some c1 := h.cell 1
  have k2 : w.cell? ⟨g, 2, none⟩ = some c2 := h.cell 2
  have k3 : w.cell? ⟨g, 3, none⟩ = some c3 := h.cell 3
  have k4 : w.cell? ⟨g, 4, none⟩ = some c4 := h.cell 4
  go_simp
theorem eqDisk_same {w : World} {v v' : Value} {x : DiskT} (h : RdV true dDisk w v x) (h' : RdV true dDisk w v' x) : Calls Tryz.prog 11 #[v, v'] w (Ret (.bool true) w) := by
  have := eqDisk_v h h'
  rw [show decide (x = x) = true by simp] at this
  exact this
end Go.Proofs.YtkkgighgnbbgiaaGreatDoor

namespace Go.Proofs.YtkkgighgnbbgiaaGreatDoor
open Go.RowKit Mem
set_option linter.unusedVariables false
def Out3 (X : Nat → Prop) (w : World) (v0 v1 v2 : Value) (ns : NodeST) (es ks : EntryST) : Prop :=
  ∃ F0 F1 F2, Own dNode 88 w F0 v0 ns ∧ Own dEntry 98 w F1 v1 es ∧ Own dEntry 98 w F2 v2 ks ∧ (F0 ++ (F1 ++ F2)).Nodup ∧ ∀ k, k ∈ F0 ++ (F1 ++ F2) → X k
theorem nodup3 {F0 F1 F2 : List Nat} (n0 : F0.Nodup) (n1 : F1.Nodup) (n2 : F2.Nodup) (h01 : ∀ k, k ∈ F0 → k ∉ F1) (h02 : ∀ k, k ∈ F0 → k ∉ F2) (h12 : ∀ k, k ∈ F1 → k ∉ F2) : (F0 ++ (F1 ++ F2)).Nodup := by
  refine List.nodup_append.2 ⟨n0, List.nodup_append.2 ⟨n1, n2, fun a ha b hb e => h12 a ha (e ▸ hb)⟩, fun a ha b hb e => ?_⟩
  subst e
  rcases List.mem_append.1 hb with hb | hb
  · exact h01 a ha hb
  · exact h02 a ha hb
theorem nodup3_of {F0 F1 F2 : List Nat} (h : (F0 ++ (F1 ++ F2)).Nodup) : (∀ k, k ∈ F0 → k ∉ F1) ∧ (∀ k, k ∈ F0 → k ∉ F2) ∧ (∀ k, k ∈ F1 → k ∉ F2) := by
  obtain ⟨n0, n12, h0⟩ := List.nodup_append.1 h
  obtain ⟨n1, n2, h1⟩ := List.nodup_append.1 n12
  exact ⟨fun k hk hk2 => h0 k hk k (List.mem_append.2 (Or.inl hk2)) rfl, fun k hk hk2 => h0 k hk k (List.mem_append.2 (Or.inr hk2)) rfl, fun k hk hk2 => h1 k hk k hk2 rfl⟩
namespace Out3
variable {X X0 X' : Nat → Prop} {w w' : World} {v0 v1 v2 : Value} {ns : NodeST} {es ks : EntryST}
theorem nil (X : Nat → Prop) (w : World) : Out3 X w (.slice none 0 0) (.slice none 0 0) (.slice none 0 0) [] [] [] := ⟨[], [], [], Own.nil _ _ _, Own.nil _ _ _, Own.nil _ _ _, by simp, by simp⟩
theorem keep {S : Nat → Prop} (h : Out3 X w v0 v1 v2 ns es ks) (hm : Mod S w w') (hS : ∀ k, X k → ¬ S k) : Out3 X w' v0 v1 v2 ns es ks := by
  obtain ⟨F0, F1, F2, o0, o1, o2, hn, hF⟩ := h
  exact ⟨F0, F1, F2, o0.keep hm fun k hk => hS k (hF k (by simp [hk])), o1.keep hm fun k hk => hS k (hF k (by simp [hk])), o2.keep hm fun k hk => hS k (hF k (by simp [hk])), hn, hF⟩
theorem new (h : Out3 X w v0 v1 v2 ns es ks) (hm : New w w') : Out3 X w' v0 v1 v2 ns es ks := h.keep hm fun _ _ h => h
theorem wide (h : Out3 X w v0 v1 v2 ns es ks) (h1 : ∀ k, k < w.heap.size → X k → X' k) : Out3 X' w v0 v1 v2 ns es ks := by
  obtain ⟨F0, F1, F2, o0, o1, o2, hn, hF⟩ := h
  refine ⟨F0, F1, F2, o0, o1, o2, hn, fun k hk => h1 k ?_ (hF k hk)⟩
  rcases List.mem_append.1 hk with hk | hk
  · exact o0.lt k hk
  · rcases List.mem_append.1 hk with hk | hk
    · exact o1.lt k hk
    · exact o2.lt k hk
theorem len0 {A : Option Addr} {n c : Nat} (h : Out3 X w (.slice A n c) v1 v2 ns es ks) : n = ns.length := by
  obtain ⟨F0, F1, F2, o0, o1, o2, hn, hF⟩ := h
  obtain ⟨A', c', hv, _⟩ := o0.form
  injection hv with _ e2 _
theorem len1 {A : Option Addr} {n c : Nat} (h : Out3 X w v0 (.slice A n c) v2 ns es ks) : n = es.length := by
  obtain ⟨F0, F1, F2, o0, o1, o2, hn, hF⟩ := h
  obtain ⟨A', c', hv, _⟩ := o1.form
  injection hv with _ e2 _
theorem len2 {A : Option Addr} {n c : Nat} (h : Out3 X w v0 v1 (.slice A n c) ns es ks) : n = ks.length := by
  obtain ⟨F0, F1, F2, o0, o1, o2, hn, hF⟩ := h
  obtain ⟨A', c', hv, _⟩ := o2.form
  injection hv with _ e2 _
theorem row1 {A : Option Addr} {n c : Nat} (h : Out3 X w v0 (.slice A n c) v2 ns es ks) : Row dEntry w (· < w.heap.size) A n es := by
  obtain rfl := h.len1
  obtain ⟨F0, F1, F2, o0, o1, o2, hn, hF⟩ := h
  exact (o1.row rfl).mod (fun k hk => o1.lt k hk) (fun _ _ => rfl)
theorem put2 (h : Out3 X0 w v0 v1 v2 ns es ks) {F : List Nat} {v2' : Value} {ks' : EntryST} (ho : Own dEntry 98 w F v2' ks') (hF : ∀ k, k ∈ F → ¬ X0 k ∧ X k) (hX : ∀ k, X0 k → X k) : Out3 X w v0 v1 v2' ns es ks' := by
  obtain ⟨F0, F1, F2, o0, o1, o2, hn, hX0⟩ := h
  obtain ⟨d01, d02, d12⟩ := nodup3_of hn
  refine ⟨F0, F1, F, o0, o1, ho, nodup3 o0.nd o1.nd ho.nd d01 (fun k hk hk1 => (hF k hk1).1 (hX0 k (by simp [hk]))) (fun k hk hk1 => (hF k hk1).1 (hX0 k (by simp [hk]))), fun k hk => ?_⟩
  rcases List.mem_append.1 hk with hk | hk
  · exact hX k (hX0 k (by simp [hk]))
  · rcases List.mem_append.1 hk with hk | hk
    · exact hX k (hX0 k (by simp [hk]))
    · exact (hF k hk).2
theorem disk (h : Out3 X w v0 v1 v2 ns es ks) {q : Int} (hq : IntKind.i64.wrap q = q) {lo : Nat} (hlo : ∀ k, X k → lo ≤ k) : OwV true dDisk w lo w.heap.size (.agg #[v0, v1, v2, .slice none 0 0, .int .i64 q]) (ns, es, ks, [], q) := by
  obtain ⟨F0, F1, F2, o0, o1, o2, hn, hF⟩ := h.wide (X' := fun k => lo ≤ k ∧ k < w.heap.size) (fun k h1 h2 => ⟨hlo k h2, h1⟩)
  exact ⟨[v0, v1, v2, .slice none 0 0, .int .i64 q], F0 ++ (F1 ++ (F2 ++ ([] ++ []))), rfl, mDisk (x := (ns, es, ks, [], q)) hq o0 o1 o2 (Own.nil _ _ _) (by simpa using hn), by simpa using hF⟩
section
variable {o : Oper} {a : Act} {K : Act → World → Prop} {Q : Exit → Act → World → Prop} {z : Value}
theorem wp0 (w : World) (s x : Operand) (t : TypeId) (ho : o.op = .call { callee := .builtin .append, args := #[s, x], argTypes := #[t, t] }) (ht : Tryz.prog.underlying t = some (.slice 88)) (hE : Elt Tryz.prog 88 dNode.sz z)
    {A' : Option Addr} {c' : Nat} {y : NodeT} {G : List Nat} {news : List Value} (hs : a.eval s = v0) (hx : a.eval x = .slice A' 1 c') (h3 : Out3 X0 w v0 v1 v2 ns es ks)
    (hM : dNode.M w G y news) (hG : ∀ k, k ∈ G → ¬ X0 k ∧ X k) (hA : ∃ ad, A' = some ad ∧ ∀ j u, news[j]? = some u → w.cell? (ad.add j) = some u)
    (hX0 : ∀ k, X0 k → X k) (hX : ∀ k, w.heap.size ≤ k → X k) (hlen : ns.length + 1 ≤ 34359738368)
    (h : ∀ A' n' c' w', Out3 X w' (.slice A' n' c') v1 v2 (ns ++ [y]) es ks → Mod X0 w w' → K (a.put o.dst (.slice A' n' c')) w') : o.wp Tryz.prog a w K Q := by
  obtain ⟨F0, F1, F2, o0, o1, o2, hn, hF⟩ := h3
  obtain ⟨d01, d02, d12⟩ := nodup3_of hn
  refine wp_append w s x t ho dNode 88 ht hE hs o0 hx (Elems.one hM) rfl (fun _ => hA) (by simpa using dNode.M_nd hM) (fun k hk hk2 => by simp at hk; exact (hG k hk).1 (hF k (by simp [hk2]))) hlen ?_
  intro A2 n2 c2 w2 G2 ho3 hn2 hm2 hF2
  have l1 := o1.lt
  have l2 := o2.lt
  have hmem : ∀ k, k ∈ G2 → k ∈ F0 ∨ (¬ X0 k ∧ X k) ∨ (w.heap.size ≤ k) := fun k hk => by
    rcases hF2 k hk with h1 | h1 | h1
    · exact Or.inl h1
    · simp at h1; exact Or.inr (Or.inl (hG k h1))
    · exact Or.inr (Or.inr h1)
  refine h _ _ _ _ ⟨G2, F1, F2, ho3, o1.keep hm2 (fun k hk e => d01 k (o0.own_mem k e) hk), o2.keep hm2 (fun k hk e => d02 k (o0.own_mem k e) hk), nodup3 ho3.nd o1.nd o2.nd ?_ ?_ d12, ?_⟩ (hm2.mono fun i _ hi => hF i (by simp [o0.own_mem i hi]))
  · intro k hk hk1
    rcases hmem k hk with h1 | h1 | h1
    · exact d01 k h1 hk1
    · exact h1.1 (hF k (by simp [hk1]))
    · have := l1 k hk1; omega
  · intro k hk hk1
    rcases hmem k hk with h1 | h1 | h1
    · exact d02 k h1 hk1
    · exact h1.1 (hF k (by simp [hk1]))
    · have := l2 k hk1; omega
  · intro k hk
    rcases List.mem_append.1 hk with hk | hk
    · rcases hmem k hk with h1 | h1 | h1
      · exact hX0 k (hF k (by simp [h1]))
      · exact h1.2
      · exact hX k h1
    · exact hX0 k (hF k (List.mem_append.2 (Or.inr hk)))
theorem wp1 (w : World) (s x : Operand) (t : TypeId) (ho : o.op = .call { callee := .builtin .append, args := #[s, x], argTypes := #[t, t] }) (ht : Tryz.prog.underlying t = some (.slice 98)) (hE : Elt Tryz.prog 98 dEntry.sz z)
    {A' : Option Addr} {m c' : Nat} {ys : EntryST} {B : Nat → Prop} (hs : a.eval s = v1) (hx : a.eval x = .slice A' m c') (h3 : Out3 X w v0 v1 v2 ns es ks)
    (hy : Row dEntry w B A' m ys) (hX : ∀ k, w.heap.size ≤ k → X k) (hlen : es.length + ys.length ≤ 34359738368)
    (h : ∀ A' n' c' w', Out3 X w' v0 (.slice A' n' c') v2 ns (es ++ ys) ks → Mod X w w' → K (a.put o.dst (.slice A' n' c')) w') : o.wp Tryz.prog a w K Q := by
  obtain ⟨F0, F1, F2, o0, o1, o2, hn, hF⟩ := h3
  obtain ⟨d01, d02, d12⟩ := nodup3_of hn
  obtain ⟨news, hel, hA⟩ := hy.flat flatEntry
  refine wp_append w s x t ho dEntry 98 ht hE hs o1 hx hel hy.1 hA (by rw [flat_nil]; exact List.nodup_nil) (by rw [flat_nil]; intro k hk; cases hk) (by have := hy.1; omega) ?_
  intro A2 n2 c2 w2 G2 ho3 hn2 hm2 hF2
  have hmem : ∀ k, k ∈ G2 → k ∈ F1 ∨ w.heap.size ≤ k := fun k hk => by
    rcases hF2 k hk with h1 | h1 | h1
    · exact Or.inl h1
    · rw [flat_nil] at h1; cases h1
    · exact Or.inr h1
  refine h _ _ _ _ ⟨F0, G2, F2, o0.keep hm2 (fun k hk e => d01 k hk (o1.own_mem k e)), ho3, o2.keep hm2 (fun k hk e => d12 k (o1.own_mem k e) hk), nodup3 o0.nd ho3.nd o2.nd ?_ d02 ?_, ?_⟩ (hm2.mono fun i _ hi => hF i (by simp [o1.own_mem i hi]))
  · intro k hk hk1
    rcases hmem k hk1 with h1 | h1
    · exact d01 k hk h1
    · have := o0.lt k hk; omega
  · intro k hk hk1
    rcases hmem k hk with h1 | h1
    · exact d12 k h1 hk1
    · have := o2.lt k hk1; omega
  · intro k hk
    rcases List.mem_append.1 hk with hk | hk
    · exact hF k (by simp [hk])
    · rcases List.mem_append.1 hk with hk | hk
      · rcases hmem k hk with h1 | h1
        · exact hF k (by simp [h1])
        · exact hX k h1
      · exact hF k (by simp [hk])
theorem wp2 (w : World) (s x : Operand) (t : TypeId) (ho : o.op = .call { callee := .builtin .append, args := #[s, x], argTypes := #[t, t] }) (ht : Tryz.prog.underlying t = some (.slice 98)) (hE : Elt Tryz.prog 98 dEntry.sz z)
    {A' : Option Addr} {m c' : Nat} {ys : EntryST} {B : Nat → Prop} (hs : a.eval s = v2) (hx : a.eval x = .slice A' m c') (h3 : Out3 X w v0 v1 v2 ns es ks)
    (hy : Row dEntry w B A' m ys) (hX : ∀ k, w.heap.size ≤ k → X k) (hlen : ks.length + ys.length ≤ 34359738368)
    (h : ∀ A' n' c' w', Out3 X w' v0 v1 (.slice A' n' c') ns es (ks ++ ys) → Mod X w w' → K (a.put o.dst (.slice A' n' c')) w') : o.wp Tryz.prog a w K Q := by
  obtain ⟨F0, F1, F2, o0, o1, o2, hn, hF⟩ := h3
  obtain ⟨d01, d02, d12⟩ := nodup3_of hn
  obtain ⟨news, hel, hA⟩ := hy.flat flatEntry
  refine wp_append w s x t ho dEntry 98 ht hE hs o2 hx hel hy.1 hA (by rw [flat_nil]; exact List.nodup_nil) (by rw [flat_nil]; intro k hk; cases hk) (by have := hy.1; omega) ?_
  intro A2 n2 c2 w2 G2 ho3 hn2 hm2 hF2
  have hmem : ∀ k, k ∈ G2 → k ∈ F2 ∨ w.heap.size ≤ k := fun k hk => by
    rcases hF2 k hk with h1 | h1 | h1
    · exact Or.inl h1
    · rw [flat_nil] at h1; cases h1
    · exact Or.inr h1
  refine h _ _ _ _ ⟨F0, F1, G2, o0.keep hm2 (fun k hk e => d02 k hk (o2.own_mem k e)), o1.keep hm2 (fun k hk e => d12 k hk (o2.own_mem k e)), ho3, nodup3 o0.nd o1.nd ho3.nd d01 ?_ ?_, ?_⟩ (hm2.mono fun i _ hi => hF i (by simp [o2.own_mem i hi]))
  · intro k hk hk1
    rcases hmem k hk1 with h1 | h1
    · exact d02 k hk h1
    · have := o0.lt k hk; omega
  · intro k hk hk1
    rcases hmem k hk1 with h1 | h1
    · exact d12 k hk h1
    · have := o1.lt k hk; omega
  · intro k hk
    rcases List.mem_append.1 hk with hk | hk
    · exact hF k (by simp [hk])
    · rcases List.mem_append.1 hk with hk | hk
      · exact hF k (by simp [hk])
      · rcases hmem k hk with h1 | h1
        · exact hF k (by simp [h1])
        · exact hX k h1
variable {ops : Array Oper} {rest : List Oper}
theorem list1 (w : World) (hgd : o.guard = none) (s x : Operand) (t : TypeId) (ho : o.op = .call { callee := .builtin .append, args := #[s, x], argTypes := #[t, t] }) (ht : Tryz.prog.underlying t = some (.slice 98)) (hE : Elt Tryz.prog 98 dEntry.sz z)
    {A' : Option Addr} {m c' : Nat} {ys : EntryST} {B : Nat → Prop} (hs : a.eval s = v1) (hx : a.eval x = .slice A' m c') (h3 : Out3 X w v0 v1 v2 ns es ks)
    (hy : Row dEntry w B A' m ys) (hX : ∀ k, w.heap.size ≤ k → X k) (hlen : es.length + ys.length ≤ 34359738368)
    (h : ∀ A' n' c' w', Out3 X w' v0 (.slice A' n' c') v2 ns (es ++ ys) ks → Mod X w w' → wpList Tryz.prog ops Q rest (a.put o.dst (.slice A' n' c')) w') : wpList Tryz.prog ops Q (o :: rest) a w :=
  wpList_plain hgd fun _ hK => wp1 w s x t ho ht hE hs hx h3 hy hX hlen fun A' n' c' w' h1 h2 => hK _ _ (h A' n' c' w' h1 h2)
theorem list2 (w : World) (hgd : o.guard = none) (s x : Operand) (t : TypeId) (ho : o.op = .call { callee := .builtin .append, args := #[s, x], argTypes := #[t, t] }) (ht : Tryz.prog.underlying t = some (.slice 98)) (hE : Elt Tryz.prog 98 dEntry.sz z)
    {A' : Option Addr} {m c' : Nat} {ys : EntryST} {B : Nat → Prop} (hs : a.eval s = v2) (hx : a.eval x = .slice A' m c') (h3 : Out3 X w v0 v1 v2 ns es ks)
    (hy : Row dEntry w B A' m ys) (hX : ∀ k, w.heap.size ≤ k → X k) (hlen : ks.length + ys.length ≤ 34359738368)
    (h : ∀ A' n' c' w', Out3 X w' v0 v1 (.slice A' n' c') ns es (ks ++ ys) → Mod X w w' → wpList Tryz.prog ops Q rest (a.put o.dst (.slice A' n' c')) w') : wpList Tryz.prog ops Q (o :: rest) a w :=
  wpList_plain hgd fun _ hK => wp2 w s x t ho ht hE hs hx h3 hy hX hlen fun A' n' c' w' h1 h2 => hK _ _ (h A' n' c' w' h1 h2)
end
end Out3
theorem bldNode (A : Option Addr) (n c : Nat) (u : Int) (w : World) : (Instr.build 88 #[(0, .slice A n c), (1, .int .i64 u)]).run Tryz.prog w = .ok (.agg #[.slice A n c, .int .i64 u]) w := by go_simp
theorem bldNode1 (A : Option Addr) (n c : Nat) (u : Int) (w : World) : (Instr.buildSlice 30 1 #[(0, .agg #[.slice A n c, .int .i64 u])]).run Tryz.prog w = .ok (.slice (some ⟨w.heap.size, 0, none⟩) 1 1) (w.alloc (.cells #[.slice A n c, .int .i64 u] 88)) := by go_simp
theorem bldBytes0 (w : World) : (Instr.buildSlice 52 0 #[]).run Tryz.prog w = .ok (.slice (some ⟨w.heap.size, 0, none⟩) 0 0) (w.alloc (.cells #[] 5)) := by go_simp
theorem stNodesC {w : World} {p : Addr} {a : Value} (A : Option Addr) (n c : Nat) (h : w.cell? p = some a) (hf : w.frozen? p = false) : (Instr.storeAt 30 (.pointer (some p)) (.slice A n c)).run Tryz.prog w = .ok () (w.setCell p (.slice A n c)) := by go_simp
theorem slcBytesTo {A : Option Addr} {n c k : Nat} (hk : k ≤ c) (w : World) : (Instr.sliceAt 52 (.slice A n c) none (some (.int .i64 (k : Int))) none).run Tryz.prog w = .ok (.slice A k c) w := slice_to Tryz.underlying52 hk (by kernel_rfl)
end Go.Proofs.YtkkgighgnbbgiaaGreatDoor

namespace Go.Proofs.YtkkgighgnbbgiaaGreatDoor
open Go.RowKit Mem
set_option linter.unusedVariables false
def Dis4 (F0 F1 F2 F3 : List Nat) : Prop := (∀ k, k ∈ F0 → k ∉ F1 ∧ k ∉ F2 ∧ k ∉ F3) ∧ (∀ k, k ∈ F1 → k ∉ F2 ∧ k ∉ F3) ∧ (∀ k, k ∈ F2 → k ∉ F3)
theorem Dis4.upd0 {F0 F1 F2 F3 G : List Nat} (h : Dis4 F0 F1 F2 F3) (hG : ∀ k, k ∈ G → k ∈ F0 ∨ (k ∉ F1 ∧ k ∉ F2 ∧ k ∉ F3)) : Dis4 G F1 F2 F3 :=
  ⟨fun k hk => (hG k hk).elim (h.1 k) id, h.2⟩
theorem Dis4.upd1 {F0 F1 F2 F3 G : List Nat} (h : Dis4 F0 F1 F2 F3) (hG : ∀ k, k ∈ G → k ∈ F1 ∨ (k ∉ F0 ∧ k ∉ F2 ∧ k ∉ F3)) : Dis4 F0 G F2 F3 :=
  ⟨fun k hk => ⟨fun hg => (hG k hg).elim (fun h1 => (h.1 k hk).1 h1) (fun h1 => h1.1 hk), (h.1 k hk).2⟩, fun k hk => (hG k hk).elim (h.2.1 k) (fun h1 => h1.2), h.2.2⟩
theorem Dis4.upd2 {F0 F1 F2 F3 G : List Nat} (h : Dis4 F0 F1 F2 F3) (hG : ∀ k, k ∈ G → k ∈ F2 ∨ (k ∉ F0 ∧ k ∉ F1 ∧ k ∉ F3)) : Dis4 F0 F1 G F3 :=
  ⟨fun k hk => ⟨(h.1 k hk).1, fun hg => (hG k hg).elim (fun h1 => (h.1 k hk).2.1 h1) (fun h1 => h1.1 hk), (h.1 k hk).2.2⟩, fun k hk => ⟨fun hg => (hG k hg).elim (fun h1 => (h.2.1 k hk).1 h1) (fun h1 => h1.2.1 hk), (h.2.1 k hk).2⟩, fun k hk => (hG k hk).elim (h.2.2 k) (fun h1 => h1.2.2)⟩
theorem Dis4.upd3 {F0 F1 F2 F3 G : List Nat} (h : Dis4 F0 F1 F2 F3) (hG : ∀ k, k ∈ G → k ∈ F3 ∨ (k ∉ F0 ∧ k ∉ F1 ∧ k ∉ F2)) : Dis4 F0 F1 F2 G :=
  ⟨fun k hk => ⟨(h.1 k hk).1, (h.1 k hk).2.1, fun hg => (hG k hg).elim (fun h1 => (h.1 k hk).2.2 h1) (fun h1 => h1.1 hk)⟩, fun k hk => ⟨(h.2.1 k hk).1, fun hg => (hG k hg).elim (fun h1 => (h.2.1 k hk).2 h1) (fun h1 => h1.2.1 hk)⟩, fun k hk hg => (hG k hg).elim (fun h1 => h.2.2 k hk h1) (fun h1 => h1.2.2 hk)⟩
theorem Dis4.nodup {F0 F1 F2 F3 : List Nat} (h : Dis4 F0 F1 F2 F3) (n0 : F0.Nodup) (n1 : F1.Nodup) (n2 : F2.Nodup) (n3 : F3.Nodup) : (F0 ++ (F1 ++ (F2 ++ F3))).Nodup := by
  refine List.nodup_append.2 ⟨n0, List.nodup_append.2 ⟨n1, List.nodup_append.2 ⟨n2, n3, fun a ha b hb e => h.2.2 a ha (e ▸ hb)⟩, fun a ha b hb e => ?_⟩, fun a ha b hb e => ?_⟩
  · subst e
    rcases List.mem_append.1 hb with hb | hb
    · exact (h.2.1 a ha).1 hb
    · exact (h.2.1 a ha).2 hb
  · subst e
    rcases List.mem_append.1 hb with hb | hb
    · exact (h.1 a ha).1 hb
    · rcases List.mem_append.1 hb with hb | hb
      · exact (h.1 a ha).2.1 hb
      · exact (h.1 a ha).2.2 hb
def In4 (F0 F1 F2 F3 : List Nat) (k : Nat) : Prop := k ∈ F0 ∨ k ∈ F1 ∨ k ∈ F2 ∨ k ∈ F3
def Out4 (X : Nat → Prop) (w : World) (v0 v1 v2 v3 : Value) (d : DiskT) : Prop :=
  ∃ F0 F1 F2 F3, Own dNode 88 w F0 v0 d.1 ∧ Own dEntry 98 w F1 v1 d.2.1 ∧ Own dEntry 98 w F2 v2 d.2.2.1 ∧ Own dDirOp 90 w F3 v3 d.2.2.2.1 ∧ Dis4 F0 F1 F2 F3 ∧ (∀ k, In4 F0 F1 F2 F3 k → X k) ∧ IntKind.i64.wrap d.2.2.2.2 = d.2.2.2.2
namespace Out4
variable {X X0 X' : Nat → Prop} {w w' : World} {v0 v1 v2 v3 : Value} {d : DiskT}
theorem keep {S : Nat → Prop} (h : Out4 X w v0 v1 v2 v3 d) (hm : Mod S w w') (hS : ∀ k, X k → ¬ S k) : Out4 X w' v0 v1 v2 v3 d := by
  obtain ⟨F0, F1, F2, F3, o0, o1, o2, o3, hd, hX, hq⟩ := h
  exact ⟨F0, F1, F2, F3, o0.keep hm fun k hk => hS k (hX k (Or.inl hk)), o1.keep hm fun k hk => hS k (hX k (Or.inr (Or.inl hk))), o2.keep hm fun k hk => hS k (hX k (Or.inr (Or.inr (Or.inl hk)))), o3.keep hm fun k hk => hS k (hX k (Or.inr (Or.inr (Or.inr hk)))), hd, hX, hq⟩
theorem new (h : Out4 X w v0 v1 v2 v3 d) (hm : New w w') : Out4 X w' v0 v1 v2 v3 d := h.keep hm fun _ _ h => h
theorem lt {F0 F1 F2 F3 : List Nat} (o0 : Own dNode 88 w F0 v0 d.1) (o1 : Own dEntry 98 w F1 v1 d.2.1) (o2 : Own dEntry 98 w F2 v2 d.2.2.1) (o3 : Own dDirOp 90 w F3 v3 d.2.2.2.1) : ∀ k, In4 F0 F1 F2 F3 k → k < w.heap.size := by
  rintro k (hk | hk | hk | hk)
  · exact o0.lt k hk
  · exact o1.lt k hk
  · exact o2.lt k hk
  · exact o3.lt k hk
theorem wide (h : Out4 X w v0 v1 v2 v3 d) (h1 : ∀ k, k < w.heap.size → X k → X' k) : Out4 X' w v0 v1 v2 v3 d := by
  obtain ⟨F0, F1, F2, F3, o0, o1, o2, o3, hd, hX, hq⟩ := h
  exact ⟨F0, F1, F2, F3, o0, o1, o2, o3, hd, fun k hk => h1 k (lt o0 o1 o2 o3 k hk) (hX k hk), hq⟩
theorem disk (h : Out4 X w v0 v1 v2 v3 d) {lo : Nat} (hlo : ∀ k, X k → lo ≤ k) : OwV true dDisk w lo w.heap.size (.agg #[v0, v1, v2, v3, .int .i64 d.2.2.2.2]) d := by
  obtain ⟨F0, F1, F2, F3, o0, o1, o2, o3, hd, hX, hq⟩ := h
  have hlt := lt o0 o1 o2 o3
  refine ⟨[v0, v1, v2, v3, .int .i64 d.2.2.2.2], F0 ++ (F1 ++ (F2 ++ (F3 ++ []))), rfl, mDisk (x := d) hq o0 o1 o2 o3 (by simpa using hd.nodup o0.nd o1.nd o2.nd o3.nd), fun k hk => ?_⟩
  have : In4 F0 F1 F2 F3 k := by simpa [In4] using hk
  exact ⟨hlo k (hX k this), hlt k this⟩
/-- as a value that is read -/
theorem rd (h : Out4 X w v0 v1 v2 v3 d) : RdV true dDisk w (.agg #[v0, v1, v2, v3, .int .i64 d.2.2.2.2]) d := (h.disk (lo := 0) (fun _ _ => Nat.zero_le _)).rd
theorem forms (h : Out4 X w v0 v1 v2 v3 d) : ∃ A0 c0 A1 c1 A2 c2 A3 c3, v0 = .slice A0 d.1.length c0 ∧ v1 = .slice A1 d.2.1.length c1 ∧ v2 = .slice A2 d.2.2.1.length c2 ∧ v3 = .slice A3 d.2.2.2.1.length c3 ∧ d.1.length ≤ c0 ∧ d.2.1.length ≤ c1 ∧ d.2.2.1.length ≤ c2 ∧ d.2.2.2.1.length ≤ c3 := by
  obtain ⟨F0, F1, F2, F3, o0, o1, o2, o3, hd, hX, hq⟩ := h
  obtain ⟨A0, c0, e0, b0, _⟩ := o0.form
  obtain ⟨A1, c1, e1, b1, _⟩ := o1.form
  obtain ⟨A2, c2, e2, b2, _⟩ := o2.form
  obtain ⟨A3, c3, e3, b3, _⟩ := o3.form
  exact ⟨A0, c0, A1, c1, A2, c2, A3, c3, e0, e1, e2, e3, b0, b1, b2, b3⟩
/-- the names replaced by a row of their own -/
theorem put1 (h : Out4 X0 w v0 v1 v2 v3 d) {F : List Nat} {v1' : Value} {es : EntryST} (ho : Own dEntry 98 w F v1' es) (hF : ∀ k, k ∈ F → ¬ X0 k ∧ X k) (hX0 : ∀ k, X0 k → X k) : Out4 X w v0 v1' v2 v3 (d.1, es, d.2.2) := by
  obtain ⟨F0, F1, F2, F3, o0, o1, o2, o3, hd, hX, hq⟩ := h
  refine ⟨F0, F, F2, F3, o0, ho, o2, o3, hd.upd1 (fun k hk => Or.inr ⟨fun h => (hF k hk).1 (hX k (Or.inl h)), fun h => (hF k hk).1 (hX k (Or.inr (Or.inr (Or.inl h)))), fun h => (hF k hk).1 (hX k (Or.inr (Or.inr (Or.inr h))))⟩), ?_, hq⟩
  rintro k (hk | hk | hk | hk)
  · exact hX0 k (hX k (Or.inl hk))
  · exact (hF k hk).2
  · exact hX0 k (hX k (Or.inr (Or.inr (Or.inl hk))))
  · exact hX0 k (hX k (Or.inr (Or.inr (Or.inr hk))))
section
variable {o : Oper} {a : Act} {K : Act → World → Prop} {Q : Exit → Act → World → Prop} {z : Value} {ops : Array Oper} {rest : List Oper}
/-- a node is appended -/
theorem wp0 (w : World) (s x : Operand) (t : TypeId) (ho : o.op = .call { callee := .builtin .append, args := #[s, x], argTypes := #[t, t] }) (ht : Tryz.prog.underlying t = some (.slice 88))
    {A' : Option Addr} {c' : Nat} {y : NodeT} {G : List Nat} {news : List Value} (hs : a.eval s = v0) (hx : a.eval x = .slice A' 1 c') (h3 : Out4 X0 w v0 v1 v2 v3 d)
    (hM : dNode.M w G y news) (hG : ∀ k, k ∈ G → ¬ X0 k ∧ X k) (hA : ∃ ad, A' = some ad ∧ ∀ j u, news[j]? = some u → w.cell? (ad.add j) = some u)
    (hX0 : ∀ k, X0 k → X k) (hXn : ∀ k, w.heap.size ≤ k → X k) (hlen : d.1.length + 1 ≤ 34359738368)
    (h : ∀ A' n' c' w', Out4 X w' (.slice A' n' c') v1 v2 v3 (d.1 ++ [y], d.2) → Mod X0 w w' → K (a.put o.dst (.slice A' n' c')) w') : o.wp Tryz.prog a w K Q := by
  obtain ⟨F0, F1, F2, F3, o0, o1, o2, o3, hd, hX, hq⟩ := h3
  have hlt := lt o0 o1 o2 o3
  refine wp_append w s x t ho dNode 88 ht eltNode hs o0 hx (Elems.one hM) rfl (fun _ => hA) (by simpa using dNode.M_nd hM) (fun k hk hk2 => by simp at hk; exact (hG k hk).1 (hX k (Or.inl hk2))) hlen ?_
  intro A2 n2 c2 w2 G2 ho3 hn2 hm2 hF2
  have hmem : ∀ k, k ∈ G2 → k ∈ F0 ∨ (¬ X0 k ∧ X k) ∨ w.heap.size ≤ k := fun k hk => by
    rcases hF2 k hk with h1 | h1 | h1
    · exact Or.inl h1
    · simp at h1; exact Or.inr (Or.inl (hG k h1))
    · exact Or.inr (Or.inr h1)
  have hout : ∀ k, ((¬ X0 k ∧ X k) ∨ w.heap.size ≤ k) → k ∉ F1 ∧ k ∉ F2 ∧ k ∉ F3 := fun k hk => by
    refine ⟨fun h => ?_, fun h => ?_, fun h => ?_⟩
    · have h4 : In4 F0 F1 F2 F3 k := Or.inr (Or.inl h)
      rcases hk with hk | hk
      · exact hk.1 (hX k h4)
      · have := hlt k h4; omega
    · have h4 : In4 F0 F1 F2 F3 k := Or.inr (Or.inr (Or.inl h))
      rcases hk with hk | hk
      · exact hk.1 (hX k h4)
      · have := hlt k h4; omega
    · have h4 : In4 F0 F1 F2 F3 k := Or.inr (Or.inr (Or.inr h))
      rcases hk with hk | hk
      · exact hk.1 (hX k h4)
      · have := hlt k h4; omega
  refine h _ _ _ _ ⟨G2, F1, F2, F3, ho3, o1.keep hm2 (fun k hk e => (hd.1 k (o0.own_mem k e)).1 hk), o2.keep hm2 (fun k hk e => (hd.1 k (o0.own_mem k e)).2.1 hk), o3.keep hm2 (fun k hk e => (hd.1 k (o0.own_mem k e)).2.2 hk), hd.upd0 (fun k hk => (hmem k hk).imp id (hout k)), ?_, hq⟩ (hm2.mono fun i _ hi => hX i (Or.inl (o0.own_mem i hi)))
  rintro k (hk | hk)
  · rcases hmem k hk with h1 | h1 | h1
    · exact hX0 k (hX k (Or.inl h1))
    · exact h1.2
    · exact hXn k h1
  · exact hX0 k (hX k (Or.inr hk))
/-- a change of names is noted -/
theorem wp3 (w : World) (s x : Operand) (t : TypeId) (ho : o.op = .call { callee := .builtin .append, args := #[s, x], argTypes := #[t, t] }) (ht : Tryz.prog.underlying t = some (.slice 90))
    {A' : Option Addr} {m c' : Nat} {ys : DirOpST} {B : Nat → Prop} (hs : a.eval s = v3) (hx : a.eval x = .slice A' m c') (h3 : Out4 X w v0 v1 v2 v3 d)
    (hy : Row dDirOp w B A' m ys) (hXn : ∀ k, w.heap.size ≤ k → X k) (hlen : d.2.2.2.1.length + ys.length ≤ 34359738368)
    (h : ∀ A' n' c' w', Out4 X w' v0 v1 v2 (.slice A' n' c') (d.1, d.2.1, d.2.2.1, d.2.2.2.1 ++ ys, d.2.2.2.2) → Mod X w w' → K (a.put o.dst (.slice A' n' c')) w') : o.wp Tryz.prog a w K Q := by
  obtain ⟨F0, F1, F2, F3, o0, o1, o2, o3, hd, hX, hq⟩ := h3
  have hlt := lt o0 o1 o2 o3
  obtain ⟨news, hel, hA⟩ := hy.flat flatDirOp
  refine wp_append w s x t ho dDirOp 90 ht eltDirOp hs o3 hx hel hy.1 hA (by rw [flat_nil]; exact List.nodup_nil) (by rw [flat_nil]; intro k hk; cases hk) (by have := hy.1; omega) ?_
  intro A2 n2 c2 w2 G2 ho3 hn2 hm2 hF2
  have hmem : ∀ k, k ∈ G2 → k ∈ F3 ∨ w.heap.size ≤ k := fun k hk => by
    rcases hF2 k hk with h1 | h1 | h1
    · exact Or.inl h1
    · rw [flat_nil] at h1; cases h1
    · exact Or.inr h1
  refine h _ _ _ _ ⟨F0, F1, F2, G2, o0.keep hm2 (fun k hk e => (hd.1 k hk).2.2 (o3.own_mem k e)), o1.keep hm2 (fun k hk e => (hd.2.1 k hk).2 (o3.own_mem k e)), o2.keep hm2 (fun k hk e => hd.2.2 k hk (o3.own_mem k e)), ho3, hd.upd3 (fun k hk => (hmem k hk).imp id (fun h1 => ⟨fun h => by have := o0.lt k h; omega, fun h => by have := o1.lt k h; omega, fun h => by have := o2.lt k h; omega⟩)), ?_, hq⟩ (hm2.mono fun i _ hi => hX i (Or.inr (Or.inr (Or.inr (o3.own_mem i hi)))))
  rintro k (hk | hk | hk | hk)
  · exact hX k (Or.inl hk)
  · exact hX k (Or.inr (Or.inl hk))
  · exact hX k (Or.inr (Or.inr (Or.inl hk)))
  · rcases hmem k hk with h1 | h1
    · exact hX k (Or.inr (Or.inr (Or.inr h1)))
    · exact hXn k h1
theorem list0 (w : World) (hgd : o.guard = none) (s x : Operand) (t : TypeId) (ho : o.op = .call { callee := .builtin .append, args := #[s, x], argTypes := #[t, t] }) (ht : Tryz.prog.underlying t = some (.slice 88))
    {A' : Option Addr} {c' : Nat} {y : NodeT} {G : List Nat} {news : List Value} (hs : a.eval s = v0) (hx : a.eval x = .slice A' 1 c') (h3 : Out4 X0 w v0 v1 v2 v3 d)
    (hM : dNode.M w G y news) (hG : ∀ k, k ∈ G → ¬ X0 k ∧ X k) (hA : ∃ ad, A' = some ad ∧ ∀ j u, news[j]? = some u → w.cell? (ad.add j) = some u)
    (hX0 : ∀ k, X0 k → X k) (hXn : ∀ k, w.heap.size ≤ k → X k) (hlen : d.1.length + 1 ≤ 34359738368)
    (h : ∀ A' n' c' w', Out4 X w' (.slice A' n' c') v1 v2 v3 (d.1 ++ [y], d.2) → Mod X0 w w' → wpList Tryz.prog ops Q rest (a.put o.dst (.slice A' n' c')) w') : wpList Tryz.prog ops Q (o :: rest) a w :=
  wpList_plain hgd fun _ hK => wp0 w s x t ho ht hs hx h3 hM hG hA hX0 hXn hlen fun A' n' c' w' h1 h2 => hK _ _ (h A' n' c' w' h1 h2)
theorem list3 (w : World) (hgd : o.guard = none) (s x : Operand) (t : TypeId) (ho : o.op = .call { callee := .builtin .append, args := #[s, x], argTypes := #[t, t] }) (ht : Tryz.prog.underlying t = some (.slice 90))
    {A' : Option Addr} {m c' : Nat} {ys : DirOpST} {B : Nat → Prop} (hs : a.eval s = v3) (hx : a.eval x = .slice A' m c') (h3 : Out4 X w v0 v1 v2 v3 d)
    (hy : Row dDirOp w B A' m ys) (hXn : ∀ k, w.heap.size ≤ k → X k) (hlen : d.2.2.2.1.length + ys.length ≤ 34359738368)
    (h : ∀ A' n' c' w', Out4 X w' v0 v1 v2 (.slice A' n' c') (d.1, d.2.1, d.2.2.1, d.2.2.2.1 ++ ys, d.2.2.2.2) → Mod X w w' → wpList Tryz.prog ops Q rest (a.put o.dst (.slice A' n' c')) w') : wpList Tryz.prog ops Q (o :: rest) a w :=
  wpList_plain hgd fun _ hK => wp3 w s x t ho ht hs hx h3 hy hXn hlen fun A' n' c' w' h1 h2 => hK _ _ (h A' n' c' w' h1 h2)
end
end Out4
theorem node_inv {w : World} {f : List Nat} {n : NodeT} {cs : List Value} (h : dNode.M w f n cs) : ∃ v, cs = [v, .int .i64 n.2] ∧ Own Ty.byte 5 w f v n.1 ∧ IntKind.i64.wrap n.2 = n.2 := by
  obtain ⟨c0, c1, f0, f1, rfl, rfl, hnd, ⟨v, rfl, ho⟩, ⟨rfl, rfl, hw⟩⟩ := h
  rw [List.append_nil]
  exact ⟨v, rfl, ho, hw⟩
namespace Out4
variable {X X0 X' : Nat → Prop} {w w' : World} {v0 v1 v2 v3 : Value} {d : DiskT}
/-- a node's bytes replaced by others of the call's own -/
theorem setData {A : Option Addr} {n c : Nat} (h : Out4 X0 w (.slice A n c) v1 v2 v3 d) {i : Nat} (hi : i < d.1.length) {F : List Nat} {v : Value} {xs : Bytes} (ho : Own Ty.byte 5 w F v xs) (hF : ∀ k, k ∈ F → ¬ X0 k ∧ X k) (hX0 : ∀ k, X0 k → X k) :
    ∃ g, A = some ⟨g, 0, none⟩ ∧ X0 g ∧ (∃ u, w.cell? ⟨g, i * 2, none⟩ = some u) ∧ w.frozen? ⟨g, i * 2, none⟩ = false ∧ Out4 X (w.setCell ⟨g, i * 2, none⟩ v) (.slice A n c) v1 v2 v3 (d.1.set i (xs, d.1[i].2), d.2) := by
  obtain ⟨F0, F1, F2, F3, o0, o1, o2, o3, hd, hX, hq⟩ := h
  obtain ⟨g, cs, f, rfl, hg, hgf, hfF, hM, hcl, hcell, hfz, hst⟩ := o0.elem hi
  obtain ⟨v', rfl, ho', hw⟩ := node_inv hM
  have hXg : X0 g := hX g (Or.inl hg)
  have hgF : g ∉ F := fun hk => (hF g hk).1 hXg
  have hs2 : dNode.sz = 2 := rfl
  have hc0 := hcell 0 (by rw [hs2]; decide)
  rw [hs2, Nat.add_zero] at hc0
  have hoS : Own Ty.byte 5 (w.setCell ⟨g, i * 2, none⟩ v) F v xs := ho.keep ((Mod.refl (fun k => k = g) w).setCell (p := ⟨g, i * 2, none⟩) (fun _ => rfl) v) (fun k hk e => hgF (e ▸ hk))
  obtain ⟨F', hO, -, hF'⟩ := hst 0 v (xs, d.1[i].2) (F ++ []) (by rw [hs2]; decide) (by rw [hs2, Nat.add_zero]; exact mNode (x := (xs, d.1[i].2)) hw hoS) (fun k hk => Or.inr (fun h => (hF k (by simpa using hk)).1 (hX k (Or.inl h))))
  rw [hs2, Nat.add_zero] at hO
  have hmem : ∀ k, k ∈ F' → k ∈ F0 ∨ k ∈ F := fun k hk => (hF' k hk).imp id (fun h => by simpa using h)
  have hm1 : ∀ k, k ∈ F1 ∨ k ∈ F2 ∨ k ∈ F3 → k ≠ g := fun k hk e => by
    subst e
    rcases hk with hk | hk | hk
    · exact (hd.1 _ hg).1 hk
    · exact (hd.1 _ hg).2.1 hk
    · exact (hd.1 _ hg).2.2 hk
  have hms := (Mod.refl (fun k => k = g) w).setCell (p := ⟨g, i * 2, none⟩) (fun _ => rfl) v
  refine ⟨g, rfl, hXg, ⟨_, hc0⟩, hfz _, F', F1, F2, F3, hO, o1.keep hms (fun k hk => hm1 k (Or.inl hk)), o2.keep hms (fun k hk => hm1 k (Or.inr (Or.inl hk))), o3.keep hms (fun k hk => hm1 k (Or.inr (Or.inr hk))), hd.upd0 (fun k hk => (hmem k hk).imp id (fun h1 => ⟨fun h => (hF k h1).1 (hX k (Or.inr (Or.inl h))), fun h => (hF k h1).1 (hX k (Or.inr (Or.inr (Or.inl h)))), fun h => (hF k h1).1 (hX k (Or.inr (Or.inr (Or.inr h))))⟩)), ?_, hq⟩
  rintro k (hk | hk)
  · rcases hmem k hk with h1 | h1
    · exact hX0 k (hX k (Or.inl h1))
    · exact (hF k h1).2
  · exact hX0 k (hX k (Or.inr hk))
/-- how much of a node is safe -/
theorem setSafe {A : Option Addr} {n c : Nat} (h : Out4 X w (.slice A n c) v1 v2 v3 d) {i : Nat} (hi : i < d.1.length) {s : Int} (hs : IntKind.i64.wrap s = s) :
    ∃ g, A = some ⟨g, 0, none⟩ ∧ X g ∧ (∃ u, w.cell? ⟨g, i * 2 + 1, none⟩ = some u) ∧ w.frozen? ⟨g, i * 2 + 1, none⟩ = false ∧ Out4 X (w.setCell ⟨g, i * 2 + 1, none⟩ (.int .i64 s)) (.slice A n c) v1 v2 v3 (d.1.set i (d.1[i].1, s), d.2) := by
  obtain ⟨F0, F1, F2, F3, o0, o1, o2, o3, hd, hX, hq⟩ := h
  obtain ⟨g, cs, f, rfl, hg, hgf, hfF, hM, hcl, hcell, hfz, hst⟩ := o0.elem hi
  obtain ⟨v', rfl, ho', hw⟩ := node_inv hM
  have hs2 : dNode.sz = 2 := rfl
  have hc0 := hcell 1 (by rw [hs2]; decide)
  rw [hs2] at hc0
  have hms := (Mod.refl (fun k => k = g) w).setCell (p := ⟨g, i * 2 + 1, none⟩) (fun _ => rfl) (.int .i64 s)
  have hoS : Own Ty.byte 5 (w.setCell ⟨g, i * 2 + 1, none⟩ (.int .i64 s)) f v' d.1[i].1 := ho'.keep hms (fun k hk e => hgf (e ▸ hk))
  obtain ⟨F', hO, -, hF'⟩ := hst 1 (.int .i64 s) (d.1[i].1, s) (f ++ []) (by rw [hs2]; decide) (by rw [hs2]; exact mNode (x := (d.1[i].1, s)) hs hoS) (fun k hk => Or.inl (by simpa using hk))
  rw [hs2] at hO
  have hmem : ∀ k, k ∈ F' → k ∈ F0 := fun k hk => (hF' k hk).elim id (fun h => hfF k (by simpa using h))
  have hm1 : ∀ k, k ∈ F1 ∨ k ∈ F2 ∨ k ∈ F3 → k ≠ g := fun k hk e => by
    subst e
    rcases hk with hk | hk | hk
    · exact (hd.1 _ hg).1 hk
    · exact (hd.1 _ hg).2.1 hk
    · exact (hd.1 _ hg).2.2 hk
  refine ⟨g, rfl, hX g (Or.inl hg), ⟨_, hc0⟩, hfz _, F', F1, F2, F3, hO, o1.keep hms (fun k hk => hm1 k (Or.inl hk)), o2.keep hms (fun k hk => hm1 k (Or.inr (Or.inl hk))), o3.keep hms (fun k hk => hm1 k (Or.inr (Or.inr hk))), hd.upd0 (fun k hk => Or.inl (hmem k hk)), ?_, hq⟩
  rintro k (hk | hk)
  · exact hX k (Or.inl (hmem k hk))
  · exact hX k (Or.inr hk)
end Out4
end Go.Proofs.YtkkgighgnbbgiaaGreatDoor

namespace Go.Proofs.YtkkgighgnbbgiaaGreatDoor
open Go.RowKit Mem
set_option linter.unusedVariables false
set_option linter.unusedSimpArgs false
def settleNs (x : DiskL) (l : List EntL) : List NodL := l.map fun e => nodeAt x e.2
theorem settleNs_len (x : DiskL) (l : List EntL) : (settleNs x l).length = l.length := by simp [settleNs]
theorem settle_take (x : DiskL) {l : List EntL} {k : Nat} (hk : k < l.length) : settleNs x (l.take (k + 1)) = settleNs x (l.take k) ++ [nodeAt x l[k].2] := by
  unfold settleNs
  rw [List.take_succ_eq_append_getElem hk, List.map_append]; rfl
theorem settle_at (x : DiskL) {nd : Nat} (hnl : nd < x.1.length) {nm : LB} : nodeAt x ((nm, (nd : Int)) : EntL).2 = x.1[nd] := by
  unfold nodeAt
  show x.1[((nd : Int)).toNat]?.getD ([], 0) = _
  rw [Int.toNat_natCast, List.getElem?_eq_getElem hnl]; rfl
theorem fptNode1D (p : Addr) (w : World) : (Instr.fieldAt 88 (.pointer (some p)) 1).run Tryz.prog w = .ok (.pointer (some ⟨p.block, p.off + 1, none⟩)) w := by go_simp
theorem out4_of3 {X : Nat → Prop} {w : World} {v0 v1 v2 : Value} {ns : NodeST} {es ks : EntryST} (h : Out3 X w v0 v1 v2 ns es ks) {q : Int} (hq : IntKind.i64.wrap q = q) : Out4 X w v0 v1 v2 (.slice none 0 0) (ns, es, ks, [], q) := by
  obtain ⟨F0, F1, F2, o0, o1, o2, hn, hF⟩ := h
  obtain ⟨d01, d02, d12⟩ := nodup3_of hn
  refine ⟨F0, F1, F2, [], o0, o1, o2, Own.nil _ _ _, ⟨fun k hk => ⟨d01 k hk, d02 k hk, by simp⟩, fun k hk => ⟨d12 k hk, by simp⟩, fun k hk => by simp⟩, ?_, hq⟩
  rintro k (hk | hk | hk | hk)
  · exact hF k (by simp [hk])
  · exact hF k (by simp [hk])
  · exact hF k (by simp [hk])
  · cases hk
/-- a disk of the call's own comes back -/
def RetD (w : World) (d : DiskT) (e : Ending) (w' : World) : Prop := ∃ v0 v1 v2 v3, e = .returned (.agg #[v0, v1, v2, v3, .int .i64 d.2.2.2.2]) ∧ Out4 (fun k => w.heap.size ≤ k) w' v0 v1 v2 v3 d ∧ New w w'
set_option maxHeartbeats 4000000 in
set_option maxRecDepth 100000 in
theorem l1Settle_v {w : World} {v : Value} {x : DiskT} {N : Nat} (h : RdV true dDisk w v x) (hI : DInv N x) (hN : N ≤ 100000) : Calls Tryz.prog 51 #[v] w (RetD w (settleL x)) := by
  have HQW := Sec.mk (okDisk h)
  have HE : Sec (settleL x = (settleNs x x.2.1, crashEs x.2.1, crashEs x.2.1, [], x.2.2.2.2)) := ⟨rfl⟩
  have HQI := Sec.mk hI.inr
  have HNO := Sec.mk hI.len
  have hcl := hI.names
  clear hI
  obtain ⟨v0, v1, v2, v3, rfl, k0, k1, k2, k3⟩ := rdDisk h
  obtain ⟨A0, c0, rfl, hc0, hr0⟩ := k0.slice
  obtain ⟨A1, c1, rfl, hc1, hr1⟩ := k1.slice
  have HR0 := Sec.mk hr0
  have HBX := Sec.mk ((Blk.new w 34 [.slice A0 x.1.length c0, .slice A1 x.2.1.length c1, v2, v3, .int .i64 x.2.2.2.2]).alloc (.cells #[.slice none 0 0, .slice none 0 0, .slice none 0 0, .slice none 0 0, .int .i64 0] 34))
  have HBC := Blk.new (w.alloc (.cells #[.slice A0 x.1.length c0, .slice A1 x.2.1.length c1, v2, v3, .int .i64 x.2.2.2.2] 34)) 34 [.slice none 0 0, .slice none 0 0, .slice none 0 0, .slice none 0 0, .int .i64 0]
  have HMr := Sec.mk (((Mod.refl (fun _ => False) w).alloc (.cells #[.slice A0 x.1.length c0, .slice A1 x.2.1.length c1, v2, v3, .int .i64 x.2.2.2.2] 34)).alloc (.cells #[.slice none 0 0, .slice none 0 0, .slice none 0 0, .slice none 0 0, .int .i64 0] 34))
  have HCr : Sec (Blk ((w.alloc (.cells #[.slice A0 x.1.length c0, .slice A1 x.2.1.length c1, v2, v3, .int .i64 x.2.2.2.2] 34)).alloc (.cells #[.slice none 0 0, .slice none 0 0, .slice none 0 0, .slice none 0 0, .int .i64 0] 34)) (w.heap.size + 1) 34 [.slice none 0 0, .slice none 0 0, .slice none 0 0, .slice none 0 0, .int .i64 0]) := ⟨by simpa using HBC⟩
  have HBr := HBX
  have HC := Sec.mk (hr1.mod (w' := (w.alloc (.cells #[.slice A0 x.1.length c0, .slice A1 x.2.1.length c1, v2, v3, .int .i64 x.2.2.2.2] 34)).alloc (.cells #[.slice none 0 0, .slice none 0 0, .slice none 0 0, .slice none 0 0, .int .i64 0] 34)) (B' := (· < ((w.alloc (.cells #[.slice A0 x.1.length c0, .slice A1 x.2.1.length c1, v2, v3, .int .i64 x.2.2.2.2] 34)).alloc (.cells #[.slice none 0 0, .slice none 0 0, .slice none 0 0, .slice none 0 0, .int .i64 0] 34)).heap.size)) (fun k hk => Nat.lt_of_lt_of_le hk HMr.out.size) (fun k hk => HMr.out.block k hk id))
  have hwr := HBr.out.lt
  have q1 := HBr.out.cell 1
  have q4 := HBr.out.cell 4
  have q0 := HBr.out.cell 0
  clear h k0 k1 k2 k3 hr0 hr1 HBC HBX
  have HZS := Sec.mk (show ((w.alloc (.cells #[.slice A0 x.1.length c0, .slice A1 x.2.1.length c1, v2, v3, .int .i64 x.2.2.2.2] 34)).alloc (.cells #[.slice none 0 0, .slice none 0 0, .slice none 0 0, .slice none 0 0, .int .i64 0] 34)).heap.size = w.heap.size + 1 + 1 by simp)
  go_enter Tryz.func51, Tryz.ntmps51
  go_wp2
  generalize ((w.alloc (.cells #[.slice A0 x.1.length c0, .slice A1 x.2.1.length c1, v2, v3, .int .i64 x.2.2.2.2] 34)).alloc (.cells #[.slice none 0 0, .slice none 0 0, .slice none 0 0, .slice none 0 0, .int .i64 0] 34)) = wz at *
  rw [← HZS.out]
  generalize hcu : x.2.1 = cur at *
  have HGE : Sec (Blk (wz.alloc (.cells #[.slice none 0 0, .slice none 0 0, .slice none 0 0, .slice none 0 0, .int .i64 x.2.2.2.2] 34)) wz.heap.size 34 [.slice none 0 0, .slice none 0 0, .slice none 0 0, .slice none 0 0, .int .i64 x.2.2.2.2]) := ⟨Blk.new wz 34 _⟩
  go_loopw [13] (fun i wr => ∃ (k : Nat) (B0 B1 B2 : Option Addr) (m0 e0 m1 e1 m2 e2 : Nat), k ≤ cur.length ∧ i = .int .i64 (k : Int) ∧ Sec (Blk wr wz.heap.size 34 [.slice B0 m0 e0, .slice B1 m1 e1, .slice B2 m2 e2, .slice none 0 0, .int .i64 x.2.2.2.2]) ∧ Sec (Out3 (fun k => wz.heap.size + 1 ≤ k) wr (.slice B0 m0 e0) (.slice B1 m1 e1) (.slice B2 m2 e2) (settleNs x (cur.take k)) (crashEs (cur.take k)) (crashEs (cur.take k))) ∧ Sec (New wz wr)) (fun i _ => cur.length - (intOf i).toNat)
  case atStart => exact ⟨0, none, none, none, 0, 0, 0, 0, 0, 0, Nat.zero_le _, rfl, HGE, ⟨Out3.nil _ _⟩, ⟨(Mod.refl _ _).alloc _⟩⟩
  case round =>
    clear HGE
    obtain ⟨k, B0, B1, B2, m0, e0, m1, e1, m2, e2, hk, rfl, HGB, H3, HMq⟩ := hrel
    have HBq := Sec.mk (HBr.out.mod HMq.out id)
    have hwq : wz.heap.size < wr.heap.size := HGB.out.lt
    have hwz : w.heap.size + 1 < wz.heap.size := HCr.out.lt
    clear q0 q1 q4 hcu
    by_cases hlt : k < cur.length
    · obtain ⟨ae, hA', d0, d1, g0, g1⟩ := ent_at HC.out (w' := wr) (fun i hi => HMq.out.block i hi id) hlt
      subst hA'
      have hki : (k : Int) < (cur.length : Int) := by omega
      have HIE := Sec.mk (HQI.out _ (List.getElem_mem hlt))
      have HTK := Sec.mk (settle_take x hlt)
      have HTE := Sec.mk (crashEs_take cur hlt)
      have HPX : Sec (∃ q : EntryT, q = cur[k]) := ⟨⟨_, rfl⟩⟩
      obtain ⟨q, hq⟩ := HPX.out
      rw [← hq] at d0 d1 g0 g1 HTK HTE HIE
      clear hq HPX
      obtain ⟨nm, u⟩ := q
      simp only at d0 d1 g0 g1
      obtain ⟨nd, hnd⟩ := Int.eq_ofNat_of_zero_le HIE.out.1
      simp only at hnd
      subst hnd
      have hnl : nd < x.1.length := by have := HIE.out.2; simp only at this; omega
      obtain ⟨bd, An, cn, hA0, n0, n1, hcc, hcm, hrow, hw⟩ := node_at (HR0.out.mod (w' := (wr.alloc (.cells #[.string ⟨nm.toArray⟩, .int .i64 (nd : Int)] 98))) (fun _ h => h) (fun k hk => ((HMr.out.transN HMq.out).alloc _).block k hk id)) (w' := (wr.alloc (.cells #[.string ⟨nm.toArray⟩, .int .i64 (nd : Int)] 98))) (fun _ _ => rfl) hnl
      subst hA0
      have hdl := HNO.out _ (List.getElem_mem hnl)
      rw [settle_at x hnl] at HTK
      have HRW := Sec.mk hrow
      have HWP := Sec.mk hw
      clear hrow hw HIE
      have HPX : Sec (∃ z : NodeT, z = x.1[nd]) := ⟨⟨_, rfl⟩⟩
      obtain ⟨z, hz⟩ := HPX.out
      rw [← hz] at n0 n1 hcc HRW HWP HTK hdl
      clear hz HPX
      obtain ⟨dat, safe⟩ := z
      simp only at n0 n1 hcc hdl
      have q0 : wr.cell? ⟨w.heap.size, 0, none⟩ = some (.slice (some bd) x.1.length c0) := HBq.out.cell 0
      have hwr2 : w.heap.size < wr.heap.size := by omega
      go_wp2
      have hre : (wr.alloc (.cells #[.string ⟨nm.toArray⟩, .int .i64 (nd : Int)] 98)).heap.size = wr.heap.size + 1 := by simp
      have HMN : Sec (New wr ((wr.alloc (.cells #[.string ⟨nm.toArray⟩, .int .i64 (nd : Int)] 98)).alloc (.cells #[.slice An dat.length cn, .int .i64 safe] 88))) := ⟨((Mod.refl _ _).alloc _).alloc _⟩
      have HGN := Sec.mk (HGB.out.mod HMN.out id)
      have HEN := Sec.mk ((Blk.new wr 98 [.string ⟨nm.toArray⟩, .int .i64 (nd : Int)]).alloc (.cells #[.slice An dat.length cn, .int .i64 safe] 88))
      have HNN : Sec (Blk ((wr.alloc (.cells #[.string ⟨nm.toArray⟩, .int .i64 (nd : Int)] 98)).alloc (.cells #[.slice An dat.length cn, .int .i64 safe] 88)) (wr.heap.size + 1) 88 [.slice An dat.length cn, .int .i64 safe]) := ⟨by rw [← hre]; exact Blk.new (wr.alloc (.cells #[.string ⟨nm.toArray⟩, .int .i64 (nd : Int)] 98)) 88 _⟩
      have H3N := Sec.mk ((H3.out.wide (X' := fun k => wz.heap.size + 1 ≤ k ∧ k < wr.heap.size) (fun k h1 h2 => ⟨h2, h1⟩)).new HMN.out)
      have HRB := Sec.mk ((HRW.out.mod (w' := ((wr.alloc (.cells #[.string ⟨nm.toArray⟩, .int .i64 (nd : Int)] 98)).alloc (.cells #[.slice An dat.length cn, .int .i64 safe] 88))) (fun _ h => h) (fun k hk => ((Mod.refl (fun _ => False) (wr.alloc (.cells #[.string ⟨nm.toArray⟩, .int .i64 (nd : Int)] 98))).alloc (.cells #[.slice An dat.length cn, .int .i64 safe] 88)).block k (Nat.lt_of_lt_of_le hk (by simp; omega)) id)))
      have hsn : ((wr.alloc (.cells #[.string ⟨nm.toArray⟩, .int .i64 (nd : Int)] 98)).alloc (.cells #[.slice An dat.length cn, .int .i64 safe] 88)).heap.size = wr.heap.size + 2 := by simp
      clear hre HRW
      generalize ((wr.alloc (.cells #[.string ⟨nm.toArray⟩, .int .i64 (nd : Int)] 98)).alloc (.cells #[.slice An dat.length cn, .int .i64 safe] 88)) = wn at *
      clear q0 n0 n1 d0 d1
      have HTT : Sec (wn.drew.cell? ⟨wz.heap.size, 0, none⟩ = some (.slice B0 m0 e0) ∧ wn.drew.cell? ⟨wr.heap.size + 1, 0, none⟩ = some (.slice An dat.length cn) ∧ wn.drew.cell? ⟨wr.heap.size + 1, 1, none⟩ = some (.int .i64 safe)) := ⟨HGN.out.cell 0, HNN.out.cell 0, HNN.out.cell 1⟩
      refine reg_start [11] (fun W => Sec (W.cell? ⟨wz.heap.size, 0, none⟩ = some (.slice B0 m0 e0) ∧ W.cell? ⟨wr.heap.size + 1, 0, none⟩ = some (.slice An dat.length cn) ∧ W.cell? ⟨wr.heap.size + 1, 1, none⟩ = some (.int .i64 safe))) (by kernel_rfl) ?_
      have HSS := HTT
      refine reg_take (.pointer (some ⟨wz.heap.size, 0, none⟩)) (i := 0) (n := 24) HSS rfl (by kernel_rfl) (by kernel_rfl) (by kernel_rfl) (by kernel_rfl) (fun _ _ _ h => h) (fun W hW => exec_field rfl rfl (fptDisk0 _ _)) ?_
      simp only [Act.put, List.setIfInBounds_toArray, List.set_cons_zero, List.set_cons_succ]
      refine reg_take (.slice B0 m0 e0) (i := 1) (n := 25) HSS rfl (by kernel_rfl) (by kernel_rfl) (by kernel_rfl) (by kernel_rfl) (fun _ _ _ h => h) (fun W hW => exec_load rfl rfl (ldNodesD hW.out.1)) ?_
      simp only [Act.put, List.setIfInBounds_toArray, List.set_cons_zero, List.set_cons_succ]
      refine reg_take (.pointer (some ⟨wr.heap.size + 1, 0, none⟩)) (i := 2) (n := 26) HSS rfl (by kernel_rfl) (by kernel_rfl) (by kernel_rfl) (by kernel_rfl) (fun _ _ _ h => h) (fun W hW => exec_field rfl rfl (fptNode0D _ _)) ?_
      simp only [Act.put, List.setIfInBounds_toArray, List.set_cons_zero, List.set_cons_succ]
      refine reg_take (.slice An dat.length cn) (i := 3) (n := 27) HSS rfl (by kernel_rfl) (by kernel_rfl) (by kernel_rfl) (by kernel_rfl) (fun _ _ _ h => h) (fun W hW => exec_load rfl rfl (ldBytesD hW.out.2.1)) ?_
      simp only [Act.put, List.setIfInBounds_toArray, List.set_cons_zero, List.set_cons_succ]
      refine reg_take (.pointer (some ⟨wr.heap.size + 1, 1, none⟩)) (i := 5) (n := 29) HSS rfl (by kernel_rfl) (by kernel_rfl) (by kernel_rfl) (by kernel_rfl) (fun _ _ _ h => h) (fun W hW => exec_field rfl rfl (fptNode1D _ _)) ?_
      simp only [Act.put, List.setIfInBounds_toArray, List.set_cons_zero, List.set_cons_succ]
      refine reg_take (.int .i64 safe) (i := 6) (n := 30) HSS rfl (by kernel_rfl) (by kernel_rfl) (by kernel_rfl) (by kernel_rfl) (fun _ _ _ h => h) (fun W hW => exec_load rfl rfl (ldIntD hW.out.2.2)) ?_
      simp only [Act.put, List.setIfInBounds_toArray, List.set_cons_zero, List.set_cons_succ]
      refine reg_step (i := 4) rfl (by kernel_rfl) (fun K hK => ?_)
      refine wp_call (n := 28) (vals := [.slice An dat.length cn]) rfl rfl rfl (by kernel_rfl) (l1Bytes_at (HRB.out.mod (w' := wn.drew) (fun _ h => h) (fun _ _ => rfl)) (fun k hk => by have := Nat.lt_of_lt_of_le hk HMr.out.size; show k < wn.heap.size; omega) (by omega)) ?_
      intro e w5 hret
      obtain ⟨A5, c5, rfl, hmine⟩ := hret.mine
      have HN5 : Sec (New wn w5) := ⟨((Mod.refl _ _).drew).transN hmine.new⟩
      have HMN5 := Sec.mk (hmine.base (w0 := wn) (Mod.refl _ _).drew)
      have HSS : Sec (w5.cell? ⟨wz.heap.size, 0, none⟩ = some (.slice B0 m0 e0) ∧ w5.cell? ⟨wr.heap.size + 1, 0, none⟩ = some (.slice An dat.length cn) ∧ w5.cell? ⟨wr.heap.size + 1, 1, none⟩ = some (.int .i64 safe)) := ⟨(HGN.out.mod HN5.out id).cell 0, (HNN.out.mod HN5.out id).cell 0, (HNN.out.mod HN5.out id).cell 1⟩
      refine ⟨_, rfl, hK.out _ _ (fun _ => HSS) ?_⟩
      clear hret hmine
      clear hK K
      simp only [Act.put, List.setIfInBounds_toArray, List.set_cons_zero, List.set_cons_succ]
      refine reg_take (.agg #[.slice A5 dat.length c5, .int .i64 safe]) (i := 7) (n := 31) HSS rfl (by kernel_rfl) (by kernel_rfl) (by kernel_rfl) (by kernel_rfl) (fun _ _ _ h => h) (fun W hW => exec_build (parts := [(0, .tmp 28), (1, .tmp 30)]) rfl rfl (bldNode _ _ _ _ _)) ?_
      simp only [Act.put, List.setIfInBounds_toArray, List.set_cons_zero, List.set_cons_succ]
      refine reg_step (i := 8) rfl (by kernel_rfl) (fun K hK => ?_)
      refine wp_valw (n := 32) (v := .slice (some ⟨w5.heap.size, 0, none⟩) 1 1) (w' := w5.alloc (.cells #[.slice A5 dat.length c5, .int .i64 safe] 88)) (exec_buildSlice (parts := [(0, .tmp 31)]) (vs := [(0, .agg #[.slice A5 dat.length c5, .int .i64 safe])]) rfl rfl (bldNode1 _ _ _ _ _)) rfl ?_
      have HN6 := Sec.mk (HN5.out.alloc (.cells #[.slice A5 dat.length c5, .int .i64 safe] 88))
      have HSS : Sec ((w5.alloc (.cells #[.slice A5 dat.length c5, .int .i64 safe] 88)).cell? ⟨wz.heap.size, 0, none⟩ = some (.slice B0 m0 e0) ∧ (w5.alloc (.cells #[.slice A5 dat.length c5, .int .i64 safe] 88)).cell? ⟨wr.heap.size + 1, 0, none⟩ = some (.slice An dat.length cn) ∧ (w5.alloc (.cells #[.slice A5 dat.length c5, .int .i64 safe] 88)).cell? ⟨wr.heap.size + 1, 1, none⟩ = some (.int .i64 safe)) := ⟨(HGN.out.mod HN6.out id).cell 0, (HNN.out.mod HN6.out id).cell 0, (HNN.out.mod HN6.out id).cell 1⟩
      refine hK.out _ _ (fun _ => HSS) ?_
      clear hK K
      simp only [Act.put, List.setIfInBounds_toArray, List.set_cons_zero, List.set_cons_succ]
      refine reg_step (i := 9) rfl (by kernel_rfl) (fun K hK => ?_)
      obtain ⟨⟨F5, ho5, hF5⟩, -⟩ := HMN5.out
      have hs5 := HN5.out.size
      have hln := settleNs_len x (cur.take k)
      rw [List.length_take] at hln
      refine Out3.wp0 (X := fun k => wz.heap.size + 1 ≤ k ∧ k ≠ wr.heap.size ∧ k ≠ wr.heap.size + 1) _ (.tmp 25) (.tmp 32) _ rfl Tryz.underlying30 eltNode rfl rfl (H3N.out.new HN6.out) (y := (dat, safe)) (mNode (x := (dat, safe)) HWP.out (ho5.keep ((Mod.refl (fun _ => False) w5).alloc _) (fun _ _ h => h))) (fun k hk => by have := hF5 k (by simpa using hk); omega) (lit_cells _ _ _ rfl) (fun k hk => by omega) (fun k hk => by simp at hk; omega) (by omega) ?_
      intro A7 n7 c7 w7 h7 hm7
      have H7 := Sec.mk h7
      have HM7 := Sec.mk (HMN.out.transN HN6.out)
      have HG7 := Sec.mk ((HGN.out.mod HN6.out id).mod hm7 (by omega))
      have HE7 := Sec.mk ((HEN.out.mod HN6.out id).mod hm7 (by omega))
      have HNN7 := Sec.mk ((HNN.out.mod HN6.out id).mod hm7 (by omega))
      have HW7 : Sec (New wr wr → New wz w7) := ⟨fun _ => ((HMq.out.transN HM7.out).trans hm7 (fun i hi hlt => by omega))⟩
      have HSS : Sec (w7.cell? ⟨wz.heap.size, 0, none⟩ = some (.slice B0 m0 e0) ∧ w7.cell? ⟨wr.heap.size + 1, 0, none⟩ = some (.slice An dat.length cn) ∧ w7.cell? ⟨wr.heap.size + 1, 1, none⟩ = some (.int .i64 safe)) := ⟨HG7.out.cell 0, HNN7.out.cell 0, HNN7.out.cell 1⟩
      have hs7 := hm7.size
      refine hK.out _ _ (fun _ => HSS) ?_
      clear h7 hm7 ho5 hF5
      clear hK K
      simp only [Act.put, List.setIfInBounds_toArray, List.set_cons_zero, List.set_cons_succ]
      refine reg_take (.pointer (some ⟨wz.heap.size, 0, none⟩)) (i := 10) (n := 34) HSS rfl (by kernel_rfl) (by kernel_rfl) (by kernel_rfl) (by kernel_rfl) (fun _ _ _ h => h) (fun W hW => exec_field rfl rfl (fptDisk0 _ _)) ?_
      simp only [Act.put, List.setIfInBounds_toArray, List.set_cons_zero, List.set_cons_succ]
      refine reg_step (i := 11) rfl (by kernel_rfl) (fun K hK => ?_)
      refine wp_store rfl rfl rfl rfl (stNodesC A7 n7 c7 (HG7.out.cell 0) (HG7.out.frozen 0)) (hK.out _ _ (fun h => absurd (List.mem_singleton.2 rfl) h) ?_)
      clear hK K
      refine reg_done (by kernel_rfl) ?_ _
      have HN7 := Sec.mk (HW7.out (Mod.refl _ _))
      have H8 := Sec.mk (H7.out.keep (S := fun k => k < wz.heap.size + 1) (Mod.setCell (Mod.refl _ _) (p := ⟨wz.heap.size, 0, none⟩) (fun _ => by simp) (.slice A7 n7 c7)) (fun k h1 h2 => by omega))
      have HG8 := Sec.mk (HG7.out.set_ 0 (.slice A7 n7 c7))
      have HE8 := Sec.mk (HE7.out.far (p := ⟨wz.heap.size, 0, none⟩) (by show wr.heap.size ≠ wz.heap.size; omega) (.slice A7 n7 c7))
      have HN8 := Sec.mk (HN7.out.setCell (p := ⟨wz.heap.size, 0, none⟩) (fun h => absurd h (Nat.lt_irrefl _)) (.slice A7 n7 c7))
      have hs8 : (w7.setCell ⟨wz.heap.size, 0, none⟩ (.slice A7 n7 c7)).heap.size = w7.heap.size := by simp [World.setCell]
      simp only [List.set_cons_zero] at HG8
      have hs7' : wr.heap.size + 2 < w7.heap.size := by have h := hs7; simp at h; omega
      have HLN := Sec.mk (crashEs_len (cur.take k))
      have hlt7 : (cur.take k).length ≤ 100000 := by rw [List.length_take]; omega
      have HG0 := Sec.mk g0
      have HWK : Sec (IntKind.i64.wrap (k : Int) = (k : Int)) := ⟨by rw [IntKind.wrap_i64]; omega⟩
      clear HG7 HE7 H7 HN7 HNN7 HW7 HSS HTT HM7 HN6 HN5 HMN5 HMN H3N HGN HEN HNN HRB g0 hs5 hln
      generalize w7.setCell ⟨wz.heap.size, 0, none⟩ (.slice A7 n7 c7) = w8 at *
      have n1 : w8.cell? ⟨wz.heap.size, 1, none⟩ = some (.slice B1 m1 e1) := HG8.out.cell 1
      have z0 : w8.cell? ⟨wr.heap.size, 0, none⟩ = some (.string ⟨nm.toArray⟩) := HE8.out.cell 0
      have hw8 : wz.heap.size < w8.heap.size := by omega
      have hw8' : wr.heap.size < w8.heap.size := by omega
      have hw8'' : wr.heap.size + 2 < w8.heap.size := by omega
      clear hs8 hs7
      go_wp2_with (first
        | (at_builtin; refine Out3.list1 _ rfl (.tmp 36) (.tmp 41) _ rfl Tryz.underlying31 elt_entry rfl rfl (H8.out.new ((Mod.refl _ _).alloc _)) (rowEnt _ HG0.out HWK.out rfl) (fun k hk => by simp at hk; omega) (by rw [HLN.out, List.length_singleton]; omega) ?_; intro A9 n9 c9 w9 h9 hm9; have H9 := Sec.mk h9; have HG9 := Sec.mk ((HG8.out.alloc _).mod hm9 (by omega)); have HE9 := Sec.mk ((HE8.out.alloc _).mod hm9 (by omega)); have HN9 := Sec.mk ((HN8.out.alloc _).trans hm9 (fun i hi hlt => by omega)); have hw9 : wr.heap.size + 2 < w9.heap.size := (by have h := hm9.size; simp at h; omega); clear h9 hm9; have hw9' : wr.heap.size < w9.heap.size := (by omega); have hw9'' : wz.heap.size < w9.heap.size := (by omega); have n1' : w9.cell? ⟨wz.heap.size, 1, none⟩ = some (.slice B1 m1 e1) := HG9.out.cell 1; have f1' : w9.frozen? ⟨wz.heap.size, 1, none⟩ = false := HG9.out.frozen 1; have n2' : w9.cell? ⟨wz.heap.size, 2, none⟩ = some (.slice B2 m2 e2) := HG9.out.cell 2; have z0' : w9.cell? ⟨wr.heap.size, 0, none⟩ = some (.string ⟨nm.toArray⟩) := HE9.out.cell 0)
        | (at_builtin; go_loud (refine Out3.list2 _ rfl (.tmp 45) (.tmp 50) _ rfl Tryz.underlying31 elt_entry rfl rfl ((H9.out.keep (S := fun k => k < wz.heap.size + 1) (Mod.setCell (Mod.refl _ _) (p := ⟨wz.heap.size, 1, none⟩) (fun _ => by simp) (.slice A9 n9 c9)) (fun k h1 h2 => by omega)).new ((Mod.refl _ _).alloc _)) (rowEnt _ HG0.out HWK.out (by simp [World.setCell])) (fun k hk => by simp [World.setCell] at hk; omega) (by rw [HLN.out, List.length_singleton]; omega) ?_; intro A11 n11 c11 w11 h11 hm11; have H11 := Sec.mk h11; have HG11 := Sec.mk (((HG9.out.set_ 1 (.slice A9 n9 c9)).alloc _).mod hm11 (by omega)); have HN11 := Sec.mk (((HN9.out.setCell (p := ⟨wz.heap.size, 1, none⟩) (fun h => absurd h (Nat.lt_irrefl _)) (.slice A9 n9 c9)).alloc _).trans hm11 (fun i hi hlt => by omega)); clear h11 hm11; have n2'' : w11.cell? ⟨wz.heap.size, 2, none⟩ = some (.slice B2 m2 e2) := HG11.out.cell 2; have f2'' : w11.frozen? ⟨wz.heap.size, 2, none⟩ = false := HG11.out.frozen 2)))
      go_roundw
      case rel =>
        have hbf := HG11.out.set_ 2 (.slice A11 n11 c11)
        simp only [List.set_cons_zero, List.set_cons_succ] at hbf
        refine ⟨k + 1, A7, A9, A11, n7, c7, n9, c9, n11, c11, by omega, by go_num, ⟨hbf⟩, ⟨?_⟩, ⟨HN11.out.setCell (p := ⟨wz.heap.size, 2, none⟩) (fun h => absurd h (Nat.lt_irrefl _)) _⟩⟩
        rw [HTK.out, HTE.out]
        exact (H11.out.keep (S := fun k => k < wz.heap.size + 1) (Mod.setCell (Mod.refl _ _) (p := ⟨wz.heap.size, 2, none⟩) (fun _ => by simp) (.slice A11 n11 c11)) (fun k h1 h2 => by omega)).wide (fun k _ h => h.1)
      case measure => simp [intOf]; omega
    · obtain rfl : k = cur.length := by omega
      have HCq := Sec.mk (HCr.out.mod HMq.out id)
      have hlq : w.heap.size + 1 < wr.heap.size := by omega
      have m0' : wr.cell? ⟨wz.heap.size, 0, none⟩ = some (.slice B0 m0 e0) := HGB.out.cell 0
      have m1' : wr.cell? ⟨wz.heap.size, 1, none⟩ = some (.slice B1 m1 e1) := HGB.out.cell 1
      have m2' : wr.cell? ⟨wz.heap.size, 2, none⟩ = some (.slice B2 m2 e2) := HGB.out.cell 2
      have m3' : wr.cell? ⟨wz.heap.size, 3, none⟩ = some (.slice none 0 0) := HGB.out.cell 3
      have m4' : wr.cell? ⟨wz.heap.size, 4, none⟩ = some (.int .i64 x.2.2.2.2) := HGB.out.cell 4
      have q0 : wr.cell? ⟨w.heap.size + 1, 0, none⟩ = some (.slice none 0 0) := HCq.out.cell 0
      have q1 : wr.cell? ⟨w.heap.size + 1, 1, none⟩ = some (.slice none 0 0) := HCq.out.cell 1
      have q2 : wr.cell? ⟨w.heap.size + 1, 2, none⟩ = some (.slice none 0 0) := HCq.out.cell 2
      have q3 : wr.cell? ⟨w.heap.size + 1, 3, none⟩ = some (.slice none 0 0) := HCq.out.cell 3
      have q4 : wr.cell? ⟨w.heap.size + 1, 4, none⟩ = some (.int .i64 0) := HCq.out.cell 4
      have f0 : wr.frozen? ⟨w.heap.size + 1, 0, none⟩ = false := HCq.out.frozen 0
      have f1 : wr.frozen? ⟨w.heap.size + 1, 1, none⟩ = false := HCq.out.frozen 1
      have f2 : wr.frozen? ⟨w.heap.size + 1, 2, none⟩ = false := HCq.out.frozen 2
      have f3 : wr.frozen? ⟨w.heap.size + 1, 3, none⟩ = false := HCq.out.frozen 3
      have f4 : wr.frozen? ⟨w.heap.size + 1, 4, none⟩ = false := HCq.out.frozen 4
      have HC3 := Sec.mk (((((HCq.out.set_ 0 (.slice B0 m0 e0)).set_ 1 (.slice B1 m1 e1)).set_ 2 (.slice B2 m2 e2)).set_ 3 (.slice none 0 0)).set_ 4 (.int .i64 x.2.2.2.2))
      have HM3 := Sec.mk ((((((HMr.out.transN HMq.out).setCell (p := ⟨w.heap.size + 1, 0, none⟩) (fun h => absurd h (by simp)) (.slice B0 m0 e0)).setCell (p := ⟨w.heap.size + 1, 1, none⟩) (fun h => absurd h (by simp)) (.slice B1 m1 e1)).setCell (p := ⟨w.heap.size + 1, 2, none⟩) (fun h => absurd h (by simp)) (.slice B2 m2 e2)).setCell (p := ⟨w.heap.size + 1, 3, none⟩) (fun h => absurd h (by simp)) (.slice none 0 0)).setCell (p := ⟨w.heap.size + 1, 4, none⟩) (fun h => absurd h (by simp)) (.int .i64 x.2.2.2.2))
      have HMS : Sec (Mod (fun k => k < wz.heap.size + 1) wr (((((wr.setCell ⟨w.heap.size + 1, 0, none⟩ (.slice B0 m0 e0)).setCell ⟨w.heap.size + 1, 1, none⟩ (.slice B1 m1 e1)).setCell ⟨w.heap.size + 1, 2, none⟩ (.slice B2 m2 e2)).setCell ⟨w.heap.size + 1, 3, none⟩ (.slice none 0 0)).setCell ⟨w.heap.size + 1, 4, none⟩ (.int .i64 x.2.2.2.2))) := ⟨(((((Mod.refl (fun k => k < wz.heap.size + 1) wr).setCell (p := ⟨w.heap.size + 1, 0, none⟩) (fun _ => by show w.heap.size + 1 < _; omega) (.slice B0 m0 e0)).setCell (p := ⟨w.heap.size + 1, 1, none⟩) (fun _ => by show w.heap.size + 1 < _; omega) (.slice B1 m1 e1)).setCell (p := ⟨w.heap.size + 1, 2, none⟩) (fun _ => by show w.heap.size + 1 < _; omega) (.slice B2 m2 e2)).setCell (p := ⟨w.heap.size + 1, 3, none⟩) (fun _ => by show w.heap.size + 1 < _; omega) (.slice none 0 0)).setCell (p := ⟨w.heap.size + 1, 4, none⟩) (fun _ => by show w.heap.size + 1 < _; omega) (.int .i64 x.2.2.2.2)⟩
      have H3' := H3.out
      rw [List.take_length] at H3'
      have H4 := Sec.mk (H3'.keep HMS.out (fun k h1 h2 => by omega))
      clear H3'
      go_wp2
      refine bodyPost_ret (results_blk rfl rfl HC3.out Tryz.underlying34 (by kernel_rfl)) rfl ?_
      rw [HE.out]
      exact ⟨_, _, _, _, rfl, (out4_of3 H4.out HQW.out).wide (fun k _ h => by omega), HM3.out⟩
end Go.Proofs.YtkkgighgnbbgiaaGreatDoor
