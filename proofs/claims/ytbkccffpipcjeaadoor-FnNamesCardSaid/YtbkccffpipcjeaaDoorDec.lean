/- Decimal numerals. -/
import Derived.Test.YtbkccffpipcjeaaDoorDec1
import Derived.Test.YtbkccffpipcjeaaDoorShelf
import Derived.Lib.AppendIntMem
namespace Go.Proofs.YtbkccffpipcjeaaDoor
open Go.RowKit Mem
set_option linter.unusedVariables false
theorem TabIs_new {P : Program} {w w' : World} {n : String} {g : Nat} {k : IntKind} {zs : List Int} (h : Lib.TabIs P w n k zs) (hg : P.globalNamed n = some g) (hm : New w w') : Lib.TabIs P w' n k zs := by
  unfold Lib.TabIs World.var? at h ⊢
  rw [hg, Option.bind_some] at h ⊢
  have hlt : g < w.heap.size := by
    rcases Nat.lt_or_ge g w.heap.size with h1 | h1
    · exact h1
    · simp [Array.getElem?_eq_none h1] at h
  rw [hm.block g hlt id]; exact h
def TabAt (w : World) : Prop := Lib.TabIs Tryd.prog w "internal/strconv.uint64pow10" .u64 Lib.pow10Tab
theorem TabAt.new {w w' : World} (h : TabAt w) (hm : New w w') : TabAt w' := TabIs_new (g := 2) h (by kernel_rfl) hm
theorem formatInt_calls (N : Nat) (hN : N ≤ 9223372036854775807) {w : World} (h : TabAt w) : Calls Tryd.prog 28 #[.int .i64 (N : Int), .int .i64 10] w (Ret (.string ⟨(Lib.decDigits N).toArray⟩) w) := by
  refine (Tryd.strconv_FormatInt_10 (N : Int) (by omega) (by omega) w h).mono ?_
  rintro e w' ⟨rfl, k, os, rfl⟩
  refine ⟨by rw [Lib.itoa_nonneg], ?_⟩
  exact ⟨rfl, rfl, rfl, by simp [Sort.grow], fun k' hk _ => Lib.heap_grow_old _ _ _ _ hk⟩
set_option maxHeartbeats 1000000 in
set_option maxRecDepth 100000 in
theorem formatUint_inner (u : Nat) (hu : u < 4294967296) {w : World} (h : TabAt w) : Calls Tryd.prog 50 #[.int .u64 (u : Int), .int .i64 10] w (Ret (.string ⟨(Lib.decDigits u).toArray⟩) w) := by
  by_cases h100 : u < 100
  · have hui : (u : Int) < 100 := by omega
    go_enter Tryd.func50, Tryd.ntmps50
    go_wp2_with fail
    refine (Tryd.internal_strconv_small u h100 _).mono ?_
    rintro e w' ⟨rfl, rfl⟩
    go_wp2
    go_ret
    exact ⟨rfl, Mod.refl _ _⟩
  · have hui : ¬ (u : Int) < 100 := by omega
    have hal : (Tryd.prog).arrayLen 91 = 24 := by kernel_rfl
    have hnd : Lib.nDigits u ≤ 20 := by have := Lib.numDigits_eq u (by omega) (by omega); split at this <;> omega
    have hsl : ∀ W, (Instr.sliceAt 91 (.pointer (some ⟨w.heap.size, 0, none⟩)) none (some (.int .i64 (Lib.nDigits u : Int))) none).run Tryd.prog W = .ok (.slice (some ⟨w.heap.size, 0, none⟩) (Lib.nDigits u) 24) W := fun W => by
      rw [run_sliceAt_array_h W 91 ⟨w.heap.size, 0, none⟩ (by simp [Program.arrayLen, Program.elem, Tryd.underlying91]) .i64 (Lib.nDigits u : Int) (by omega) (by rw [hal]; omega)]
      go_simp
    have hH0 := Lib.holds_zero0 w 91 (Lib.nDigits u) (by omega)
    have hfmt := Tryd.internal_strconv_formatBase10 w.heap.size 0 24 u (Array.replicate (Lib.nDigits u) 0) (w.alloc (.cells Lib.zeros24 91)) hH0 (by rw [Array.size_replicate]; exact Lib.lt_pow_nDigits u) (by omega) (by rw [Array.size_replicate]; omega)
    rw [Array.size_replicate] at hfmt
    have HF := Sec.mk hfmt
    have HH := Sec.mk hH0
    have HT := Sec.mk (h.new ((Mod.refl (fun _ => False) w).alloc (.cells Lib.zeros24 91)))
    clear hal hfmt hH0
    go_enter Tryd.func50, Tryd.ntmps50
    go_wp2_with fail
    refine (Tryd.internal_strconv_numDigits u (by omega) (by omega) _ HT.out).mono ?_
    rintro e w' ⟨rfl, rfl⟩
    go_wp2_with fail
    refine HF.out.mono ?_
    rintro e w' ⟨rfl, k, v', dk, rfl, hF⟩
    have HNW : Sec (New w ((Sort.putRow (fun (b : UInt8) => Value.int .u8 (b.toNat : Int)) (w.alloc (.cells Lib.zeros24 91)) w.heap.size 0 dk).drewN k)) := ⟨by
      obtain ⟨os, eo⟩ := Lib.fin_at w (.cells Lib.zeros24 91) dk k 0
      rw [eo]
      exact ⟨rfl, rfl, rfl, by simp [Sort.grow], fun k' hk _ => Lib.heap_grow_old _ _ _ _ hk⟩⟩
    have hcv : (convert 36 9 (.slice (some ⟨w.heap.size, 0, none⟩) (Lib.nDigits u) 24)).run Tryd.prog ((Sort.putRow (fun (b : UInt8) => Value.int .u8 (b.toNat : Int)) (w.alloc (.cells Lib.zeros24 91)) w.heap.size 0 dk).drewN k) = .ok (.string ⟨(Lib.decDigits u).toArray⟩) ((Sort.putRow (fun (b : UInt8) => Value.int .u8 (b.toNat : Int)) (w.alloc (.cells Lib.zeros24 91)) w.heap.size 0 dk).drewN k) := by
      have h := run_convert_bytes_back (P := Tryd.prog) ((Sort.putRow (fun (b : UInt8) => Value.int .u8 (b.toNat : Int)) (w.alloc (.cells Lib.zeros24 91)) w.heap.size 0 dk).drewN k) 36 9 5 ⟨w.heap.size, 0, none⟩ 24 (Lib.decDigits u) Tryd.underlying36 Tryd.underlying5 Tryd.underlying9 (fun j hj => by
        rw [Lib.row_is_numeral hF j hj, Lib.add_plain, World.cell?_drewN]
        exact Sort.cell?_putRow (fun (b : UInt8) => Value.int .u8 (b.toNat : Int)) _ w.heap.size 0 _ dk HH.out (by rw [hF.size, Array.size_replicate]) j (by rw [hF.size]; rw [Lib.decDigits_length] at hj; exact hj))
      rw [Lib.decDigits_length] at h
      exact h
    clear hF
    generalize (Sort.putRow (fun (b : UInt8) => Value.int .u8 (b.toNat : Int)) (w.alloc (.cells Lib.zeros24 91)) w.heap.size 0 dk).drewN k = w5 at *
    go_wp2
    go_ret
    exact ⟨rfl, HNW.out⟩
theorem formatUint_calls (u : Nat) (hu : u < 4294967296) {w : World} (h : TabAt w) : Calls Tryd.prog 27 #[.int .u64 (u : Int), .int .i64 10] w (Ret (.string ⟨(Lib.decDigits u).toArray⟩) w) := by
  have HI := Sec.mk (formatUint_inner u hu h)
  clear h
  go_enter Tryd.func27, Tryd.ntmps27
  go_wp2_with fail
  refine HI.out.mono ?_
  rintro e w1 ⟨rfl, hm1⟩
  have HM := Sec.mk hm1
  clear hm1
  go_wp2
  go_ret
  exact ⟨rfl, HM.out⟩
end Go.Proofs.YtbkccffpipcjeaaDoor
