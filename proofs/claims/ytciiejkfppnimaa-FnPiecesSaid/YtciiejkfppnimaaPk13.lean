/- append of a string onto bytes of the call's own. The drawn bodies: their bytes are own and few. -/
import Derived.Test.YtciiejkfppnimaaPk1
import Derived.Test.YtciiejkfppnimaaPk2
import Derived.Lib.AppendStr
import Derived.Test.YtciiejkfppnimaaPk10
namespace Go.Proofs.Ytciiejkfppnimaa
open Go.RowKit Mem Lib
set_option linter.unusedVariables false
namespace Mem
theorem elemsBytes (zs : Bytes) (w : World) : Elems Ty.byte w (List.replicate zs.length []) zs (zs.map fun b => Value.int .u8 (b.toNat : Int)) := by
  induction zs with
  | nil => exact Elems.nil _ _
  | cons z zs ih =>
    have := (Elems.one (d := Ty.byte) (w := w) (x := z) (f := []) (c := [Value.int .u8 (z.toNat : Int)]) ⟨rfl, rfl⟩).append ih
    simpa [List.replicate_succ] using this
theorem strCells_of (zs : Bytes) : strCells ⟨zs.toArray⟩ = zs.map fun b => Value.int .u8 (b.toNat : Int) := by simp [strCells]
theorem elems_bytes_inv {w : World} {Fs : List (List Nat)} {xs : Bytes} {inner : List Value} (h : Elems Ty.byte w Fs xs inner) : Fs.flatten = [] := by
  obtain ⟨css, rfl, h1, h2, h3⟩ := h
  rw [List.flatten_eq_nil_iff]
  intro f hf
  obtain ⟨j, hj, rfl⟩ := List.getElem_of_mem hf
  have hjx : j < xs.length := by omega
  obtain ⟨c, f, -, hf, hM, -⟩ := h3 j _ (List.getElem?_eq_getElem hjx)
  rw [List.getElem?_eq_getElem hj] at hf
  have h4 : Fs[j] = f := Option.some.inj hf
  rw [h4]
  exact hM.1
theorem owp_base {e : TypeId} {w : World} {lo : Nat} {v : Value} {xs : Bytes} (h : OwP Ty.byte e w (fun k => lo ≤ k) v xs) : ∃ inner, w.ownsRow lo e 1 v xs.length inner ∧ inner = xs.map fun b => Value.int .u8 (b.toNat : Int) := by
  obtain ⟨F, ⟨inner, Fs, ho, hEx, rfl, hnd⟩, hX⟩ := h
  refine ⟨inner, ⟨ho.1, ?_⟩, ?_⟩
  · rcases ho.2 with h | ⟨g, cap, cur, rfl, hb, h⟩
    · exact .inl h
    · exact .inr ⟨g, cap, cur, rfl, hX g (by simp [Value.ownBlock]), h⟩
  · obtain ⟨css, rfl, h1, h2, h3⟩ := hEx
    have : css = xs.map fun b => [Value.int .u8 (b.toNat : Int)] := by
      apply List.ext_getElem (by simpa using h1)
      intro j hj hj2
      have hjx : j < xs.length := by omega
      obtain ⟨c, f, hc, -, hM, -⟩ := h3 j _ (List.getElem?_eq_getElem hjx)
      rw [List.getElem?_eq_getElem hj] at hc
      rw [Option.some.inj hc, List.getElem_map]
      exact hM.2
    rw [this]
    clear this hnd h3 h2 h1 ho hX
    induction xs with
    | nil => rfl
    | cons z zs ih => rw [List.map_cons, List.flatten_cons, ih, List.map_cons]; rfl
theorem owp_of_base {e : TypeId} {w : World} {lo : Nat} {v : Value} {xs : Bytes} (ho : w.ownsRow lo e 1 v xs.length (xs.map fun b => Value.int .u8 (b.toNat : Int))) : OwP Ty.byte e w (fun k => lo ≤ k) v xs := by
  refine ⟨v.ownBlock.toList ++ (List.replicate xs.length ([] : List Nat)).flatten, ⟨_, List.replicate xs.length [], ⟨ho.1, ?_⟩, elemsBytes xs w, rfl, ?_⟩, ?_⟩
  · rcases ho.2 with h | ⟨g, cap, cur, rfl, hb, h⟩
    · exact .inl h
    · exact .inr ⟨g, cap, cur, rfl, Nat.zero_le _, h⟩
  · rw [flat_nil]; simp; cases v.ownBlock <;> simp
  · intro k hk
    rw [flat_nil, List.append_nil] at hk
    rcases ho.2 with ⟨rfl, h⟩ | ⟨g, cap, cur, rfl, hb, h⟩
    · simp [Value.ownBlock] at hk
    · simp [Value.ownBlock] at hk; subst hk; exact hb
theorem wpList_appStr {P : Program} (w : World) {ops : Array Oper} {rest : List Oper} {o : Oper} {a : Act} {Q : Exit → Act → World → Prop} (hgd : o.guard = none) (s x : Operand) (t u : TypeId)
    (ho : o.op = .call { callee := .builtin .append, args := #[s, x], argTypes := #[t, u] }) {e : TypeId} (ht : P.underlying t = some (.slice e)) (hu : P.underlying u = some .string) (hinfo : (P.info? e).map (fun i => (i.zero, i.size, i.bytes)) = some (some (.int .u8 0), 1, 1))
    {lo : Nat} {v : Value} {xs : Bytes} (ys : Bytes) (hs : a.eval s = v) (hx : a.eval x = .string ⟨ys.toArray⟩) (hown : OwP Ty.byte e w (fun k => lo ≤ k) v xs) (hlo : lo ≤ w.heap.size) (hlen : xs.length + ys.length ≤ 34359738368)
    (h : ∀ A' n' c' w', OwP Ty.byte e w' (fun k => lo ≤ k) (.slice A' n' c') (xs ++ ys) → Mod (fun k => lo ≤ k) w w' → wpList P ops Q rest (a.put o.dst (.slice A' n' c')) w') : wpList P ops Q (o :: rest) a w := by
  obtain ⟨inner, hb, hin⟩ := owp_base hown
  cases hi : P.info? e with
  | none => rw [hi] at hinfo; cases hinfo
  | some i =>
    rw [hi] at hinfo
    simp only [Option.map_some, Option.some.injEq, Prod.mk.injEq] at hinfo
    obtain ⟨hz, hsz1, hby⟩ := hinfo
    have hsz : (⟨ys.toArray⟩ : ByteArray).size = ys.length := by simp [ByteArray.size]
    refine wpList_plain hgd fun K hK => ?_
    obtain ⟨v', w', hrun, ho', hg, -⟩ := run_append_own_string (P := P) w lo t u o.type e i ht hu hi hz hsz1 hby v xs.length inner hb ⟨ys.toArray⟩ (by rw [hsz]; unfold maxLen; omega) (by rw [hsz]; omega) hlo
    rw [hsz, strCells_of, hin, ← List.map_append, ← List.length_append] at ho'
    have hO := owp_of_base ho'
    obtain ⟨A', c', hv', -⟩ : ∃ A' c', v' = .slice A' (xs ++ ys).length c' ∧ True := by
      obtain ⟨F, hF, -⟩ := hO
      obtain ⟨A', c', hv, _⟩ := hF.form
      exact ⟨A', c', hv, trivial⟩
    have hm : Mod (fun k => lo ≤ k) w w' := ⟨hg.os, hg.tape, hg.output, hg.size, fun k hk hne => hg.block k hk (fun h => hne (by
      rcases hb.2 with ⟨rfl, -⟩ | ⟨g, cap, cur, rfl, hbl, -⟩
      · simp [Value.ownBlock] at h
      · simp [Value.ownBlock] at h; omega))⟩
    subst hv'
    unfold Oper.wp execOp
    simp only [ho, resolve, invoke, builtin, Sem.run_bind, Sem.run_pure, Result.andThen_ok, List.map_toArray, List.map_cons, List.map_nil, hs, hx, hrun]
    exact hK _ _ (h _ _ _ _ hO hm)
theorem wpList_appSt2 {P : Program} (w : World) {ops : Array Oper} {rest : List Oper} {o : Oper} {a : Act} {Q : Exit → Act → World → Prop} (hgd : o.guard = none) (s x : Operand) (t u : TypeId)
    (ho : o.op = .call { callee := .builtin .append, args := #[s, x], argTypes := #[t, u] }) {e : TypeId} (ht : P.underlying t = some (.slice e)) (hu : P.underlying u = some .string) (hinfo : (P.info? e).map (fun i => (i.zero, i.size, i.bytes)) = some (some (.int .u8 0), 1, 1))
    {lo : Nat} {v : Value} {xs : Bytes} {sb : ByteArray} (hs : a.eval s = v) (hx : a.eval x = .string sb) (hown : OwP Ty.byte e w (fun k => lo ≤ k) v xs) (hlo : lo ≤ w.heap.size) (hlen : xs.length + sb.size ≤ 34359738368)
    (h : ∀ ys A' n' c' w', ys.length = xs.length + sb.size → OwP Ty.byte e w' (fun k => lo ≤ k) (.slice A' n' c') ys → Mod (fun k => lo ≤ k) w w' → wpList P ops Q rest (a.put o.dst (.slice A' n' c')) w') : wpList P ops Q (o :: rest) a w := by
  have hsz : sb.data.toList.length = sb.size := Array.length_toList
  refine wpList_appStr w hgd s x t u ho ht hu hinfo sb.data.toList hs (by rw [hx]) hown hlo (by rw [hsz]; exact hlen) fun A' n' c' w' h1 h2 => h _ A' n' c' w' (by rw [List.length_append, hsz]) h1 h2
theorem Row.two (w : World) (e : TypeId) {b0 b1 : UInt8} {x0 x1 : Int} (h0 : (b0.toNat : Int) = x0) (h1 : (b1.toNat : Int) = x1) : Row Ty.byte (w.alloc (.cells #[.int .u8 x0, .int .u8 x1] e)) (· = w.heap.size) (some ⟨w.heap.size, 0, none⟩) 2 [b0, b1] := by
  subst h0; subst h1
  exact Row.const w e (0, 0) [b0, b1] (by simp)
end Mem
end Go.Proofs.Ytciiejkfppnimaa

namespace Go.Proofs.Ytciiejkfppnimaa
open Go.RowKit Mem
set_option linter.unusedVariables false
set_option linter.unusedSimpArgs false
/-- an answer of few bytes, and the reader's next state -/
def DrawFew (w : World) (g m : Nat) (e : Ending) (w' : World) : Prop :=
  ∃ A c zs ys, e = .returned (.slice A zs.length c) ∧ zs.length ≤ m ∧ OwP Ty.byte 5 w' (fun k => w.heap.size ≤ k) (.slice A zs.length c) zs ∧ Rdr w' g ys ∧ Mod (· = g) w w'
set_option maxHeartbeats 4000000 in
set_option maxRecDepth 100000 in
theorem l3Body_calls {w : World} {g : Nat} {ys : Bytes} (h : Rdr w g ys) : Calls Try.prog 22 #[.pointer (some ⟨g, 0, none⟩)] w (DrawFew w g 60) := by
  have HR := Sec.mk h
  have hg := h.lt
  clear h
  go_enter Try.func22, Try.ntmps22
  go_wp2_with fail
  refine (next_calls HR.out).mono ?_
  rintro e w1 ⟨rfl, hr1, hm1⟩
  have hs1 := hm1.size
  have hb := nextD_lt ys
  generalize (nextD ys).1 = c at *
  generalize (nextD ys).2 = zs at *
  have HR1 := Sec.mk hr1
  have HM1 := Sec.mk hm1
  clear hr1 hm1 HR
  obtain ⟨n0, hn0, hq⟩ : ∃ n0 : Nat, n0 ≤ 6 ∧ ((c : Int) % 7) = (n0 : Int) := ⟨c % 7, by omega, by omega⟩
  go_wp2
  (try rw [hq])
  clear hq hb
  have HO0 : Sec (OwP Ty.byte 5 w1 (fun k => w.heap.size ≤ k) (.slice none 0 0) []) := ⟨⟨[], Own.nil _ _ _, by simp⟩⟩
  go_loopw [3, 4] (fun o n wr => ∃ (m : Nat) (zs ys : Bytes) (A : Option Addr) (n' c' : Nat), n = .int .i64 (m : Int) ∧ m ≤ 6 ∧ zs.length + 10 * m ≤ 60 ∧ o = .slice A n' c' ∧ Sec (OwP Ty.byte 5 wr (fun k => w.heap.size ≤ k) (.slice A n' c') zs) ∧ Sec (Rdr wr g ys) ∧ Sec (Mod (· = g) w wr)) (fun _ n _ => (intOf n).toNat)
  case atStart => exact ⟨n0, [], zs, _, _, _, rfl, hn0, by simp; omega, rfl, HO0, HR1, HM1⟩
  case round =>
    clear HO0 HR1 HM1 hs1
    obtain ⟨m, zs, ys, A, n', c', rfl, hm6, hzl, rfl, HO, HR, HM⟩ := hrel
    by_cases hm : m = 0
    · subst hm
      obtain rfl := HO.out.len.1
      go_wp2
      go_ret
      exact ⟨_, _, zs, ys, rfl, by omega, HO.out, HR.out, HM.out⟩
    have hmi : (0 : Int) < (m : Int) := by omega
    go_wp2_with fail
    refine (next_calls HR.out).mono ?_
    rintro e w2 ⟨rfl, hr2, hm2⟩
    have hs2 := hm2.size
    have hsr := HM.out.size
    have hb := nextD_lt ys
    generalize (nextD ys).1 = c at *
    generalize (nextD ys).2 = ys2 at *
    have HR2' := Sec.mk hr2
    have HM2' := Sec.mk (HM.out.trans hm2 (fun i hi hlt => hi))
    have HO2' := Sec.mk (HO.out.keep hm2 (fun k h1 h2 => by subst h2; omega))
    clear hr2 hm2 HO HR HM
    have hsl : w.heap.size ≤ w2.heap.size := by omega
    rcases (show c % 12 = 0 ∨ c % 12 = 1 ∨ c % 12 = 2 ∨ c % 12 = 3 ∨ c % 12 = 4 ∨ c % 12 = 5 ∨ c % 12 = 6 ∨ c % 12 = 7 ∨ c % 12 = 8 ∨ 9 ≤ c % 12 by omega) with hj | hj | hj | hj | hj | hj | hj | hj | hj | hj
    · have hci : ((c : Int) % 12) = 0 := by omega
      go_wp2_with (at_builtin; go_loud (refine wpList_appSt2 _ rfl (.tmp 26) _ _ _ rfl Try.underlying22 Try.underlying9 (by kernel_rfl) rfl rfl HO2'.out hsl (show zs.length + 10 ≤ 34359738368 by omega) ?_; intro zs2 A2 n2 c2 w3 hzl2 ho2 hmm; have HO2 := Sec.mk ho2; have HR2 := Sec.mk (HR2'.out.mod hmm (fun k h1 h2 => by omega)); have HM2 := Sec.mk (HM2'.out.trans hmm (fun i hi hlt => by omega)); clear ho2 hmm))
      go_roundw
      case rel => exact ⟨m - 1, zs2, ys2, A2, n2, c2, by go_num, by omega, (by have : zs2.length = zs.length + 10 := hzl2; omega), rfl, HO2, HR2, HM2⟩
      case measure => simp [intOf]; omega
    · have hci : ((c : Int) % 12) = 1 := by omega
      go_wp2_with (at_builtin; go_loud (refine wpList_appSt2 _ rfl (.tmp 30) _ _ _ rfl Try.underlying22 Try.underlying9 (by kernel_rfl) rfl rfl HO2'.out hsl (show zs.length + 8 ≤ 34359738368 by omega) ?_; intro zs2 A2 n2 c2 w3 hzl2 ho2 hmm; have HO2 := Sec.mk ho2; have HR2 := Sec.mk (HR2'.out.mod hmm (fun k h1 h2 => by omega)); have HM2 := Sec.mk (HM2'.out.trans hmm (fun i hi hlt => by omega)); clear ho2 hmm))
      go_roundw
      case rel => exact ⟨m - 1, zs2, ys2, A2, n2, c2, by go_num, by omega, (by have : zs2.length = zs.length + 8 := hzl2; omega), rfl, HO2, HR2, HM2⟩
      case measure => simp [intOf]; omega
    · have hci : ((c : Int) % 12) = 2 := by omega
      go_wp2_with (at_builtin; go_loud (refine wpList_appSt2 _ rfl (.tmp 34) _ _ _ rfl Try.underlying22 Try.underlying9 (by kernel_rfl) rfl rfl HO2'.out hsl (show zs.length + 7 ≤ 34359738368 by omega) ?_; intro zs2 A2 n2 c2 w3 hzl2 ho2 hmm; have HO2 := Sec.mk ho2; have HR2 := Sec.mk (HR2'.out.mod hmm (fun k h1 h2 => by omega)); have HM2 := Sec.mk (HM2'.out.trans hmm (fun i hi hlt => by omega)); clear ho2 hmm))
      go_roundw
      case rel => exact ⟨m - 1, zs2, ys2, A2, n2, c2, by go_num, by omega, (by have : zs2.length = zs.length + 7 := hzl2; omega), rfl, HO2, HR2, HM2⟩
      case measure => simp [intOf]; omega
    · have hci : ((c : Int) % 12) = 3 := by omega
      go_wp2_with (at_builtin; go_loud (refine wpList_appP _ rfl (.tmp 38) (.tmp 39) _ rfl Try.underlying22 elt_byte flat_byte rfl rfl (HO2'.out.new ((Mod.refl _ _).alloc _)) (Row.one _ _ 10 _ rfl) (fun k hk => by simp at hk; omega) (show zs.length + 1 ≤ 34359738368 by omega) ?_; intro A2 n2 c2 w3 ho2 hmm; have HO2 := Sec.mk ho2; have HR2 := Sec.mk ((HR2'.out.mod ((Mod.refl (fun _ => False) w2).alloc (.cells #[.int .u8 10] 5)) (fun _ _ h => h)).mod hmm (fun k h1 h2 => by omega)); have HM2 := Sec.mk ((HM2'.out.alloc (.cells #[.int .u8 10] 5)).trans hmm (fun i hi hlt => by omega)); clear ho2 hmm))
      go_roundw
      case rel => exact ⟨m - 1, zs ++ [10], ys2, A2, n2, c2, by go_num, by omega, (by rw [List.length_append, List.length_singleton]; omega), rfl, HO2, HR2, HM2⟩
      case measure => simp [intOf]; omega
    · have hci : ((c : Int) % 12) = 4 := by omega
      go_wp2_with (at_builtin; go_loud (refine wpList_appSt2 _ rfl (.tmp 43) _ _ _ rfl Try.underlying22 Try.underlying9 (by kernel_rfl) rfl rfl HO2'.out hsl (show zs.length + 3 ≤ 34359738368 by omega) ?_; intro zs2 A2 n2 c2 w3 hzl2 ho2 hmm; have HO2 := Sec.mk ho2; have HR2 := Sec.mk (HR2'.out.mod hmm (fun k h1 h2 => by omega)); have HM2 := Sec.mk (HM2'.out.trans hmm (fun i hi hlt => by omega)); clear ho2 hmm))
      go_roundw
      case rel => exact ⟨m - 1, zs2, ys2, A2, n2, c2, by go_num, by omega, (by have : zs2.length = zs.length + 3 := hzl2; omega), rfl, HO2, HR2, HM2⟩
      case measure => simp [intOf]; omega
    · have hci : ((c : Int) % 12) = 5 := by omega
      have HCB : Sec (((UInt8.ofNat c).toNat : Int) = (c : Int)) := ⟨by rw [UInt8.toNat_ofNat']; omega⟩
      go_wp2_with (at_builtin; go_loud (refine wpList_appP _ rfl (.tmp 47) (.tmp 50) _ rfl Try.underlying22 elt_byte flat_byte rfl rfl (HO2'.out.new ((Mod.refl _ _).alloc _)) (Row.two _ _ (b0 := 0) (b1 := UInt8.ofNat c) rfl HCB.out) (fun k hk => by simp at hk; omega) (show zs.length + 2 ≤ 34359738368 by omega) ?_; intro A2 n2 c2 w3 ho2 hmm; have HO2 := Sec.mk ho2; have HR2 := Sec.mk ((HR2'.out.mod ((Mod.refl (fun _ => False) w2).alloc (.cells #[.int .u8 0, .int .u8 (c : Int)] 5)) (fun _ _ h => h)).mod hmm (fun k h1 h2 => by omega)); have HM2 := Sec.mk ((HM2'.out.alloc (.cells #[.int .u8 0, .int .u8 (c : Int)] 5)).trans hmm (fun i hi hlt => by omega)); clear ho2 hmm))
      go_roundw
      case rel => exact ⟨m - 1, zs ++ [0, UInt8.ofNat c], ys2, A2, n2, c2, by go_num, by omega, (by rw [List.length_append]; simp only [List.length_cons, List.length_nil]; omega), rfl, HO2, HR2, HM2⟩
      case measure => simp [intOf]; omega
    · have hci : ((c : Int) % 12) = 6 := by omega
      go_wp2_with (at_builtin; go_loud (refine wpList_appSt2 _ rfl (.tmp 54) _ _ _ rfl Try.underlying22 Try.underlying9 (by kernel_rfl) rfl rfl HO2'.out hsl (show zs.length + 4 ≤ 34359738368 by omega) ?_; intro zs2 A2 n2 c2 w3 hzl2 ho2 hmm; have HO2 := Sec.mk ho2; have HR2 := Sec.mk (HR2'.out.mod hmm (fun k h1 h2 => by omega)); have HM2 := Sec.mk (HM2'.out.trans hmm (fun i hi hlt => by omega)); clear ho2 hmm))
      go_roundw
      case rel => exact ⟨m - 1, zs2, ys2, A2, n2, c2, by go_num, by omega, (by have : zs2.length = zs.length + 4 := hzl2; omega), rfl, HO2, HR2, HM2⟩
      case measure => simp [intOf]; omega
    · have hci : ((c : Int) % 12) = 7 := by omega
      go_wp2_with (at_builtin; go_loud (refine wpList_appSt2 _ rfl (.tmp 58) _ _ _ rfl Try.underlying22 Try.underlying9 (by kernel_rfl) rfl rfl HO2'.out hsl (show zs.length + 4 ≤ 34359738368 by omega) ?_; intro zs2 A2 n2 c2 w3 hzl2 ho2 hmm; have HO2 := Sec.mk ho2; have HR2 := Sec.mk (HR2'.out.mod hmm (fun k h1 h2 => by omega)); have HM2 := Sec.mk (HM2'.out.trans hmm (fun i hi hlt => by omega)); clear ho2 hmm))
      go_roundw
      case rel => exact ⟨m - 1, zs2, ys2, A2, n2, c2, by go_num, by omega, (by have : zs2.length = zs.length + 4 := hzl2; omega), rfl, HO2, HR2, HM2⟩
      case measure => simp [intOf]; omega
    · have hci : ((c : Int) % 12) = 8 := by omega
      go_wp2_with (at_builtin; go_loud (refine wpList_appP _ rfl (.tmp 62) (.tmp 63) _ rfl Try.underlying22 elt_byte flat_byte rfl rfl (HO2'.out.new ((Mod.refl _ _).alloc _)) (Row.one _ _ 62 _ rfl) (fun k hk => by simp at hk; omega) (show zs.length + 1 ≤ 34359738368 by omega) ?_; intro A2 n2 c2 w3 ho2 hmm; have HO2 := Sec.mk ho2; have HR2 := Sec.mk ((HR2'.out.mod ((Mod.refl (fun _ => False) w2).alloc (.cells #[.int .u8 62] 5)) (fun _ _ h => h)).mod hmm (fun k h1 h2 => by omega)); have HM2 := Sec.mk ((HM2'.out.alloc (.cells #[.int .u8 62] 5)).trans hmm (fun i hi hlt => by omega)); clear ho2 hmm))
      go_roundw
      case rel => exact ⟨m - 1, zs ++ [62], ys2, A2, n2, c2, by go_num, by omega, (by rw [List.length_append, List.length_singleton]; omega), rfl, HO2, HR2, HM2⟩
      case measure => simp [intOf]; omega
    · have e0 : (((c : Int) % 12) == 0) = false := by simp only [beq_eq_false_iff_ne]; omega
      have e1 : (((c : Int) % 12) == 1) = false := by simp only [beq_eq_false_iff_ne]; omega
      have e2 : (((c : Int) % 12) == 2) = false := by simp only [beq_eq_false_iff_ne]; omega
      have e3 : (((c : Int) % 12) == 3) = false := by simp only [beq_eq_false_iff_ne]; omega
      have e4 : (((c : Int) % 12) == 4) = false := by simp only [beq_eq_false_iff_ne]; omega
      have e5 : (((c : Int) % 12) == 5) = false := by simp only [beq_eq_false_iff_ne]; omega
      have e6 : (((c : Int) % 12) == 6) = false := by simp only [beq_eq_false_iff_ne]; omega
      have e7 : (((c : Int) % 12) == 7) = false := by simp only [beq_eq_false_iff_ne]; omega
      have e8 : (((c : Int) % 12) == 8) = false := by simp only [beq_eq_false_iff_ne]; omega
      have HSZ : Sec ((((⟨#[119, 111, 114, 100, 32]⟩ : ByteArray).extract 0 (1 + c / 12 % 5))).size ≤ 5) := ⟨by rw [ByteArray.size_extract]; show min _ 5 - 0 ≤ 5; omega⟩
      go_wp2_with (at_builtin; go_loud (refine wpList_appSt2 (sb := (⟨#[119, 111, 114, 100, 32]⟩ : ByteArray).extract 0 (1 + c / 12 % 5)) _ rfl (.tmp 17) _ _ _ rfl Try.underlying22 Try.underlying9 (by kernel_rfl) rfl rfl HO2'.out hsl (by have := HSZ.out; omega) ?_; intro zs2 A2 n2 c2 w3 hzl2 ho2 hmm; have HZ2 := Sec.mk hzl2; have HO2 := Sec.mk ho2; have HR2 := Sec.mk (HR2'.out.mod hmm (fun k h1 h2 => by omega)); have HM2 := Sec.mk (HM2'.out.trans hmm (fun i hi hlt => by omega)); clear ho2 hmm hzl2))
      go_roundw
      case rel => exact ⟨m - 1, zs2, ys2, A2, n2, c2, by go_num, by omega, (by have := HZ2.out; have := HSZ.out; omega), rfl, HO2, HR2, HM2⟩
      case measure => simp [intOf]; omega
set_option maxHeartbeats 1000000 in
set_option maxRecDepth 100000 in
theorem more_calls {w : World} {g : Nat} {ys : Bytes} (h : Rdr w g ys) : Calls Try.prog 21 #[.pointer (some ⟨g, 0, none⟩)] w (fun e w' => (∃ b, e = .returned (.bool b)) ∧ Rdr w' g ys ∧ Mod (· = g) w w') := by
  obtain ⟨A, c, xs, i, B, hb, hi, rfl, hr, hB, hl⟩ := h.ex
  have HB := Sec.mk hb
  have HR := Sec.mk hr
  have HX := Sec.mk hB
  have c0 : w.cell? ⟨g, 0, none⟩ = some (.slice A xs.length c) := hb.cell 0
  have c1 : w.cell? ⟨g, 1, none⟩ = some (.int .i64 (i : Int)) := hb.cell 1
  clear hb hr hB h
  go_enter Try.func21, Try.ntmps21
  go_wp2
  go_quiet (fail)
  go_wp2
  go_ret
  exact ⟨⟨_, rfl⟩, ⟨_, c, xs, i, B, HB.out.drewN _, by omega, rfl, HR.out.mod (fun _ h => h) (fun _ _ => rfl), HX.out, hl⟩, (Mod.refl _ _).drewN _⟩
set_option maxHeartbeats 4000000 in
set_option maxRecDepth 100000 in
theorem drawQuote_calls {A : Option Addr} {n c : Nat} {xs : Bytes} {B : Nat → Prop} {w : World} (h : Row Ty.byte w B A n xs) (hB : ∀ k, B k → k < w.heap.size) (hl : xs.length ≤ 34359738368) :
    Calls Try.prog 6 #[.slice A n c] w (fun e w' => ∃ A' c' zs, e = .returned (.slice A' zs.length c') ∧ zs.length ≤ 2400 ∧ OwP Ty.byte 5 w' (fun k => w.heap.size ≤ k) (.slice A' zs.length c') zs ∧ New w w') := by
  obtain rfl := h.1
  have HR0 : Sec (Rdr (w.alloc (.cells #[.slice A xs.length c, .int .i64 0] 48)) w.heap.size xs) := ⟨⟨A, c, xs, 0, B, Blk.new w _ _, by omega, rfl, h.mod (fun _ h => h) (fun k hk => ((Mod.refl (fun _ => False) w).alloc _).block k (hB k hk) id), hB, hl⟩⟩
  have HM0 : Sec (Mod (· = w.heap.size) w (w.alloc (.cells #[.slice A xs.length c, .int .i64 0] 48))) := ⟨(Mod.refl _ _).alloc _⟩
  have HO0 : Sec (OwP Ty.byte 5 (w.alloc (.cells #[.slice A xs.length c, .int .i64 0] 48)) (fun k => w.heap.size + 1 ≤ k) (.slice none 0 0) []) := ⟨⟨[], Own.nil _ _ _, by simp⟩⟩
  clear h hB
  go_enter Try.func6, Try.ntmps6
  go_wp2
  go_loopw [3, 5] (fun o i wr => ∃ (k : Nat) (zs ys : Bytes) (A' : Option Addr) (n' c' : Nat), k ≤ 40 ∧ i = .int .i64 (k : Int) ∧ zs.length ≤ 60 * k ∧ o = .slice A' n' c' ∧ Sec (OwP Ty.byte 5 wr (fun k => w.heap.size + 1 ≤ k) (.slice A' n' c') zs) ∧ Sec (Rdr wr w.heap.size ys) ∧ Sec (Mod (· = w.heap.size) w wr)) (fun _ i _ => 40 - (intOf i).toNat)
  case atStart => exact ⟨0, [], xs, _, _, _, by omega, rfl, by simp, rfl, HO0, HR0, HM0⟩
  case round =>
    clear HO0 HR0 HM0
    obtain ⟨k, zs, ys, A', n', c', hk, rfl, hzl, rfl, HO, HR, HM⟩ := hrel
    have hg := HR.out.lt
    by_cases hk40 : k < 40
    rotate_left
    · have hki : ¬ ((k : Int) < 40) := by omega
      obtain rfl := HO.out.len.1
      go_wp2
      go_ret
      refine ⟨_, _, zs, rfl, by omega, ?_, HM.out.mono (fun i hlt h => by omega)⟩
      obtain ⟨F, ho, hF⟩ := HO.out
      exact ⟨F, ho, fun k hk => by have := hF k hk; omega⟩
    have hki : (k : Int) < 40 := by omega
    have step : ∀ (w3 : World), Sec (Rdr w3 w.heap.size ys) → Sec (Mod (· = w.heap.size) w w3) → Sec (OwP Ty.byte 5 w3 (fun k => w.heap.size + 1 ≤ k) (.slice A' n' c') zs) → True := fun _ _ _ _ => trivial
    clear step
    by_cases hk0 : k = 0
    · subst hk0
      go_wp2_with fail
      refine (l3Body_calls HR.out).mono ?_
      rintro e w3 ⟨A3, c3, zs3, ys3, rfl, hz3, ho3, hr3, hm3⟩
      have hs3 := hm3.size
      have HR3 := Sec.mk hr3
      have HM3 := Sec.mk (HM.out.trans hm3 (fun i hi hlt => hi))
      have HO3 := Sec.mk (HO.out.keep hm3 (fun k h1 h2 => by omega))
      have HW3 := Sec.mk ho3.row
      clear ho3 hr3 hm3 HO HR HM
      go_wp2_with (at_builtin; go_loud (refine wpList_appP _ rfl (.tmp 21) (.tmp 23) _ rfl Try.underlying22 elt_byte flat_byte rfl rfl HO3.out HW3.out (fun k hk => by omega) (by omega) ?_; intro A2 n2 c2 w4 ho2 hmm; have HO2 := Sec.mk ho2; have HR2 := Sec.mk (HR3.out.mod hmm (fun k h1 h2 => by omega)); have HM2 := Sec.mk (HM3.out.trans hmm (fun i hi hlt => by omega)); clear ho2 hmm))
      go_roundw
      case rel => exact ⟨1, zs ++ zs3, ys3, A2, n2, c2, by omega, by go_num, (by rw [List.length_append]; omega), rfl, HO2, HR2, HM2⟩
      case measure => simp [intOf]
    · have hk0i : ((k : Int) == 0) = false := by simp only [beq_eq_false_iff_ne]; omega
      go_wp2_with fail
      refine (more_calls HR.out).mono ?_
      rintro e w2 ⟨⟨b, rfl⟩, hr2, hm2⟩
      have hs2 := hm2.size
      have HR2' := Sec.mk hr2
      have HM2' := Sec.mk (HM.out.trans hm2 (fun i hi hlt => hi))
      have HO2' := Sec.mk (HO.out.keep hm2 (fun k h1 h2 => by omega))
      clear hr2 hm2 HO HR HM
      cases b
      · obtain rfl := HO2'.out.len.1
        go_wp2
        go_ret
        refine ⟨_, _, zs, rfl, by omega, ?_, HM2'.out.mono (fun i hlt h => by omega)⟩
        obtain ⟨F, ho, hF⟩ := HO2'.out
        exact ⟨F, ho, fun k hk => by have := hF k hk; omega⟩
      go_wp2_with fail
      refine (l3Body_calls HR2'.out).mono ?_
      rintro e w3 ⟨A3, c3, zs3, ys3, rfl, hz3, ho3, hr3, hm3⟩
      have hs3 := hm3.size
      have HR3 := Sec.mk hr3
      have HM3 := Sec.mk (HM2'.out.trans hm3 (fun i hi hlt => hi))
      have HO3 := Sec.mk (HO2'.out.keep hm3 (fun k h1 h2 => by omega))
      have HW3 := Sec.mk ho3.row
      clear ho3 hr3 hm3 HO2' HR2' HM2'
      go_wp2_with (at_builtin; go_loud (refine wpList_appP _ rfl (.tmp 21) (.tmp 23) _ rfl Try.underlying22 elt_byte flat_byte rfl rfl HO3.out HW3.out (fun k hk => by omega) (by omega) ?_; intro A2 n2 c2 w4 ho2 hmm; have HO2 := Sec.mk ho2; have HR2 := Sec.mk (HR3.out.mod hmm (fun k h1 h2 => by omega)); have HM2 := Sec.mk (HM3.out.trans hmm (fun i hi hlt => by omega)); clear ho2 hmm))
      go_roundw
      case rel => exact ⟨k + 1, zs ++ zs3, ys3, A2, n2, c2, by omega, by go_num, (by rw [List.length_append]; omega), rfl, HO2, HR2, HM2⟩
      case measure => simp [intOf]; omega
end Go.Proofs.Ytciiejkfppnimaa
