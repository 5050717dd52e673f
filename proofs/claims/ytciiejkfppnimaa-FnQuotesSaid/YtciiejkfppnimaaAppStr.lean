/- append of a string onto bytes of the call's own. -/
import Derived.Test.YtciiejkfppnimaaMem3
import Derived.Test.YtciiejkfppnimaaBytes
import Derived.Lib.AppendStr
namespace Go.Proofs.Ytciiejkfppnimaa
open Go.RowKit Mem Lib
set_option linter.unusedVariables false
namespace Mem
theorem elemsBytes (zs : Bytes) (w : World) : Elems Ty.byte w (List.replicate zs.length []) zs (zs.map fun b => Value.int .u8 (b.toNat : Int)) := by
  induction zs with
  | nil => exact Elems.nil _ _
  | cons z zs ih =>
    have := (Elems.one (d := Ty.byte) (w := w) (x := z) (f := []) (c := [Value.int .u8 (z.toNat : Int)]) ⟨rfl, rfl⟩).append ih
    simpa [List.replicate_succ] using this
theorem strCells_of (zs : Bytes) : strCells ⟨zs.toArray⟩ = zs.map fun b => Value.int .u8 (b.toNat : Int) := by simp [strCells]
theorem elems_bytes_inv {w : World} {Fs : List (List Nat)} {xs : Bytes} {inner : List Value} (h : Elems Ty.byte w Fs xs inner) : Fs.flatten = [] := by
  obtain ⟨css, rfl, h1, h2, h3⟩ := h
  rw [List.flatten_eq_nil_iff]
  intro f hf
  obtain ⟨j, hj, rfl⟩ := List.getElem_of_mem hf
  have hjx : j < xs.length := by omega
  obtain ⟨c, f, -, hf, hM, -⟩ := h3 j _ (List.getElem?_eq_getElem hjx)
  rw [List.getElem?_eq_getElem hj] at hf
  have h4 : Fs[j] = f := Option.some.inj hf
  rw [h4]
  exact hM.1
theorem owp_base {e : TypeId} {w : World} {lo : Nat} {v : Value} {xs : Bytes} (h : OwP Ty.byte e w (fun k => lo ≤ k) v xs) : ∃ inner, w.ownsRow lo e 1 v xs.length inner ∧ inner = xs.map fun b => Value.int .u8 (b.toNat : Int) := by
  obtain ⟨F, ⟨inner, Fs, ho, hEx, rfl, hnd⟩, hX⟩ := h
  refine ⟨inner, ⟨ho.1, ?_⟩, ?_⟩
  · rcases ho.2 with h | ⟨g, cap, cur, rfl, hb, h⟩
    · exact .inl h
    · exact .inr ⟨g, cap, cur, rfl, hX g (by simp [Value.ownBlock]), h⟩
  · obtain ⟨css, rfl, h1, h2, h3⟩ := hEx
    have : css = xs.map fun b => [Value.int .u8 (b.toNat : Int)] := by
      apply List.ext_getElem (by simpa using h1)
      intro j hj hj2
      have hjx : j < xs.length := by omega
      obtain ⟨c, f, hc, -, hM, -⟩ := h3 j _ (List.getElem?_eq_getElem hjx)
      rw [List.getElem?_eq_getElem hj] at hc
      rw [Option.some.inj hc, List.getElem_map]
      exact hM.2
    rw [this]
    clear this hnd h3 h2 h1 ho hX
    induction xs with
    | nil => rfl
    | cons z zs ih => rw [List.map_cons, List.flatten_cons, ih, List.map_cons]; rfl
theorem owp_of_base {e : TypeId} {w : World} {lo : Nat} {v : Value} {xs : Bytes} (ho : w.ownsRow lo e 1 v xs.length (xs.map fun b => Value.int .u8 (b.toNat : Int))) : OwP Ty.byte e w (fun k => lo ≤ k) v xs := by
  refine ⟨v.ownBlock.toList ++ (List.replicate xs.length ([] : List Nat)).flatten, ⟨_, List.replicate xs.length [], ⟨ho.1, ?_⟩, elemsBytes xs w, rfl, ?_⟩, ?_⟩
  · rcases ho.2 with h | ⟨g, cap, cur, rfl, hb, h⟩
    · exact .inl h
    · exact .inr ⟨g, cap, cur, rfl, Nat.zero_le _, h⟩
  · rw [flat_nil]; simp; cases v.ownBlock <;> simp
  · intro k hk
    rw [flat_nil, List.append_nil] at hk
    rcases ho.2 with ⟨rfl, h⟩ | ⟨g, cap, cur, rfl, hb, h⟩
    · simp [Value.ownBlock] at hk
    · simp [Value.ownBlock] at hk; subst hk; exact hb
theorem wpList_appStr {P : Program} (w : World) {ops : Array Oper} {rest : List Oper} {o : Oper} {a : Act} {Q : Exit → Act → World → Prop} (hgd : o.guard = none) (s x : Operand) (t u : TypeId)
    (ho : o.op = .call { callee := .builtin .append, args := #[s, x], argTypes := #[t, u] }) {e : TypeId} (ht : P.underlying t = some (.slice e)) (hu : P.underlying u = some .string) (hinfo : (P.info? e).map (fun i => (i.zero, i.size, i.bytes)) = some (some (.int .u8 0), 1, 1))
    {lo : Nat} {v : Value} {xs : Bytes} (ys : Bytes) (hs : a.eval s = v) (hx : a.eval x = .string ⟨ys.toArray⟩) (hown : OwP Ty.byte e w (fun k => lo ≤ k) v xs) (hlo : lo ≤ w.heap.size) (hlen : xs.length + ys.length ≤ 34359738368)
    (h : ∀ A' n' c' w', OwP Ty.byte e w' (fun k => lo ≤ k) (.slice A' n' c') (xs ++ ys) → Mod (fun k => lo ≤ k) w w' → wpList P ops Q rest (a.put o.dst (.slice A' n' c')) w') : wpList P ops Q (o :: rest) a w := by
  obtain ⟨inner, hb, hin⟩ := owp_base hown
  cases hi : P.info? e with
  | none => rw [hi] at hinfo; cases hinfo
  | some i =>
    rw [hi] at hinfo
    simp only [Option.map_some, Option.some.injEq, Prod.mk.injEq] at hinfo
    obtain ⟨hz, hsz1, hby⟩ := hinfo
    have hsz : (⟨ys.toArray⟩ : ByteArray).size = ys.length := by simp [ByteArray.size]
    refine wpList_plain hgd fun K hK => ?_
    obtain ⟨v', w', hrun, ho', hg, -⟩ := run_append_own_string (P := P) w lo t u o.type e i ht hu hi hz hsz1 hby v xs.length inner hb ⟨ys.toArray⟩ (by rw [hsz]; unfold maxLen; omega) (by rw [hsz]; omega) hlo
    rw [hsz, strCells_of, hin, ← List.map_append, ← List.length_append] at ho'
    have hO := owp_of_base ho'
    obtain ⟨A', c', hv', -⟩ : ∃ A' c', v' = .slice A' (xs ++ ys).length c' ∧ True := by
      obtain ⟨F, hF, -⟩ := hO
      obtain ⟨A', c', hv, _⟩ := hF.form
      exact ⟨A', c', hv, trivial⟩
    have hm : Mod (fun k => lo ≤ k) w w' := ⟨hg.os, hg.tape, hg.output, hg.size, fun k hk hne => hg.block k hk (fun h => hne (by
      rcases hb.2 with ⟨rfl, -⟩ | ⟨g, cap, cur, rfl, hbl, -⟩
      · simp [Value.ownBlock] at h
      · simp [Value.ownBlock] at h; omega))⟩
    subst hv'
    unfold Oper.wp execOp
    simp only [ho, resolve, invoke, builtin, Sem.run_bind, Sem.run_pure, Result.andThen_ok, List.map_toArray, List.map_cons, List.map_nil, hs, hx, hrun]
    exact hK _ _ (h _ _ _ _ hO hm)
theorem wpList_appSt2 {P : Program} (w : World) {ops : Array Oper} {rest : List Oper} {o : Oper} {a : Act} {Q : Exit → Act → World → Prop} (hgd : o.guard = none) (s x : Operand) (t u : TypeId)
    (ho : o.op = .call { callee := .builtin .append, args := #[s, x], argTypes := #[t, u] }) {e : TypeId} (ht : P.underlying t = some (.slice e)) (hu : P.underlying u = some .string) (hinfo : (P.info? e).map (fun i => (i.zero, i.size, i.bytes)) = some (some (.int .u8 0), 1, 1))
    {lo : Nat} {v : Value} {xs : Bytes} {sb : ByteArray} (hs : a.eval s = v) (hx : a.eval x = .string sb) (hown : OwP Ty.byte e w (fun k => lo ≤ k) v xs) (hlo : lo ≤ w.heap.size) (hlen : xs.length + sb.size ≤ 34359738368)
    (h : ∀ ys A' n' c' w', ys.length = xs.length + sb.size → OwP Ty.byte e w' (fun k => lo ≤ k) (.slice A' n' c') ys → Mod (fun k => lo ≤ k) w w' → wpList P ops Q rest (a.put o.dst (.slice A' n' c')) w') : wpList P ops Q (o :: rest) a w := by
  have hsz : sb.data.toList.length = sb.size := Array.length_toList
  refine wpList_appStr w hgd s x t u ho ht hu hinfo sb.data.toList hs (by rw [hx]) hown hlo (by rw [hsz]; exact hlen) fun A' n' c' w' h1 h2 => h _ A' n' c' w' (by rw [List.length_append, hsz]) h1 h2
theorem Row.two (w : World) (e : TypeId) {b0 b1 : UInt8} {x0 x1 : Int} (h0 : (b0.toNat : Int) = x0) (h1 : (b1.toNat : Int) = x1) : Row Ty.byte (w.alloc (.cells #[.int .u8 x0, .int .u8 x1] e)) (· = w.heap.size) (some ⟨w.heap.size, 0, none⟩) 2 [b0, b1] := by
  subst h0; subst h1
  exact Row.const w e (0, 0) [b0, b1] (by simp)
end Mem
end Go.Proofs.Ytciiejkfppnimaa
