/- The library's error variables hold interface values; numbers parsed. -/
import Derived.ChangeArms
import Derived.ChangeSame
import Derived.LaidLaws
import Derived.Test.YtbkccffpipcjeaaDoorShelf
import Derived.Test.YtbkccffpipcjeaaDoorStr
import Derived.Test.YtbkccffpipcjeaaDoorPureParse
namespace Go.Proofs.YtbkccffpipcjeaaDoor
open Go.RowKit Mem
set_option linter.unusedVariables false
theorem trod_iface {H : Type} {enc : TypeId × Value → H} {P : Program} {w : World} {base : Nat} {spare : Nat → Bool} {held : Bool} {fuel : Nat} {t : TypeId} {cs : List Value} {d : DataW H} {ps : List MemPlace} {ms : _} (hu : P.underlying t = some (.interface ms))
    (h : DataW.trod enc P w base spare held fuel t cs = some (d, ps)) : ∃ ev, cs = [ev] ∧ (ev = .nilIface ∨ ∃ te pe, ev = .iface te pe) := by
  cases fuel with
  | zero => simp [DataW.trod] at h
  | succ n =>
    unfold DataW.trod at h
    rw [hu] at h
    match cs, h with
    | [.nilIface], _ => exact ⟨_, rfl, .inl rfl⟩
    | [.iface u v], _ => exact ⟨_, rfl, .inr ⟨_, _, rfl⟩⟩
    | [], h => simp at h
    | _ :: _ :: _, h => simp at h
    | [.bool _], h => simp at h
    | [.int _ _], h => simp at h
    | [.float _ _], h => simp at h
    | [.complex _ _ _], h => simp at h
    | [.string _], h => simp at h
    | [.pointer _], h => simp at h
    | [.slice _ _ _], h => simp at h
    | [.agg _], h => simp at h
    | [.tuple _], h => simp at h
    | [.map _], h => simp at h
    | [.nilFunc], h => simp at h
    | [.func _ _ _], h => simp at h
    | [.chan _], h => simp at h
def ErrAt (g : Nat) (w : World) : Prop := ∃ ev, w.cell? ⟨g, 0, none⟩ = some ev ∧ (ev = .nilIface ∨ ∃ te pe, ev = .iface te pe)
theorem ErrAt.new {g : Nat} {w w' : World} (h : ErrAt g w) (hm : New w w') : ErrAt g w' := by
  obtain ⟨ev, h1, h2⟩ := h
  exact ⟨ev, hm.cell_of h1, h2⟩
theorem errAt_of_vars {P : Program} {W : World} {n : String} {d : DataW Unit} {rest : List (String × DataW Unit)} {ps : List MemPlace} {g0 : Nat} {t0 : TypeId} {ms : _} (hg0 : P.globalNamed n = some g0) (ht0 : (P.globals[g0]?).map (·.type) = some t0) (hu : P.underlying t0 = some (.interface ms))
    (h : DataW.LaidVars P W ((n, d) :: rest) ps) : ErrAt g0 W := by
  obtain ⟨g, t, cs, fuel, p, q, hg, ht, hv, hd, _, _⟩ := h
  obtain rfl := Option.some.inj (hg0.symm.trans hg)
  obtain rfl := Option.some.inj (ht0.symm.trans ht)
  obtain ⟨ev, hcs, hev⟩ := trod_iface hu hd
  refine ⟨ev, ?_, hev⟩
  rw [World.var?_cell hg hv 0]
  have := congrArg (·[0]?) hcs
  simpa using this
theorem bytes_new (w : World) (t : TypeId) (s : ByteArray) : New w (Lib.bytesWorld w t s) := ⟨rfl, rfl, rfl, by rw [Lib.bytesWorld_size]; omega, fun k hk _ => Lib.bytesWorld_at_old w _ _ k hk⟩
def ErrV (v : Value) (ok : Bool) : Prop := (v = .nilIface ∧ ok = true) ∨ ((∃ t a, v = .iface t (.pointer (some a))) ∧ ok = false)
theorem parseUint_calls (s : ByteArray) (hs : s.size ≤ 1048576) {w : World} (h1 : ErrAt 4 w) (h2 : ErrAt 5 w) :
    Calls Tryd.prog 40 #[.string s, .int .i64 10, .int .i64 32] w fun e w' => ∃ (u : Nat) (er : Value) (ok : Bool), e = .returned (.tuple #[.int .u64 (u : Int), er]) ∧ ErrV er ok ∧ (ok = true → u ≤ 4294967295 ∧ Lib.parseUintB 32 s.data.toList = .ok u) ∧ (∀ v, Lib.parseUintB 32 s.data.toList = .ok v → ok = true) ∧ New w w' := by
  cases hp : Lib.parseUintB 32 s.data.toList with
  | ok u =>
    refine (Tryd.strconv_ParseUint_10_at32_ok s (by omega) u hp w).mono ?_
    rintro e w' ⟨rfl, hw⟩
    refine ⟨u, .nilIface, true, rfl, .inl ⟨rfl, rfl⟩, fun _ => ⟨Lib.parseUintB_le hp, rfl⟩, fun _ _ => rfl, ?_⟩
    rcases hw with rfl | rfl
    · exact Mod.refl _ _
    · exact bytes_new _ _ _
  | «syntax» =>
    obtain ⟨ev, hc, hev⟩ := h1
    refine (Tryd.strconv_ParseUint_10_at32_syntax s (by omega) hp ev w hc hev).mono ?_
    rintro e w' ⟨N, rfl, _, _, hb⟩
    exact ⟨0, _, false, rfl, .inr ⟨⟨_, _, rfl⟩, rfl⟩, fun h => (by cases h), fun v h => (by cases h), ⟨hb.os, hb.tape, hb.output, hb.size, fun k hk _ => hb.block k hk⟩⟩
  | range =>
    obtain ⟨ev, hc, hev⟩ := h2
    refine (Tryd.strconv_ParseUint_10_at32_range s (by omega) hp ev w hc hev).mono ?_
    rintro e w' ⟨N, rfl, _, _, hb⟩
    exact ⟨4294967295, _, false, rfl, .inr ⟨⟨_, _, rfl⟩, rfl⟩, fun h => (by cases h), fun v h => (by cases h), ⟨hb.os, hb.tape, hb.output, hb.size, fun k hk _ => hb.block k hk⟩⟩
theorem parseInt_calls (s : ByteArray) (hs : s.size ≤ 1048576) {w : World} (h1 : ErrAt 4 w) (h2 : ErrAt 5 w) :
    Calls Tryd.prog 41 #[.string s, .int .i64 10, .int .i64 64] w fun e w' => ∃ (v : Int) (er : Value) (ok : Bool), e = .returned (.tuple #[.int .i64 v, er]) ∧ ErrV er ok ∧ IntKind.i64.wrap v = v ∧ (ok = true → Lib.parseIntB 64 s.data.toList = .ok v) ∧ (∀ v, Lib.parseIntB 64 s.data.toList = .ok v → ok = true) ∧ New w w' := by
  have h63 : (2 : Nat) ^ (64 - 1) = 9223372036854775808 := by decide
  cases hp : Lib.parseIntB 64 s.data.toList with
  | ok v =>
    refine (Tryd.strconv_ParseInt_10_at64_ok s (by omega) v hp w).mono ?_
    rintro e w' ⟨rfl, hw⟩
    have hb := Lib.parseIntB_bounds hp
    rw [h63] at hb
    refine ⟨v, .nilIface, true, rfl, .inl ⟨rfl, rfl⟩, by rw [IntKind.wrap_i64]; omega, fun _ => rfl, fun _ _ => rfl, ?_⟩
    rcases hw with rfl | ⟨t, rfl⟩
    · exact Mod.refl _ _
    · exact bytes_new _ _ _
  | «syntax» =>
    obtain ⟨ev, hc, hev⟩ := h1
    refine (Tryd.strconv_ParseInt_10_at64_syntax s (by omega) hp ev w hc hev).mono ?_
    rintro e w' ⟨N, rfl, _, _, hb⟩
    exact ⟨0, _, false, rfl, .inr ⟨⟨_, _, rfl⟩, rfl⟩, by decide, fun h => (by cases h), fun v h => (by cases h), ⟨hb.os, hb.tape, hb.output, hb.size, fun k hk _ => hb.block k hk⟩⟩
  | range =>
    obtain ⟨ev, hc, hev⟩ := h2
    refine (Tryd.strconv_ParseInt_10_at64_range s (by omega) hp ev w hc hev).mono ?_
    rintro e w' ⟨N, rfl, _, _, hb⟩
    refine ⟨_, _, false, rfl, .inr ⟨⟨_, _, rfl⟩, rfl⟩, ?_, fun h => (by cases h), fun v h => (by cases h), ⟨hb.os, hb.tape, hb.output, hb.size, fun k hk _ => hb.block k hk⟩⟩
    unfold Lib.intSat
    rw [h63, IntKind.wrap_i64]
    split <;> decide
end Go.Proofs.YtbkccffpipcjeaaDoor
