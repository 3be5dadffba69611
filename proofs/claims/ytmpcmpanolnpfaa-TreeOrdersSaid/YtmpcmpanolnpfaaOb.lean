/- A map from strings to ints, over pairs in the order of the keys. -/
import Derived.Test.YtmpcmpanolnpfaaOa
import Derived.Maps.OwnIn
import Derived.StringKeys
set_option linter.unusedVariables false
set_option linter.unusedSimpArgs false
namespace Go.Proofs.Ytmpcmpanolnpfaa.Tr
open Go.RowKit Go.Maps Go.WideMaps

theorem zero3 (w : World) : (zeroValue 3).run Try.prog w = .ok (.int .i64 0) w := by kernel_rfl
theorem keyed9 : Keyed Try.prog 9 := string_keyed Try.underlying9
abbrev lk (x : ByteArray) : Lit := .string x.data.toList
theorem lk_ne {x y : ByteArray} (h : x ≠ y) : lk x ≠ lk y := by
  intro e
  simp only [Lit.string.injEq] at e
  apply h
  cases x
  cases y
  simp at e
  rw [e]
theorem lit_inj {c d : Int} (h : (DataW.lit (.int .i64 c) : DataW Unit) = .lit (.int .i64 d)) : c = d := by
  cases h
  rfl
/-- block b is a map of at most n entries, that reads as Z -/
structure MapZ (w : World) (b n : Nat) (Z : List Pair) : Prop where
  srt : SrtZ Z
  ex : ∃ D : DataW Unit, w.ownsMap Try.prog 9 (plainElem Try.prog 3) b n D ∧ (∀ x, D.atKey (lk x) (.lit (.int .i64 0)) = .lit (.int .i64 (valZ Z x))) ∧ (∀ x, Maps.has D (lk x) = hasZ Z x) ∧ size D = Z.length
theorem MapZ.new (w : World) : MapZ (w.alloc (.map #[] 0)) w.heap.size 0 [] :=
  ⟨List.Pairwise.nil, .map [], World.ownsMap_made w Try.prog 9 (plainElem Try.prog 3), fun x => rfl, fun x => rfl, rfl⟩
theorem MapZ.lt {w : World} {b n : Nat} {Z : List Pair} (h : MapZ w b n Z) : b < w.heap.size := by
  obtain ⟨D, h1, _⟩ := h.ex
  exact h1.lt
theorem MapZ.same {w w' : World} {b n : Nat} {Z : List Pair} (h : MapZ w b n Z) (hb : w'.heap[b]? = w.heap[b]?) : MapZ w' b n Z := by
  obtain ⟨D, ⟨es, clock, q1, q2⟩, h2⟩ := h.ex
  exact ⟨h.srt, D, ⟨es, clock, hb.trans q1, q2⟩, h2⟩
theorem MapZ.look {w : World} {b n : Nat} {Z : List Pair} (h : MapZ w b n Z) {x : ByteArray} (hx : x.size ≤ maxLen) : (Instr.lookup 37 (.map (some b)) (.string x) false).run Try.prog w = .ok (.int .i64 (valZ Z x)) w := by
  obtain ⟨D, h1, h2, h3, h4⟩ := h.ex
  obtain ⟨c, hrun, hat, hwc⟩ := h1.lookup_int keyed9 Try.underlying37 Try.underlying3 (zero3 w) (keyOf_string_mk Try.underlying9 hx)
  have e := (show D.atKey (lk x) (.lit (.int .i64 0)) = .lit (.int .i64 c) from hat).symm.trans (h2 x)
  rw [lit_inj e] at hrun
  exact hrun
theorem MapZ.look2 {w : World} {b n : Nat} {Z : List Pair} (h : MapZ w b n Z) {x : ByteArray} (hx : x.size ≤ maxLen) : (Instr.lookup 37 (.map (some b)) (.string x) true).run Try.prog w = .ok (.tuple #[.int .i64 (valZ Z x), .bool (hasZ Z x)]) w := by
  obtain ⟨D, h1, h2, h3, h4⟩ := h.ex
  obtain ⟨v, ps, hrun, hv⟩ := h1.look_ok keyed9 Try.underlying37 (zero3 w) (plainElem_int Try.underlying3 (by decide)) (keyOf_string_mk Try.underlying9 hx)
  obtain ⟨c, rfl, hc, hwc⟩ := plainElem_int_inv Try.underlying3 hv
  have e := (show D.atKey (lk x) (.lit (.int .i64 0)) = .lit (.int .i64 c) from congrArg Prod.fst hc).symm.trans (h2 x)
  rw [lit_inj e, show Maps.has D (Lit.string x.data.toList) = hasZ Z x from h3 x] at hrun
  exact hrun
theorem MapZ.len {w : World} {b n : Nat} {Z : List Pair} (h : MapZ w b n Z) (ty : TypeId) : (Builtin.len_ #[37] ty #[.map (some b)]).run Try.prog w = .ok (.int .i64 (Z.length : Int)) w := by
  obtain ⟨D, h1, h2, h3, h4⟩ := h.ex
  rw [← h4]
  exact h1.len Try.underlying37 ty
theorem MapZ.put {w : World} {b n : Nat} {Z : List Pair} (h : MapZ w b n Z) (hn : n < maxLen) {x : ByteArray} (hx : x.size ≤ maxLen) {y : Int} (hy : (Lit.int .i64 y).wf = true) :
    ∃ w', (Instr.mapUpdate 37 (.map (some b)) (.string x) (.int .i64 y)).run Try.prog w = .ok () w' ∧ MapZ w' b (n + 1) (insZ Z x y) ∧ w.grownBy w' (some b) := by
  obtain ⟨D, h1, h2, h3, h4⟩ := h.ex
  have hk := keyOf_string_mk Try.underlying9 hx
  obtain ⟨w', hrun, ho, hg⟩ := h1.update keyed9 Try.underlying37 hn hk (plainElem_int Try.underlying3 hy)
  refine ⟨w', hrun, ⟨srtZ_ins h.srt x y, _, ho, fun z => ?_, fun z => ?_, ?_⟩, hg⟩
  · by_cases e : z = x
    · subst e
      rw [val_ins_same h.srt]
      exact atKey_put_same h1.isMap (keyed9.key hk) _ _
    · rw [val_ins_other h.srt e, ← h2 z]
      exact atKey_put_other (lk_ne e) _ _
  · by_cases e : z = x
    · subst e
      rw [show hasZ (insZ Z z y) z = true from has_ins.2 (.inl rfl)]
      exact has_put_same h1.isMap (keyed9.key hk) _
    · have e2 : hasZ (insZ Z x y) z = hasZ Z z := bool_eq (by rw [has_ins]; exact ⟨fun q => q.elim (fun q => absurd q e) id, .inr⟩)
      rw [e2, ← h3 z]
      exact has_put_other (lk_ne e) _
  · rw [size_put (h1.tidy keyed9), insZ_length h.srt, show Maps.has D (Lit.string x.data.toList) = hasZ Z x from h3 x, h4]
end Go.Proofs.Ytmpcmpanolnpfaa.Tr
