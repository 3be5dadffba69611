/- Trees of strings beside a map of strings, over items in order. -/
import Derived.Test.YtmpcmpanolnpfaaSc
import Derived.Maps.OwnIn
import Derived.StringKeys
import Derived.Maps.StringElems
set_option linter.unusedVariables false
set_option linter.unusedSimpArgs false
namespace Go.Proofs.Ytmpcmpanolnpfaa.Tr.Sr
open Go.RowKit Go.Maps Go.WideMaps Go.Proofs.YtmpcmpanolnpfaaW.PrintWords Go.Proofs.YtmpcmpanolnpfaaW.PrintLast Go.Proofs.YtmpcmpanolnpfaaW.PrintMore

def valI (L : List Item) (x : ByteArray) : Value := ((L.find? fun a => decide (a.1 = x)).map (·.2)).getD (.string ⟨#[]⟩)
theorem valI_of {L : List Item} (h : Srt L) {a : Item} (ha : a ∈ L) : valI L a.1 = a.2 := by
  unfold valI
  induction L with
  | nil => cases ha
  | cons b L ih =>
    rw [List.find?_cons]
    rcases List.mem_cons.1 ha with rfl | ha'
    · simp
    · have hlt := (List.pairwise_cons.1 h).1 a ha'
      have hne : ¬ b.1 = a.1 := fun e => by rw [e] at hlt; exact kl_irrefl _ hlt
      simp only [hne, decide_false]
      exact ih (List.pairwise_cons.1 h).2 ha'
theorem valI_none {L : List Item} {x : ByteArray} (h : Tr.has L x = false) : valI L x = .string ⟨#[]⟩ := by
  unfold valI
  rw [List.find?_eq_none.2]
  · rfl
  · intro a ha e
    unfold Tr.has at h
    rw [List.any_eq_false] at h
    exact h a ha e
theorem mem_ins {L : List Item} {x : ByteArray} {v : Value} {a : Item} : a ∈ ins L x v ↔ a = (x, v) ∨ (a ∈ L ∧ a.1 ≠ x) := by
  unfold ins Tr.below above
  rw [List.mem_append, List.mem_append, List.mem_singleton, List.mem_filter, List.mem_filter, decide_eq_true_eq, decide_eq_true_eq]
  constructor
  · rintro ((⟨h1, h2⟩ | h) | ⟨h1, h2⟩)
    · exact .inr ⟨h1, fun e => kl_irrefl x (by rw [e] at h2; exact h2)⟩
    · exact .inl h
    · exact .inr ⟨h1, fun e => kl_irrefl x (by rw [e] at h2; exact h2)⟩
  · rintro (h | ⟨h1, h2⟩)
    · exact .inl (.inr h)
    · rcases kl_tri a.1 x with c | c | c
      · exact .inl (.inl ⟨h1, c⟩)
      · exact absurd c h2
      · exact .inr ⟨h1, c⟩
theorem has_insI {L : List Item} {x z : ByteArray} {v : Value} : Tr.has (ins L x v) z = true ↔ z = x ∨ Tr.has L z = true := by
  rw [has_iff, has_iff]
  constructor
  · rintro ⟨a, ha, rfl⟩
    rcases mem_ins.1 ha with rfl | ⟨h1, h2⟩
    · exact .inl rfl
    · exact .inr ⟨a, h1, rfl⟩
  · rintro (rfl | ⟨a, ha, rfl⟩)
    · exact ⟨(z, v), mem_ins.2 (.inl rfl), rfl⟩
    · by_cases h : a.1 = x
      · exact ⟨(x, v), mem_ins.2 (.inl rfl), h.symm⟩
      · exact ⟨a, mem_ins.2 (.inr ⟨ha, h⟩), rfl⟩
/-- the values put, the last of each key -/
def kA (ks : List ByteArray) (i : Nat) : ByteArray := ks.getD i ⟨#[]⟩
def lastsI (ks vs : List ByteArray) : Nat → List Item
  | 0 => []
  | i + 1 => ins (lastsI ks vs i) (kA ks i) (.string (kA vs i))
theorem lasts_len (ks vs : List ByteArray) : ∀ i, Srt (lastsI ks vs i) ∧ (lastsI ks vs i).length ≤ i
  | 0 => ⟨List.Pairwise.nil, Nat.le_refl _⟩
  | i + 1 => by
    obtain ⟨h1, h2⟩ := lasts_len ks vs i
    refine ⟨srt_ins h1 _ _, ?_⟩
    unfold lastsI
    rw [ins_length h1]
    split <;> omega
theorem get_str {F : Nat → Prop} {w : World} {g : Nat} {L : List Item} (h : TreeAt F w g L) (hb : L.length ≤ maxTree) (x : ByteArray) :
    Calls Try.prog 16 #[.pointer (some ⟨g, 0, none⟩), .string x] w fun e w' => e = .returned (.tuple #[valI L x, .bool (Tr.has L x)]) ∧ Below w.heap.size w w' := by
  have hsrt := h.srt
  obtain ⟨S, M, hM, hT, hL⟩ := h
  have hs : Small M := small_of hT (by rw [hL]; exact hb)
  obtain ⟨A, c, e, hl⟩ := hM.leaves hs.pos
  have c0 := hM.c0
  rw [e] at c0
  refine (get_any g c A (tl M) x w (by have := hs.len; simp [tl]; omega) hs.lf hl c0).mono ?_
  rintro e w' ⟨rfl, hbl⟩
  refine ⟨?_, hbl⟩
  by_cases hne : tl M = []
  · rw [hne] at hL ⊢
    have hZ : L = [] := by simpa using hL.symm
    subst hZ
    rfl
  · obtain ⟨h1, h2, _, _, h5, h6⟩ := findT_spec hT hne x
    have hhas : (findT (tl M) x).2.2 = Tr.has L x := by rw [Bool.eq_iff_iff, h5, hL, has_iff]
    rw [hhas]
    cases hz : Tr.has L x with
    | false => rw [valI_none hz]; rfl
    | true =>
      rw [hhas, hz] at h6
      obtain ⟨h7, h8⟩ := h6 rfl
      have hmem : itm (lf (tl M) (findT (tl M) x).1) (findT (tl M) x).2.1 ∈ L := by
        rw [← hL]
        have e1 : lf (tl M) (findT (tl M) x).1 = (tl M)[(findT (tl M) x).1] := by simp [lf, List.getD, h1]
        rw [itm_eq h7]
        refine List.mem_flatten.2 ⟨_, ?_, List.getElem_mem _⟩
        rw [e1]
        exact List.getElem_mem _
      have h9 := valI_of hsrt hmem
      rw [h8] at h9
      rw [h9]
      rfl
theorem tree_newS (w : World) : TreeAt (fun k => w.heap.size ≤ k) (w.alloc (.cells #[.slice none 0 0, .int .i64 0] 43)) w.heap.size [] := by
  refine ⟨.slice none 0 0, [], ?_, ?_, rfl⟩
  · exact { head := heap_alloc_new w _, inF := Nat.le_refl _, row := World.ownsRow_nil _ _ _ _, apart := fun k e => by simp [Value.ownBlock] at e, leaf := fun m hm => (by cases hm), nodup := List.Pairwise.nil }
  · exact { ne := fun l hl => (by cases hl), srt := List.Pairwise.nil }
-- the map
theorem zero9 (w : World) : (zeroValue 9).run Try.prog w = .ok (.string ⟨#[]⟩) w := by kernel_rfl
theorem keyed9S : Keyed Try.prog 9 := string_keyed Try.underlying9
abbrev lkS (x : ByteArray) : Lit := .string x.data.toList
theorem lkS_inj {x y : ByteArray} (e : lkS x = lkS y) : x = y := by
  simp only [Lit.string.injEq] at e
  cases x
  cases y
  simp at e
  rw [e]
theorem elem_inv {v : Value} {y : DataW Unit × List MemPlace} (h : plainElem Try.prog 9 v = some y) : ∃ s : ByteArray, v = .string s ∧ y = (.lit (lkS s), []) ∧ s.size ≤ maxLen := plainElem_string_inv Try.underlying9 h
/-- block b is a map of at most n entries, that reads as the items -/
structure MapS (w : World) (b n : Nat) (L : List Item) (D : DataW Unit) : Prop where
  own : w.ownsMap Try.prog 9 (plainElem Try.prog 9) b n D
  hs : ∀ x, Maps.has D (lkS x) = Tr.has L x
  at' : ∀ x s, ((x, Value.string s) : Item) ∈ L → ∀ z, D.atKey (lkS x) z = .lit (lkS s)
  sz : Maps.size D = L.length
  str : ∀ a ∈ L, ∃ s : ByteArray, a.2 = .string s
variable {w w' : World} {b n : Nat} {L : List Item} {D : DataW Unit}
theorem MapS.new (w : World) : MapS (w.alloc (.map #[] 0)) w.heap.size 0 [] (.map []) :=
  ⟨World.ownsMap_made w Try.prog 9 (plainElem Try.prog 9), fun x => rfl, fun x s h => (by cases h), rfl, fun a h => (by cases h)⟩
theorem MapS.same (h : MapS w b n L D) (hb : w'.heap[b]? = w.heap[b]?) : MapS w' b n L D := by
  obtain ⟨es, clock, q1, q2⟩ := h.own
  exact ⟨⟨es, clock, hb.trans q1, q2⟩, h.hs, h.at', h.sz, h.str⟩
theorem MapS.look2 (h : MapS w b n L D) {x : ByteArray} (hx : x.size ≤ maxLen) : ∃ s : ByteArray, (Instr.lookup 44 (.map (some b)) (.string x) true).run Try.prog w = .ok (.tuple #[.string s, .bool (Tr.has L x)]) w := by
  obtain ⟨v, ps, hrun, hv⟩ := h.own.look_ok keyed9S Try.underlying44 (zero9 w) (plainElem_string Try.underlying9 (by decide)) (keyOf_string_mk Try.underlying9 hx)
  obtain ⟨s, rfl, _⟩ := elem_inv hv
  exact ⟨s, by rw [hrun, show Maps.has D (Lit.string x.data.toList) = Tr.has L x from h.hs x]⟩
theorem MapS.put (h : MapS w b n L D) (hL : Srt L) (hn : n < maxLen) {x y : ByteArray} (hx : x.size ≤ maxLen) (hy : y.size ≤ maxLen) :
    ∃ w', (Instr.mapUpdate 44 (.map (some b)) (.string x) (.string y)).run Try.prog w = .ok () w' ∧ MapS w' b (n + 1) (ins L x (.string y)) (D.put (lkS x) (.lit (lkS y))) ∧ w.grownBy w' (some b) := by
  have hk := keyOf_string_mk Try.underlying9 hx
  obtain ⟨w', hrun, ho, hg⟩ := h.own.update keyed9S Try.underlying44 hn hk (plainElem_string Try.underlying9 hy)
  refine ⟨w', hrun, ⟨ho, fun z => ?_, fun z s hz zd => ?_, ?_, fun a ha => ?_⟩, hg⟩
  · by_cases e : z = x
    · subst e
      rw [show Tr.has (ins L z (.string y)) z = true from has_insI.2 (.inl rfl)]
      exact has_put_same h.own.isMap (keyed9S.key hk) _
    · have e2 : Tr.has (ins L x (.string y)) z = Tr.has L z := Bool.eq_iff_iff.2 (by rw [has_insI]; exact ⟨fun q => q.elim (fun q => absurd q e) id, .inr⟩)
      rw [e2, ← h.hs z]
      exact has_put_other (fun q => e (lkS_inj q)) _
  · rcases mem_ins.1 hz with q | ⟨q1, q2⟩
    · cases q
      exact atKey_put_same h.own.isMap (keyed9S.key hk) _ _
    · rw [← h.at' z s q1 zd]
      exact atKey_put_other (fun q => q2 (lkS_inj q)) _ _
  · rw [size_put (h.own.tidy keyed9S), ins_length hL, show Maps.has D (Lit.string x.data.toList) = Tr.has L x from h.hs x, h.sz]
  · rcases mem_ins.1 ha with rfl | ⟨q, _⟩
    · exact ⟨y, rfl⟩
    · exact h.str a q
end Go.Proofs.Ytmpcmpanolnpfaa.Tr.Sr
