/- Lemmas that the proof needs, part 2. -/
import Derived.Maps.OwnIn
import Derived.StringKeys
section
set_option linter.unusedVariables false
set_option linter.unusedSimpArgs false
set_option linter.unusedSectionVars false
namespace Go.Proofs.Ythcjoiflkhbpfaa.Mv
open Go.RowKit Go.Maps Go.WideMaps
abbrev DV := DataW Value
/-- an element is kept as the value that it is -/
def rv (v : Value) : Option (DV × List MemPlace) := some (.held v, [])
theorem rv_mk (v : Value) : rv v = some (.held v, []) := rfl
/-- a key's type -/
structure KT (P : Program) (k : TypeId) (κ : Type) where
  lk : κ → Lit
  kv : κ → Value
  ok : κ → Prop
  keyed : Keyed P k
  of : ∀ x, ok x → keyOf P k (kv x) = some (lk x)
  inj : ∀ x y, lk x = lk y → x = y
  back : ∀ v l, keyOf P k v = some l → ∃ x, ok x ∧ v = kv x ∧ l = lk x
def KT.str {P : Program} {k : TypeId} (hk : P.underlying k = some .string) : KT P k ByteArray where
  lk x := .string x.data.toList
  kv x := .string x
  ok x := x.size ≤ maxLen
  keyed := string_keyed hk
  of x h := keyOf_string_mk hk h
  inj x y e := by
    cases x
    cases y
    simp at e
    rw [e]
  back v l h := by
    cases v <;> simp [keyOf, hk, mapKey] at h
    exact ⟨_, h.1, rfl, h.2.symm⟩
def KT.int {P : Program} {k : TypeId} {q : IntKind} (hk : P.underlying k = some (.int q)) : KT P k Int where
  lk x := .int q x
  kv x := .int q x
  ok x := (Lit.int q x).wf = true
  keyed := int_keyed hk
  of x h := keyOf_int_mk hk h
  inj x y e := by cases e; rfl
  back v l h := by
    cases v <;> simp [keyOf, hk, mapKey] at h
    obtain ⟨⟨rfl, h1⟩, h2⟩ := h
    exact ⟨_, h1, rfl, h2.symm⟩
section
variable {κ α : Type} [DecidableEq κ]
def findC (C : List (κ × α)) (x : κ) : Option α := (C.find? fun a => decide (a.1 = x)).map (·.2)
def NdC (C : List (κ × α)) : Prop := C.Pairwise fun a b => a.1 ≠ b.1
def delC (C : List (κ × α)) (x : κ) : List (κ × α) := C.filter fun a => decide (a.1 ≠ x)
def putC (C : List (κ × α)) (x : κ) (y : α) : List (κ × α) := delC C x ++ [(x, y)]
variable {C : List (κ × α)} {x z : κ} {y : α}
theorem find_none : findC C x = none ↔ ∀ a ∈ C, a.1 ≠ x := by
  unfold findC
  rw [Option.map_eq_none_iff, List.find?_eq_none]
  simp
theorem find_mem (h : findC C x = some y) : (x, y) ∈ C := by
  unfold findC at h
  obtain ⟨a, ha, rfl⟩ := Option.map_eq_some_iff.1 h
  have h1 := List.find?_some ha
  rw [decide_eq_true_eq] at h1
  rw [← h1]
  exact List.mem_of_find?_eq_some ha
theorem find_of (h : NdC C) {a : κ × α} (ha : a ∈ C) : findC C a.1 = some a.2 := by
  unfold findC
  induction C with
  | nil => cases ha
  | cons b C ih =>
    obtain ⟨h1, h2⟩ := List.pairwise_cons.1 h
    rw [List.find?_cons]
    rcases List.mem_cons.1 ha with rfl | ha'
    · simp
    · have hne : ¬ b.1 = a.1 := h1 a ha'
      simp only [hne, decide_false]
      exact ih h2 ha'
theorem find_iff (h : NdC C) : findC C x = some y ↔ (x, y) ∈ C := ⟨find_mem, fun hm => find_of h hm⟩
theorem find_some {a : κ × α} (ha : a ∈ C) : (findC C a.1).isSome = true := by
  cases hf : findC C a.1 with
  | some _ => rfl
  | none => exact absurd rfl (find_none.1 hf a ha)
theorem nd_del (h : NdC C) (x : κ) : NdC (delC C x) := List.Pairwise.filter _ h
theorem nd_put (h : NdC C) (x : κ) (y : α) : NdC (putC C x y) := by
  unfold putC NdC
  rw [List.pairwise_append]
  refine ⟨nd_del h x, by simp, fun a ha b hb => ?_⟩
  rw [List.mem_singleton] at hb
  subst hb
  have := (List.mem_filter.1 ha).2
  simpa using this
theorem find_del (C : List (κ × α)) (x z : κ) : findC (delC C x) z = if z = x then none else findC C z := by
  by_cases e : z = x
  · rw [if_pos e, find_none]
    intro a ha e2
    have := (List.mem_filter.1 ha).2
    rw [decide_eq_true_eq] at this
    exact this (e2.trans e)
  · rw [if_neg e]
    unfold findC delC
    induction C with
    | nil => rfl
    | cons b C ih =>
      by_cases hb : b.1 = x
      · rw [List.filter_cons_of_neg (by simpa using hb), List.find?_cons_of_neg (by simp; exact fun q => e (q.symm.trans hb))]
        exact ih
      · rw [List.filter_cons_of_pos (by simpa using hb), List.find?_cons, List.find?_cons]
        cases decide (b.1 = z) with
        | true => rfl
        | false => exact ih
theorem find_put (C : List (κ × α)) (x z : κ) (y : α) : findC (putC C x y) z = if z = x then some y else findC C z := by
  have h := find_del C x z
  unfold putC
  unfold findC at *
  rw [List.find?_append]
  by_cases e : z = x
  · rw [if_pos e] at h ⊢
    rw [Option.map_eq_none_iff] at h
    rw [h]
    simp [e]
  · rw [if_neg e] at h ⊢
    rw [← h]
    cases (delC C x).find? (fun a => decide (a.1 = z)) with
    | some a => rfl
    | none => simp [Ne.symm e]
theorem len_del (h : NdC C) (x : κ) : (delC C x).length + (if (findC C x).isSome then 1 else 0) = C.length := by
  unfold delC
  induction C with
  | nil => rfl
  | cons b C ih =>
    obtain ⟨h1, h2⟩ := List.pairwise_cons.1 h
    by_cases hb : b.1 = x
    · have hno : C.filter (fun a => decide (a.1 ≠ x)) = C := List.filter_eq_self.2 (fun a ha => by simpa using fun q => h1 a ha (hb.trans q.symm))
      have hs : (findC (b :: C) x).isSome = true := by unfold findC; simp [hb]
      rw [List.filter_cons_of_neg (by simpa using hb), hno, hs, if_pos rfl, List.length_cons]
    · have hs : findC (b :: C) x = findC C x := by unfold findC; rw [List.find?_cons_of_neg (by simpa using hb)]
      rw [List.filter_cons_of_pos (by simpa using hb), hs, List.length_cons, List.length_cons]
      have := ih h2
      omega
theorem len_put (h : NdC C) (x : κ) (y : α) : (putC C x y).length = if (findC C x).isSome then C.length else C.length + 1 := by
  have := len_del h x
  unfold putC
  rw [List.length_append, List.length_singleton]
  cases hs : (findC C x).isSome <;> rw [hs] at this <;> simp at this ⊢ <;> omega
theorem find_perm {C' : List (κ × α)} (hp : C.Perm C') (h : NdC C) (x : κ) : findC C' x = findC C x := by
  have h' : NdC C' := (hp.pairwise_iff (R := fun a b : κ × α => a.1 ≠ b.1) (fun q => q.symm)).1 h
  cases hf : findC C x with
  | none =>
    rw [find_none] at hf ⊢
    exact fun a ha => hf a (hp.mem_iff.2 ha)
  | some y => exact (find_iff h').2 (hp.mem_iff.1 (find_mem hf))
theorem nd_nodup (h : NdC C) : C.Nodup := h.imp (fun {a b} hne e => hne (by rw [e]))
theorem perm_of_sub {D : List (κ × α)} (hC : NdC C) (hD : NdC D) (hs : ∀ a ∈ D, a ∈ C) (ha : ∀ a ∈ C, (findC D a.1).isSome = true) : D.Perm C := by
  refine (List.perm_ext_iff_of_nodup (nd_nodup hD) (nd_nodup hC)).2 (fun a => ⟨hs a, fun h => ?_⟩)
  obtain ⟨y, hy⟩ := Option.isSome_iff_exists.1 (ha a h)
  have hm := find_mem hy
  have h1 := find_of hC h
  have h2 := find_of hC (hs _ hm)
  rw [h1] at h2
  have e : a = (a.1, y) := Prod.ext rfl (by injection h2)
  rw [e]
  exact hm
theorem nodup_len {β : Type} : ∀ {l m : List β}, l.Nodup → (∀ a ∈ l, a ∈ m) → l.length ≤ m.length
  | [], m, _, _ => Nat.zero_le _
  | a :: l, m, h, hs => by
    obtain ⟨h1, h2⟩ := List.nodup_cons.1 h
    obtain ⟨s, t, rfl⟩ := List.append_of_mem (hs a (List.mem_cons_self ..))
    have := nodup_len (m := s ++ t) h2 (fun b hb => by
      have hb2 := hs b (List.mem_cons_of_mem _ hb)
      rw [List.mem_append, List.mem_cons] at hb2
      rcases hb2 with q | rfl | q
      · exact List.mem_append_left _ q
      · exact absurd hb h1
      · exact List.mem_append_right _ q)
    rw [List.length_append] at this
    rw [List.length_append, List.length_cons, List.length_cons]
    omega
theorem len_sub {D : List (κ × α)} (hD : NdC D) (hs : ∀ a ∈ D, a ∈ C) : D.length ≤ C.length := nodup_len (nd_nodup hD) hs
end
section
variable {P : Program} {k : TypeId} {κ α : Type} [DecidableEq κ]
def gV (enc : α → Value) (o : Option α) (z : Value) : Value := (o.map enc).getD z
/-- the datum D says what the entries C say -/
structure Says (T : KT P k κ) (enc : α → Value) (D : DV) (C : List (κ × α)) : Prop where
  nd : NdC C
  hs : ∀ x, Maps.has D (T.lk x) = (findC C x).isSome
  at' : ∀ x z, D.atKey (T.lk x) (.held z) = .held (gV enc (findC C x) z)
  sz : Maps.size D = C.length
/-- block b is a map of at most n entries, that are C -/
def MapV (T : KT P k κ) (enc : α → Value) (w : World) (b n : Nat) (C : List (κ × α)) : Prop := ∃ D, w.ownsMap P k rv b n D ∧ Says T enc D C
variable {T : KT P k κ} {enc : α → Value} {w w' : World} {b n : Nat} {C : List (κ × α)} {D : DV} {t e : TypeId}
theorem MapV.new (T : KT P k κ) (enc : α → Value) (w : World) : MapV T enc (w.alloc (.map #[] 0)) w.heap.size 0 [] :=
  ⟨.map [], World.ownsMap_made w P k rv, List.Pairwise.nil, fun _ => rfl, fun _ _ => rfl, rfl⟩
theorem MapV.lt (h : MapV T enc w b n C) : b < w.heap.size := by obtain ⟨D, h1, _⟩ := h; exact h1.lt
theorem MapV.nd (h : MapV T enc w b n C) : NdC C := by obtain ⟨D, _, h1⟩ := h; exact h1.nd
theorem MapV.same (h : MapV T enc w b n C) (hb : w'.heap[b]? = w.heap[b]?) : MapV T enc w' b n C := by
  obtain ⟨D, ⟨es, clock, q1, q2⟩, h2⟩ := h
  exact ⟨D, ⟨es, clock, hb.trans q1, q2⟩, h2⟩
theorem MapV.below (h : MapV T enc w b n C) (hb : Below w.heap.size w w') : MapV T enc w' b n C := h.same (hb.block b h.lt)
theorem MapV.mono (h : MapV T enc w b n C) {n' : Nat} (hn : n ≤ n') : MapV T enc w b n' C := by obtain ⟨D, h1, h2⟩ := h; exact ⟨D, h1.mono hn, h2⟩
theorem MapV.perm {C' : List (κ × α)} (h : MapV T enc w b n C) (hp : C.Perm C') : MapV T enc w b n C' := by
  obtain ⟨D, h1, h2⟩ := h
  exact ⟨D, h1, (hp.pairwise_iff (R := fun a b : κ × α => a.1 ≠ b.1) (fun q => q.symm)).1 h2.nd, fun x => by rw [find_perm hp h2.nd, h2.hs], fun x z => by rw [find_perm hp h2.nd, h2.at'], h2.sz.trans hp.length_eq⟩
theorem MapV.le (h : MapV T enc w b n C) : C.length ≤ n := by obtain ⟨D, h1, h2⟩ := h; rw [← h2.sz]; exact h1.size_le
theorem MapV.look2 (h : MapV T enc w b n C) (ht : P.underlying t = some (.map k e)) {z : Value} (hz : (zeroValue e).run P w = .ok z w) {x : κ} (hx : T.ok x) :
    (Instr.lookup t (.map (some b)) (T.kv x) true).run P w = .ok (.tuple #[gV enc (findC C x) z, .bool (findC C x).isSome]) w := by
  obtain ⟨D, h1, h2⟩ := h
  obtain ⟨v, ps, hrun, hv⟩ := h1.look_ok T.keyed ht hz (rv_mk z) (T.of x hx)
  rw [h2.hs x] at hrun
  rw [h2.at' x z] at hv
  cases hv
  exact hrun
theorem MapV.look (h : MapV T enc w b n C) (ht : P.underlying t = some (.map k e)) {z : Value} (hz : (zeroValue e).run P w = .ok z w) {x : κ} (hx : T.ok x) :
    (Instr.lookup t (.map (some b)) (T.kv x) false).run P w = .ok (gV enc (findC C x) z) w := by
  obtain ⟨D, h1, h2⟩ := h
  obtain ⟨v, ps, hrun, hv⟩ := h1.lookup T.keyed ht hz (rv_mk z) (T.of x hx)
  rw [h2.at' x z] at hv
  cases hv
  exact hrun
theorem MapV.len (h : MapV T enc w b n C) (ht : P.underlying t = some (.map k e)) (ty : TypeId) : (Builtin.len_ #[t] ty #[.map (some b)]).run P w = .ok (.int .i64 (C.length : Int)) w := by
  obtain ⟨D, h1, h2⟩ := h
  rw [← h2.sz]
  exact h1.len ht ty
theorem MapV.put (h : MapV T enc w b n C) (ht : P.underlying t = some (.map k e)) (hn : n < maxLen) {x : κ} (hx : T.ok x) (y : α) :
    ∃ w', (Instr.mapUpdate t (.map (some b)) (T.kv x) (enc y)).run P w = .ok () w' ∧ MapV T enc w' b (n + 1) (putC C x y) ∧ w.mapTurned w' b := by
  obtain ⟨D, h1, h2⟩ := h
  have hk := T.of x hx
  obtain ⟨w', hrun, ho, hg⟩ := h1.store T.keyed ht hn hk (rv_mk (enc y))
  refine ⟨w', hrun, ⟨_, ho, nd_put h2.nd x y, fun z => ?_, fun z zd => ?_, ?_⟩, hg⟩
  · rw [find_put]
    by_cases q : z = x
    · subst q
      rw [if_pos rfl, show Maps.has (D.put (T.lk z) (.held (enc y))) (T.lk z) = true from has_put_same h1.isMap (T.keyed.key hk) _]
      rfl
    · rw [if_neg q, ← h2.hs z]
      exact has_put_other (fun q2 => q (T.inj _ _ q2)) _
  · rw [find_put]
    by_cases q : z = x
    · subst q
      rw [if_pos rfl]
      exact atKey_put_same h1.isMap (T.keyed.key hk) _ _
    · rw [if_neg q, ← h2.at' z zd]
      exact atKey_put_other (fun q2 => q (T.inj _ _ q2)) _ _
  · rw [size_put (h1.tidy T.keyed), h2.hs x, len_put h2.nd, h2.sz]
theorem MapV.del (h : MapV T enc w b n C) (ht : P.underlying t = some (.map k e)) {x : κ} (hx : T.ok x) (ty : TypeId) :
    ∃ w', (Builtin.delete_ #[t, k] ty #[.map (some b), T.kv x]).run P w = .ok (.tuple #[]) w' ∧ MapV T enc w' b n (delC C x) ∧ w.mapTurned w' b := by
  obtain ⟨D, h1, h2⟩ := h
  have hk := T.of x hx
  obtain ⟨w', hrun, ho, hg⟩ := h1.drop T.keyed ht hk ty
  refine ⟨w', hrun, ⟨_, ho, nd_del h2.nd x, fun z => ?_, fun z zd => ?_, ?_⟩, hg⟩
  · rw [find_del]
    by_cases q : z = x
    · subst q
      rw [if_pos rfl]
      exact has_del_same
    · rw [if_neg q, ← h2.hs z]
      exact has_del_other (fun q2 => q (T.inj _ _ q2))
  · rw [find_del]
    by_cases q : z = x
    · subst q
      rw [if_pos rfl]
      exact atKey_del_same _
    · rw [if_neg q, ← h2.at' z zd]
      exact atKey_del_other (fun q2 => q (T.inj _ _ q2)) _
  · have hd := size_del (k := T.lk x) (h1.tidy T.keyed)
    have hl := len_del h2.nd x
    rw [h2.hs x, h2.sz] at hd
    omega
/-- the entries of C are gone through, those of dn have been met -/
structure Rng (T : KT P k κ) (enc : α → Value) (w : World) (b r n : Nat) (C dn : List (κ × α)) : Prop where
  ndd : NdC dn
  sub : ∀ a ∈ dn, a ∈ C
  ex : ∃ D left cnt, w.ranges P k rv b r n D left cnt ∧ Says T enc D C ∧ ∀ x, left (T.lk x) = ((findC C x).isSome && (findC dn x).isNone)
variable {r : Nat} {dn : List (κ × α)}
theorem Rng.map (h : Rng T enc w b r n C dn) : MapV T enc w b n C := by obtain ⟨D, l, c, h1, h2, _⟩ := h.ex; exact ⟨D, h1.owns, h2⟩
theorem Rng.ne (h : Rng T enc w b r n C dn) : r ≠ b := by obtain ⟨D, l, c, h1, h2, _⟩ := h.ex; exact h1.ne
theorem Rng.lt (h : Rng T enc w b r n C dn) : r < w.heap.size := by obtain ⟨D, l, c, h1, h2, _⟩ := h.ex; exact h1.lt
theorem Rng.len (h : Rng T enc w b r n C dn) : dn.length ≤ C.length := len_sub h.ndd h.sub
theorem Rng.same (h : Rng T enc w b r n C dn) (hb : w'.heap[b]? = w.heap[b]?) (hr : w'.heap[r]? = w.heap[r]?) : Rng T enc w' b r n C dn := by
  obtain ⟨h1, h2, D, l, c, ⟨es, clock, since, seen, c0, q1, q2, q3, q4, q5, q6⟩, h4⟩ := h
  exact ⟨h1, h2, D, l, c, ⟨es, clock, since, seen, c0, hb.trans q1, q2, q3, q4, hr.trans q5, q6⟩, h4⟩
theorem Rng.below (h : Rng T enc w b r n C dn) (hb : Below w.heap.size w w') : Rng T enc w' b r n C dn := h.same (hb.block b h.map.lt) (hb.block r h.lt)
theorem MapV.range (h : MapV T enc w b n C) (ht : P.underlying t = some (.map k e)) :
    ∃ w', (Instr.range t (.map (some b))).run P w = .ok (.pointer (some ⟨w.heap.size, 0, none⟩)) w' ∧ Rng T enc w' b w.heap.size n C [] ∧ Below w.heap.size w w' ∧ w'.heap.size = w.heap.size + 1 := by
  obtain ⟨D, h1, h2⟩ := h
  obtain ⟨w', hrun, hr, hg, hs⟩ := h1.range T.keyed ht
  exact ⟨w', hrun, ⟨List.Pairwise.nil, fun a ha => (by cases ha), D, _, _, hr, h2, fun x => by rw [h2.hs x]; simp [findC]⟩, ⟨hg.os, hg.tape, hg.output, hg.size, fun i hi => hg.block i hi (by simp)⟩, hs⟩
theorem find_snoc {a : κ × α} (h : NdC (dn ++ [a])) (x : κ) : findC (dn ++ [a]) x = if a.1 = x then some a.2 else findC dn x := by
  unfold findC
  rw [List.find?_append]
  by_cases q : a.1 = x
  · have : dn.find? (fun c => decide (c.1 = x)) = none := by
      rw [List.find?_eq_none]
      intro c hc
      have := (List.pairwise_append.1 h).2.2 c hc a (by simp)
      rw [q] at this
      simpa using this
    rw [this, if_pos q]
    simp [q]
  · rw [if_neg q]
    cases dn.find? (fun c => decide (c.1 = x)) with
    | some c => rfl
    | none => simp [q]
theorem Rng.next (h : Rng T enc w b r n C dn) (ty : TypeId) :
    (dn.Perm C ∧ (Instr.next (.pointer (some ⟨r, 0, none⟩)) false ty).run P w = .ok (.tuple #[.bool false]) w) ∨
    ∃ a w', a ∈ C ∧ findC dn a.1 = none ∧ T.ok a.1 ∧ (Instr.next (.pointer (some ⟨r, 0, none⟩)) false ty).run P w = .ok (.tuple #[.bool true, T.kv a.1, enc a.2]) w' ∧ Rng T enc w' b r n C (dn ++ [a]) ∧ w.grownBy w' (some r) ∧ w'.heap.size = w.heap.size ∧
      (Instr.entry (.pointer (some ⟨r, 0, none⟩))).run P w' = .ok (.tuple #[T.kv a.1, enc a.2]) w' := by
  have hmap := h.map
  obtain ⟨h1, h2, D, l, c, hr, h3, h4⟩ := h
  rcases hr.next T.keyed ty with ⟨h0, hl, hrun⟩ | ⟨key, v, kl, y, w', cnt', hkey, hlk, hv, hat, hrun, hrg, hlt, hgr, hsz, hen⟩
  · refine .inl ⟨perm_of_sub h3.nd h1 h2 (fun a ha => ?_), hrun⟩
    have := h4 a.1
    rw [hl, find_some ha] at this
    cases hf : findC dn a.1 with
    | some _ => rfl
    | none => rw [hf] at this; cases this
  · obtain ⟨x, hx, rfl, rfl⟩ := T.back key kl hkey
    rw [h4 x] at hlk
    rw [Bool.and_eq_true] at hlk
    obtain ⟨a2, ha2⟩ := Option.isSome_iff_exists.1 hlk.1
    have hm := find_mem ha2
    have hv2 := (h3.at' x (.bool true)).symm.trans (hat _)
    rw [ha2] at hv2
    cases hv
    have ev : v = enc a2 := by
      have : (DataW.held (gV enc (some a2) (.bool true)) : DV) = .held v := hv2
      injection this with q
      exact q.symm
    subst ev
    have hnone : findC dn x = none := by simpa using hlk.2
    have hnd : NdC (dn ++ [(x, a2)]) := by
      unfold NdC
      rw [List.pairwise_append]
      refine ⟨h1, by simp, fun a ha b hb => ?_⟩
      rw [List.mem_singleton] at hb
      subst hb
      exact find_none.1 hnone a ha
    refine .inr ⟨(x, a2), w', hm, hnone, hx, hrun, ⟨hnd, fun a ha => ?_, D, _, _, hrg, h3, fun z => ?_⟩, hgr, hsz, hen⟩
    · rcases List.mem_append.1 ha with ha | ha
      · exact h2 a ha
      · rw [List.mem_singleton] at ha
        rw [ha]
        exact hm
    · rw [find_snoc hnd, h4 z]
      by_cases q : x = z
      · subst q
        rw [if_pos rfl, WideAt.sameKey_self (T.keyed.key hkey)]
        simp
      · rw [if_neg q, sameKey_ne (fun q2 => q (T.inj _ _ q2).symm)]
        simp
end
end Go.Proofs.Ythcjoiflkhbpfaa.Mv
end
