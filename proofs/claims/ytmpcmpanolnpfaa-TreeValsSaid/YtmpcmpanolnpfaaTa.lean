/- Tree, by hand: a tree in memory: the block of its two cells, the row of its leaves, each leaf a row of its own. -/
import Derived.Test.YtmpcmpanolnpfaaLj
set_option linter.unusedVariables false
set_option linter.unusedSimpArgs false
namespace Go.Proofs.Ytmpcmpanolnpfaa.Tr
open Go.RowKit Go.Proofs.YtmpcmpanolnpfaaW.PrintWords Go.Proofs.YtmpcmpanolnpfaaW.PrintLast Go.Proofs.YtmpcmpanolnpfaaW.PrintMore

def flat (l : List Item) : List Value := l.flatMap fun x => [.string x.1, x.2]
theorem flat_nil : flat [] = [] := rfl
theorem flat_cons (x : Item) (l : List Item) : flat (x :: l) = .string x.1 :: x.2 :: flat l := rfl
theorem flat_append (a b : List Item) : flat (a ++ b) = flat a ++ flat b := by simp [flat]
theorem flat_length (l : List Item) : (flat l).length = l.length * 2 := by
  induction l with
  | nil => rfl
  | cons x l ih => rw [flat_cons, List.length_cons, List.length_cons, ih, List.length_cons]; omega
theorem flat_take (l : List Item) : ∀ k, flat (l.take k) = (flat l).take (k * 2) := by
  induction l with
  | nil => intro k; simp [flat]
  | cons x l ih =>
    intro k
    cases k with
    | zero => simp [flat]
    | succ k => rw [List.take_succ_cons, flat_cons, flat_cons, ih k, show (k + 1) * 2 = k * 2 + 1 + 1 by omega, List.take_succ_cons, List.take_succ_cons]
theorem flat_drop (l : List Item) : ∀ k, flat (l.drop k) = (flat l).drop (k * 2) := by
  induction l with
  | nil => intro k; simp [flat]
  | cons x l ih =>
    intro k
    cases k with
    | zero => simp [flat]
    | succ k => rw [List.drop_succ_cons, flat_cons, ih k, show (k + 1) * 2 = k * 2 + 1 + 1 by omega, List.drop_succ_cons, List.drop_succ_cons]
theorem flat_get0 (l : List Item) : ∀ i, i < l.length → (flat l)[i * 2]? = some (.string (itm l i).1) := by
  induction l with
  | nil => intro i h; cases h
  | cons x l ih =>
    intro i h
    cases i with
    | zero => rfl
    | succ i =>
      rw [flat_cons, show (i + 1) * 2 = i * 2 + 1 + 1 by omega, List.getElem?_cons_succ, List.getElem?_cons_succ, ih i (by simpa using h)]
      rfl
theorem flat_get1 (l : List Item) : ∀ i, i < l.length → (flat l)[i * 2 + 1]? = some (itm l i).2 := by
  induction l with
  | nil => intro i h; cases h
  | cons x l ih =>
    intro i h
    cases i with
    | zero => rfl
    | succ i =>
      rw [flat_cons, show (i + 1) * 2 + 1 = i * 2 + 1 + 1 + 1 by omega, List.getElem?_cons_succ, List.getElem?_cons_succ, ih i (by simpa using h)]
      rfl
theorem flat_one {l : List Item} (h : ∀ x ∈ l, x.2.oneCell' = true) : ∀ u ∈ flat l, u.oneCell' = true := by
  intro u hu
  simp only [flat, List.mem_flatMap] at hu
  obtain ⟨x, hx, hu⟩ := hu
  simp at hu
  rcases hu with rfl | rfl
  · rfl
  · exact h x hx
theorem flat_set1 (l : List Item) (v : Value) : ∀ i, i < l.length → flat (l.set i ((itm l i).1, v)) = (flat l).set (i * 2 + 1) v := by
  induction l with
  | nil => intro i h; cases h
  | cons x l ih =>
    intro i h
    cases i with
    | zero => rfl
    | succ i =>
      rw [List.set_cons_succ, flat_cons, flat_cons, show (i + 1) * 2 + 1 = i * 2 + 1 + 1 + 1 by omega, List.set_cons_succ, List.set_cons_succ, ← ih i (by simpa using h)]
      rfl
abbrev Leaf := Nat × Nat × List Item
def lv (m : Leaf) : Value := .slice (some ⟨m.1, 0, none⟩) m.2.2.length m.2.1
theorem ownsRow_same {w w' : World} {base e s n : Nat} {v : Value} {xs : List Value} (h : w.ownsRow base e s v n xs) (hk : ∀ k, v.ownBlock = some k → w'.heap[k]? = w.heap[k]?) : w'.ownsRow base e s v n xs := by
  obtain ⟨h0, h1⟩ := h
  refine ⟨h0, ?_⟩
  rcases h1 with h1 | ⟨g, cap, cur, rfl, hg, hh, r⟩
  · exact .inl h1
  · exact .inr ⟨g, cap, cur, rfl, hg, (hk g rfl).trans hh, r⟩
structure LeafOk (F : Nat → Prop) (w : World) (g : Nat) (m : Leaf) : Prop where
  own : w.ownsRow 0 64 2 (lv m) m.2.2.length (flat m.2.2)
  inF : F m.1
  neg : m.1 ≠ g
  one : ∀ x ∈ m.2.2, x.2.oneCell' = true
structure TreeM (F : Nat → Prop) (w : World) (g : Nat) (S : Value) (M : List Leaf) (z : Int) : Prop where
  head : w.heap[g]? = some (.cells #[S, .int .i64 z] 28 (0, 0))
  inF : F g
  row : w.ownsRow 0 65 1 S M.length (M.map lv)
  apart : ∀ k, S.ownBlock = some k → F k ∧ k ≠ g ∧ ∀ m ∈ M, m.1 ≠ k
  leaf : ∀ m ∈ M, LeafOk F w g m
  nodup : (M.map (·.1)).Nodup
/-- Nothing has changed but the blocks of F, and what is new. -/
structure Fr (F : Nat → Prop) (w w' : World) : Prop where
  os : w'.os = w.os
  tape : w'.tape = w.tape
  output : w'.output = w.output
  size : w.heap.size ≤ w'.heap.size
  block : ∀ k, k < w.heap.size → ¬ F k → w'.heap[k]? = w.heap[k]?
theorem Fr.refl (F : Nat → Prop) (w : World) : Fr F w w := ⟨rfl, rfl, rfl, Nat.le_refl _, fun _ _ _ => rfl⟩
theorem Fr.trans {F : Nat → Prop} {a b c : World} (h : Fr F a b) (k : Fr F b c) : Fr F a c := ⟨k.os.trans h.os, k.tape.trans h.tape, k.output.trans h.output, Nat.le_trans h.size k.size, fun i hi hn => (k.block i (Nat.lt_of_lt_of_le hi h.size) hn).trans (h.block i hi hn)⟩
theorem Fr.below {F : Nat → Prop} {w w' : World} (h : Below w.heap.size w w') : Fr F w w' := ⟨h.os, h.tape, h.output, h.size, fun k hk _ => h.block k hk⟩
theorem Fr.grown {F : Nat → Prop} {w w' : World} {b : Nat} (h : w.grownBy w' (some b)) (hb : F b) : Fr F w w' := ⟨h.os, h.tape, h.output, h.size, fun k hk hn => h.block k hk (fun e => hn (by cases e; exact hb))⟩
theorem Fr.setCell {F : Nat → Prop} (w : World) (b i : Nat) (v : Value) (hb : F b) : Fr F w (w.setCell ⟨b, i, none⟩ v) := ⟨rfl, rfl, rfl, by simp [World.setCell], fun k hk hn => Below.heap_setCell w _ _ k (fun e => hn (by rw [e]; exact hb))⟩
theorem Fr.alloc {F : Nat → Prop} (w : World) (o : Obj) : Fr F w (w.alloc o) := .below (below_alloc (Below.refl _ _) _)
theorem Fr.drew {F : Nat → Prop} (w : World) : Fr F w w.drew := ⟨rfl, rfl, rfl, Nat.le_refl _, fun _ _ _ => rfl⟩
theorem Fr.mono {F G : Nat → Prop} {w w' : World} (h : Fr F w w') (hFG : ∀ k, k < w.heap.size → F k → G k) : Fr G w w' := ⟨h.os, h.tape, h.output, h.size, fun k hk hn => h.block k hk (fun e => hn (hFG k hk e))⟩
section
variable {F : Nat → Prop} {w w' : World} {g : Nat} {S : Value} {M : List Leaf} {z : Int}
theorem TreeM.lt (h : TreeM F w g S M z) : g < w.heap.size := (Array.getElem?_eq_some_iff.1 h.head).1
theorem LeafOk.lt {m : Leaf} (h : LeafOk F w g m) : m.1 < w.heap.size := (own_caps h.own).2.2.2.1
theorem LeafOk.same {m : Leaf} (h : LeafOk F w g m) (hk : w'.heap[m.1]? = w.heap[m.1]?) : LeafOk F w' g m := ⟨ownsRow_same h.own (fun k e => by cases e; exact hk), h.inF, h.neg, h.one⟩
theorem TreeM.rowlt (h : TreeM F w g S M z) : ∀ k, S.ownBlock = some k → k < w.heap.size := fun k e => (h.row.lt k e).2
theorem TreeM.kept (h : TreeM F w g S M z) (hk : ∀ k, F k → k < w.heap.size → w'.heap[k]? = w.heap[k]?) : TreeM F w' g S M z :=
  ⟨(hk g h.inF h.lt).trans h.head, h.inF, ownsRow_same h.row (fun k e => hk k (h.apart k e).1 (h.rowlt k e)), h.apart, fun m hm => (h.leaf m hm).same (hk _ (h.leaf m hm).inF (h.leaf m hm).lt), h.nodup⟩
theorem TreeM.below (h : TreeM F w g S M z) (hb : Below w.heap.size w w') : TreeM F w' g S M z := h.kept fun k _ hl => hb.block k hl
theorem TreeM.c0 (h : TreeM F w g S M z) : w.cell? ⟨g, 0, none⟩ = some S := by simp [World.cell?, h.head]
theorem TreeM.c1 (h : TreeM F w g S M z) : w.cell? ⟨g, 1, none⟩ = some (.int .i64 z) := by simp [World.cell?, h.head]
theorem TreeM.fz (h : TreeM F w g S M z) (i : Nat) : w.frozen? ⟨g, i, none⟩ = false := by simp [World.frozen?, h.head]
theorem heap_setCell_at (w : World) (g i : Nat) (cur : Array Value) (t : TypeId) (fr : Nat × Nat) (v : Value) (hg : w.heap[g]? = some (.cells cur t fr)) : (w.setCell ⟨g, i, none⟩ v).heap[g]? = some (.cells (cur.setIfInBounds i v) t fr) := by
  rw [setCell_eq_setRow w g i cur t fr v hg]; exact setRow_heap w g cur _ t fr hg
theorem size_setCell (w : World) (a : Addr) (v : Value) : (w.setCell a v).heap.size = w.heap.size := by simp [World.setCell]
theorem TreeM.setSize (h : TreeM F w g S M z) (z' : Int) : TreeM F (w.setCell ⟨g, 1, none⟩ (.int .i64 z')) g S M z' :=
  ⟨by rw [heap_setCell_at w g 1 _ _ _ _ h.head]; rfl, h.inF, ownsRow_same h.row (fun k e => Below.heap_setCell w _ _ k (h.apart k e).2.1), h.apart, fun m hm => (h.leaf m hm).same (Below.heap_setCell w _ _ _ (h.leaf m hm).neg), h.nodup⟩
/-- the row of leaves where there is one -/
theorem TreeM.rowAt (h : TreeM F w g S M z) (hM : M ≠ []) : ∃ sb c cur, S = .slice (some ⟨sb, 0, none⟩) M.length c ∧ w.heap[sb]? = some (.cells cur 65 (0, 0)) ∧ M.length ≤ c ∧ c ≤ maxLen ∧ cur.size = c ∧ cur.toList.take M.length = M.map lv := by
  obtain ⟨h0, h1⟩ := h.row
  rcases h1 with ⟨_, h1⟩ | ⟨sb, c, cur, e, _, hh, r1, r2, r3, r4⟩
  · exact absurd (List.length_eq_zero_iff.1 h1) hM
  · exact ⟨sb, c, cur, e, hh, r1, r2, by simpa using r3, by simpa using r4⟩
theorem TreeM.leafAt (h : TreeM F w g S M z) {i : Nat} {m : Leaf} (hm : M[i]? = some m) : ∃ sb c, S = .slice (some ⟨sb, 0, none⟩) M.length c ∧ M.length ≤ c ∧ w.cell? ⟨sb, i, none⟩ = some (lv m) ∧ w.frozen? ⟨sb, i, none⟩ = false ∧ sb < w.heap.size := by
  have hi : i < M.length := (List.getElem?_eq_some_iff.1 hm).1
  obtain ⟨sb, c, cur, e, hh, r1, r2, r3, r4⟩ := h.rowAt (by intro e; rw [e] at hi; cases hi)
  refine ⟨sb, c, e, r1, ?_, by simp [World.frozen?, hh], (Array.getElem?_eq_some_iff.1 hh).1⟩
  rw [cell_of_row w sb i cur _ _ hh]
  have := congrArg (fun l => l[i]?) r4
  simp only [List.getElem?_take, if_pos hi, List.getElem?_map, hm, Option.map_some] at this
  simpa using this
theorem lf_map {M : List Leaf} {i : Nat} {m : Leaf} (hm : M[i]? = some m) : lf (M.map (·.2.2)) i = m.2.2 := by simp [lf, List.getD, hm]
theorem LeafOk.items {m : Leaf} (h : LeafOk F w g m) : ItemsAt w (some ⟨m.1, 0, none⟩) m.2.2 := by
  intro i hi
  have c0 := h.own.cells (g := m.1) rfl (i * 2) _ (flat_get0 _ i hi)
  have c1 := h.own.cells (g := m.1) rfl (i * 2 + 1) _ (flat_get1 _ i hi)
  refine ⟨_, rfl, c0, ?_⟩
  rw [Addr.add_lit] at c1 ⊢
  rw [show 0 + (i * 2 + 1) = 0 + i * 2 + 1 by omega] at c1
  exact c1
theorem TreeM.leaves (h : TreeM F w g S M z) (hp : ∀ m ∈ M, 0 < m.2.2.length) : ∃ A c, S = .slice A (M.map (·.2.2)).length c ∧ LeavesAt w A (M.map (·.2.2)) := by
  by_cases hM : M = []
  · subst hM
    obtain ⟨h0, h1⟩ := h.row
    rcases h1 with ⟨e, h1⟩ | ⟨sb, c, cur, e, _, hh, r1, r2, r3, r4⟩
    · exact ⟨none, 0, e, fun i hi => by cases hi⟩
    · exact ⟨_, c, e, fun i hi => by cases hi⟩
  · obtain ⟨sb, c, cur, e, hh, r1, r2, r3, r4⟩ := h.rowAt hM
    refine ⟨_, c, by rw [e, List.length_map], fun i hi => ?_⟩
    have hi' : i < M.length := by simpa using hi
    have hm : M[i]? = some M[i] := List.getElem?_eq_getElem hi'
    obtain ⟨sb', c', e', _, hc, _, _⟩ := h.leafAt hm
    rw [e] at e'
    cases e'
    have ok := h.leaf _ (List.mem_of_getElem? hm)
    rw [lf_map hm]
    refine ⟨_, _, _, rfl, ?_, (own_caps ok.own).1, hp _ (List.mem_of_getElem? hm), ok.items⟩
    rw [Addr.add_lit, Nat.zero_add]
    exact hc
theorem nodup_ne {M : List Leaf} (h : (M.map (·.1)).Nodup) {i j : Nat} {a b : Leaf} (ha : M[i]? = some a) (hb : M[j]? = some b) (hij : i ≠ j) : a.1 ≠ b.1 := by
  intro e
  have hi : i < (M.map (·.1)).length := by rw [List.length_map]; exact (List.getElem?_eq_some_iff.1 ha).1
  refine hij ((List.getElem?_inj hi h).1 ?_)
  rw [List.getElem?_map, List.getElem?_map, ha, hb, Option.map_some, Option.map_some, e]
theorem nodup_set {l : List Nat} (h : l.Nodup) {a : Nat} (ha : a ∉ l) : ∀ {i : Nat}, (l.set i a).Nodup := by
  induction l with
  | nil => intro i; simp
  | cons x l ih =>
    intro i
    rw [List.nodup_cons] at h
    simp only [List.mem_cons, not_or] at ha
    cases i with
    | zero => exact List.nodup_cons.2 ⟨ha.2, h.2⟩
    | succ i =>
      rw [List.set_cons_succ, List.nodup_cons]
      refine ⟨fun e => ?_, ih h.2 ha.2⟩
      rcases List.mem_or_eq_of_mem_set e with e | e
      · exact h.1 e
      · exact ha.1 e.symm
theorem TreeM.setLeaf (h : TreeM F w g S M z) {i : Nat} {m m' : Leaf} (hm : M[i]? = some m) {sb n c : Nat} (hS : S = .slice (some ⟨sb, 0, none⟩) n c) (hg : w.grownBy w' (some m.1))
    (hown : w'.ownsRow 0 64 2 (lv m') m'.2.2.length (flat m'.2.2)) (hone : ∀ x ∈ m'.2.2, x.2.oneCell' = true) (hF : F m'.1) (hb : m'.1 = m.1 ∨ w.heap.size ≤ m'.1) : TreeM F (w'.setCell ⟨sb, i, none⟩ (lv m')) g S (M.set i m') z := by
  have hmM := List.mem_of_getElem? hm
  have okm := h.leaf m hmM
  have hsb := h.apart sb (by rw [hS]; rfl)
  have hsl := h.rowlt sb (by rw [hS]; rfl)
  have hi : i < M.length := (List.getElem?_eq_some_iff.1 hm).1
  have hm'g : m'.1 ≠ g := by rcases hb with e | e; · rw [e]; exact okm.neg
                             · have := h.lt; omega
  have hm's : m'.1 ≠ sb := by rcases hb with e | e; · rw [e]; exact hsb.2.2 m hmM
                              · omega
  have hset : ∀ j a, (M.set i m')[j]? = some a → (j = i ∧ a = m') ∨ (j ≠ i ∧ M[j]? = some a) := by
    intro j a ha
    rw [List.getElem?_set] at ha
    by_cases hj : i = j
    · subst hj
      simp [hi] at ha
      exact .inl ⟨rfl, ha.symm⟩
    · simp [hj] at ha
      exact .inr ⟨fun e => hj e.symm, ha⟩
  have hmem : ∀ a ∈ M.set i m', a = m' ∨ (a ∈ M ∧ a.1 ≠ m.1) := by
    intro a ha
    obtain ⟨j, hj⟩ := List.getElem?_of_mem ha
    rcases hset j a hj with ⟨_, e⟩ | ⟨hji, e⟩
    · exact .inl e
    · exact .inr ⟨List.mem_of_getElem? e, nodup_ne h.nodup e hm hji⟩
  have keep : ∀ k, k < w.heap.size → k ≠ m.1 → k ≠ sb → (w'.setCell ⟨sb, i, none⟩ (lv m')).heap[k]? = w.heap[k]? := fun k hk h1 h2 => (Below.heap_setCell w' ⟨sb, i, none⟩ _ k h2).trans (hg.block k hk (fun e => h1 (by cases e; rfl)))
  refine ⟨(keep g h.lt (fun e => okm.neg e.symm) (fun e => hsb.2.1 e.symm)).trans h.head, h.inF, ?_, ?_, ?_, ?_⟩
  · obtain ⟨sb', c', cur, e, hh, r1, r2, r3, r4⟩ := h.rowAt (by intro e; rw [e] at hi; cases hi)
    rw [hS] at e
    cases e
    have hh' : w'.heap[sb]? = some (.cells cur 65 (0, 0)) := (hg.block sb hsl (fun e => hsb.2.2 m hmM (by cases e; rfl))).trans hh
    refine ⟨by simp, .inr ⟨sb, c, _, by rw [hS, List.length_set], Nat.zero_le _, heap_setCell_at w' sb i cur 65 (0, 0) _ hh', by rw [List.length_set]; exact r1, r2, by simpa using r3, ?_⟩⟩
    rw [List.length_set, Nat.mul_one, List.map_set, ← r4, Array.toList_setIfInBounds, List.take_set]
  · intro k hk
    refine ⟨(h.apart k hk).1, (h.apart k hk).2.1, fun a ha => ?_⟩
    rw [hS] at hk
    cases hk
    rcases hmem a ha with rfl | ⟨ha, _⟩
    · exact hm's
    · exact hsb.2.2 a ha
  · intro a ha
    rcases hmem a ha with rfl | ⟨ha, hne⟩
    · refine ⟨ownsRow_same hown (fun k e => ?_), hF, hm'g, hone⟩
      cases e
      exact Below.heap_setCell w' _ _ _ hm's
    · have ok := h.leaf a ha
      exact ok.same (keep _ ok.lt hne (hsb.2.2 a ha))
  · rw [List.map_set]
    rcases hb with e | e
    · have : (M.map (·.1)).set i m'.1 = M.map (·.1) := by
        apply List.ext_getElem?
        intro j
        rw [List.getElem?_set]
        split
        · rename_i hj
          subst hj
          rw [List.getElem?_map, hm, e]
          simp [hi]
        · rfl
      rw [this]
      exact h.nodup
    · have old : m'.1 ∉ M.map (·.1) := by
        intro q
        obtain ⟨a, ha, he⟩ := List.mem_map.1 q
        have := (h.leaf a ha).lt
        omega
      exact nodup_set h.nodup old
/-- a new row of leaves, stored -/
theorem TreeM.setRow (h : TreeM F w g S M z) {S' : Value} {M' : List Leaf} (hg : w'.heap[g]? = w.heap[g]?) (hrow : w'.ownsRow 0 65 1 S' M'.length (M'.map lv)) (hap : ∀ k, S'.ownBlock = some k → F k ∧ k ≠ g ∧ ∀ m ∈ M', m.1 ≠ k)
    (hl : ∀ m ∈ M', LeafOk F w' g m) (hn : (M'.map (·.1)).Nodup) : TreeM F (w'.setCell ⟨g, 0, none⟩ S') g S' M' z :=
  ⟨by rw [heap_setCell_at w' g 0 _ _ _ _ (hg.trans h.head)]; rfl, h.inF, ownsRow_same hrow (fun k e => Below.heap_setCell w' _ _ k (hap k e).2.1), hap, fun m hm => (hl m hm).same (Below.heap_setCell w' _ _ _ (hl m hm).neg), hn⟩
theorem TreeM.insertRow (h : TreeM F w g S M z) {sb n c : Nat} (hS : S = .slice (some ⟨sb, 0, none⟩) n c) {k gs cap : Nat} {m2 : Leaf} (h2 : LeafOk F w g m2) (hne : ∀ m ∈ M, m.1 ≠ m2.1) (h2s : m2.1 ≠ sb)
    (hown : w'.ownsRow 0 65 1 (.slice (some ⟨gs, 0, none⟩) (M.length + 1) cap) (M.length + 1) ((M.map lv).take k ++ [lv m2] ++ (M.map lv).drop k)) (hg : w.grownBy w' (some sb)) (hgs : gs = sb ∨ w.heap.size ≤ gs) (hF : F gs) :
    TreeM F (w'.setCell ⟨g, 0, none⟩ (.slice (some ⟨gs, 0, none⟩) (M.length + 1) cap)) g (.slice (some ⟨gs, 0, none⟩) (M.length + 1) cap) (M.take k ++ [m2] ++ M.drop k) z := by
  have hsb := h.apart sb (by rw [hS]; rfl)
  have hlen : (M.take k ++ [m2] ++ M.drop k).length = M.length + 1 := by simp; omega
  have hmem : ∀ a ∈ M.take k ++ [m2] ++ M.drop k, a = m2 ∨ a ∈ M := by
    intro a ha
    simp only [List.mem_append, List.mem_singleton] at ha
    rcases ha with (ha | ha) | ha
    · exact .inr (List.mem_of_mem_take ha)
    · exact .inl ha
    · exact .inr (List.mem_of_mem_drop ha)
  have ok : ∀ a ∈ M.take k ++ [m2] ++ M.drop k, LeafOk F w g a ∧ a.1 ≠ sb := by
    intro a ha
    rcases hmem a ha with rfl | ha
    · exact ⟨h2, h2s⟩
    · exact ⟨h.leaf a ha, hsb.2.2 a ha⟩
  refine h.setRow (hg.block g h.lt (fun e => hsb.2.1 (by cases e; rfl))) ?_ ?_ ?_ ?_
  · rw [hlen]
    simpa using hown
  · intro q hq
    cases hq
    refine ⟨hF, ?_, fun a ha => ?_⟩
    · have := h.lt
      have := hsb.2.1
      rcases hgs with e | e
      · show gs ≠ g; omega
      · show gs ≠ g; omega
    · have h1 := (ok a ha).1.lt
      have h2 := (ok a ha).2
      rcases hgs with e | e
      · show a.1 ≠ gs; omega
      · show a.1 ≠ gs; omega
  · intro a ha
    exact (ok a ha).1.same (hg.block _ (ok a ha).1.lt (fun e => (ok a ha).2 (by cases e; rfl)))
  · have hp : ((M.take k ++ [m2] ++ M.drop k).map (·.1)).Perm (m2.1 :: M.map (·.1)) := by
      rw [show m2.1 :: M.map (·.1) = (m2 :: M).map (·.1) from rfl]
      apply List.Perm.map
      have : (M.take k ++ [m2] ++ M.drop k).Perm (m2 :: (M.take k ++ M.drop k)) := by
        rw [List.append_assoc]; exact List.perm_middle
      rwa [List.take_append_drop] at this
    rw [hp.nodup_iff]
    refine List.nodup_cons.2 ⟨fun e => ?_, h.nodup⟩
    obtain ⟨a, ha, he⟩ := List.mem_map.1 e
    exact hne a ha he
theorem TreeM.deleteRow (h : TreeM F w g S M z) {sb n c : Nat} (hS : S = .slice (some ⟨sb, 0, none⟩) n c) {k : Nat} (hk : k < M.length)
    (hown : w'.ownsRow 0 65 1 (.slice (some ⟨sb, 0, none⟩) (M.length - 1) c) (M.length - 1) ((M.map lv).take k ++ (M.map lv).drop (k + 1))) (hg : w.grownBy w' (some sb)) :
    TreeM F (w'.setCell ⟨g, 0, none⟩ (.slice (some ⟨sb, 0, none⟩) (M.length - 1) c)) g (.slice (some ⟨sb, 0, none⟩) (M.length - 1) c) (M.take k ++ M.drop (k + 1)) z := by
  have hsb := h.apart sb (by rw [hS]; rfl)
  have hlen : (M.take k ++ M.drop (k + 1)).length = M.length - 1 := by simp; omega
  have hmem : ∀ a ∈ M.take k ++ M.drop (k + 1), a ∈ M := by
    intro a ha
    simp only [List.mem_append] at ha
    rcases ha with ha | ha
    · exact List.mem_of_mem_take ha
    · exact List.mem_of_mem_drop ha
  refine h.setRow (hg.block g h.lt (fun e => hsb.2.1 (by cases e; rfl))) ?_ ?_ ?_ ?_
  · rw [hlen]
    simpa using hown
  · intro q hq
    cases hq
    exact ⟨hsb.1, hsb.2.1, fun a ha => hsb.2.2 a (hmem a ha)⟩
  · intro a ha
    have ok := h.leaf a (hmem a ha)
    exact ok.same (hg.block _ ok.lt (fun e => hsb.2.2 a (hmem a ha) (by cases e; rfl)))
  · have hs : (M.take k ++ M.drop (k + 1)).Sublist M := by
      rw [← List.eraseIdx_eq_take_drop_succ]
      exact List.eraseIdx_sublist M k
    exact (hs.map (·.1)).nodup h.nodup
end
end Go.Proofs.Ytmpcmpanolnpfaa.Tr
