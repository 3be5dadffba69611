/- Tree: what Put and Drop make of the pairs in order; the contracts of Put, Drop, Get, Len over these. -/
import Derived.Test.YtmpcmpanolnpfaaTu
set_option linter.unusedVariables false
set_option linter.unusedSimpArgs false
namespace Go.Proofs.Ytmpcmpanolnpfaa.Tr

def below (L : List Item) (x : ByteArray) : List Item := L.filter fun a => decide (kl a.1 x)
def above (L : List Item) (x : ByteArray) : List Item := L.filter fun a => decide (kl x a.1)
def ins (L : List Item) (x : ByteArray) (v : Value) : List Item := below L x ++ [(x, v)] ++ above L x
def del (L : List Item) (x : ByteArray) : List Item := below L x ++ above L x
def has (L : List Item) (x : ByteArray) : Bool := L.any fun a => decide (a.1 = x)
theorem has_iff {L : List Item} {x : ByteArray} : has L x = true ↔ ∃ a ∈ L, a.1 = x := by simp [has]
/-- the parts ahead of a key and from it on, told by what lies there -/
theorem below_eq {P Q : List Item} {x : ByteArray} (hP : ∀ a ∈ P, kl a.1 x) (hQ : ∀ a ∈ Q, ¬ kl a.1 x) : below (P ++ Q) x = P := by
  unfold below
  rw [List.filter_append, List.filter_eq_self.2 (fun a ha => decide_eq_true (hP a ha)), List.filter_eq_nil_iff.2 (fun a ha => by simpa using hQ a ha), List.append_nil]
theorem above_of {P Q : List Item} {x : ByteArray} (hP : ∀ a ∈ P, kl a.1 x) (hQ : ∀ a ∈ Q, kl x a.1) : above (P ++ Q) x = Q := by
  unfold above
  rw [List.filter_append, List.filter_eq_nil_iff.2 (fun a ha => by simpa using kl_anti (hP a ha)), List.filter_eq_self.2 (fun a ha => decide_eq_true (hQ a ha)), List.nil_append]
theorem above_at {P Q : List Item} {q : Item} {x : ByteArray} (hP : ∀ a ∈ P, kl a.1 x) (hq : q.1 = x) (hQ : ∀ a ∈ Q, kl x a.1) : above (P ++ q :: Q) x = Q := by
  have h : ¬ kl x q.1 := by rw [hq]; exact kl_irrefl x
  unfold above
  rw [List.filter_append, List.filter_eq_nil_iff.2 (fun a ha => by simpa using kl_anti (hP a ha)), List.nil_append, List.filter_cons_of_neg (by simpa using h), List.filter_eq_self.2 (fun a ha => decide_eq_true (hQ a ha))]
theorem srt_ins {L : List Item} (h : Srt L) (x : ByteArray) (v : Value) : Srt (ins L x v) := by
  unfold Srt ins
  rw [List.append_assoc, List.pairwise_append]
  refine ⟨h.filter _, ?_, ?_⟩
  · rw [List.singleton_append, List.pairwise_cons]
    exact ⟨fun a ha => by simpa [above] using (List.mem_filter.1 ha).2, h.filter _⟩
  · intro a ha b hb
    have h1 : kl a.1 x := by simpa using (List.mem_filter.1 ha).2
    rcases List.mem_append.1 hb with hb | hb
    · rw [List.mem_singleton.1 hb]; exact h1
    · exact kl_trans h1 (by simpa using (List.mem_filter.1 hb).2)
theorem srt_del {L : List Item} (h : Srt L) (x : ByteArray) : Srt (del L x) := by
  unfold Srt del
  rw [List.pairwise_append]
  refine ⟨h.filter _, h.filter _, fun a ha b hb => ?_⟩
  have h1 : kl a.1 x := by simpa using (List.mem_filter.1 ha).2
  exact kl_trans h1 (by simpa using (List.mem_filter.1 hb).2)
theorem srt_parts {P Q : List Item} {x : ByteArray} {q : Item} (h : Srt (P ++ q :: Q)) (hq : q.1 = x) : ∀ a ∈ Q, kl x a.1 := by
  unfold Srt at h
  rw [List.pairwise_append, List.pairwise_cons] at h
  intro a ha
  have := h.2.1.1 a ha
  rwa [hq] at this
theorem ge_gt {L Q : List Item} {x : ByteArray} (hsub : ∀ a ∈ Q, a ∈ L) (hQ : ∀ a ∈ Q, ¬ kl a.1 x) (hno : ¬ ∃ a ∈ L, a.1 = x) : ∀ a ∈ Q, kl x a.1 := by
  intro a ha
  rcases kl_tri a.1 x with h | h | h
  · exact absurd h (hQ a ha)
  · exact absurd ⟨a, hsub a ha, h⟩ hno
  · exact h

def putT (T : List (List Item)) (x : ByteArray) (v : Value) : List (List Item) :=
  if (findT T x).2.2 then T.set (findT T x).1 ((lf T (findT T x).1).set (findT T x).2.1 ((itm (lf T (findT T x).1) (findT T x).2.1).1, v))
  else if T = [] then [[(x, v)]]
  else
    let l' := (lf T (findT T x).1).take (findT T x).2.1 ++ [(x, v)] ++ (lf T (findT T x).1).drop (findT T x).2.1
    if 8 < l'.length then (T.set (findT T x).1 (l'.take (l'.length / 2))).take ((findT T x).1 + 1) ++ [l'.drop (l'.length / 2)] ++ (T.set (findT T x).1 (l'.take (l'.length / 2))).drop ((findT T x).1 + 1)
    else T.set (findT T x).1 l'
theorem flat_set {T : List (List Item)} {i : Nat} (hi : i < T.length) (l : List Item) : (T.set i l).flatten = (T.take i).flatten ++ l ++ (T.drop (i + 1)).flatten := by
  rw [List.set_eq_take_append_cons_drop, if_pos hi, List.flatten_append, List.flatten_cons, ← List.append_assoc]
theorem set_take_succ {T : List (List Item)} {i : Nat} (hi : i < T.length) (l : List Item) : (T.set i l).take (i + 1) = T.take i ++ [l] := by
  rw [List.set_eq_take_append_cons_drop, if_pos hi, List.take_append, List.length_take, List.take_of_length_le (by rw [List.length_take]; omega)]
  rw [show i + 1 - min i T.length = 1 by omega]
  rfl
theorem putT_law {T : List (List Item)} (h : TOk T) (x : ByteArray) (v : Value) : (putT T x v).flatten = ins T.flatten x v ∧ (∀ l ∈ putT T x v, l ≠ []) ∧ (findT T x).2.2 = has T.flatten x := by
  by_cases hT : T = []
  · subst hT
    exact ⟨rfl, by intro l hl; simp [putT, findT] at hl; subst hl; simp, rfl⟩
  obtain ⟨hi, hk, hP, hQ, hth, hat⟩ := findT_spec h hT x
  have hhas : (findT T x).2.2 = has T.flatten x := by
    rw [Bool.eq_iff_iff, hth, has_iff]
  refine ⟨?_, ?_, hhas⟩
  all_goals
    unfold putT
    rw [if_neg hT]
    generalize (findT T x).1 = i at *
    generalize (findT T x).2.1 = k at *
    generalize (findT T x).2.2 = th at *
    generalize hl : lf T i = l at *
  · have hL : T.flatten = ((T.take i).flatten ++ l.take k) ++ (l.drop k ++ (T.drop (i + 1)).flatten) := by
      rw [flat_split hi, hl, List.append_assoc, List.append_assoc, ← List.append_assoc (l.take k), List.take_append_drop]
    cases th with
    | true =>
      obtain ⟨h1, h2⟩ := hat rfl
      rw [if_pos rfl, flat_set hi]
      have hd : l.drop k = itm l k :: l.drop (k + 1) := by rw [List.drop_eq_getElem_cons h1, itm_eq h1]
      have hs := h.srt
      rw [hL, hd, List.cons_append] at hs
      have hgt := srt_parts hs h2
      have hset : l.set k ((itm l k).1, v) = l.take k ++ (x, v) :: l.drop (k + 1) := by rw [List.set_eq_take_append_cons_drop, if_pos h1, h2]
      unfold ins
      rw [hL, below_eq hP hQ, hd, List.cons_append, above_at hP h2 hgt, hset]
      simp [List.append_assoc]
    | false =>
      rw [if_neg (by simp)]
      have hno : ¬ ∃ a ∈ T.flatten, a.1 = x := fun e => by have := hth.2 e; cases this
      have hgt := ge_gt (L := T.flatten) (fun a ha => by rw [hL]; exact List.mem_append_right _ ha) hQ hno
      have hins : ins T.flatten x v = (T.take i).flatten ++ (l.take k ++ [(x, v)] ++ l.drop k) ++ (T.drop (i + 1)).flatten := by
        unfold ins
        rw [hL, below_eq hP hQ, above_of hP hgt]
        simp [List.append_assoc]
      rw [hins]
      dsimp only
      split
      · rw [set_take_succ hi, List.drop_set_of_lt (Nat.lt_succ_self i), List.flatten_append, List.flatten_append, List.flatten_append]
        simp only [List.flatten_cons, List.flatten_nil, List.append_nil, List.append_assoc]
        rw [← List.append_assoc (List.take _ _) (List.drop _ _), List.take_append_drop]
        simp [List.append_assoc]
      · rw [flat_set hi]
  · have hne := h.ne
    cases th with
    | true =>
      rw [if_pos rfl]
      intro a ha
      rcases List.mem_or_eq_of_mem_set ha with ha | ha
      · exact hne a ha
      · rw [ha]
        intro e
        have := congrArg List.length e
        have h1 := (hat rfl).1
        rw [List.length_set, List.length_nil] at this
        omega
    | false =>
      rw [if_neg (by simp)]
      dsimp only
      have hlen : (l.take k ++ [(x, v)] ++ l.drop k).length = l.length + 1 := by simp; omega
      generalize (l.take k ++ [(x, v)] ++ l.drop k) = l' at *
      split
      · intro a ha
        simp only [List.mem_append, List.mem_singleton] at ha
        rcases ha with (ha | ha) | ha
        · rcases List.mem_or_eq_of_mem_set (List.mem_of_mem_take ha) with ha | ha
          · exact hne a ha
          · rw [ha]
            intro e
            have := congrArg List.length e
            rw [List.length_take, List.length_nil] at this
            omega
        · rw [ha]
          intro e
          have := congrArg List.length e
          rw [List.length_drop, List.length_nil] at this
          omega
        · rcases List.mem_or_eq_of_mem_set (List.mem_of_mem_drop ha) with ha | ha
          · exact hne a ha
          · rw [ha]
            intro e
            have := congrArg List.length e
            rw [List.length_take, List.length_nil] at this
            omega
      · intro a ha
        rcases List.mem_or_eq_of_mem_set ha with ha | ha
        · exact hne a ha
        · rw [ha]
          intro e
          rw [e] at hlen
          simp at hlen
def dropT (T : List (List Item)) (x : ByteArray) : List (List Item) :=
  if (findT T x).2.2 then
    let l' := (lf T (findT T x).1).take (findT T x).2.1 ++ (lf T (findT T x).1).drop ((findT T x).2.1 + 1)
    if (lf T (findT T x).1).length = 1 then T.take (findT T x).1 ++ T.drop ((findT T x).1 + 1) else joinT (T.set (findT T x).1 l') ((findT T x).1 - 1)
  else T
theorem lf_set {T : List (List Item)} {i : Nat} (hi : i < T.length) (l : List Item) : lf (T.set i l) i = l := by simp [lf, List.getD, hi]
theorem joinT_law (T : List (List Item)) (i : Nat) (hne : ∀ l ∈ T, l ≠ []) : (joinT T i).flatten = T.flatten ∧ (∀ l ∈ joinT T i, l ≠ []) := by
  unfold joinT
  split
  · rename_i h
    have hi : i < T.length := by omega
    constructor
    · rw [set_take_succ hi, List.drop_set_of_lt (by omega), List.flatten_append, List.flatten_append, flat_split hi]
      have hd : T.drop (i + 1) = lf T (i + 1) :: T.drop (i + 2) := by
        obtain ⟨h1, _⟩ := h
        rw [List.drop_eq_getElem_cons h1]
        simp [lf, List.getD, h1]
      rw [hd, List.flatten_cons]
      simp [List.append_assoc]
    · intro a ha
      rcases List.mem_append.1 ha with ha | ha
      · rcases List.mem_or_eq_of_mem_set (List.mem_of_mem_take ha) with ha | ha
        · exact hne a ha
        · rw [ha]
          have := hne _ (lf_mem hi)
          simp [this]
      · rcases List.mem_or_eq_of_mem_set (List.mem_of_mem_drop ha) with ha | ha
        · exact hne a ha
        · rw [ha]
          have := hne _ (lf_mem hi)
          simp [this]
  · exact ⟨rfl, hne⟩
theorem dropT_law {T : List (List Item)} (h : TOk T) (x : ByteArray) : (dropT T x).flatten = del T.flatten x ∧ (∀ l ∈ dropT T x, l ≠ []) ∧ (findT T x).2.2 = has T.flatten x := by
  by_cases hT : T = []
  · subst hT
    exact ⟨rfl, by intro l hl; simp [dropT, findT] at hl, rfl⟩
  obtain ⟨hi, hk, hP, hQ, hth, hat⟩ := findT_spec h hT x
  have hhas : (findT T x).2.2 = has T.flatten x := by
    rw [Bool.eq_iff_iff, hth, has_iff]
  refine ⟨?_, ?_, hhas⟩
  all_goals
    unfold dropT
    generalize (findT T x).1 = i at *
    generalize (findT T x).2.1 = k at *
    generalize (findT T x).2.2 = th at *
    generalize hl : lf T i = l at *
  · have hL : T.flatten = ((T.take i).flatten ++ l.take k) ++ (l.drop k ++ (T.drop (i + 1)).flatten) := by
      rw [flat_split hi, hl, List.append_assoc, List.append_assoc, ← List.append_assoc (l.take k), List.take_append_drop]
    cases th with
    | true =>
      obtain ⟨h1, h2⟩ := hat rfl
      rw [if_pos rfl]
      have hd : l.drop k = itm l k :: l.drop (k + 1) := by rw [List.drop_eq_getElem_cons h1, itm_eq h1]
      have hs := h.srt
      rw [hL, hd, List.cons_append] at hs
      have hgt := srt_parts hs h2
      have hdel : del T.flatten x = (T.take i).flatten ++ (l.take k ++ l.drop (k + 1)) ++ (T.drop (i + 1)).flatten := by
        unfold del
        rw [hL, below_eq hP hQ, hd, List.cons_append, above_at hP h2 hgt]
        simp [List.append_assoc]
      rw [hdel]
      dsimp only
      split
      · rename_i h3
        have : l.take k ++ l.drop (k + 1) = [] := by
          apply List.length_eq_zero_iff.1
          simp; omega
        rw [this, List.flatten_append, List.append_nil]
      · rename_i h3
        rw [(joinT_law _ (i - 1) (fun a ha => ?_)).1, flat_set hi]
        rcases List.mem_or_eq_of_mem_set ha with ha | ha
        · exact h.ne a ha
        · rw [ha]
          intro e
          have := congrArg List.length e
          rw [List.length_append, List.length_take, List.length_drop, List.length_nil] at this
          omega
    | false =>
      rw [if_neg (by simp)]
      have hno : ¬ ∃ a ∈ T.flatten, a.1 = x := fun e => by have := hth.2 e; cases this
      have hgt := ge_gt (L := T.flatten) (fun a ha => by rw [hL]; exact List.mem_append_right _ ha) hQ hno
      unfold del
      rw [hL, below_eq hP hQ, above_of hP hgt]
  · cases th with
    | true =>
      obtain ⟨h1, h2⟩ := hat rfl
      rw [if_pos rfl]
      dsimp only
      split
      · intro a ha
        rcases List.mem_append.1 ha with ha | ha
        · exact h.ne a (List.mem_of_mem_take ha)
        · exact h.ne a (List.mem_of_mem_drop ha)
      · rename_i h3
        refine (joinT_law _ (i - 1) (fun a ha => ?_)).2
        rcases List.mem_or_eq_of_mem_set ha with ha | ha
        · exact h.ne a ha
        · rw [ha]
          intro e
          have := congrArg List.length e
          rw [List.length_append, List.length_take, List.length_drop, List.length_nil] at this
          omega
    | false =>
      rw [if_neg (by simp)]
      exact h.ne
theorem has_cons (a : Item) (L : List Item) (x : ByteArray) : has (a :: L) x = (decide (a.1 = x) || has L x) := rfl
theorem srt_split {L : List Item} (h : Srt L) (x : ByteArray) : (has L x = false ∧ L = below L x ++ above L x) ∨ (∃ q, has L x = true ∧ q.1 = x ∧ L = below L x ++ [q] ++ above L x) := by
  induction L with
  | nil => exact .inl ⟨rfl, rfl⟩
  | cons a L ih =>
    have h' := h
    unfold Srt at h'
    rw [List.pairwise_cons] at h'
    obtain ⟨h1, h2⟩ := h'
    rcases kl_tri a.1 x with c | c | c
    · have e1 : below (a :: L) x = a :: below L x := List.filter_cons_of_pos (decide_eq_true c)
      have e2 : above (a :: L) x = above L x := List.filter_cons_of_neg (by simpa using kl_anti c)
      have hne : ¬ a.1 = x := fun e => by rw [e] at c; exact kl_irrefl x c
      rw [e1, e2, has_cons, decide_eq_false hne, Bool.false_or]
      rcases ih h2 with ⟨i1, i2⟩ | ⟨q, i1, i2, i3⟩
      · exact .inl ⟨i1, congrArg (a :: ·) i2⟩
      · exact .inr ⟨q, i1, i2, congrArg (a :: ·) i3⟩
    · refine .inr ⟨a, by rw [has_cons, decide_eq_true c]; rfl, c, ?_⟩
      have hL : ∀ b ∈ L, kl x b.1 := fun b hb => by rw [← c]; exact h1 b hb
      have e1 : below (a :: L) x = [] := by
        refine List.filter_eq_nil_iff.2 (fun b hb => ?_)
        rcases List.mem_cons.1 hb with rfl | hb
        · rw [c]; simpa using kl_irrefl x
        · simpa using kl_anti (hL b hb)
      have e2 : above (a :: L) x = L := by
        unfold above
        rw [List.filter_cons_of_neg (by rw [c]; simpa using kl_irrefl x), List.filter_eq_self.2 (fun b hb => decide_eq_true (hL b hb))]
      rw [e1, e2]; rfl
    · have hL : ∀ b ∈ a :: L, kl x b.1 := fun b hb => by
        rcases List.mem_cons.1 hb with rfl | hb
        · exact c
        · exact kl_trans c (h1 b hb)
      have e1 : below (a :: L) x = [] := List.filter_eq_nil_iff.2 (fun b hb => by simpa using kl_anti (hL b hb))
      have e2 : above (a :: L) x = a :: L := List.filter_eq_self.2 (fun b hb => decide_eq_true (hL b hb))
      refine .inl ⟨?_, by rw [e1, e2]; rfl⟩
      cases hh : has (a :: L) x with
      | false => rfl
      | true =>
        obtain ⟨b, hb, e⟩ := has_iff.1 hh
        have := hL b hb
        rw [e] at this
        exact absurd this (kl_irrefl x)
theorem ins_length {L : List Item} (h : Srt L) (x : ByteArray) (v : Value) : (ins L x v).length = if has L x then L.length else L.length + 1 := by
  rcases srt_split h x with ⟨h1, h2⟩ | ⟨q, h1, h2, h3⟩
  · rw [h1]
    have := congrArg List.length h2
    simp only [ins, List.length_append, List.length_singleton] at this ⊢
    simp
    omega
  · rw [h1]
    have := congrArg List.length h3
    simp only [ins, List.length_append, List.length_singleton] at this ⊢
    simp
    omega
theorem del_length {L : List Item} (h : Srt L) (x : ByteArray) : (del L x).length = if has L x then L.length - 1 else L.length := by
  rcases srt_split h x with ⟨h1, h2⟩ | ⟨q, h1, h2, h3⟩
  · rw [h1]
    have := congrArg List.length h2
    simp only [del, List.length_append] at this ⊢
    simp
    omega
  · rw [h1]
    have := congrArg List.length h3
    simp only [del, List.length_append, List.length_singleton] at this ⊢
    simp
    omega
end Go.Proofs.Ytmpcmpanolnpfaa.Tr
