/- Lemmas that the proof needs, part 6. -/
import Derived.Sort.Walk0
import Derived.Test.YtmafibbnojdpjaaKp2
import Derived.Test.YtmafibbnojdpjaaKp3
import Derived.Test.YtmafibbnojdpjaaKp4
import Derived.Test.YtmafibbnojdpjaaKp5
section
set_option linter.unusedVariables false
set_option maxRecDepth 100000
set_option linter.unusedSimpArgs false
namespace Go.Proofs.Ytmafibbnojdpjaa.Tr
open Go.Lib
theorem cb_self : ∀ a : List UInt8, compareBytes a a = 0
  | [] => rfl
  | x :: a => by
    have hx : ¬ x < x := by rw [UInt8.lt_iff_toNat_lt]; omega
    rw [compareBytes, if_neg hx, if_neg hx]; exact cb_self a
theorem cb_zero : ∀ a b : List UInt8, compareBytes a b = 0 → a = b
  | [], [], _ => rfl
  | [], _ :: _, h => by simp [compareBytes] at h
  | _ :: _, [], h => by simp [compareBytes] at h
  | x :: a, y :: b, h => by
    rw [compareBytes] at h
    by_cases h1 : x < y
    · rw [if_pos h1] at h; omega
    · rw [if_neg h1] at h
      by_cases h2 : y < x
      · rw [if_pos h2] at h; omega
      · rw [if_neg h2] at h
        rw [UInt8.lt_iff_toNat_lt] at h1 h2
        rw [show x = y from UInt8.toNat_inj.1 (by omega), cb_zero a b h]
theorem cb_anti : ∀ a b : List UInt8, compareBytes b a = - compareBytes a b
  | [], [] => rfl
  | [], _ :: _ => rfl
  | _ :: _, [] => rfl
  | x :: a, y :: b => by
    rw [compareBytes, compareBytes]
    by_cases h1 : x < y
    · have h2 : ¬ y < x := by rw [UInt8.lt_iff_toNat_lt] at h1 ⊢; omega
      rw [if_neg h2, if_pos h1, if_pos h1]; rfl
    · by_cases h2 : y < x
      · rw [if_pos h2, if_neg h1, if_pos h2]
      · rw [if_neg h2, if_neg h1, if_neg h1, if_neg h2]; exact cb_anti a b
theorem cb_trans : ∀ a b c : List UInt8, compareBytes a b < 0 → compareBytes b c < 0 → compareBytes a c < 0
  | [], [], _, h, _ => by simp [compareBytes] at h
  | [], _ :: _, [], _, h => by simp [compareBytes] at h
  | [], _ :: _, _ :: _, _, _ => by simp [compareBytes]
  | _ :: _, [], _, h, _ => by simp [compareBytes] at h
  | _ :: _, _ :: _, [], _, h => by simp [compareBytes] at h
  | x :: a, y :: b, z :: c, h, k => by
    rw [compareBytes] at h k ⊢
    simp only [UInt8.lt_iff_toNat_lt] at h k ⊢
    by_cases h1 : x.toNat < y.toNat
    · by_cases k1 : y.toNat < z.toNat
      · rw [if_pos (by omega)]; omega
      · rw [if_neg k1] at k
        by_cases k2 : z.toNat < y.toNat
        · rw [if_pos k2] at k; omega
        · rw [if_pos (by omega)]; omega
    · rw [if_neg h1] at h
      by_cases h2 : y.toNat < x.toNat
      · rw [if_pos h2] at h; omega
      · rw [if_neg h2] at h
        by_cases k1 : y.toNat < z.toNat
        · rw [if_pos (by omega)]; omega
        · rw [if_neg k1] at k
          by_cases k2 : z.toNat < y.toNat
          · rw [if_pos k2] at k; omega
          · rw [if_neg k2] at k
            rw [if_neg (by omega), if_neg (by omega)]
            exact cb_trans a b c h k
theorem cb_less : ∀ a b : List UInt8, Op.bytesLess a b = decide (compareBytes a b < 0)
  | [], [] => rfl
  | [], _ :: _ => rfl
  | _ :: _, [] => rfl
  | x :: a, y :: b => by
    rw [Op.bytesLess, compareBytes, cb_less a b]
    by_cases h1 : x < y
    · rw [if_pos h1]; simp [h1]
    · rw [if_neg h1]
      by_cases h2 : y < x
      · rw [if_pos h2]
        have h3 : ¬ x = y := by
          intro e; subst e; exact h1 h2
        simp [h1, h3]
      · rw [if_neg h2]
        have h3 : x = y := by
          rw [UInt8.lt_iff_toNat_lt] at h1 h2
          exact UInt8.toNat_inj.1 (by omega)
        simp [h1, h3]
/-- the order of keys -/
def kl (a b : ByteArray) : Prop := cmpS a b < 0
instance (a b : ByteArray) : Decidable (kl a b) := inferInstanceAs (Decidable (_ < _))
theorem cmpS_zero {a b : ByteArray} (h : cmpS a b = 0) : a = b := by
  have := cb_zero _ _ h
  cases a; cases b
  simp at this
  rw [this]
theorem cmpS_self (a : ByteArray) : cmpS a a = 0 := cb_self _
theorem cmpS_anti (a b : ByteArray) : cmpS b a = - cmpS a b := cb_anti _ _
theorem kl_irrefl (a : ByteArray) : ¬ kl a a := by unfold kl; rw [cmpS_self]; omega
theorem kl_trans {a b c : ByteArray} (h : kl a b) (k : kl b c) : kl a c := cb_trans _ _ _ h k
theorem kl_anti {a b : ByteArray} (h : kl a b) : ¬ kl b a := fun k => kl_irrefl a (kl_trans h k)
theorem kl_tri (a b : ByteArray) : kl a b ∨ a = b ∨ kl b a := by
  unfold kl
  rw [cmpS_anti a b]
  by_cases h : cmpS a b = 0
  · exact .inr (.inl (cmpS_zero h))
  · omega
theorem kl_trans_le {a b c : ByteArray} (h : kl a b) (k : ¬ kl c b) : kl a c := by
  rcases kl_tri b c with h1 | h1 | h1
  · exact kl_trans h h1
  · rw [← h1]; exact h
  · exact absurd h1 k
theorem bs_spec (p : Nat → Bool) (n : Nat) (mono : ∀ a b, a ≤ b → b < n → p b = true → p a = true) : ∀ d i j, j - i = d → i ≤ j → j ≤ n → (∀ a, a < i → p a = true) → (∀ a, j ≤ a → a < n → p a = false) →
    (∀ a, a < bs p i j → p a = true) ∧ (∀ a, bs p i j ≤ a → a < n → p a = false) := by
  intro d
  induction d using Nat.strongRecOn with
  | _ d ih =>
    intro i j hd hij hjn h1 h2
    by_cases h : i < j
    · cases hp : p ((i + j) / 2) with
      | true =>
        rw [bs_on p i j h hp]
        refine ih (j - ((i + j) / 2 + 1)) (by omega) ((i + j) / 2 + 1) j rfl (by omega) hjn (fun a ha => ?_) h2
        exact mono a ((i + j) / 2) (by omega) (by omega) hp
      | false =>
        rw [bs_back p i j h hp]
        refine ih ((i + j) / 2 - i) (by omega) i ((i + j) / 2) rfl (by omega) (by omega) h1 (fun a ha hn => ?_)
        cases hq : p a with
        | false => rfl
        | true => rw [mono ((i + j) / 2) a (by omega) hn hq] at hp; cases hp
    · rw [bs_done p i j h]
      exact ⟨h1, fun a ha hn => h2 a (by omega) hn⟩
def Srt (l : List Item) : Prop := l.Pairwise fun a b => kl a.1 b.1
theorem itm_eq {l : List Item} {i : Nat} (h : i < l.length) : itm l i = l[i] := by simp [itm, List.getD, h]
theorem srt_lt {l : List Item} (h : Srt l) {i j : Nat} (hij : i < j) (hj : j < l.length) : kl (itm l i).1 (itm l j).1 := by
  rw [itm_eq (by omega : i < l.length), itm_eq hj]
  exact List.pairwise_iff_getElem.1 h i j (by omega) hj hij
theorem mem_take_itm {l : List Item} {k : Nat} {a : Item} (h : a ∈ l.take k) : ∃ j, j < k ∧ j < l.length ∧ itm l j = a := by
  obtain ⟨j, hj, e⟩ := List.mem_iff_getElem.1 h
  rw [List.length_take] at hj
  refine ⟨j, by omega, by omega, ?_⟩
  rw [itm_eq (by omega), ← e, List.getElem_take]
theorem mem_drop_itm {l : List Item} {k : Nat} {a : Item} (h : a ∈ l.drop k) : ∃ j, k ≤ j ∧ j < l.length ∧ itm l j = a := by
  obtain ⟨j, hj, e⟩ := List.mem_iff_getElem.1 h
  rw [List.length_drop] at hj
  refine ⟨k + j, by omega, by omega, ?_⟩
  rw [itm_eq (by omega), ← e, List.getElem_drop]
theorem srch_spec {l : List Item} (h : Srt l) (x : ByteArray) : (∀ a ∈ l.take (srch l x), kl a.1 x) ∧ (∀ a ∈ l.drop (srch l x), ¬ kl a.1 x) := by
  have sp := bs_spec (less l x) l.length (fun a b hab hb hp => by
    unfold less at hp ⊢
    rw [decide_eq_true_eq] at hp ⊢
    by_cases e : a = b
    · rw [e]; exact hp
    · exact kl_trans (srt_lt h (by omega : a < b) hb) hp) _ 0 l.length rfl (Nat.zero_le _) (Nat.le_refl _) (fun a ha => by omega) (fun a h1 h2 => by omega)
  constructor
  · intro a ha
    obtain ⟨j, h1, h2, e⟩ := mem_take_itm ha
    have := sp.1 j h1
    unfold less at this
    rw [decide_eq_true_eq, e] at this
    exact this
  · intro a ha
    obtain ⟨j, h1, h2, e⟩ := mem_drop_itm ha
    have := sp.2 j h1 h2
    unfold less at this
    rw [decide_eq_false_iff_not, e] at this
    exact this
theorem fnd_spec {l : List Item} (h : Srt l) (x : ByteArray) : (fnd l x = true ↔ ∃ a ∈ l, a.1 = x) ∧ (fnd l x = true → srch l x < l.length ∧ (itm l (srch l x)).1 = x) := by
  have h2 : fnd l x = true → srch l x < l.length ∧ (itm l (srch l x)).1 = x := fun e => by
    have := of_decide_eq_true e
    exact ⟨this.1, cmpS_zero this.2⟩
  refine ⟨⟨fun e => ?_, fun ⟨a, ha, e⟩ => ?_⟩, h2⟩
  · have := h2 e
    exact ⟨itm l (srch l x), by rw [itm_eq this.1]; exact List.getElem_mem _, this.2⟩
  · obtain ⟨s1, s2⟩ := srch_spec h x
    have ha' := ha
    rw [← List.take_append_drop (srch l x) l, List.mem_append] at ha'
    rcases ha' with ha' | ha'
    · have := s1 a ha'
      rw [e] at this
      exact absurd this (kl_irrefl x)
    · obtain ⟨j, h1, h3, e2⟩ := mem_drop_itm ha'
      have hk : srch l x < l.length := by omega
      refine decide_eq_true ⟨hk, ?_⟩
      by_cases ej : srch l x = j
      · rw [ej, e2, e]; exact cmpS_self x
      · have hlt := srt_lt h (by omega : srch l x < j) h3
        rw [e2, e] at hlt
        have hm : itm l (srch l x) ∈ l.drop (srch l x) := by
          rw [itm_eq hk]
          exact List.mem_iff_getElem.2 ⟨0, by rw [List.length_drop]; omega, by simp⟩
        exact absurd hlt (s2 _ hm)
theorem gtS_kl (k x : ByteArray) : gtS k x = decide (kl x k) := by
  have hk : kl x k ↔ (¬ cmpS k x < 0 ∧ ¬ cmpS k x = 0) := by unfold kl; rw [cmpS_anti k x]; omega
  have e : (k.data.toList == x.data.toList) = decide (cmpS k x = 0) := by
    rw [Bool.eq_iff_iff, decide_eq_true_eq, beq_iff_eq]
    exact ⟨fun e => by unfold cmpS; rw [e]; exact cb_self _, fun e => by rw [cmpS_zero e]⟩
  unfold gtS
  rw [cb_less, ByteArray.toList_eq, ByteArray.toList_eq, e, Bool.eq_iff_iff, decide_eq_true_iff, hk]
  show (!decide (cmpS k x < 0) && !decide (cmpS k x = 0)) = true ↔ _
  simp
/-- A tree as it is: leaves not empty, keys rising throughout. -/
structure TOk (T : List (List Item)) : Prop where
  ne : ∀ l ∈ T, l ≠ []
  srt : Srt T.flatten
theorem lf_mem {T : List (List Item)} {i : Nat} (hi : i < T.length) : lf T i ∈ T := by
  simp only [lf, List.getD, List.getElem?_eq_getElem hi, Option.getD_some]
  exact List.getElem_mem hi
theorem split_at {T : List (List Item)} {i : Nat} (hi : i < T.length) : T = T.take i ++ lf T i :: T.drop (i + 1) := by
  have h := List.take_append_drop i T
  rw [List.drop_eq_getElem_cons hi] at h
  rw [show lf T i = T[i] by simp [lf, List.getD, hi]]
  exact h.symm
theorem flat_split {T : List (List Item)} {i : Nat} (hi : i < T.length) : T.flatten = (T.take i).flatten ++ lf T i ++ (T.drop (i + 1)).flatten := by
  have h := congrArg List.flatten (split_at hi)
  rw [List.flatten_append, List.flatten_cons, ← List.append_assoc] at h
  exact h
theorem TOk.leaf {T : List (List Item)} (h : TOk T) {i : Nat} (hi : i < T.length) : Srt (lf T i) := by
  have := h.srt
  rw [flat_split hi] at this
  unfold Srt at this
  rw [List.pairwise_append, List.pairwise_append] at this
  exact this.1.2.1
theorem fk_mem {T : List (List Item)} (h : TOk T) {i : Nat} (hi : i < T.length) : itm (lf T i) 0 ∈ lf T i := by
  have hne := h.ne _ (lf_mem hi)
  have : 0 < (lf T i).length := List.length_pos_iff.2 hne
  rw [itm_eq this]
  exact List.getElem_mem _
theorem leaf_lt {T : List (List Item)} (h : TOk T) {i j : Nat} (hij : i < j) (hj : j < T.length) {a b : Item} (ha : a ∈ lf T i) (hb : b ∈ lf T j) : kl a.1 b.1 := by
  have hs := h.srt
  rw [flat_split (by omega : i < T.length)] at hs
  unfold Srt at hs
  rw [List.pairwise_append] at hs
  refine hs.2.2 a (List.mem_append_right _ ha) b ?_
  refine List.mem_flatten.2 ⟨lf T j, ?_, hb⟩
  rw [show lf T j = T[j] by simp [lf, List.getD, hj]]
  exact List.mem_iff_getElem.2 ⟨j - (i + 1), by rw [List.length_drop]; omega, by rw [List.getElem_drop]; congr 1; omega⟩
theorem fk_le {T : List (List Item)} (h : TOk T) {i : Nat} (hi : i < T.length) {a : Item} (ha : a ∈ lf T i) : ¬ kl a.1 (fk T i) := by
  obtain ⟨j, hj, e⟩ := List.mem_iff_getElem.1 ha
  rw [← itm_eq hj] at e
  rw [← e]
  by_cases hj0 : j = 0
  · rw [hj0]; exact kl_irrefl _
  · exact kl_anti (srt_lt (h.leaf hi) (by omega : 0 < j) hj)
theorem lsrch_spec {T : List (List Item)} (h : TOk T) (x : ByteArray) : (∀ a, a < lsrch T x → ¬ kl x (fk T a)) ∧ (∀ a, lsrch T x ≤ a → a < T.length → kl x (fk T a)) := by
  have hn : ∀ i, notGt T x i = !decide (kl x (fk T i)) := fun i => by unfold notGt; rw [gtS_kl]
  have sp := bs_spec (notGt T x) T.length (fun a b hab hb hp => by
    rw [hn] at hp ⊢
    simp at hp ⊢
    by_cases e : a = b
    · rw [e]; exact hp
    · have hlt : kl (fk T a) (fk T b) := leaf_lt h (by omega : a < b) hb (fk_mem h (by omega)) (fk_mem h hb)
      exact fun q => hp (kl_trans q hlt)) _ 0 T.length rfl (Nat.zero_le _) (Nat.le_refl _) (fun a ha => by omega) (fun a h1 h2 => by omega)
  constructor
  · intro a ha
    have := sp.1 a ha
    rw [hn] at this
    simpa using this
  · intro a h1 h2
    have := sp.2 a h1 h2
    rw [hn] at this
    simpa using this
theorem findT_spec {T : List (List Item)} (h : TOk T) (hT : T ≠ []) (x : ByteArray) :
    (findT T x).1 < T.length ∧ (findT T x).2.1 ≤ (lf T (findT T x).1).length ∧
    (∀ a ∈ (T.take (findT T x).1).flatten ++ (lf T (findT T x).1).take (findT T x).2.1, kl a.1 x) ∧
    (∀ a ∈ (lf T (findT T x).1).drop (findT T x).2.1 ++ (T.drop ((findT T x).1 + 1)).flatten, ¬ kl a.1 x) ∧
    ((findT T x).2.2 = true ↔ ∃ a ∈ T.flatten, a.1 = x) ∧ ((findT T x).2.2 = true → (findT T x).2.1 < (lf T (findT T x).1).length ∧ (itm (lf T (findT T x).1) (findT T x).2.1).1 = x) := by
  have hl : T.length ≠ 0 := fun e => hT (List.length_eq_zero_iff.1 e)
  unfold findT
  rw [if_neg hl]
  have hle := lsrch_le T x
  obtain ⟨q1, q2⟩ := lsrch_spec h x
  generalize hn : lsrch T x = n at *
  have hi : n - 1 < T.length := by omega
  have hsl := h.leaf hi
  obtain ⟨s1, s2⟩ := srch_spec hsl x
  obtain ⟨f1, f2⟩ := fnd_spec hsl x
  have before : ∀ a ∈ (T.take (n - 1)).flatten, kl a.1 x := by
    intro a ha
    obtain ⟨l, hl1, ha⟩ := List.mem_flatten.1 ha
    obtain ⟨j, hj, e⟩ := List.mem_iff_getElem.1 hl1
    rw [List.length_take] at hj
    have e2 : lf T j = l := by rw [← e, List.getElem_take]; simp [lf, List.getD, (by omega : j < T.length)]
    rw [← e2] at ha
    have h1 : kl a.1 (fk T (j + 1)) := leaf_lt h (Nat.lt_succ_self j) (by omega) ha (fk_mem h (by omega))
    exact kl_trans_le h1 (q1 (j + 1) (by omega))
  have behind : ∀ a ∈ (T.drop (n - 1 + 1)).flatten, kl x a.1 := by
    intro a ha
    obtain ⟨l, hl1, ha⟩ := List.mem_flatten.1 ha
    obtain ⟨j, hj, e⟩ := List.mem_iff_getElem.1 hl1
    rw [List.length_drop] at hj
    have e2 : lf T (n - 1 + 1 + j) = l := by rw [← e, List.getElem_drop]; simp [lf, List.getD, (by omega : n - 1 + 1 + j < T.length)]
    rw [← e2] at ha
    have h1 := q2 (n - 1 + 1 + j) (by omega) (by omega)
    have h2 := fk_le h (by omega : n - 1 + 1 + j < T.length) ha
    exact kl_trans_le h1 h2
  refine ⟨hi, srch_le _ x, ?_, ?_, ?_, f2⟩
  · intro a ha
    rcases List.mem_append.1 ha with ha | ha
    · exact before a ha
    · exact s1 a ha
  · intro a ha
    rcases List.mem_append.1 ha with ha | ha
    · exact s2 a ha
    · exact kl_anti (behind a ha)
  · rw [f1]
    constructor
    · rintro ⟨a, ha, e⟩
      exact ⟨a, by rw [flat_split hi]; exact List.mem_append_left _ (List.mem_append_right _ ha), e⟩
    · rintro ⟨a, ha, e⟩
      rw [flat_split hi, List.mem_append, List.mem_append] at ha
      rcases ha with (ha | ha) | ha
      · have := before a ha
        rw [e] at this
        exact absurd this (kl_irrefl x)
      · exact ⟨a, ha, e⟩
      · have := behind a ha
        rw [e] at this
        exact absurd this (kl_irrefl x)
end Go.Proofs.Ytmafibbnojdpjaa.Tr
end
section
set_option linter.unusedVariables false
set_option maxRecDepth 100000
set_option linter.unusedSimpArgs false
namespace Go.Proofs.Ytmafibbnojdpjaa.Tr
def below (L : List Item) (x : ByteArray) : List Item := L.filter fun a => decide (kl a.1 x)
def above (L : List Item) (x : ByteArray) : List Item := L.filter fun a => decide (kl x a.1)
def ins (L : List Item) (x : ByteArray) (v : Value) : List Item := below L x ++ [(x, v)] ++ above L x
def has (L : List Item) (x : ByteArray) : Bool := L.any fun a => decide (a.1 = x)
theorem has_iff {L : List Item} {x : ByteArray} : has L x = true ↔ ∃ a ∈ L, a.1 = x := by simp [has]
/-- the parts ahead of a key and from it on, told by what lies there -/
theorem below_eq {P Q : List Item} {x : ByteArray} (hP : ∀ a ∈ P, kl a.1 x) (hQ : ∀ a ∈ Q, ¬ kl a.1 x) : below (P ++ Q) x = P := by
  unfold below
  rw [List.filter_append, List.filter_eq_self.2 (fun a ha => decide_eq_true (hP a ha)), List.filter_eq_nil_iff.2 (fun a ha => by simpa using hQ a ha), List.append_nil]
theorem above_of {P Q : List Item} {x : ByteArray} (hP : ∀ a ∈ P, kl a.1 x) (hQ : ∀ a ∈ Q, kl x a.1) : above (P ++ Q) x = Q := by
  unfold above
  rw [List.filter_append, List.filter_eq_nil_iff.2 (fun a ha => by simpa using kl_anti (hP a ha)), List.filter_eq_self.2 (fun a ha => decide_eq_true (hQ a ha)), List.nil_append]
theorem above_at {P Q : List Item} {q : Item} {x : ByteArray} (hP : ∀ a ∈ P, kl a.1 x) (hq : q.1 = x) (hQ : ∀ a ∈ Q, kl x a.1) : above (P ++ q :: Q) x = Q := by
  have h : ¬ kl x q.1 := by rw [hq]; exact kl_irrefl x
  unfold above
  rw [List.filter_append, List.filter_eq_nil_iff.2 (fun a ha => by simpa using kl_anti (hP a ha)), List.nil_append, List.filter_cons_of_neg (by simpa using h), List.filter_eq_self.2 (fun a ha => decide_eq_true (hQ a ha))]
theorem srt_ins {L : List Item} (h : Srt L) (x : ByteArray) (v : Value) : Srt (ins L x v) := by
  unfold Srt ins
  rw [List.append_assoc, List.pairwise_append]
  refine ⟨h.filter _, ?_, ?_⟩
  · rw [List.singleton_append, List.pairwise_cons]
    exact ⟨fun a ha => by simpa [above] using (List.mem_filter.1 ha).2, h.filter _⟩
  · intro a ha b hb
    have h1 : kl a.1 x := by simpa using (List.mem_filter.1 ha).2
    rcases List.mem_append.1 hb with hb | hb
    · rw [List.mem_singleton.1 hb]; exact h1
    · exact kl_trans h1 (by simpa using (List.mem_filter.1 hb).2)
theorem srt_parts {P Q : List Item} {x : ByteArray} {q : Item} (h : Srt (P ++ q :: Q)) (hq : q.1 = x) : ∀ a ∈ Q, kl x a.1 := by
  unfold Srt at h
  rw [List.pairwise_append, List.pairwise_cons] at h
  intro a ha
  have := h.2.1.1 a ha
  rwa [hq] at this
theorem ge_gt {L Q : List Item} {x : ByteArray} (hsub : ∀ a ∈ Q, a ∈ L) (hQ : ∀ a ∈ Q, ¬ kl a.1 x) (hno : ¬ ∃ a ∈ L, a.1 = x) : ∀ a ∈ Q, kl x a.1 := by
  intro a ha
  rcases kl_tri a.1 x with h | h | h
  · exact absurd h (hQ a ha)
  · exact absurd ⟨a, hsub a ha, h⟩ hno
  · exact h
def putT (T : List (List Item)) (x : ByteArray) (v : Value) : List (List Item) :=
  if (findT T x).2.2 then T.set (findT T x).1 ((lf T (findT T x).1).set (findT T x).2.1 ((itm (lf T (findT T x).1) (findT T x).2.1).1, v))
  else if T = [] then [[(x, v)]]
  else
    let l' := (lf T (findT T x).1).take (findT T x).2.1 ++ [(x, v)] ++ (lf T (findT T x).1).drop (findT T x).2.1
    if 8 < l'.length then (T.set (findT T x).1 (l'.take (l'.length / 2))).take ((findT T x).1 + 1) ++ [l'.drop (l'.length / 2)] ++ (T.set (findT T x).1 (l'.take (l'.length / 2))).drop ((findT T x).1 + 1)
    else T.set (findT T x).1 l'
theorem flat_set {T : List (List Item)} {i : Nat} (hi : i < T.length) (l : List Item) : (T.set i l).flatten = (T.take i).flatten ++ l ++ (T.drop (i + 1)).flatten := by
  rw [List.set_eq_take_append_cons_drop, if_pos hi, List.flatten_append, List.flatten_cons, ← List.append_assoc]
theorem set_take_succ {T : List (List Item)} {i : Nat} (hi : i < T.length) (l : List Item) : (T.set i l).take (i + 1) = T.take i ++ [l] := by
  rw [List.set_eq_take_append_cons_drop, if_pos hi, List.take_append, List.length_take, List.take_of_length_le (by rw [List.length_take]; omega)]
  rw [show i + 1 - min i T.length = 1 by omega]
  rfl
theorem putT_law {T : List (List Item)} (h : TOk T) (x : ByteArray) (v : Value) : (putT T x v).flatten = ins T.flatten x v ∧ (∀ l ∈ putT T x v, l ≠ []) ∧ (findT T x).2.2 = has T.flatten x := by
  by_cases hT : T = []
  · subst hT
    exact ⟨rfl, by intro l hl; simp [putT, findT] at hl; subst hl; simp, rfl⟩
  obtain ⟨hi, hk, hP, hQ, hth, hat⟩ := findT_spec h hT x
  have hhas : (findT T x).2.2 = has T.flatten x := by
    rw [Bool.eq_iff_iff, hth, has_iff]
  refine ⟨?_, ?_, hhas⟩
  all_goals
    unfold putT
    rw [if_neg hT]
    generalize (findT T x).1 = i at *
    generalize (findT T x).2.1 = k at *
    generalize (findT T x).2.2 = th at *
    generalize hl : lf T i = l at *
  · have hL : T.flatten = ((T.take i).flatten ++ l.take k) ++ (l.drop k ++ (T.drop (i + 1)).flatten) := by
      rw [flat_split hi, hl, List.append_assoc, List.append_assoc, ← List.append_assoc (l.take k), List.take_append_drop]
    cases th with
    | true =>
      obtain ⟨h1, h2⟩ := hat rfl
      rw [if_pos rfl, flat_set hi]
      have hd : l.drop k = itm l k :: l.drop (k + 1) := by rw [List.drop_eq_getElem_cons h1, itm_eq h1]
      have hs := h.srt
      rw [hL, hd, List.cons_append] at hs
      have hgt := srt_parts hs h2
      have hset : l.set k ((itm l k).1, v) = l.take k ++ (x, v) :: l.drop (k + 1) := by rw [List.set_eq_take_append_cons_drop, if_pos h1, h2]
      unfold ins
      rw [hL, below_eq hP hQ, hd, List.cons_append, above_at hP h2 hgt, hset]
      simp [List.append_assoc]
    | false =>
      rw [if_neg (by simp)]
      have hno : ¬ ∃ a ∈ T.flatten, a.1 = x := fun e => by have := hth.2 e; cases this
      have hgt := ge_gt (L := T.flatten) (fun a ha => by rw [hL]; exact List.mem_append_right _ ha) hQ hno
      have hins : ins T.flatten x v = (T.take i).flatten ++ (l.take k ++ [(x, v)] ++ l.drop k) ++ (T.drop (i + 1)).flatten := by
        unfold ins
        rw [hL, below_eq hP hQ, above_of hP hgt]
        simp [List.append_assoc]
      rw [hins]
      dsimp only
      split
      · rw [set_take_succ hi, List.drop_set_of_lt (Nat.lt_succ_self i), List.flatten_append, List.flatten_append, List.flatten_append]
        simp only [List.flatten_cons, List.flatten_nil, List.append_nil, List.append_assoc]
        rw [← List.append_assoc (List.take _ _) (List.drop _ _), List.take_append_drop]
        simp [List.append_assoc]
      · rw [flat_set hi]
  · have hne := h.ne
    cases th with
    | true =>
      rw [if_pos rfl]
      intro a ha
      rcases List.mem_or_eq_of_mem_set ha with ha | ha
      · exact hne a ha
      · rw [ha]
        intro e
        have := congrArg List.length e
        have h1 := (hat rfl).1
        rw [List.length_set, List.length_nil] at this
        omega
    | false =>
      rw [if_neg (by simp)]
      dsimp only
      have hlen : (l.take k ++ [(x, v)] ++ l.drop k).length = l.length + 1 := by simp; omega
      generalize (l.take k ++ [(x, v)] ++ l.drop k) = l' at *
      split
      · intro a ha
        simp only [List.mem_append, List.mem_singleton] at ha
        rcases ha with (ha | ha) | ha
        · rcases List.mem_or_eq_of_mem_set (List.mem_of_mem_take ha) with ha | ha
          · exact hne a ha
          · rw [ha]
            intro e
            have := congrArg List.length e
            rw [List.length_take, List.length_nil] at this
            omega
        · rw [ha]
          intro e
          have := congrArg List.length e
          rw [List.length_drop, List.length_nil] at this
          omega
        · rcases List.mem_or_eq_of_mem_set (List.mem_of_mem_drop ha) with ha | ha
          · exact hne a ha
          · rw [ha]
            intro e
            have := congrArg List.length e
            rw [List.length_take, List.length_nil] at this
            omega
      · intro a ha
        rcases List.mem_or_eq_of_mem_set ha with ha | ha
        · exact hne a ha
        · rw [ha]
          intro e
          rw [e] at hlen
          simp at hlen
theorem has_cons (a : Item) (L : List Item) (x : ByteArray) : has (a :: L) x = (decide (a.1 = x) || has L x) := rfl
theorem srt_split {L : List Item} (h : Srt L) (x : ByteArray) : (has L x = false ∧ L = below L x ++ above L x) ∨ (∃ q, has L x = true ∧ q.1 = x ∧ L = below L x ++ [q] ++ above L x) := by
  induction L with
  | nil => exact .inl ⟨rfl, rfl⟩
  | cons a L ih =>
    have h' := h
    unfold Srt at h'
    rw [List.pairwise_cons] at h'
    obtain ⟨h1, h2⟩ := h'
    rcases kl_tri a.1 x with c | c | c
    · have e1 : below (a :: L) x = a :: below L x := List.filter_cons_of_pos (decide_eq_true c)
      have e2 : above (a :: L) x = above L x := List.filter_cons_of_neg (by simpa using kl_anti c)
      have hne : ¬ a.1 = x := fun e => by rw [e] at c; exact kl_irrefl x c
      rw [e1, e2, has_cons, decide_eq_false hne, Bool.false_or]
      rcases ih h2 with ⟨i1, i2⟩ | ⟨q, i1, i2, i3⟩
      · exact .inl ⟨i1, congrArg (a :: ·) i2⟩
      · exact .inr ⟨q, i1, i2, congrArg (a :: ·) i3⟩
    · refine .inr ⟨a, by rw [has_cons, decide_eq_true c]; rfl, c, ?_⟩
      have hL : ∀ b ∈ L, kl x b.1 := fun b hb => by rw [← c]; exact h1 b hb
      have e1 : below (a :: L) x = [] := by
        refine List.filter_eq_nil_iff.2 (fun b hb => ?_)
        rcases List.mem_cons.1 hb with rfl | hb
        · rw [c]; simpa using kl_irrefl x
        · simpa using kl_anti (hL b hb)
      have e2 : above (a :: L) x = L := by
        unfold above
        rw [List.filter_cons_of_neg (by rw [c]; simpa using kl_irrefl x), List.filter_eq_self.2 (fun b hb => decide_eq_true (hL b hb))]
      rw [e1, e2]; rfl
    · have hL : ∀ b ∈ a :: L, kl x b.1 := fun b hb => by
        rcases List.mem_cons.1 hb with rfl | hb
        · exact c
        · exact kl_trans c (h1 b hb)
      have e1 : below (a :: L) x = [] := List.filter_eq_nil_iff.2 (fun b hb => by simpa using kl_anti (hL b hb))
      have e2 : above (a :: L) x = a :: L := List.filter_eq_self.2 (fun b hb => decide_eq_true (hL b hb))
      refine .inl ⟨?_, by rw [e1, e2]; rfl⟩
      cases hh : has (a :: L) x with
      | false => rfl
      | true =>
        obtain ⟨b, hb, e⟩ := has_iff.1 hh
        have := hL b hb
        rw [e] at this
        exact absurd this (kl_irrefl x)
theorem ins_length {L : List Item} (h : Srt L) (x : ByteArray) (v : Value) : (ins L x v).length = if has L x then L.length else L.length + 1 := by
  rcases srt_split h x with ⟨h1, h2⟩ | ⟨q, h1, h2, h3⟩
  · rw [h1]
    have := congrArg List.length h2
    simp only [ins, List.length_append, List.length_singleton] at this ⊢
    simp
    omega
  · rw [h1]
    have := congrArg List.length h3
    simp only [ins, List.length_append, List.length_singleton] at this ⊢
    simp
    omega
end Go.Proofs.Ytmafibbnojdpjaa.Tr
end
section
set_option linter.unusedVariables false
set_option maxRecDepth 100000
set_option linter.unusedSimpArgs false
namespace Go.Proofs.Ytmafibbnojdpjaa.Tr
open Go.RowKit Go.Proofs.YtmafibbnojdpjaaW.PrintWords Go.Proofs.YtmafibbnojdpjaaW.PrintLast Go.Proofs.YtmafibbnojdpjaaW.PrintMore
/-- The tree at block g holds L's pairs, in order; its blocks are among F. -/
def TreeAt (R : Value × Value) (F : Nat → Prop) (w : World) (g : Nat) (L : List Item) : Prop := ∃ S M, TreeM R F w g S M (L.length : Int) ∧ TOk (tl M) ∧ (tl M).flatten = L
def maxTree : Nat := 1500000000000
variable {R : Value × Value} {F : Nat → Prop} {w w' : World} {g : Nat} {L : List Item}
theorem len_le_flatten {T : List (List Item)} (h : ∀ l ∈ T, l ≠ []) : T.length ≤ T.flatten.length ∧ ∀ l ∈ T, l.length ≤ T.flatten.length := by
  induction T with
  | nil => simp
  | cons a T ih =>
    obtain ⟨i1, i2⟩ := ih (fun l hl => h l (List.mem_cons_of_mem _ hl))
    have := List.length_pos_iff.2 (h a (List.mem_cons_self ..))
    rw [List.flatten_cons, List.length_append, List.length_cons]
    refine ⟨by omega, fun l hl => ?_⟩
    rcases List.mem_cons.1 hl with rfl | hl
    · omega
    · have := i2 l hl; omega
theorem small_of {M : List Leaf} (ht : TOk (tl M)) (hb : (tl M).flatten.length ≤ maxTree) : Small M := by
  obtain ⟨h1, h2⟩ := len_le_flatten ht.ne
  rw [tl_length] at h1
  unfold maxTree at hb
  have hm : ∀ m ∈ M, m.2.2 ∈ tl M := fun m hm => List.mem_map.2 ⟨m, hm, rfl⟩
  exact ⟨fun m hmm => List.length_pos_iff.2 (ht.ne _ (hm m hmm)), by omega, fun m hmm => by have := h2 _ (hm m hmm); omega⟩
theorem TreeAt.kept (h : TreeAt R F w g L) (hk : ∀ k, F k → k < w.heap.size → w'.heap[k]? = w.heap[k]?) : TreeAt R F w' g L := by
  obtain ⟨S, M, h1, h2⟩ := h
  exact ⟨S, M, h1.kept hk, h2⟩
theorem TreeAt.below (h : TreeAt R F w g L) (hb : Below w.heap.size w w') : TreeAt R F w' g L := h.kept fun k _ hl => hb.block k hl
theorem TreeAt.srt (h : TreeAt R F w g L) : Srt L := by
  obtain ⟨S, M, h1, h2, h3⟩ := h
  rw [← h3]; exact h2.srt
theorem TreeAt.lt (h : TreeAt R F w g L) : g < w.heap.size := by
  obtain ⟨S, M, h1, h2, h3⟩ := h
  exact h1.lt
/-- no block of a tree lies beyond the heap: F may be cut there, and grow beyond. -/
theorem LeafOk.turn {G : Nat → Prop} {m : Leaf} (h : LeafOk F w g m) (hFG : ∀ k, k < w.heap.size → F k → G k) : LeafOk G w g m := ⟨h.own, hFG _ h.lt h.inF, h.neg, h.one⟩
theorem TreeAt.turn {G : Nat → Prop} (h : TreeAt R F w g L) (hFG : ∀ k, k < w.heap.size → F k → G k) : TreeAt R G w g L := by
  obtain ⟨S, M, h1, h2⟩ := h
  exact ⟨S, M, ⟨h1.head, hFG _ h1.lt h1.inF, h1.row, fun k e => ⟨hFG _ (h1.rowlt k e) (h1.apart k e).1, (h1.apart k e).2⟩, fun m hm => (h1.leaf m hm).turn hFG, h1.nodup⟩, h2⟩
theorem put_any (h : TreeAt R F w g L) (hF : ∀ k, w.heap.size ≤ k → F k) (hb : L.length ≤ maxTree) (x : ByteArray) (y : SVal) :
    Calls Try.prog 65 #[.pointer (some ⟨g, 0, none⟩), .string x, SV y] w fun e w' => e = .returned (.bool (has L x)) ∧ TreeAt R F w' g (ins L x (SV y)) ∧ Fr F w w' := by
  obtain ⟨S, M, hM, hT, hL⟩ := h
  have hs : Small M := small_of hT (by rw [hL]; exact hb)
  obtain ⟨p1, p2, p3⟩ := putT_law hT x (SV y)
  have hsrt : Srt L := by rw [← hL]; exact hT.srt
  have hlen := ins_length hsrt x (SV y)
  rw [hL] at p1 p3
  rw [← p3] at hlen ⊢
  have hok : ∀ T', T' = putT (tl M) x (SV y) → TOk T' ∧ T'.flatten = ins L x (SV y) := fun T' e => by
    rw [e]
    exact ⟨⟨p2, by rw [p1]; exact srt_ins hsrt _ _⟩, p1⟩
  unfold maxTree at hb
  have hz0 : (0 : Int) ≤ (L.length : Int) := by omega
  have hz1 : (L.length : Int) ≤ 1600000000000 := by omega
  cases ht : (findT (tl M) x).2.2 with
  | true =>
    rw [ht, if_pos rfl] at hlen
    obtain ⟨t1, t2, _⟩ := findT_there (tl M) x ht
    obtain ⟨⟨b, cap, l⟩, hm, el⟩ := tl_get t1
    refine (put_there hM hs x y ht b cap l hm).mono ?_
    rintro e w' ⟨he, h1, hf⟩
    refine ⟨he, ⟨S, _, by rw [hlen]; exact h1, hok _ ?_⟩, hf⟩
    unfold putT
    rw [if_pos ht, tl_set, el]
  | false =>
    rw [ht, if_neg (by simp)] at hlen
    have hz : ((L.length : Int) + 1) = ((ins L x (SV y)).length : Int) := by rw [hlen]; omega
    by_cases hM0 : M = []
    · subst hM0
      refine (put_first hM hF hz0 hz1 x y).mono ?_
      rintro e w' ⟨he, ⟨S', b, h1⟩, hf⟩
      rw [hz] at h1
      refine ⟨he, ⟨S', _, h1, hok _ ?_⟩, hf⟩
      rfl
    · obtain ⟨b, cap, l, hm, hk⟩ := findT_le x hM0
      have hT0 : ¬ tl M = [] := by unfold tl; simpa using hM0
      have el := lf_tl hm
      have hl' : ∀ y : Item, (l.take (findT (tl M) x).2.1 ++ [y] ++ l.drop (findT (tl M) x).2.1).length = l.length + 1 := fun y => by simp; omega
      by_cases h8 : l.length + 1 ≤ 8
      · refine (put_in hM hs hF hz0 hz1 x y ht b cap l hm hk h8).mono ?_
        rintro e w' ⟨he, ⟨b', c', h1⟩, hf⟩
        rw [hz] at h1
        refine ⟨he, ⟨S, _, h1, hok _ ?_⟩, hf⟩
        unfold putT
        rw [if_neg (by simp [ht]), if_neg hT0, tl_set, el]
        dsimp only
        rw [if_neg (by rw [hl']; omega)]
      · refine (put_split hM hs hF hz0 hz1 x y ht b cap l hm hk (by omega)).mono ?_
        rintro e w' ⟨he, ⟨S', b1, c1, b2, c2, l', e1, h1⟩, hf⟩
        rw [hz] at h1
        refine ⟨he, ⟨S', _, h1, hok _ ?_⟩, hf⟩
        unfold putT
        rw [if_neg (by simp [ht]), if_neg hT0, tl_append, tl_append, tl_take, tl_drop, tl_set, el, e1]
        dsimp only
        rw [if_pos (by rw [hl']; omega)]
        rfl
end Go.Proofs.Ytmafibbnojdpjaa.Tr
end
