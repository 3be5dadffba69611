/- Tree: the order of keys; a tree as its pairs in order. Plain law. -/
import Derived.Test.YtmpcmpanolnpfaaTd
import Derived.Sort.Walk0
set_option linter.unusedVariables false
set_option linter.unusedSimpArgs false
namespace Go.Proofs.Ytmpcmpanolnpfaa.Tr
open Go.Lib

theorem cb_self : ∀ a : List UInt8, compareBytes a a = 0
  | [] => rfl
  | x :: a => by
    have hx : ¬ x < x := by rw [UInt8.lt_iff_toNat_lt]; omega
    rw [compareBytes, if_neg hx, if_neg hx]; exact cb_self a
theorem cb_zero : ∀ a b : List UInt8, compareBytes a b = 0 → a = b
  | [], [], _ => rfl
  | [], _ :: _, h => by simp [compareBytes] at h
  | _ :: _, [], h => by simp [compareBytes] at h
  | x :: a, y :: b, h => by
    rw [compareBytes] at h
    by_cases h1 : x < y
    · rw [if_pos h1] at h; omega
    · rw [if_neg h1] at h
      by_cases h2 : y < x
      · rw [if_pos h2] at h; omega
      · rw [if_neg h2] at h
        rw [UInt8.lt_iff_toNat_lt] at h1 h2
        rw [show x = y from UInt8.toNat_inj.1 (by omega), cb_zero a b h]
theorem cb_anti : ∀ a b : List UInt8, compareBytes b a = - compareBytes a b
  | [], [] => rfl
  | [], _ :: _ => rfl
  | _ :: _, [] => rfl
  | x :: a, y :: b => by
    rw [compareBytes, compareBytes]
    by_cases h1 : x < y
    · have h2 : ¬ y < x := by rw [UInt8.lt_iff_toNat_lt] at h1 ⊢; omega
      rw [if_neg h2, if_pos h1, if_pos h1]; rfl
    · by_cases h2 : y < x
      · rw [if_pos h2, if_neg h1, if_pos h2]
      · rw [if_neg h2, if_neg h1, if_neg h1, if_neg h2]; exact cb_anti a b
theorem cb_trans : ∀ a b c : List UInt8, compareBytes a b < 0 → compareBytes b c < 0 → compareBytes a c < 0
  | [], [], _, h, _ => by simp [compareBytes] at h
  | [], _ :: _, [], _, h => by simp [compareBytes] at h
  | [], _ :: _, _ :: _, _, _ => by simp [compareBytes]
  | _ :: _, [], _, h, _ => by simp [compareBytes] at h
  | _ :: _, _ :: _, [], _, h => by simp [compareBytes] at h
  | x :: a, y :: b, z :: c, h, k => by
    rw [compareBytes] at h k ⊢
    simp only [UInt8.lt_iff_toNat_lt] at h k ⊢
    by_cases h1 : x.toNat < y.toNat
    · by_cases k1 : y.toNat < z.toNat
      · rw [if_pos (by omega)]; omega
      · rw [if_neg k1] at k
        by_cases k2 : z.toNat < y.toNat
        · rw [if_pos k2] at k; omega
        · rw [if_pos (by omega)]; omega
    · rw [if_neg h1] at h
      by_cases h2 : y.toNat < x.toNat
      · rw [if_pos h2] at h; omega
      · rw [if_neg h2] at h
        by_cases k1 : y.toNat < z.toNat
        · rw [if_pos (by omega)]; omega
        · rw [if_neg k1] at k
          by_cases k2 : z.toNat < y.toNat
          · rw [if_pos k2] at k; omega
          · rw [if_neg k2] at k
            rw [if_neg (by omega), if_neg (by omega)]
            exact cb_trans a b c h k
theorem cb_less : ∀ a b : List UInt8, Op.bytesLess a b = decide (compareBytes a b < 0)
  | [], [] => rfl
  | [], _ :: _ => rfl
  | _ :: _, [] => rfl
  | x :: a, y :: b => by
    rw [Op.bytesLess, compareBytes, cb_less a b]
    by_cases h1 : x < y
    · rw [if_pos h1]; simp [h1]
    · rw [if_neg h1]
      by_cases h2 : y < x
      · rw [if_pos h2]
        have h3 : ¬ x = y := by
          intro e; subst e; exact h1 h2
        simp [h1, h3]
      · rw [if_neg h2]
        have h3 : x = y := by
          rw [UInt8.lt_iff_toNat_lt] at h1 h2
          exact UInt8.toNat_inj.1 (by omega)
        simp [h1, h3]
/-- the order of keys -/
def kl (a b : ByteArray) : Prop := cmpS a b < 0
instance (a b : ByteArray) : Decidable (kl a b) := inferInstanceAs (Decidable (_ < _))
theorem cmpS_zero {a b : ByteArray} (h : cmpS a b = 0) : a = b := by
  have := cb_zero _ _ h
  cases a; cases b
  simp at this
  rw [this]
theorem cmpS_self (a : ByteArray) : cmpS a a = 0 := cb_self _
theorem cmpS_anti (a b : ByteArray) : cmpS b a = - cmpS a b := cb_anti _ _
theorem kl_irrefl (a : ByteArray) : ¬ kl a a := by unfold kl; rw [cmpS_self]; omega
theorem kl_trans {a b c : ByteArray} (h : kl a b) (k : kl b c) : kl a c := cb_trans _ _ _ h k
theorem kl_anti {a b : ByteArray} (h : kl a b) : ¬ kl b a := fun k => kl_irrefl a (kl_trans h k)
theorem kl_tri (a b : ByteArray) : kl a b ∨ a = b ∨ kl b a := by
  unfold kl
  rw [cmpS_anti a b]
  by_cases h : cmpS a b = 0
  · exact .inr (.inl (cmpS_zero h))
  · omega
theorem kl_le_trans {a b c : ByteArray} (h : ¬ kl b a) (k : kl b c) : kl a c := by
  rcases kl_tri a b with h1 | h1 | h1
  · exact kl_trans h1 k
  · rw [h1]; exact k
  · exact absurd h1 h
theorem kl_trans_le {a b c : ByteArray} (h : kl a b) (k : ¬ kl c b) : kl a c := by
  rcases kl_tri b c with h1 | h1 | h1
  · exact kl_trans h h1
  · rw [← h1]; exact h
  · exact absurd h1 k
theorem bs_spec (p : Nat → Bool) (n : Nat) (mono : ∀ a b, a ≤ b → b < n → p b = true → p a = true) : ∀ d i j, j - i = d → i ≤ j → j ≤ n → (∀ a, a < i → p a = true) → (∀ a, j ≤ a → a < n → p a = false) →
    (∀ a, a < bs p i j → p a = true) ∧ (∀ a, bs p i j ≤ a → a < n → p a = false) := by
  intro d
  induction d using Nat.strongRecOn with
  | _ d ih =>
    intro i j hd hij hjn h1 h2
    by_cases h : i < j
    · cases hp : p ((i + j) / 2) with
      | true =>
        rw [bs_on p i j h hp]
        refine ih (j - ((i + j) / 2 + 1)) (by omega) ((i + j) / 2 + 1) j rfl (by omega) hjn (fun a ha => ?_) h2
        exact mono a ((i + j) / 2) (by omega) (by omega) hp
      | false =>
        rw [bs_back p i j h hp]
        refine ih ((i + j) / 2 - i) (by omega) i ((i + j) / 2) rfl (by omega) (by omega) h1 (fun a ha hn => ?_)
        cases hq : p a with
        | false => rfl
        | true => rw [mono ((i + j) / 2) a (by omega) hn hq] at hp; cases hp
    · rw [bs_done p i j h]
      exact ⟨h1, fun a ha hn => h2 a (by omega) hn⟩
def Srt (l : List Item) : Prop := l.Pairwise fun a b => kl a.1 b.1
theorem itm_eq {l : List Item} {i : Nat} (h : i < l.length) : itm l i = l[i] := by simp [itm, List.getD, h]
theorem srt_lt {l : List Item} (h : Srt l) {i j : Nat} (hij : i < j) (hj : j < l.length) : kl (itm l i).1 (itm l j).1 := by
  rw [itm_eq (by omega : i < l.length), itm_eq hj]
  exact List.pairwise_iff_getElem.1 h i j (by omega) hj hij
theorem mem_take_itm {l : List Item} {k : Nat} {a : Item} (h : a ∈ l.take k) : ∃ j, j < k ∧ j < l.length ∧ itm l j = a := by
  obtain ⟨j, hj, e⟩ := List.mem_iff_getElem.1 h
  rw [List.length_take] at hj
  refine ⟨j, by omega, by omega, ?_⟩
  rw [itm_eq (by omega), ← e, List.getElem_take]
theorem mem_drop_itm {l : List Item} {k : Nat} {a : Item} (h : a ∈ l.drop k) : ∃ j, k ≤ j ∧ j < l.length ∧ itm l j = a := by
  obtain ⟨j, hj, e⟩ := List.mem_iff_getElem.1 h
  rw [List.length_drop] at hj
  refine ⟨k + j, by omega, by omega, ?_⟩
  rw [itm_eq (by omega), ← e, List.getElem_drop]
theorem srch_spec {l : List Item} (h : Srt l) (x : ByteArray) : (∀ a ∈ l.take (srch l x), kl a.1 x) ∧ (∀ a ∈ l.drop (srch l x), ¬ kl a.1 x) := by
  have sp := bs_spec (less l x) l.length (fun a b hab hb hp => by
    unfold less at hp ⊢
    rw [decide_eq_true_eq] at hp ⊢
    by_cases e : a = b
    · rw [e]; exact hp
    · exact kl_trans (srt_lt h (by omega : a < b) hb) hp) _ 0 l.length rfl (Nat.zero_le _) (Nat.le_refl _) (fun a ha => by omega) (fun a h1 h2 => by omega)
  constructor
  · intro a ha
    obtain ⟨j, h1, h2, e⟩ := mem_take_itm ha
    have := sp.1 j h1
    unfold less at this
    rw [decide_eq_true_eq, e] at this
    exact this
  · intro a ha
    obtain ⟨j, h1, h2, e⟩ := mem_drop_itm ha
    have := sp.2 j h1 h2
    unfold less at this
    rw [decide_eq_false_iff_not, e] at this
    exact this
theorem fnd_spec {l : List Item} (h : Srt l) (x : ByteArray) : (fnd l x = true ↔ ∃ a ∈ l, a.1 = x) ∧ (fnd l x = true → srch l x < l.length ∧ (itm l (srch l x)).1 = x) := by
  have h2 : fnd l x = true → srch l x < l.length ∧ (itm l (srch l x)).1 = x := fun e => by
    have := of_decide_eq_true e
    exact ⟨this.1, cmpS_zero this.2⟩
  refine ⟨⟨fun e => ?_, fun ⟨a, ha, e⟩ => ?_⟩, h2⟩
  · have := h2 e
    exact ⟨itm l (srch l x), by rw [itm_eq this.1]; exact List.getElem_mem _, this.2⟩
  · obtain ⟨s1, s2⟩ := srch_spec h x
    have ha' := ha
    rw [← List.take_append_drop (srch l x) l, List.mem_append] at ha'
    rcases ha' with ha' | ha'
    · have := s1 a ha'
      rw [e] at this
      exact absurd this (kl_irrefl x)
    · obtain ⟨j, h1, h3, e2⟩ := mem_drop_itm ha'
      have hk : srch l x < l.length := by omega
      refine decide_eq_true ⟨hk, ?_⟩
      by_cases ej : srch l x = j
      · rw [ej, e2, e]; exact cmpS_self x
      · have hlt := srt_lt h (by omega : srch l x < j) h3
        rw [e2, e] at hlt
        have hm : itm l (srch l x) ∈ l.drop (srch l x) := by
          rw [itm_eq hk]
          exact List.mem_iff_getElem.2 ⟨0, by rw [List.length_drop]; omega, by simp⟩
        exact absurd hlt (s2 _ hm)
theorem gtS_kl (k x : ByteArray) : gtS k x = decide (kl x k) := by
  have hk : kl x k ↔ (¬ cmpS k x < 0 ∧ ¬ cmpS k x = 0) := by unfold kl; rw [cmpS_anti k x]; omega
  have e : (k.data.toList == x.data.toList) = decide (cmpS k x = 0) := by
    rw [Bool.eq_iff_iff, decide_eq_true_eq, beq_iff_eq]
    exact ⟨fun e => by unfold cmpS; rw [e]; exact cb_self _, fun e => by rw [cmpS_zero e]⟩
  unfold gtS
  rw [cb_less, ByteArray.toList_eq, ByteArray.toList_eq, e, Bool.eq_iff_iff, decide_eq_true_iff, hk]
  show (!decide (cmpS k x < 0) && !decide (cmpS k x = 0)) = true ↔ _
  simp
/-- A tree as it is: leaves not empty, keys rising throughout. -/
structure TOk (T : List (List Item)) : Prop where
  ne : ∀ l ∈ T, l ≠ []
  srt : Srt T.flatten
theorem lf_mem {T : List (List Item)} {i : Nat} (hi : i < T.length) : lf T i ∈ T := by
  simp only [lf, List.getD, List.getElem?_eq_getElem hi, Option.getD_some]
  exact List.getElem_mem hi
theorem split_at {T : List (List Item)} {i : Nat} (hi : i < T.length) : T = T.take i ++ lf T i :: T.drop (i + 1) := by
  have h := List.take_append_drop i T
  rw [List.drop_eq_getElem_cons hi] at h
  rw [show lf T i = T[i] by simp [lf, List.getD, hi]]
  exact h.symm
theorem flat_split {T : List (List Item)} {i : Nat} (hi : i < T.length) : T.flatten = (T.take i).flatten ++ lf T i ++ (T.drop (i + 1)).flatten := by
  have h := congrArg List.flatten (split_at hi)
  rw [List.flatten_append, List.flatten_cons, ← List.append_assoc] at h
  exact h
theorem TOk.leaf {T : List (List Item)} (h : TOk T) {i : Nat} (hi : i < T.length) : Srt (lf T i) := by
  have := h.srt
  rw [flat_split hi] at this
  unfold Srt at this
  rw [List.pairwise_append, List.pairwise_append] at this
  exact this.1.2.1
theorem fk_mem {T : List (List Item)} (h : TOk T) {i : Nat} (hi : i < T.length) : itm (lf T i) 0 ∈ lf T i := by
  have hne := h.ne _ (lf_mem hi)
  have : 0 < (lf T i).length := List.length_pos_iff.2 hne
  rw [itm_eq this]
  exact List.getElem_mem _
theorem leaf_lt {T : List (List Item)} (h : TOk T) {i j : Nat} (hij : i < j) (hj : j < T.length) {a b : Item} (ha : a ∈ lf T i) (hb : b ∈ lf T j) : kl a.1 b.1 := by
  have hs := h.srt
  rw [flat_split (by omega : i < T.length)] at hs
  unfold Srt at hs
  rw [List.pairwise_append] at hs
  refine hs.2.2 a (List.mem_append_right _ ha) b ?_
  refine List.mem_flatten.2 ⟨lf T j, ?_, hb⟩
  rw [show lf T j = T[j] by simp [lf, List.getD, hj]]
  exact List.mem_iff_getElem.2 ⟨j - (i + 1), by rw [List.length_drop]; omega, by rw [List.getElem_drop]; congr 1; omega⟩
theorem fk_le {T : List (List Item)} (h : TOk T) {i : Nat} (hi : i < T.length) {a : Item} (ha : a ∈ lf T i) : ¬ kl a.1 (fk T i) := by
  obtain ⟨j, hj, e⟩ := List.mem_iff_getElem.1 ha
  rw [← itm_eq hj] at e
  rw [← e]
  by_cases hj0 : j = 0
  · rw [hj0]; exact kl_irrefl _
  · exact kl_anti (srt_lt (h.leaf hi) (by omega : 0 < j) hj)
theorem lsrch_spec {T : List (List Item)} (h : TOk T) (x : ByteArray) : (∀ a, a < lsrch T x → ¬ kl x (fk T a)) ∧ (∀ a, lsrch T x ≤ a → a < T.length → kl x (fk T a)) := by
  have hn : ∀ i, notGt T x i = !decide (kl x (fk T i)) := fun i => by unfold notGt; rw [gtS_kl]
  have sp := bs_spec (notGt T x) T.length (fun a b hab hb hp => by
    rw [hn] at hp ⊢
    simp at hp ⊢
    by_cases e : a = b
    · rw [e]; exact hp
    · have hlt : kl (fk T a) (fk T b) := leaf_lt h (by omega : a < b) hb (fk_mem h (by omega)) (fk_mem h hb)
      exact fun q => hp (kl_trans q hlt)) _ 0 T.length rfl (Nat.zero_le _) (Nat.le_refl _) (fun a ha => by omega) (fun a h1 h2 => by omega)
  constructor
  · intro a ha
    have := sp.1 a ha
    rw [hn] at this
    simpa using this
  · intro a h1 h2
    have := sp.2 a h1 h2
    rw [hn] at this
    simpa using this
theorem findT_spec {T : List (List Item)} (h : TOk T) (hT : T ≠ []) (x : ByteArray) :
    (findT T x).1 < T.length ∧ (findT T x).2.1 ≤ (lf T (findT T x).1).length ∧
    (∀ a ∈ (T.take (findT T x).1).flatten ++ (lf T (findT T x).1).take (findT T x).2.1, kl a.1 x) ∧
    (∀ a ∈ (lf T (findT T x).1).drop (findT T x).2.1 ++ (T.drop ((findT T x).1 + 1)).flatten, ¬ kl a.1 x) ∧
    ((findT T x).2.2 = true ↔ ∃ a ∈ T.flatten, a.1 = x) ∧ ((findT T x).2.2 = true → (findT T x).2.1 < (lf T (findT T x).1).length ∧ (itm (lf T (findT T x).1) (findT T x).2.1).1 = x) := by
  have hl : T.length ≠ 0 := fun e => hT (List.length_eq_zero_iff.1 e)
  unfold findT
  rw [if_neg hl]
  have hle := lsrch_le T x
  obtain ⟨q1, q2⟩ := lsrch_spec h x
  generalize hn : lsrch T x = n at *
  have hi : n - 1 < T.length := by omega
  have hsl := h.leaf hi
  obtain ⟨s1, s2⟩ := srch_spec hsl x
  obtain ⟨f1, f2⟩ := fnd_spec hsl x
  have before : ∀ a ∈ (T.take (n - 1)).flatten, kl a.1 x := by
    intro a ha
    obtain ⟨l, hl1, ha⟩ := List.mem_flatten.1 ha
    obtain ⟨j, hj, e⟩ := List.mem_iff_getElem.1 hl1
    rw [List.length_take] at hj
    have e2 : lf T j = l := by rw [← e, List.getElem_take]; simp [lf, List.getD, (by omega : j < T.length)]
    rw [← e2] at ha
    have h1 : kl a.1 (fk T (j + 1)) := leaf_lt h (Nat.lt_succ_self j) (by omega) ha (fk_mem h (by omega))
    exact kl_trans_le h1 (q1 (j + 1) (by omega))
  have behind : ∀ a ∈ (T.drop (n - 1 + 1)).flatten, kl x a.1 := by
    intro a ha
    obtain ⟨l, hl1, ha⟩ := List.mem_flatten.1 ha
    obtain ⟨j, hj, e⟩ := List.mem_iff_getElem.1 hl1
    rw [List.length_drop] at hj
    have e2 : lf T (n - 1 + 1 + j) = l := by rw [← e, List.getElem_drop]; simp [lf, List.getD, (by omega : n - 1 + 1 + j < T.length)]
    rw [← e2] at ha
    have h1 := q2 (n - 1 + 1 + j) (by omega) (by omega)
    have h2 := fk_le h (by omega : n - 1 + 1 + j < T.length) ha
    exact kl_trans_le h1 h2
  refine ⟨hi, srch_le _ x, ?_, ?_, ?_, f2⟩
  · intro a ha
    rcases List.mem_append.1 ha with ha | ha
    · exact before a ha
    · exact s1 a ha
  · intro a ha
    rcases List.mem_append.1 ha with ha | ha
    · exact s2 a ha
    · exact kl_anti (behind a ha)
  · rw [f1]
    constructor
    · rintro ⟨a, ha, e⟩
      exact ⟨a, by rw [flat_split hi]; exact List.mem_append_left _ (List.mem_append_right _ ha), e⟩
    · rintro ⟨a, ha, e⟩
      rw [flat_split hi, List.mem_append, List.mem_append] at ha
      rcases ha with (ha | ha) | ha
      · have := before a ha
        rw [e] at this
        exact absurd this (kl_irrefl x)
      · exact ⟨a, ha, e⟩
      · have := behind a ha
        rw [e] at this
        exact absurd this (kl_irrefl x)
end Go.Proofs.Ytmpcmpanolnpfaa.Tr
