/- play: the list beside the tree. Plain law. -/
import Derived.Test.YtmpcmpanolnpfaaFw
set_option linter.unusedVariables false
set_option linter.unusedSimpArgs false
namespace Go.Proofs.Ytmpcmpanolnpfaa.Tr

/-- one act -/
def stepZ (Z : List Pair) (a : S81) : List Pair := if a.f0 % 4 = 2 then delZ Z a.f2 else if a.f0 % 4 = 3 then Z else insZ Z a.f2 a.f1
def playZ (l : List S81) : List Pair := l.foldl stepZ []
theorem playZ_snoc (l : List S81) (a : S81) : playZ (l ++ [a]) = stepZ (playZ l) a := by simp [playZ]
theorem playZ_take {l : List S81} {i : Nat} (h : i < l.length) : playZ (l.take (i + 1)) = stepZ (playZ (l.take i)) (act l i) := by
  rw [List.take_succ_eq_append_getElem h, playZ_snoc, act_eq h]
def SrtZ (Z : List Pair) : Prop := Z.Pairwise fun a b => kl a.1 b.1
theorem srtZ_of {Z : List Pair} (h : Srt (Z.map zi)) : SrtZ Z := by
  unfold Srt at h
  rw [List.pairwise_map] at h
  exact h
theorem insZ_len (Z : List Pair) (x : ByteArray) (y : Int) : (insZ Z x y).length ≤ Z.length + 1 := by
  unfold insZ belowZ aboveZ
  rw [List.length_append, List.length_append, List.length_singleton]
  induction Z with
  | nil => simp
  | cons a Z ih =>
    rw [List.filter_cons, List.filter_cons]
    by_cases h1 : kl a.1 x
    · have h2 := kl_anti h1
      simp [h1, h2]
      omega
    · by_cases h2 : kl x a.1
      · simp [h1, h2]
        omega
      · simp [h1, h2]
        omega
theorem delZ_len (Z : List Pair) (x : ByteArray) : (delZ Z x).length ≤ Z.length := by
  have := insZ_len Z x 0
  unfold insZ at this
  unfold delZ
  rw [List.length_append, List.length_append, List.length_singleton] at this
  rw [List.length_append]
  omega
theorem playZ_len (l : List S81) : (playZ l).length ≤ l.length := by
  unfold playZ
  have : ∀ (l : List S81) (Z : List Pair), (l.foldl stepZ Z).length ≤ Z.length + l.length := by
    intro l
    induction l with
    | nil => intro Z; simp
    | cons a l ih =>
      intro Z
      rw [List.foldl_cons, List.length_cons]
      have h1 := ih (stepZ Z a)
      have h2 : (stepZ Z a).length ≤ Z.length + 1 := by
        unfold stepZ
        split
        · have := delZ_len Z a.f2; omega
        · split
          · omega
          · exact insZ_len Z a.f2 a.f1
      omega
  have := this l []
  simpa using this
/-- where the search in the list ends -/
theorem at_spec {Z : List Pair} (h : SrtZ Z) {x : ByteArray} {k : Nat} (hk : k ≤ Z.length) (hb : ∀ a ∈ Z.take k, kl a.1 x) (hn : ∀ (hl : k < Z.length), ¬ kl (Z[k]).1 x) :
    belowZ Z x = Z.take k ∧ (hasZ Z x = true ↔ ∃ hl : k < Z.length, (Z[k]).1 = x) ∧ (hasZ Z x = true → aboveZ Z x = Z.drop (k + 1)) ∧ (hasZ Z x = false → aboveZ Z x = Z.drop k) := by
  have hge : ∀ a ∈ Z.drop k, ¬ kl a.1 x := by
    intro a ha
    obtain ⟨j, hj, e⟩ := List.mem_iff_getElem.1 ha
    rw [List.length_drop] at hj
    rw [List.getElem_drop] at e
    have hl : k < Z.length := by omega
    by_cases h0 : j = 0
    · subst h0
      rw [← e]
      exact hn hl
    · have := List.pairwise_iff_getElem.1 h k (k + j) hl (by omega) (by omega)
      rw [e] at this
      exact fun q => hn hl (kl_trans this q)
  have hsp := List.take_append_drop k Z
  have eb : belowZ Z x = Z.take k := by
    unfold belowZ
    conv => lhs; rw [← hsp]
    rw [List.filter_append, List.filter_eq_self.2 (fun a ha => decide_eq_true (hb a ha)), List.filter_eq_nil_iff.2 (fun a ha => by simpa using hge a ha), List.append_nil]
  have ea : aboveZ Z x = (Z.drop k).filter fun a => decide (kl x a.1) := by
    unfold aboveZ
    conv => lhs; rw [← hsp]
    rw [List.filter_append, List.filter_eq_nil_iff.2 (fun a ha => by simpa using kl_anti (hb a ha)), List.nil_append]
  have hh : hasZ Z x = true ↔ ∃ hl : k < Z.length, (Z[k]).1 = x := by
    unfold hasZ
    rw [List.any_eq_true]
    constructor
    · rintro ⟨a, ha, e⟩
      rw [decide_eq_true_eq] at e
      rw [← hsp, List.mem_append] at ha
      rcases ha with ha | ha
      · have := hb a ha
        rw [e] at this
        exact absurd this (kl_irrefl x)
      · obtain ⟨j, hj, e2⟩ := List.mem_iff_getElem.1 ha
        rw [List.length_drop] at hj
        rw [List.getElem_drop] at e2
        have hl : k < Z.length := by omega
        refine ⟨hl, ?_⟩
        by_cases h0 : j = 0
        · subst h0
          rw [← e, ← e2]
          rfl
        · have := List.pairwise_iff_getElem.1 h k (k + j) hl (by omega) (by omega)
          rw [e2, e] at this
          exact absurd this (hn hl)
    · rintro ⟨hl, e⟩
      exact ⟨Z[k], List.getElem_mem hl, decide_eq_true e⟩
  refine ⟨eb, hh, fun ht => ?_, fun hf => ?_⟩
  · obtain ⟨hl, e⟩ := hh.1 ht
    rw [ea, List.drop_eq_getElem_cons hl, List.filter_cons_of_neg (by rw [e]; simpa using kl_irrefl x)]
    refine List.filter_eq_self.2 (fun a ha => decide_eq_true ?_)
    obtain ⟨j, hj, e2⟩ := List.mem_iff_getElem.1 ha
    rw [List.length_drop] at hj
    rw [List.getElem_drop] at e2
    have := List.pairwise_iff_getElem.1 h k (k + 1 + j) hl (by omega) (by omega)
    rw [e2, e] at this
    exact this
  · rw [ea]
    refine List.filter_eq_self.2 (fun a ha => decide_eq_true ?_)
    rcases kl_tri a.1 x with c | c | c
    · exact absurd c (hge a ha)
    · exfalso
      have : hasZ Z x = true := by
        unfold hasZ
        rw [List.any_eq_true]
        exact ⟨a, List.mem_of_mem_drop ha, decide_eq_true c⟩
      rw [hf] at this
      cases this
    · exact c
theorem del_at {Z : List Pair} (h : SrtZ Z) {x : ByteArray} {k : Nat} (hk : k ≤ Z.length) (hb : ∀ a ∈ Z.take k, kl a.1 x) (hn : ∀ (hl : k < Z.length), ¬ kl (Z[k]).1 x) :
    (hasZ Z x = true → delZ Z x = Z.take k ++ Z.drop (k + 1)) ∧ (hasZ Z x = false → delZ Z x = Z) := by
  obtain ⟨h1, h2, h3, h4⟩ := at_spec h hk hb hn
  unfold delZ
  rw [h1]
  exact ⟨fun e => by rw [h3 e], fun e => by rw [h4 e, List.take_append_drop]⟩
theorem ins_at {Z : List Pair} (h : SrtZ Z) {x : ByteArray} {k : Nat} (hk : k ≤ Z.length) (hb : ∀ a ∈ Z.take k, kl a.1 x) (hn : ∀ (hl : k < Z.length), ¬ kl (Z[k]).1 x) (y : Int) :
    (hasZ Z x = true → insZ Z x y = Z.set k (x, y)) ∧ (hasZ Z x = false → insZ Z x y = Z.take k ++ [(x, y)] ++ Z.drop k) := by
  obtain ⟨h1, h2, h3, h4⟩ := at_spec h hk hb hn
  unfold insZ
  rw [h1]
  refine ⟨fun e => ?_, fun e => by rw [h4 e]⟩
  obtain ⟨hl, _⟩ := h2.1 e
  rw [h3 e, List.set_eq_take_append_cons_drop, if_pos hl, List.append_assoc]
  rfl
end Go.Proofs.Ytmpcmpanolnpfaa.Tr
