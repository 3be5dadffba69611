/- TreeMany: the numbers that stay, in order. Plain law. -/
import Derived.Test.YtmpcmpanolnpfaaMc
set_option linter.unusedVariables false
set_option linter.unusedSimpArgs false
namespace Go.Proofs.Ytmpcmpanolnpfaa.Tr
def pf (N D k : Nat) : Bool := decide (k < N) && !decide (k % D = 0)
def js (N D : Nat) : List Nat := (List.range 1024).filter (pf N D)
theorem zs_js (N D : Nat) : zs (pf N D) = (js N D).map fun k => (nm k, (k : Int)) := rfl
theorem js_pw (N D : Nat) : (js N D).Pairwise (· < ·) := List.Pairwise.filter _ List.pairwise_lt_range
theorem mem_js {N D k : Nat} (hN : N ≤ 1024) : k ∈ js N D ↔ k < N ∧ ¬ k % D = 0 := by
  unfold js pf
  rw [List.mem_filter, List.mem_range]
  simp
  omega
/-- where the count stands when m have come -/
def kOf (N D m : Nat) : Nat := if m = 0 then 0 else (js N D)[m - 1]?.getD 0 + 1
theorem js_next {N D m : Nat} (hN : N ≤ 1024) (hm : m < (js N D).length) : kOf N D m ≤ (js N D)[m] ∧ (∀ y, y < N → ¬ y % D = 0 → kOf N D m ≤ y → (js N D)[m] ≤ y) ∧ kOf N D (m + 1) = (js N D)[m] + 1 := by
  have hp := List.pairwise_iff_getElem.1 (js_pw N D)
  refine ⟨?_, ?_, ?_⟩
  · unfold kOf
    split
    · omega
    · have := hp (m - 1) m (by omega) hm (by omega)
      rw [List.getElem?_eq_getElem (by omega), Option.getD_some]
      omega
  · intro y hy hd hk
    obtain ⟨i, hi, e⟩ := List.mem_iff_getElem.1 ((mem_js hN).2 ⟨hy, hd⟩)
    rcases Nat.lt_or_ge i m with h | h
    · exfalso
      unfold kOf at hk
      rw [if_neg (by omega), List.getElem?_eq_getElem (by omega), Option.getD_some] at hk
      rcases Nat.lt_or_ge i (m - 1) with h2 | h2
      · have := hp i (m - 1) hi (by omega) h2
        omega
      · obtain rfl : i = m - 1 := by omega
        omega
    · rcases Nat.lt_or_ge m i with h2 | h2
      · have := hp m i hm hi h2
        omega
      · obtain rfl : i = m := by omega
        omega
  · unfold kOf
    rw [if_neg (by omega), Nat.add_sub_cancel, List.getElem?_eq_getElem hm, Option.getD_some]
/-- one step of the inner loop -/
theorem js_step {N D m : Nat} (hN : N ≤ 1024) (hD : 2 ≤ D) (hm : m < (js N D).length) : (js N D)[m] < N ∧ ¬ (js N D)[m] % D = 0 ∧ ((kOf N D m % D = 0 ∧ (js N D)[m] = kOf N D m + 1) ∨ (¬ kOf N D m % D = 0 ∧ (js N D)[m] = kOf N D m)) := by
  obtain ⟨h1, h2, h3⟩ := js_next hN hm
  have hmem := (mem_js hN).1 (List.getElem_mem hm)
  generalize (js N D)[m] = e at *
  generalize kOf N D m = c at *
  refine ⟨hmem.1, hmem.2, ?_⟩
  by_cases hc : c % D = 0
  · left
    refine ⟨hc, ?_⟩
    have hne : e ≠ c := fun q => hmem.2 (by rw [q]; exact hc)
    have hd : ¬ (c + 1) % D = 0 := by
      rw [Nat.add_mod, hc, Nat.zero_add, Nat.mod_mod, Nat.mod_eq_of_lt (by omega : 1 < D)]
      omega
    have := h2 (c + 1) (by omega) hd (by omega)
    omega
  · right
    refine ⟨hc, ?_⟩
    have := h2 c (by omega) hc (by omega)
    omega
theorem kOf_end {N D : Nat} (hN : N ≤ 1024) (hD : 2 ≤ D) : N ≤ kOf N D (js N D).length + 1 := by
  by_cases h2 : N ≤ 1
  · omega
  have key : ∃ y, N ≤ y + 2 ∧ y < N ∧ ¬ y % D = 0 := by
    by_cases h : (N - 1) % D = 0
    · refine ⟨N - 2, by omega, by omega, ?_⟩
      intro h3
      have : ((N - 2) + 1) % D = 0 := by rw [show N - 2 + 1 = N - 1 by omega]; exact h
      rw [Nat.add_mod, h3, Nat.zero_add, Nat.mod_mod, Nat.mod_eq_of_lt (by omega : 1 < D)] at this
      omega
    · exact ⟨N - 1, by omega, by omega, h⟩
  obtain ⟨y, hy1, hy2, hy3⟩ := key
  obtain ⟨i, hi, e⟩ := List.mem_iff_getElem.1 ((mem_js hN).2 ⟨hy2, hy3⟩)
  have hp := List.pairwise_iff_getElem.1 (js_pw N D)
  unfold kOf
  generalize js N D = L at *
  rw [if_neg (by omega), List.getElem?_eq_getElem (by omega), Option.getD_some]
  rcases Nat.lt_or_ge i (L.length - 1) with h | h
  · have := hp i (L.length - 1) hi (by omega) h
    omega
  · obtain rfl : i = L.length - 1 := by omega
    omega
theorem count_lt (D : Nat) (hD : 0 < D) : ∀ N, ((List.range N).filter fun k => !decide (k % D = 0)).length = N - (N + D - 1) / D
  | 0 => by
    rw [Nat.zero_add, Nat.div_eq_of_lt (by omega)]
    rfl
  | N + 1 => by
    rw [List.range_succ, List.filter_append, List.length_append, count_lt D hD N]
    have e1 : (N + 1 + D - 1) / D = (N + D) / D := by congr 1; omega
    rw [e1, Nat.add_div_right N hD]
    by_cases h : N % D = 0
    · have h1 : (N + D - 1) / D = N / D := by
        have hN := Nat.div_add_mod N D
        rw [h] at hN
        have : N + D - 1 = D * (N / D) + (D - 1) := by omega
        rw [this, Nat.mul_add_div hD, Nat.div_eq_of_lt (by omega : D - 1 < D)]
        omega
      have h2 : N / D ≤ N := Nat.div_le_self _ _
      rw [h1, List.filter_cons_of_neg (by simp [h]), List.filter_nil, List.length_nil]
      omega
    · have h1 : (N + D - 1) / D = N / D + 1 := by
        have hN := Nat.div_add_mod N D
        have hlt := Nat.mod_lt N hD
        have : N + D - 1 = D * (N / D + 1) + (N % D - 1) := by rw [Nat.mul_add]; omega
        rw [this, Nat.mul_add_div hD, Nat.div_eq_of_lt (by omega : N % D - 1 < D)]
      have h2 : N / D + 1 ≤ N := by
        have hN := Nat.div_add_mod N D
        have : N / D ≤ D * (N / D) := Nat.le_mul_of_pos_left _ hD
        omega
      rw [h1, List.filter_cons_of_pos (by simp [h]), List.filter_nil, List.length_singleton]
      omega
theorem js_len {N D : Nat} (hN : N ≤ 1024) (hD : 0 < D) : (js N D).length = N - (N + D - 1) / D := by
  rw [← count_lt D hD N]
  unfold js pf
  rw [show List.range 1024 = List.range N ++ (List.range (1024 - N)).map (N + ·) by rw [← List.range_add]; congr 1; omega, List.filter_append, List.length_append]
  have f1 : (List.range N).filter (fun k => decide (k < N) && !decide (k % D = 0)) = (List.range N).filter (fun k => !decide (k % D = 0)) := List.filter_congr (fun k hk => by simp [List.mem_range.1 hk])
  have f2 : ((List.range (1024 - N)).map (N + ·)).filter (fun k => decide (k < N) && !decide (k % D = 0)) = [] := List.filter_eq_nil_iff.2 (fun k hk => by obtain ⟨i, _, rfl⟩ := List.mem_map.1 hk; simp; omega)
  show (List.filter (fun k => decide (k < N) && !decide (k % D = 0)) (List.range N)).length + (List.filter (fun k => decide (k < N) && !decide (k % D = 0)) _).length = _
  rw [f1, f2]
  rfl
end Go.Proofs.Ytmpcmpanolnpfaa.Tr
