/- Plain facts about rising chains: behind, At, Put, Last, Right, head. -/
import Derived.Test.YtcoollbcnpmlfaaCp
import Derived.Test.YtcoollbcnpmlfaaCx1
import Derived.Test.YtcoollbcnpmlfaaCx2
import Derived.Test.YtcoollbcnpmlfaaCx5
import Derived.Test.YtcoollbcnpmlfaaCx7
import Derived.Test.YtcoollbcnpmlfaaEv0
set_option linter.unusedVariables false
set_option linter.unusedSimpArgs false
namespace Go.Proofs.Ytcoollbcnpmlfaa.ChP
open Go.RowKit Go.Proofs.Ytcoollbcnpmlfaa.C Go.Proofs.YtcoollbcnpmlfaaW.PrintWords Go.Proofs.YtcoollbcnpmlfaaW.PrintLast
open Go.Proofs.Ytcoollbcnpmlfaa.Ev0 (ev_pos ev_neg ev_bind ev_some w64)

def key (l : List S52) (i : Nat) : Int := (rd_T52 l (i : Int)).f0
theorem bs_spec (p : Nat → Bool) (n r : Nat) (hr : ∀ k, k < r → p k = true) (hs : ∀ k, r ≤ k → k < n → p k = false) :
    ∀ d i j, j - i = d → i ≤ r → r ≤ j → j ≤ n → bs p i j = r := by
  intro d
  induction d using Nat.strongRecOn with
  | _ d ih =>
    intro i j hd hir hrj hjn
    by_cases h : i < j
    · by_cases c : (i + j) / 2 < r
      · rw [bs_on p i j h (hr _ c)]
        exact ih (j - ((i + j) / 2 + 1)) (by omega) _ _ rfl (by omega) hrj hjn
      · rw [bs_back p i j h (hs _ (by omega) (by omega))]
        exact ih ((i + j) / 2 - i) (by omega) _ _ rfl hir (by omega) (by omega)
    · rw [bs_done p i j h]; omega
theorem cmp_lt (a b : Int) : cmpI a b < 0 ↔ a < b := by
  unfold cmpI
  by_cases h : a < b
  · simp [h]
  · by_cases h2 : b < a
    · simp [h, h2]
    · simp [h, h2]
theorem cmp_eq (a b : Int) : cmpI a b = 0 ↔ a = b := by
  unfold cmpI
  by_cases h : a < b
  · simp [h]; omega
  · by_cases h2 : b < a
    · simp [h, h2]; omega
    · simp [h, h2]; omega
theorem less_eq (l : List S52) (x : Int) (i : Nat) : less l x i = decide (key l i < x) := by
  unfold less key
  rw [decide_eq_decide]
  exact cmp_lt _ _
theorem srch_eq (l : List S52) (x : Int) (n : Nat) (hn : n ≤ l.length) (h1 : ∀ i, i < n → key l i < x) (h2 : ∀ i, n ≤ i → i < l.length → x ≤ key l i) : srch l x = n := by
  unfold srch
  refine bs_spec _ l.length n (fun k hk => ?_) (fun k hk hl => ?_) _ 0 _ rfl (Nat.zero_le _) hn (Nat.le_refl _)
  · rw [less_eq]; exact decide_eq_true (h1 k hk)
  · rw [less_eq]; exact decide_eq_false (by have := h2 k hk hl; omega)
/-- rising, and each version as it may be -/
def Rt (l : List S52) : Prop := (∀ i j, i < j → j < l.length → key l i < key l j) ∧ ∀ i, i < l.length → 0 ≤ key l i ∧ key l i ≤ 1099511627776 ∧ ((rd_T52 l (i : Int)).f2 = true → ((rd_T52 l (i : Int)).f1).toList = [])
theorem behind_eq (l : List S52) (x : Int) (hr : Rt l) (n : Nat) (hn : n ≤ l.length) (h1 : ∀ i, i < n → key l i ≤ x) (h2 : ∀ i, n ≤ i → i < l.length → x < key l i) : behindN l x = n := by
  unfold behindN
  by_cases c : 0 < n ∧ key l (n - 1) = x
  · have e : srch l x = n - 1 := srch_eq l x (n - 1) (by omega) (fun i hi => by have := hr.1 i (n - 1) hi (by omega); omega) (fun i hi hl => by
      by_cases c2 : i = n - 1
      · subst c2; omega
      · have := h2 i (by omega) hl; omega)
    have f : fnd l x = true := by
      unfold fnd
      rw [e]
      exact decide_eq_true ⟨by omega, (cmp_eq _ _).2 c.2⟩
    rw [f, if_pos rfl, e]; omega
  · have e : srch l x = n := srch_eq l x n hn (fun i hi => by
      by_cases c2 : i = n - 1
      · subst c2
        have := h1 (n - 1) hi
        have : key l (n - 1) ≠ x := fun h => c ⟨by omega, h⟩
        omega
      · have a := hr.1 i (n - 1) (by omega) (by omega)
        have b := h1 (n - 1) (by omega)
        omega) (fun i hi hl => by have := h2 i hi hl; omega)
    have f : fnd l x = false := by
      unfold fnd
      rw [e]
      refine decide_eq_false ?_
      rintro ⟨ha, hb⟩
      have := (cmp_eq _ _).1 hb
      have h := h2 n (Nat.le_refl _) ha
      unfold key at h
      omega
    rw [f, e]; rfl
def atN (l : List S52) (n : Nat) : ByteArray × Bool := if n = 0 then (⟨#[]⟩, false) else if (rd_T52 l ((n - 1 : Nat) : Int)).f2 = true then (⟨#[]⟩, false) else ((rd_T52 l ((n - 1 : Nat) : Int)).f1, true)
theorem at_of (l : List S52) (x : Int) (n : Nat) (hl : l.length < 4611686018427387904) (hn : n ≤ l.length) (hb : behindN l x = n) : chain_Chain_At.f l x = some (atN l n) := by
  unfold chain_Chain_At.f chain_Chain_behind.f atN
  rw [if_pos hl, hb]
  simp only [Option.bind_some]
  by_cases c : n = 0
  · rw [if_pos (by omega), if_pos c]
  · rw [if_neg (by omega), if_neg c, w64 (by omega) (by omega), show (n : Int) - 1 = ((n - 1 : Nat) : Int) from by omega, if_pos (by omega), if_pos (by omega)]
    by_cases g : (rd_T52 l ((n - 1 : Nat) : Int)).f2 = true
    · rw [if_pos g, if_pos g]
    · rw [if_neg g, if_neg g]
theorem rd_left (l : List S52) (v : S52) (i : Nat) (h : i < l.length) : rd_T52 (l ++ [v]) (i : Int) = rd_T52 l (i : Int) := by
  unfold rd_T52
  simp only [Int.toNat_natCast, List.getD_eq_getElem?_getD]
  rw [List.getElem?_append_left h]
theorem rd_right (l : List S52) (v : S52) : rd_T52 (l ++ [v]) (l.length : Int) = v := by
  unfold rd_T52
  simp [List.getD_eq_getElem?_getD]
theorem lastI_eq (l : List S52) : lastI l = if l.length = 0 then -1 else key l (l.length - 1) := rfl
theorem rt_snoc (l : List S52) (v : S52) (h : Rt l) (h0 : lastI l < v.f0) (h1 : 0 ≤ v.f0) (h2 : v.f0 ≤ 1099511627776) (h3 : v.f2 = true → v.f1.toList = []) : Rt (l ++ [v]) := by
  have hl : (l ++ [v]).length = l.length + 1 := by simp
  refine ⟨fun i j hij hj => ?_, fun i hi => ?_⟩
  · rw [hl] at hj
    have ki : key (l ++ [v]) i = key l i := by unfold key; rw [rd_left l v i (by omega)]
    rw [ki]
    by_cases c : j = l.length
    · subst c
      have : key (l ++ [v]) l.length = v.f0 := by unfold key; rw [rd_right]
      rw [this]
      rw [lastI_eq, if_neg (by omega)] at h0
      by_cases c2 : i = l.length - 1
      · subst c2; exact h0
      · have := h.1 i (l.length - 1) (by omega) (by omega); omega
    · have kj : key (l ++ [v]) j = key l j := by unfold key; rw [rd_left l v j (by omega)]
      rw [kj]
      exact h.1 i j hij (by omega)
  · rw [hl] at hi
    unfold key
    by_cases c : i = l.length
    · subst c; rw [rd_right]; exact ⟨h1, h2, h3⟩
    · rw [rd_left l v i (by omega)]; exact h.2 i (by omega)
theorem rt_nil : Rt [] := ⟨fun _ _ _ h => absurd h (Nat.not_lt_zero _), fun _ h => absurd h (Nat.not_lt_zero _)⟩
theorem right_l0 (l : List S52) (hl : l.length < 4611686018427387904) (hr : Rt l) : ∀ (d i : Nat) (last : Int), i + d = l.length → (∀ j, i ≤ j → j < l.length → last < key l j) →
    Ev (fun k => chain_Chain_Right.l0 k last l (l.length : Int) (i : Int)) true := by
  intro d
  induction d with
  | zero =>
    intro i last hd _
    refine Ev.step (fun k => by simp only [chain_Chain_Right.l0]; rfl) ?_
    exact ev_neg (by omega) (Ev.now _)
  | succ d ih =>
    intro i last hd hlast
    refine Ev.step (fun k => by simp only [chain_Chain_Right.l0]; rfl) ?_
    have a := hlast i (Nat.le_refl _) (by omega)
    have b := hr.2 i (by omega)
    unfold key at a b
    refine ev_pos (by omega) (ev_pos (by omega) (ev_pos (by omega) (ev_neg (by omega) (ev_neg (by omega) ?_))))
    have go : Ev (fun k => chain_Chain_Right.l0 k ((rd_T52 l (i : Int)).f0) l (l.length : Int) (wrap64 ((i : Int) + 1))) true := by
      rw [w64 (by omega) (by omega), show (i : Int) + 1 = ((i + 1 : Nat) : Int) from by omega]
      exact ih (i + 1) _ (by omega) (fun j hj hjl => hr.1 i j (by omega) hjl)
    by_cases g : (rd_T52 l (i : Int)).f2 = true
    · exact ev_pos g (ev_pos (b.2.2 g) go)
    · exact ev_neg g go
theorem right_ev (l : List S52) (hl : l.length < 4611686018427387904) (hr : Rt l) : Ev (fun k => chain_Chain_Right.f k l) true := by
  unfold chain_Chain_Right.f
  refine right_l0 l hl hr l.length 0 (-1) (by omega) (fun j _ hj => by have := (hr.2 j hj).1; omega)
theorem last_of (l : List S52) (v : S52) (hl : l.length + 1 < 4611686018427387904) : chain_Chain_Last.f (l ++ [v]) = some v.f0 := by
  rw [last_eq _ (by simp; omega), lastI_eq, if_neg (by simp)]
  unfold key
  simp only [List.length_append, List.length_singleton, Nat.add_sub_cancel]
  rw [rd_right]
theorem put_of (l : List S52) (q : Int) (s : ByteArray) (g : Bool) (hl : l.length < 4398046511103) (h0 : lastI l < q) (h1 : 0 ≤ q) (h2 : q ≤ 1099511627776) (h3 : g = true → s.toList = []) : chain_Chain_Put.f l q s g = some (l ++ [⟨q, s, g⟩], 0) := by
  unfold chain_Chain_Put.f
  rw [if_pos hl, if_neg]
  unfold badV
  cases g with
  | false => simp; omega
  | true => simp [h3 rfl]; omega
theorem head_ev : Ev (fun k => mailbaglaw07_head.f k) true := by
  unfold mailbaglaw07_head.f
  refine ev_some ?_
  have hr : Rt [(⟨1, (⟨#[97]⟩ : ByteArray), false⟩ : S52), (⟨4, (⟨#[]⟩ : ByteArray), true⟩ : S52), (⟨6, (⟨#[98]⟩ : ByteArray), false⟩ : S52)] := by
    refine rt_snoc [_, _] _ (rt_snoc [_] _ (rt_snoc [] _ rt_nil ?_ ?_ ?_ ?_) ?_ ?_ ?_ ?_) ?_ ?_ ?_ ?_ <;> simp [lastI, rd_T52]
  generalize e : [(⟨1, (⟨#[97]⟩ : ByteArray), false⟩ : S52), (⟨4, (⟨#[]⟩ : ByteArray), true⟩ : S52), (⟨6, (⟨#[98]⟩ : ByteArray), false⟩ : S52)] = l at hr
  have hl : l.length = 3 := by rw [← e]; rfl
  have hb : behindN l 5 = (2 : Nat) := by
    refine behind_eq l 5 hr 2 (by omega) (fun i hi => ?_) (fun i hi hil => ?_)
    · subst e
      have : i = 0 ∨ i = 1 := by omega
      rcases this with rfl | rfl <;> decide
    · subst e
      have : i = 2 := by omega
      subst this; decide
  have g2 : rd_T52 l 1 = ⟨4, ⟨#[]⟩, true⟩ := by subst e; rfl
  refine Ev.congr (fun k => by rw [at_of l 5 2 (by omega) (by omega) hb]) (ev_some ?_)
  have hc : chain_Chain_Cut.f l 5 = some (l.drop 2) := by
    unfold chain_Chain_Cut.f cutN
    rw [if_pos (by omega), hb, show ((2 : Nat) : Int) - 1 = 1 from rfl, g2]
    rfl
  refine Ev.congr (fun k => by rw [hc]) (ev_some ?_)
  have e2 : atN l 2 = (⟨#[]⟩, false) := by
    unfold atN
    rw [if_neg (by omega), show ((2 - 1 : Nat) : Int) = 1 from rfl, g2]
    rfl
  rw [e2]
  have e3 : l.drop 2 = [(⟨6, (⟨#[98]⟩ : ByteArray), false⟩ : S52)] := by subst e; rfl
  rw [e3]
  refine ev_neg (by decide) (ev_pos (by decide) (ev_pos (by decide) (ev_pos (by decide) (ev_bind (right_ev l (by omega) hr) (ev_pos rfl ?_)))))
  have e4 : chain_Chain_Last.f l = some 6 := by
    subst e
    exact last_of [_, _] _ (by decide)
  refine Ev.congr (f := fun _ => some true) (fun k => by rw [e4]; rfl) (Ev.now _)
end Go.Proofs.Ytcoollbcnpmlfaa.ChP
