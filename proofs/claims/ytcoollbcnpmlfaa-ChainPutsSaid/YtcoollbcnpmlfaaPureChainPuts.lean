/- ChainPuts: what Put answers, for right chains of at most 60 versions. Proved for every input; no condition. This text: the plain half. -/
import Derived.Test.YtcoollbcnpmlfaaCq0
import Derived.Test.YtcoollbcnpmlfaaChP
set_option linter.unusedVariables false
set_option linter.unusedSimpArgs false
namespace Go.Proofs.Ytcoollbcnpmlfaa.Pure
open Go.RowKit Go.Proofs.Ytcoollbcnpmlfaa.C Go.Proofs.YtcoollbcnpmlfaaW.PrintWords Go.Proofs.YtcoollbcnpmlfaaW.PrintLast
open Go.Proofs.Ytcoollbcnpmlfaa.Ev0 (ev_pos ev_neg ev_bind ev_some w64)
open Go.Proofs.Ytcoollbcnpmlfaa.ChP

def Adj (l : List S52) (n : Nat) : Prop :=
  (∀ i, i < n → 0 ≤ key l i ∧ key l i ≤ 1099511627776 ∧ ((rd_T52 l (i : Int)).f2 = true → ((rd_T52 l (i : Int)).f1).toList = [])) ∧ ∀ j, 0 < j → j < n → key l (j - 1) < key l j
theorem adj_rt (l : List S52) (h : Adj l l.length) : Rt l := by
  refine ⟨?_, h.1⟩
  have : ∀ d i, i + d + 1 < l.length → key l i < key l (i + d + 1) := by
    intro d
    induction d with
    | zero => intro i hi; exact h.2 (i + 1) (by omega) hi
    | succ d ih =>
      intro i hi
      have a := ih i (by omega)
      have b := h.2 (i + (d + 1) + 1) (by omega) hi
      rw [show i + (d + 1) + 1 - 1 = i + d + 1 from by omega] at b
      omega
  intro i j hij hj
  have := this (j - i - 1) i (by omega)
  rw [show i + (j - i - 1) + 1 = j from by omega] at this
  exact this
theorem lright_l0 (l : List S52) (hl : l.length ≤ 60) : ∀ (d i : Nat), i + d = l.length → Adj l i →
    ∃ b, Ev (fun k => mailbaglaw07_right.l0 k l l (l.length : Int) (i : Int)) b ∧ (b = true → Rt l) := by
  intro d
  induction d with
  | zero =>
    intro i hd ha
    refine ⟨true, Ev.step (fun k => by simp only [mailbaglaw07_right.l0]; rfl) (ev_neg (by omega) (Ev.now _)), fun _ => adj_rt l ?_⟩
    rw [← show i = l.length from by omega]; exact ha
  | succ d ih =>
    intro i hd ha
    have no : ∀ {f : Nat → Option Bool}, Ev f false → ∃ b, Ev f b ∧ (b = true → Rt l) := fun h => ⟨false, h, fun h => by cases h⟩
    have e1 : wrap64 ((i : Int) + 1) = ((i + 1 : Nat) : Int) := by rw [w64 (by omega) (by omega)]; omega
    by_cases c1 : (rd_T52 l (i : Int)).f0 < 0
    · exact no (Ev.step (fun k => by simp only [mailbaglaw07_right.l0]; rfl) (ev_pos (by omega) (ev_pos (by omega) (ev_pos (by omega) (ev_pos c1 (Ev.now _))))))
    by_cases c2 : (rd_T52 l (i : Int)).f0 > 1099511627776
    · exact no (Ev.step (fun k => by simp only [mailbaglaw07_right.l0]; rfl) (ev_pos (by omega) (ev_pos (by omega) (ev_pos (by omega) (ev_neg c1 (ev_pos c2 (Ev.now _)))))))
    have hub : ∀ b, Ev (fun k => if (rd_T52 l (i : Int)).f2 = true then (if ((rd_T52 l (i : Int)).f1).toList = ([] : List UInt8) then (mailbaglaw07_right.l0 k l l (l.length : Int) (wrap64 ((i : Int) + 1))) else (some false)) else (mailbaglaw07_right.l0 k l l (l.length : Int) (wrap64 ((i : Int) + 1)))) b →
        (0 < i → key l (i - 1) < key l i) → Ev (fun k => mailbaglaw07_right.l0 k l l (l.length : Int) (i : Int)) b := by
      intro b hb hk
      refine Ev.step (fun k => by simp only [mailbaglaw07_right.l0]; rfl) ?_
      refine ev_pos (by omega) (ev_pos (by omega) (ev_pos (by omega) (ev_neg c1 (ev_neg c2 ?_))))
      by_cases z : i = 0
      · exact ev_neg (by omega) hb
      · have hk' := hk (by omega)
        unfold key at hk'
        refine ev_pos (by omega) ?_
        rw [w64 (x := (i : Int) - 1) (by omega) (by omega), show (i : Int) - 1 = ((i - 1 : Nat) : Int) from by omega]
        exact ev_pos (by omega) (ev_pos (by omega) (ev_neg (by omega) hb))
    by_cases c3 : 0 < i ∧ key l (i - 1) ≥ key l i
    · refine no (Ev.step (fun k => by simp only [mailbaglaw07_right.l0]; rfl) (ev_pos (by omega) (ev_pos (by omega) (ev_pos (by omega) (ev_neg c1 (ev_neg c2 (ev_pos (by omega) ?_)))))))
      have h3 := c3.2
      unfold key at h3
      rw [w64 (x := (i : Int) - 1) (by omega) (by omega), show (i : Int) - 1 = ((i - 1 : Nat) : Int) from by omega]
      exact ev_pos (by omega) (ev_pos (by omega) (ev_pos h3 (Ev.now _)))
    have hk : 0 < i → key l (i - 1) < key l i := fun h => Int.not_le.1 (fun g => c3 ⟨h, g⟩)
    have nxt : ((rd_T52 l (i : Int)).f2 = true → ((rd_T52 l (i : Int)).f1).toList = []) → ∃ b, Ev (fun k => mailbaglaw07_right.l0 k l l (l.length : Int) (wrap64 ((i : Int) + 1))) b ∧ (b = true → Rt l) := by
      intro hg
      rw [e1]
      refine ih (i + 1) (by omega) ⟨fun j hj => ?_, fun j h0 hj => ?_⟩
      · by_cases z : j = i
        · subst z; unfold key; exact ⟨by omega, by omega, hg⟩
        · exact ha.1 j (by omega)
      · by_cases z : j = i
        · subst z; exact hk h0
        · exact ha.2 j h0 (by omega)
    by_cases g : (rd_T52 l (i : Int)).f2 = true
    · by_cases c4 : ((rd_T52 l (i : Int)).f1).toList = ([] : List UInt8)
      · obtain ⟨b, hb, hr⟩ := nxt (fun _ => c4)
        exact ⟨b, hub b (ev_pos g (ev_pos c4 hb)) hk, hr⟩
      · exact no (hub false (ev_pos g (ev_neg c4 (Ev.now _))) hk)
    · obtain ⟨b, hb, hr⟩ := nxt (fun h => absurd h g)
      exact ⟨b, hub b (ev_neg g hb) hk, hr⟩
theorem puts_l0 (l : List S52) (hl : l.length ≤ 60) (q : Int) (s : ByteArray) (g : Bool) : ∀ (d i : Nat), i + d = l.length →
    Ev (fun k => mailbaglaw07_ChainPuts.l0 k l (l.length : Int) (l ++ [⟨q, s, g⟩]) (l ++ [⟨q, ⟨#[111, 116, 104, 101, 114]⟩, false⟩]) 0 (l.length : Int) (i : Int) q s g) true := by
  intro d
  induction d with
  | zero =>
    intro i hd
    refine Ev.step (fun k => by simp only [mailbaglaw07_ChainPuts.l0]; rfl) ?_
    refine ev_neg (by omega) (ev_pos (by first | rfl | trivial) (ev_pos (by omega) (ev_pos (by simp; omega) (ev_pos ?_ (ev_pos (by simp; omega) (ev_pos ?_ ?_))))))
    · rw [rd_right]; simp
    · rw [rd_right, ByteArray.toList_eq]
    · simp only [BEq.rfl]; exact Ev.now _
  | succ d ih =>
    intro i hd
    refine Ev.step (fun k => by simp only [mailbaglaw07_ChainPuts.l0]; rfl) ?_
    refine ev_pos (by omega) (ev_pos (by omega) (ev_pos (by simp; omega) (ev_pos (by omega) (ev_neg ?_ ?_))))
    · rw [rd_left _ _ i (by omega)]; simp
    · rw [w64 (by omega) (by omega), show (i : Int) + 1 = ((i + 1 : Nat) : Int) from by omega]
      exact ih (i + 1) (by omega)
theorem bad_iff (l : List S52) (q : Int) (s : ByteArray) (g : Bool) : badV l q s g = false ↔ lastI l < q ∧ 0 ≤ q ∧ q ≤ 1099511627776 ∧ (g = true → s.toList = []) := by
  unfold badV
  cases g with
  | false => simp; omega
  | true =>
    by_cases z : s.toList = []
    · simp [z]; omega
    · simp [z]
theorem puts_j1 (l : List S52) (hl : l.length ≤ 60) (hr : Rt l) (q : Int) (s : ByteArray) (g : Bool) :
    Ev (fun k => (chain_Chain_Put.f l q s g).bind fun bt => mailbaglaw07_ChainPuts.j1 k l (l.length : Int) bt.1 bt.2 (!badV l q s g) q s g) true := by
  cases hb : badV l q s g with
  | true =>
    refine Ev.congr (f := fun k => mailbaglaw07_ChainPuts.j1 k l (l.length : Int) [] 1 (!true) q s g) (fun k => by unfold chain_Chain_Put.f; rw [if_pos (by omega), if_pos hb]; rfl) ?_
    refine Ev.step (fun k => by simp only [mailbaglaw07_ChainPuts.j1]; rfl) ?_
    exact ev_neg (by decide) (ev_pos (by first | rfl | trivial) (Ev.now _))
  | false =>
    have hg := (bad_iff l q s g).1 hb
    have hp := put_of l q s g (by omega) hg.1 hg.2.1 hg.2.2.1 hg.2.2.2
    have ho := put_of l q ⟨#[111, 116, 104, 101, 114]⟩ false (by omega) hg.1 hg.2.1 hg.2.2.1 (fun h => by cases h)
    have hr' : Rt (l ++ [⟨q, s, g⟩]) := rt_snoc l ⟨q, s, g⟩ hr hg.1 hg.2.1 hg.2.2.1 hg.2.2.2
    refine Ev.congr (fun k => by rw [hp]) (ev_some ?_)
    refine Ev.step (fun k => by simp only [mailbaglaw07_ChainPuts.j1]; rfl) ?_
    refine ev_pos (by first | rfl | trivial) (ev_pos (by first | rfl | trivial) (ev_pos ?_ (ev_pos (by omega) (ev_pos (by simp; omega) (ev_neg ?_ (ev_bind (right_ev _ (by simp; omega) hr') ?_))))))
    · rw [w64 (by omega) (by omega)]; simp
    · rw [rd_right]; simp
    · refine Ev.step (fun k => by simp only [mailbaglaw07_ChainPuts.j2]; rfl) ?_
      refine ev_neg (by decide) ?_
      refine Ev.congr (fun k => by rw [ho]) (ev_some ?_)
      exact puts_l0 l hl q s g l.length 0 (by omega)
theorem ChainPuts (l : List S52) (q : Int) (s : ByteArray) (g : Bool) : ∃ k, mailbaglaw07_ChainPuts.f k l q s g = some true := by
  apply Ev.rounds
  unfold mailbaglaw07_ChainPuts.f
  refine ev_bind head_ev (ev_pos (by first | rfl | trivial) ?_)
  have yes : Ev (fun k => mailbaglaw07_ChainPuts.j0 k l true q s g) true := by
    refine Ev.step (fun k => by simp only [mailbaglaw07_ChainPuts.j0]; rfl) ?_
    exact ev_pos (by first | rfl | trivial) (Ev.now _)
  by_cases c : (l.length : Int) > 60
  · exact ev_pos c yes
  refine ev_neg c ?_
  obtain ⟨b, hb, hr⟩ := lright_l0 l (by omega) l.length 0 (by omega) ⟨fun _ h => absurd h (Nat.not_lt_zero _), fun _ _ h => absurd h (Nat.not_lt_zero _)⟩
  refine ev_bind (show Ev (fun k => mailbaglaw07_right.f k l) b from hb) ?_
  cases b with
  | false => exact yes
  | true =>
    have hr := hr rfl
    have j := puts_j1 l (by omega) hr q s g
    refine Ev.step (fun k => by simp only [mailbaglaw07_ChainPuts.j0]; rfl) ?_
    refine ev_neg (by decide) ?_
    refine Ev.congr (fun k => ?_) j
    cases hp : chain_Chain_Put.f l q s g with
    | none => rfl
    | some bt =>
      simp only [Option.bind_some]
      have hbad : badV l q s g = true ↔ ¬ (lastI l < q ∧ 0 ≤ q ∧ q ≤ 1099511627776 ∧ (g = true → s.toList = [])) := by
        rw [← bad_iff]; simp
      by_cases c1 : q ≥ 0
      · rw [if_pos c1]
        by_cases c2 : q ≤ 1099511627776
        · rw [if_pos c2]
          have fin : (lastI l < q) → (if g = true then (mailbaglaw07_ChainPuts.j1 k l (l.length : Int) bt.1 bt.2 (!(s.toList != ([] : List UInt8))) q s g) else (mailbaglaw07_ChainPuts.j1 k l (l.length : Int) bt.1 bt.2 (!false) q s g)) = mailbaglaw07_ChainPuts.j1 k l (l.length : Int) bt.1 bt.2 (!badV l q s g) q s g := by
            intro hlt
            cases g with
            | false =>
              rw [if_neg (by decide), (bad_iff l q s false).2 ⟨hlt, c1, c2, fun h => by cases h⟩]
            | true =>
              rw [if_pos rfl]
              congr 1
              by_cases z : s.toList = []
              · rw [(bad_iff l q s true).2 ⟨hlt, c1, c2, fun _ => z⟩, z]; rfl
              · rw [hbad.2 (fun h => z (h.2.2.2 rfl))]
                simp [z]
          by_cases c3 : l.length = 0
          · rw [if_pos (by omega)]
            exact fin (by rw [lastI_eq, if_pos c3]; omega)
          · rw [if_neg (by omega), w64 (x := (l.length : Int) - 1) (by omega) (by omega), show (l.length : Int) - 1 = ((l.length - 1 : Nat) : Int) from by omega, if_pos (by omega), if_pos (by omega)]
            have e : lastI l = (rd_T52 l ((l.length - 1 : Nat) : Int)).f0 := by rw [lastI_eq, if_neg c3]; rfl
            by_cases c4 : q > (rd_T52 l ((l.length - 1 : Nat) : Int)).f0
            · rw [if_pos c4]; exact fin (by omega)
            · rw [if_neg c4, hbad.2 (fun h => by omega)]; rfl
        · rw [if_neg c2, hbad.2 (fun h => by omega)]; rfl
      · rw [if_neg c1, hbad.2 (fun h => by omega)]; rfl
end Go.Proofs.Ytcoollbcnpmlfaa.Pure
