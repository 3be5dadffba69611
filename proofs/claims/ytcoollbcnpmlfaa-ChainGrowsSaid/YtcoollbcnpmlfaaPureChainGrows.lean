/- ChainGrows: a chain that grows by rising commits answers by its last version. Proved for every input; no condition. This text: the plain half. -/
import Derived.Test.YtcoollbcnpmlfaaCx11
import Derived.Test.YtcoollbcnpmlfaaChP
set_option linter.unusedVariables false
set_option linter.unusedSimpArgs false
namespace Go.Proofs.Ytcoollbcnpmlfaa.Pure
open Go.RowKit Go.Proofs.Ytcoollbcnpmlfaa.C Go.Proofs.YtcoollbcnpmlfaaW.PrintWords Go.Proofs.YtcoollbcnpmlfaaW.PrintLast
open Go.Proofs.Ytcoollbcnpmlfaa.Ev0 (ev_pos ev_neg ev_bind ev_some w64)
open Go.Proofs.Ytcoollbcnpmlfaa.ChP

theorem and_7 (a : Int) : ∃ m : Nat, Go.bits .and .i64 a 7 = (m : Int) ∧ m ≤ 7 := by
  have h : (BitVec.ofInt 64 a &&& 7#64).toNat ≤ 7 := by
    rw [BitVec.toNat_and]
    exact Nat.and_le_right
  refine ⟨(BitVec.ofInt 64 a &&& 7#64).toNat, ?_, h⟩
  show IntKind.i64.wrap ((BitVec.ofInt 64 a &&& BitVec.ofInt 64 7).toNat : Int) = _
  rw [show BitVec.ofInt 64 7 = 7#64 from rfl, IntKind.wrap_i64]
  omega
theorem emp : (⟨#[]⟩ : ByteArray).toList = [] := by rw [ByteArray.toList_eq]
theorem shift_ok (x : Int) : 0 ≤ IntKind.u64.wrap x := by
  rw [show IntKind.u64.wrap x = x % 18446744073709551616 from rfl]
  omega
theorem grows_j1 (gs : List Int) (gone : Int) (hg : gs.length ≤ 40) (c : List S52) (i : Nat) (q : Int) (s : ByteArray) (g : Bool)
    (hi : i < gs.length) (hc : c.length = i) (hr : Rt c) (h0 : lastI c < q) (h1 : 1 ≤ q) (h2 : q ≤ 8 * (i + 1)) (h3 : g = true → s.toList = [])
    (ih : Rt (c ++ [⟨q, s, g⟩]) → Ev (fun k => mailbaglaw07_ChainGrows.l0 k gone (c ++ [⟨q, s, g⟩]) q gs (gs.length : Int) ((i + 1 : Nat) : Int)) true) :
    Ev (fun k => mailbaglaw07_ChainGrows.j1 k gone c q (i : Int) gs (gs.length : Int) (i : Int) q s g) true := by
  refine Ev.step (fun k => by simp only [mailbaglaw07_ChainGrows.j1]; rfl) ?_
  have hr' : Rt (c ++ [⟨q, s, g⟩]) := rt_snoc c ⟨q, s, g⟩ hr h0 (show 0 ≤ q by omega) (show q ≤ _ by omega) h3
  refine Ev.congr (fun k => by rw [put_of c q s g (by omega) h0 (by omega) (by omega) h3]) (ev_some ?_)
  refine ev_pos rfl (ev_pos ?_ ?_)
  · simp only [List.length_append, List.length_singleton]
    rw [w64 (by omega) (by omega), hc]; omega
  refine Ev.congr (fun k => by rw [last_of c ⟨q, s, g⟩ (by omega)]) (ev_some ?_)
  refine Ev.step (fun k => by simp only [mailbaglaw07_ChainGrows.j2]; rfl) ?_
  have hl' : (c ++ [(⟨q, s, g⟩ : S52)]).length = i + 1 := by simp [hc]
  have kk : ∀ j, j < i → key (c ++ [(⟨q, s, g⟩ : S52)]) j = key c j := fun j hj => by unfold key; rw [rd_left c _ j (by omega)]
  have kl : key (c ++ [(⟨q, s, g⟩ : S52)]) i = q := by unfold key; rw [← hc, rd_right]
  have ks : ∀ j, j < i → key c j < q := fun j hj => by
    have := hr'.1 j i hj (by omega)
    rw [kk j hj, kl] at this; exact this
  have b1 : behindN (c ++ [(⟨q, s, g⟩ : S52)]) q = ((i + 1 : Nat) : Int) := behind_eq _ q hr' (i + 1) (by omega) (fun j hj => by
      by_cases e : j = i
      · subst e; omega
      · rw [kk j (by omega)]; have := ks j (by omega); omega) (fun j hj hjl => by omega)
  have b2 : behindN (c ++ [(⟨q, s, g⟩ : S52)]) (q - 1) = (i : Int) := behind_eq _ _ hr' i (by omega) (fun j hj => by
      rw [kk j hj]; have := ks j hj; omega) (fun j hj hjl => by
      have : j = i := by omega
      subst this; omega)
  have b3 : behindN c (q - 1) = (i : Int) := behind_eq _ _ hr i (by omega) (fun j hj => by have := ks j hj; omega) (fun j hj hjl => by omega)
  have w1 : wrap64 (q - 1) = q - 1 := w64 (by omega) (by omega)
  rw [w1]
  refine ev_neg (by simp) ?_
  refine Ev.congr (fun k => by rw [at_of _ q (i + 1) (by omega) (by omega) b1]) (ev_some ?_)
  refine Ev.congr (fun k => by rw [at_of _ (q - 1) i (by omega) (by omega) b2]) (ev_some ?_)
  refine Ev.congr (fun k => by rw [at_of c (q - 1) i (by omega) (by omega) b3]) (ev_some ?_)
  have e1 : atN (c ++ [(⟨q, s, g⟩ : S52)]) (i + 1) = if g = true then (⟨#[]⟩, false) else (s, true) := by
    unfold atN
    rw [if_neg (by omega), Nat.add_sub_cancel, ← hc, rd_right]
  have e2 : atN (c ++ [(⟨q, s, g⟩ : S52)]) i = atN c i := by
    unfold atN
    by_cases z : i = 0
    · rw [if_pos z, if_pos z]
    · rw [if_neg z, if_neg z, rd_left c _ (i - 1) (by omega)]
  rw [e1, e2]
  have e3 : wrap64 ((i : Int) + 1) = ((i + 1 : Nat) : Int) := by rw [w64 (by omega) (by omega)]; omega
  rw [e3]
  cases g with
  | true =>
    refine ev_neg (by simp) (ev_pos ?_ (ev_pos rfl (ev_neg (by simp) (ih hr'))))
    rw [if_pos rfl, h3 rfl]; exact emp
  | false =>
    refine ev_neg (by simp) (ev_pos rfl (ev_pos rfl (ev_neg (by simp) (ih hr'))))
theorem grows_l0 (gs : List Int) (gone : Int) (hg : gs.length ≤ 40) : ∀ (d i : Nat) (c : List S52) (q : Int), i + d = gs.length → c.length = i → Rt c → 0 ≤ q → lastI c ≤ q → q ≤ 8 * i →
    Ev (fun k => mailbaglaw07_ChainGrows.l0 k gone c q gs (gs.length : Int) (i : Int)) true := by
  intro d
  induction d with
  | zero =>
    intro i c q hd hc hr _ _ _
    refine Ev.step (fun k => by simp only [mailbaglaw07_ChainGrows.l0]; rfl) ?_
    exact ev_neg (by omega) (ev_bind (right_ev c (by omega) hr) (Ev.now _))
  | succ d ih =>
    intro i c q hd hc hr h0 h1 h2
    refine Ev.step (fun k => by simp only [mailbaglaw07_ChainGrows.l0]; rfl) ?_
    refine ev_pos (by omega) (ev_pos (by omega) (ev_pos (by omega) (ev_pos (shift_ok _) ?_)))
    obtain ⟨m, em, hm⟩ := and_7 (rd gs (i : Int))
    have e : wrap64 (q + wrap64 (1 + (m : Int))) = q + 1 + m := by rw [w64 (x := 1 + (m : Int)) (by omega) (by omega), w64 (by omega) (by omega)]; omega
    rw [em, e]
    have nxt : ∀ s g, (g = true → s.toList = []) → Ev (fun k => mailbaglaw07_ChainGrows.j1 k gone c (q + 1 + m) (i : Int) gs (gs.length : Int) (i : Int) (q + 1 + m) s g) true := by
      intro s g hs
      refine grows_j1 gs gone hg c i _ s g (by omega) hc hr (by omega) (by omega) (by omega) hs (fun hr' => ?_)
      refine ih (i + 1) _ _ (by omega) (by simp [hc]) hr' (by omega) ?_ (by omega)
      rw [lastI_eq, if_neg (by simp)]
      unfold key
      simp only [List.length_append, List.length_singleton, Nat.add_sub_cancel]
      rw [rd_right]
      exact Int.le_refl _
    by_cases z : Go.bits .and .i64 (shr .i64 gone (IntKind.u64.wrap (Go.bits .and .i64 (i : Int) 31))) 1 = 1
    · exact ev_pos z (nxt _ _ (fun _ => emp))
    · exact ev_neg z (nxt _ _ (fun h => by cases h))
theorem ChainGrows : mailbaglaw07_ChainGrows.Pure := by
  intro l0 a1 _ _ _ _
  apply Ev.rounds
  unfold mailbaglaw07_ChainGrows.f
  refine ev_bind head_ev (ev_pos rfl ?_)
  by_cases c : (l0.length : Int) > 40
  · exact ev_pos c (Ev.now _)
  · refine ev_neg c ?_
    exact grows_l0 l0 a1 (by omega) l0.length 0 [] 0 (by omega) rfl rt_nil (by omega) (by decide) (by omega)
end Go.Proofs.Ytcoollbcnpmlfaa.Pure
