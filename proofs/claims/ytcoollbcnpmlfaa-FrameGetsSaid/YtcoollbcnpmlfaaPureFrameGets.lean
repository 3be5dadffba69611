/- FrameGets: for any bytes, the frame at their start, just so, or none. Proved for every input; no condition. This text: the plain half. -/
import Derived.Test.YtcoollbcnpmlfaaPx2
import Derived.Test.YtcoollbcnpmlfaaFrEv
set_option linter.unusedVariables false
set_option linter.unusedSimpArgs false
namespace Go.Proofs.Ytcoollbcnpmlfaa.Pure
open Go.RowKit Go.Proofs.Ytcoollbcnpmlfaa.P Go.Proofs.YtcoollbcnpmlfaaW.PrintWords Go.Proofs.YtcoollbcnpmlfaaW.PrintLast
open Go.Proofs.Ytcoollbcnpmlfaa.Fr Go.Proofs.Ytcoollbcnpmlfaa.FrEv

theorem gets_l0 (b : List UInt8) (x : ByteArray) (hb : b.length ≤ 400) (hn : gets b = none) (hx : x = B []) : ∀ (d i : Nat), i + d = 400 →
    Ev (fun k => mailbaglaw05_FrameGets.l0 k (B b) x (i : Int)) true
  | 0, i, h => by
    subst hx
    refine Ev.step (f := fun _ => _) (fun k => by simp only [mailbaglaw05_FrameGets.l0]; rw [B_size, if_neg (by rw [w64 (by omega) (by omega)]; omega), B_toList]) ?_
    exact Ev.now _
  | d + 1, i, h => by
    have ih := gets_l0 b x hb hn hx d (i + 1) (by omega)
    by_cases c : i + 12 ≤ b.length
    · have e1 : wrap64 ((i : Int) + 12) = ((i + 12 : Nat) : Int) := by rw [w64 (by omega) (by omega)]; rfl
      have e2 : wrap64 (12 + (i : Int)) = ((12 + i : Nat) : Int) := by rw [w64 (by omega) (by omega)]; rfl
      have e3 : wrap64 ((i : Int) + 1) = ((i + 1 : Nat) : Int) := by rw [w64 (by omega) (by omega)]; rfl
      refine Ev.step (fun k => by simp only [mailbaglaw05_FrameGets.l0]; rfl) ?_
      rw [e1, e2, e3, B_size, show ((12 + i : Nat) : Int).toNat = 12 + i from by omega, B_extract, B_upto]
      refine ev_pos (by omega) (ev_pos (by omega) (ev_pos (by omega) ?_))
      have hs : ((b.take (12 + i)).drop 12).length = i := by rw [List.length_drop, List.length_take]; omega
      refine ev_bind (one_ev _ (by omega)) (ev_pos (by omega) ?_)
      rw [B_toList, B_toList]
      refine ev_neg ?_ ih
      intro hf
      have : b = frame ((b.take (12 + i)).drop 12) ++ b.drop (12 + i) := by
        rw [hf, List.take_append_drop]
      have g := gets_frame ((b.take (12 + i)).drop 12) (b.drop (12 + i)) (by omega)
      rw [← this, hn] at g
      cases g
    · subst hx
      refine Ev.step (f := fun _ => _) (fun k => by simp only [mailbaglaw05_FrameGets.l0]; rw [B_size, if_neg (by rw [w64 (by omega) (by omega)]; omega), B_toList]) ?_
      exact Ev.now _

theorem FrameGets : mailbaglaw05_FrameGets.Pure := by
  intro a0 h0
  rw [B_of a0] at h0 ⊢
  generalize a0.data.toList = b at *
  rw [B_size] at h0
  apply Ev.rounds
  unfold mailbaglaw05_FrameGets.f
  refine ev_bind head_ev (ev_pos rfl ?_)
  rw [B_size]
  by_cases c : b.length > 400
  · exact ev_pos (by omega) (Ev.now _)
  refine ev_neg (by omega) (ev_bind (get_ev b (by omega)) ?_)
  cases hg : gets b with
  | none =>
    have e : got b = (B [], 0) := by unfold got; rw [hg]
    rw [e]
    exact ev_pos rfl (gets_l0 b _ (by omega) hg rfl 400 0 (by omega))
  | some s =>
    have e : got b = (B s, ((12 + s.length : Nat) : Int)) := by unfold got; rw [hg]
    obtain ⟨h1, h2, h3⟩ := gets_some b s hg
    rw [e]
    refine ev_neg (by simp only; omega) (ev_pos (by simp only; omega) (ev_pos (by simp only; omega) (ev_bind (one_ev s h3) ?_)))
    simp only [show ((12 + s.length : Nat) : Int).toNat = 12 + s.length from by omega]
    rw [B_upto, B_toList, B_toList, h1]
    simp only [BEq.rfl]
    exact Ev.now _
end Go.Proofs.Ytcoollbcnpmlfaa.Pure
