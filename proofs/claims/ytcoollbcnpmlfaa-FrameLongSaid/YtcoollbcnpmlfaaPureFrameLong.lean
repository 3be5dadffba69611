/- FrameLong: texts as long as may be, and longer. Proved for every input; no condition. This text: the plain half. -/
import Derived.Test.YtcoollbcnpmlfaaPx3
import Derived.Test.YtcoollbcnpmlfaaFrEv
set_option linter.unusedVariables false
set_option linter.unusedSimpArgs false
namespace Go.Proofs.Ytcoollbcnpmlfaa.Pure
open Go.RowKit Go.Proofs.Ytcoollbcnpmlfaa.P Go.Proofs.YtcoollbcnpmlfaaW.PrintWords Go.Proofs.YtcoollbcnpmlfaaW.PrintLast
open Go.Proofs.Ytcoollbcnpmlfaa.Fr Go.Proofs.Ytcoollbcnpmlfaa.FrEv

theorem and_15l (a : Int) : ∃ m : Nat, Go.bits .and .i64 a 15 = (m : Int) ∧ m ≤ 15 := by
  have h : (BitVec.ofInt 64 a &&& 15#64).toNat ≤ 15 := by
    rw [BitVec.toNat_and]
    exact Nat.and_le_right
  refine ⟨(BitVec.ofInt 64 a &&& 15#64).toNat, ?_, h⟩
  show IntKind.i64.wrap ((BitVec.ofInt 64 a &&& BitVec.ofInt 64 15).toNat : Int) = _
  rw [show BitVec.ofInt 64 15 = 15#64 from rfl, IntKind.wrap_i64]
  omega
theorem noughts (n : Nat) : strOfNums (List.replicate n 0) = B (List.replicate n 0) := by
  unfold strOfNums B
  rw [List.map_replicate]
  rfl

theorem FrameLong : mailbaglaw05_FrameLong.Pure := by
  intro a0 _
  apply Ev.rounds
  unfold mailbaglaw05_FrameLong.f
  refine ev_bind head_ev (ev_pos rfl ?_)
  obtain ⟨m, e, hm⟩ := and_15l a0
  have e1 : wrap64 (262136 + (m : Int)) = ((262136 + m : Nat) : Int) := by rw [w64 (by omega) (by omega)]; omega
  rw [e, e1, show (((262136 + m : Nat) : Int)).toNat = 262136 + m from by omega]
  refine ev_pos (by omega) (ev_pos (by omega) ?_)
  rw [noughts]
  by_cases c : m > 8
  · refine ev_bind (put_long _ (by rw [List.length_replicate]; omega)) (ev_pos (by omega) (ev_pos rfl ?_))
    simp only [B_toList, BEq.rfl]
    exact Ev.now _
  · refine ev_bind (put_ev _ (by rw [List.length_replicate]; omega)) (ev_neg (by omega) (ev_pos rfl (ev_pos ?_ (ev_pos (by omega) (ev_pos ?_ ?_)))))
    · simp only [B_size]
      rw [frame_length, List.length_replicate, w64 (by omega) (by omega)]; omega
    · simp only [B_size]
      rw [frame_length]; omega
    · rw [show ((262136 + m : Nat) : Int) % 4294967296 = ((262136 + m : Nat) : Int) from by omega, lfour_eq _ (by omega)]
      refine ev_some ?_
      simp only [B_upto, B_toList]
      have : (frame (List.replicate (262136 + m) 0)).take 4 = four (262136 + m) := by
        unfold frame
        rw [List.length_replicate]
        simp only [List.append_assoc]
        exact List.take_left' rfl
      rw [this]
      simp only [BEq.rfl]
      exact Ev.now _
end Go.Proofs.Ytcoollbcnpmlfaa.Pure
