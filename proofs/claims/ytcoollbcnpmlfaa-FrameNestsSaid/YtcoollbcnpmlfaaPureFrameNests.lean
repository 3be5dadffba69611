/- FrameNests: a frame within a frame, and so on: each is told, one in the other. Proved for every input; no condition. This text: the plain half. -/
import Derived.Test.YtcoollbcnpmlfaaPx3
import Derived.Test.YtcoollbcnpmlfaaFrEv
set_option linter.unusedVariables false
set_option linter.unusedSimpArgs false
namespace Go.Proofs.Ytcoollbcnpmlfaa.Pure
open Go.RowKit Go.Proofs.Ytcoollbcnpmlfaa.P Go.Proofs.YtcoollbcnpmlfaaW.PrintWords Go.Proofs.YtcoollbcnpmlfaaW.PrintLast
open Go.Proofs.Ytcoollbcnpmlfaa.Fr Go.Proofs.Ytcoollbcnpmlfaa.FrEv

def nest (s : List UInt8) : Nat → List UInt8
  | 0 => s
  | n + 1 => frame (nest s n)
theorem nest_length (s : List UInt8) : ∀ n, (nest s n).length = s.length + 12 * n
  | 0 => rfl
  | n + 1 => by simp only [nest]; rw [frame_length, nest_length s n]; omega
theorem nests_l1 (s : List UInt8) (x0 : ByteArray) (m : Nat) (hs : s.length ≤ 200) (hm : m ≤ 15) (hx : x0 = B s) : ∀ (d i : Nat), i + d = m →
    Ev (fun k => mailbaglaw05_FrameNests.l1 k x0 (m : Int) (B (nest s d)) (i : Int)) true
  | 0, i, h => by
    subst hx
    refine Ev.step (f := fun _ => _) (fun k => by simp only [mailbaglaw05_FrameNests.l1]; rw [if_neg (by omega), nest, B_toList]) ?_
    simp only [BEq.rfl]
    exact Ev.now _
  | d + 1, i, h => by
    have hl := nest_length s d
    have ih := nests_l1 s x0 m hs hm hx d (i + 1) (by omega)
    refine Ev.step (fun k => by simp only [mailbaglaw05_FrameNests.l1]; rfl) ?_
    refine ev_pos (by omega) (ev_bind (get_ev _ (by simp only [nest]; rw [frame_length]; omega)) ?_)
    have g := gets_frame (nest s d) [] (by omega)
    rw [List.append_nil] at g
    have e : got (nest s (d + 1)) = (B (nest s d), ((12 + (nest s d).length : Nat) : Int)) := by
      unfold got
      rw [show nest s (d + 1) = frame (nest s d) from rfl, g]
    rw [e]
    refine ev_pos (by rw [B_size, show nest s (d + 1) = frame (nest s d) from rfl, frame_length]) ?_
    rw [show wrap64 ((i : Int) + 1) = ((i + 1 : Nat) : Int) from by rw [w64 (by omega) (by omega)]; rfl]
    exact ih
theorem nests_l0 (s : List UInt8) (m : Nat) (hs : s.length ≤ 200) (hm : m ≤ 15) : ∀ (d i : Nat), i + d = m →
    Ev (fun k => mailbaglaw05_FrameNests.l0 k (B s) (m : Int) (B (nest s i)) (i : Int)) true
  | 0, i, h => by
    refine Ev.step (fun k => by simp only [mailbaglaw05_FrameNests.l0]; rw [if_neg (by omega)]) ?_
    obtain rfl : i = m := by omega
    exact nests_l1 s (B s) i hs hm rfl i 0 (by omega)
  | d + 1, i, h => by
    have hl := nest_length s i
    have ih := nests_l0 s m hs hm d (i + 1) (by omega)
    refine Ev.step (fun k => by simp only [mailbaglaw05_FrameNests.l0]; rfl) ?_
    refine ev_pos (by omega) (ev_bind (put_ev _ (by omega)) (ev_pos rfl (ev_pos ?_ ?_)))
    · rw [B_size, B_size, frame_length, w64 (by omega) (by omega)]; omega
    · rw [show wrap64 ((i : Int) + 1) = ((i + 1 : Nat) : Int) from by rw [w64 (by omega) (by omega)]; rfl]
      exact ih
theorem and_15 (a : Int) : ∃ m : Nat, Go.bits .and .i64 a 15 = (m : Int) ∧ m ≤ 15 := by
  have h : (BitVec.ofInt 64 a &&& 15#64).toNat ≤ 15 := by
    rw [BitVec.toNat_and]
    exact Nat.and_le_right
  refine ⟨(BitVec.ofInt 64 a &&& 15#64).toNat, ?_, h⟩
  show IntKind.i64.wrap ((BitVec.ofInt 64 a &&& BitVec.ofInt 64 15).toNat : Int) = _
  rw [show BitVec.ofInt 64 15 = 15#64 from rfl, IntKind.wrap_i64]
  omega

theorem FrameNests : mailbaglaw05_FrameNests.Pure := by
  intro a0 a1 h0 _
  rw [B_of a0] at h0 ⊢
  generalize a0.data.toList = s at *
  rw [B_size] at h0
  apply Ev.rounds
  unfold mailbaglaw05_FrameNests.f
  refine ev_bind head_ev (ev_pos rfl ?_)
  rw [B_size]
  by_cases c : s.length > 200
  · exact ev_pos (by omega) (Ev.now _)
  obtain ⟨m, e, hm⟩ := and_15 a1
  rw [e]
  exact ev_neg (by omega) (nests_l0 s m (by omega) hm m 0 (by omega))
end Go.Proofs.Ytcoollbcnpmlfaa.Pure
