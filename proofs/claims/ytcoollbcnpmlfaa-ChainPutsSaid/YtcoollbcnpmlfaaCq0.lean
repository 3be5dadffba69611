-- Written by a program of this session, out of Lean's own print of the translation. Lean checks it.
import Derived.Test.YtcoollbcnpmlfaaCx0
import Derived.Test.YtcoollbcnpmlfaaCx1
import Derived.Test.YtcoollbcnpmlfaaCeq
import Derived.Test.YtcoollbcnpmlfaaCx7
import Derived.Test.YtcoollbcnpmlfaaCx2
import Derived.Test.YtcoollbcnpmlfaaCx8
import Derived.Test.YtcoollbcnpmlfaaCp
namespace Go.Proofs.Ytcoollbcnpmlfaa.C
open Go.RowKit Go.Proofs.YtcoollbcnpmlfaaW.PrintWords Go.Proofs.YtcoollbcnpmlfaaW.PrintLast Go.Proofs.YtcoollbcnpmlfaaW.PrintMore
attribute [local go_sem] max2_int min2_int max_two min_two max_three min_three max_four min_four   -- for this text's walks alone
set_option linter.unusedVariables false
set_option linter.unusedSimpArgs false

attribute [local go_sem high] eqA52
/-! ### mailbaglaw07_ChainPuts: function 10 -/
mutual
def mailbaglaw07_ChainPuts.j0 : Nat → List (S52) → Bool → Int → ByteArray → Bool → Option (Bool)
  | 0, _, _, _, _, _ => none
  | k + 1, x0, x21, x122000, x122001, x122002 => if x21 = true then (some true) else ((chain_Chain_Put.f x0 x122000 x122001 x122002).bind fun bt124 => (if x122000 ≥ 0 then (if x122000 ≤ 1099511627776 then (if (x0.length : Int) = 0 then (if x122002 = true then (mailbaglaw07_ChainPuts.j1 k x0 (x0.length : Int) bt124.1 bt124.2 (!(x122001.toList != ([] : List UInt8))) x122000 x122001 x122002) else (mailbaglaw07_ChainPuts.j1 k x0 (x0.length : Int) bt124.1 bt124.2 (!false) x122000 x122001 x122002)) else (if 0 ≤ (wrap64 ((x0.length : Int) - 1)) then (if (wrap64 ((x0.length : Int) - 1)) < (x0.length : Int) then (if x122000 > ((rd_T52 x0 (wrap64 ((x0.length : Int) - 1))).f0) then (if x122002 = true then (mailbaglaw07_ChainPuts.j1 k x0 (x0.length : Int) bt124.1 bt124.2 (!(x122001.toList != ([] : List UInt8))) x122000 x122001 x122002) else (mailbaglaw07_ChainPuts.j1 k x0 (x0.length : Int) bt124.1 bt124.2 (!false) x122000 x122001 x122002)) else (mailbaglaw07_ChainPuts.j1 k x0 (x0.length : Int) bt124.1 bt124.2 false x122000 x122001 x122002)) else (none)) else (none))) else (mailbaglaw07_ChainPuts.j1 k x0 (x0.length : Int) bt124.1 bt124.2 false x122000 x122001 x122002)) else (mailbaglaw07_ChainPuts.j1 k x0 (x0.length : Int) bt124.1 bt124.2 false x122000 x122001 x122002)))
def mailbaglaw07_ChainPuts.j1 : Nat → List (S52) → Int → List (S52) → Int → Bool → Int → ByteArray → Bool → Option (Bool)
  | 0, _, _, _, _, _, _, _, _ => none
  | k + 1, x0, x5, x6, x7, x8, x122000, x122001, x122002 => if x8 = true then (if x7 = 0 then (if (x6.length : Int) = (wrap64 (x5 + 1)) then (if 0 ≤ x5 then (if x5 < (x6.length : Int) then (if (!(((rd_T52 x6 x5).f0) == x122000) || (!((((rd_T52 x6 x5).f1).toList) == x122001.toList) || (!(((rd_T52 x6 x5).f2) == x122002)))) = true then (mailbaglaw07_ChainPuts.j2 k x0 x5 x6 true x122000 x122001 x122002) else ((chain_Chain_Right.f k x6).bind fun t130 => (mailbaglaw07_ChainPuts.j2 k x0 x5 x6 (!t130) x122000 x122001 x122002))) else (none)) else (none)) else (mailbaglaw07_ChainPuts.j2 k x0 x5 x6 true x122000 x122001 x122002)) else (mailbaglaw07_ChainPuts.j2 k x0 x5 x6 true x122000 x122001 x122002)) else (if x7 = 1 then (some ((x6.length : Int) == 0)) else (some false))
def mailbaglaw07_ChainPuts.j2 : Nat → List (S52) → Int → List (S52) → Bool → Int → ByteArray → Bool → Option (Bool)
  | 0, _, _, _, _, _, _, _ => none
  | k + 1, x0, x5, x6, x93, x122000, x122001, x122002 => if x93 = true then (some false) else ((chain_Chain_Put.f x0 x122000 (⟨#[111, 116, 104, 101, 114]⟩ : ByteArray) false).bind fun bt131 => (mailbaglaw07_ChainPuts.l0 k x0 x5 x6 bt131.1 bt131.2 (x0.length : Int) 0 x122000 x122001 x122002))
def mailbaglaw07_ChainPuts.l0 : Nat → List (S52) → Int → List (S52) → List (S52) → Int → Int → Int → Int → ByteArray → Bool → Option (Bool)
  | 0, _, _, _, _, _, _, _, _, _, _ => none
  | k + 1, x0, x5, x6, x9, x10, x103, x104, x122000, x122001, x122002 => if x104 < x103 then (if 0 ≤ x104 then (if x104 < (x6.length : Int) then (if x104 < (x0.length : Int) then (if (!(((rd_T52 x6 x104).f0) == ((rd_T52 x0 x104).f0)) || (!((((rd_T52 x6 x104).f1).toList) == (((rd_T52 x0 x104).f1).toList)) || (!(((rd_T52 x6 x104).f2) == ((rd_T52 x0 x104).f2))))) = true then (some false) else (mailbaglaw07_ChainPuts.l0 k x0 x5 x6 x9 x10 x103 (wrap64 (x104 + 1)) x122000 x122001 x122002)) else (none)) else (none)) else (none)) else (if x10 = 0 then (if 0 ≤ x5 then (if x5 < (x6.length : Int) then (if (((rd_T52 x6 x5).f0) == x122000 && ((((rd_T52 x6 x5).f1).toList) == x122001.toList && (((rd_T52 x6 x5).f2) == x122002))) = true then (if x5 < (x9.length : Int) then (if ((rd_T52 x9 x5).f1).toList = ([111, 116, 104, 101, 114] : List UInt8) then (some ((x0.length : Int) == x5)) else (some false)) else (none)) else (some false)) else (none)) else (none)) else (some false))
end
def mailbaglaw07_ChainPuts.f (k : Nat) (l0 : List (S52)) (a1_0 : Int) (a1_1 : ByteArray) (a1_2 : Bool) : Option (Bool) := (mailbaglaw07_head.f k).bind fun t122 => (if t122 = true then (if (l0.length : Int) > 60 then (mailbaglaw07_ChainPuts.j0 k l0 true a1_0 a1_1 a1_2) else ((mailbaglaw07_right.f k l0).bind fun t123 => (mailbaglaw07_ChainPuts.j0 k l0 (!t123) a1_0 a1_1 a1_2))) else (some false))
theorem mailbaglaw07_ChainPuts.mono_l : ∀ k, (∀ y0 y1 y2 y3 y4, LeO (mailbaglaw07_ChainPuts.j0 k y0 y1 y2 y3 y4) (mailbaglaw07_ChainPuts.j0 (k + 1) y0 y1 y2 y3 y4)) ∧ (∀ y0 y1 y2 y3 y4 y5 y6 y7, LeO (mailbaglaw07_ChainPuts.j1 k y0 y1 y2 y3 y4 y5 y6 y7) (mailbaglaw07_ChainPuts.j1 (k + 1) y0 y1 y2 y3 y4 y5 y6 y7)) ∧ (∀ y0 y1 y2 y3 y4 y5 y6, LeO (mailbaglaw07_ChainPuts.j2 k y0 y1 y2 y3 y4 y5 y6) (mailbaglaw07_ChainPuts.j2 (k + 1) y0 y1 y2 y3 y4 y5 y6)) ∧ (∀ y0 y1 y2 y3 y4 y5 y6 y7 y8 y9, LeO (mailbaglaw07_ChainPuts.l0 k y0 y1 y2 y3 y4 y5 y6 y7 y8 y9) (mailbaglaw07_ChainPuts.l0 (k + 1) y0 y1 y2 y3 y4 y5 y6 y7 y8 y9))
  | 0 => ⟨fun _ _ _ _ _ r h => by simp [mailbaglaw07_ChainPuts.j0] at h, fun _ _ _ _ _ _ _ _ r h => by simp [mailbaglaw07_ChainPuts.j1] at h, fun _ _ _ _ _ _ _ r h => by simp [mailbaglaw07_ChainPuts.j2] at h, fun _ _ _ _ _ _ _ _ _ _ r h => by simp [mailbaglaw07_ChainPuts.l0] at h⟩
  | k + 1 => by
    obtain ⟨ih0, ih1, ih2, ih3⟩ := mailbaglaw07_ChainPuts.mono_l k
    refine ⟨?_, ?_, ?_, ?_⟩
    · intro y0 y1 y2 y3 y4
      unfold mailbaglaw07_ChainPuts.j0
      repeat' first
      | (with_reducible exact ih0 _ _ _ _ _)
      | (with_reducible exact ih1 _ _ _ _ _ _ _ _)
      | (with_reducible exact ih2 _ _ _ _ _ _ _)
      | (with_reducible exact ih3 _ _ _ _ _ _ _ _ _ _)
      | (with_reducible exact chain_Chain_Right.mono _ _)
      | (with_reducible exact mailbaglaw07_head.mono _)
      | (with_reducible exact mailbaglaw07_right.mono _ _)
      | (with_reducible exact LeO.refl _)
      | (with_reducible exact LeO.none _)
      | (with_reducible refine LeO.ite ?_ ?_)
      | (with_reducible refine LeO.bind ?_ (fun _ => ?_))
      | exact ih0 _ _ _ _ _
      | exact ih1 _ _ _ _ _ _ _ _
      | exact ih2 _ _ _ _ _ _ _
      | exact ih3 _ _ _ _ _ _ _ _ _ _
      | exact chain_Chain_Right.mono _ _
      | exact mailbaglaw07_head.mono _
      | exact mailbaglaw07_right.mono _ _
      | exact LeO.none _
      | refine LeO.ite ?_ ?_
      | refine LeO.bind ?_ (fun _ => ?_)
    · intro y0 y1 y2 y3 y4 y5 y6 y7
      unfold mailbaglaw07_ChainPuts.j1
      repeat' first
      | (with_reducible exact ih0 _ _ _ _ _)
      | (with_reducible exact ih1 _ _ _ _ _ _ _ _)
      | (with_reducible exact ih2 _ _ _ _ _ _ _)
      | (with_reducible exact ih3 _ _ _ _ _ _ _ _ _ _)
      | (with_reducible exact chain_Chain_Right.mono _ _)
      | (with_reducible exact mailbaglaw07_head.mono _)
      | (with_reducible exact mailbaglaw07_right.mono _ _)
      | (with_reducible exact LeO.refl _)
      | (with_reducible exact LeO.none _)
      | (with_reducible refine LeO.ite ?_ ?_)
      | (with_reducible refine LeO.bind ?_ (fun _ => ?_))
      | exact ih0 _ _ _ _ _
      | exact ih1 _ _ _ _ _ _ _ _
      | exact ih2 _ _ _ _ _ _ _
      | exact ih3 _ _ _ _ _ _ _ _ _ _
      | exact chain_Chain_Right.mono _ _
      | exact mailbaglaw07_head.mono _
      | exact mailbaglaw07_right.mono _ _
      | exact LeO.none _
      | refine LeO.ite ?_ ?_
      | refine LeO.bind ?_ (fun _ => ?_)
    · intro y0 y1 y2 y3 y4 y5 y6
      unfold mailbaglaw07_ChainPuts.j2
      repeat' first
      | (with_reducible exact ih0 _ _ _ _ _)
      | (with_reducible exact ih1 _ _ _ _ _ _ _ _)
      | (with_reducible exact ih2 _ _ _ _ _ _ _)
      | (with_reducible exact ih3 _ _ _ _ _ _ _ _ _ _)
      | (with_reducible exact chain_Chain_Right.mono _ _)
      | (with_reducible exact mailbaglaw07_head.mono _)
      | (with_reducible exact mailbaglaw07_right.mono _ _)
      | (with_reducible exact LeO.refl _)
      | (with_reducible exact LeO.none _)
      | (with_reducible refine LeO.ite ?_ ?_)
      | (with_reducible refine LeO.bind ?_ (fun _ => ?_))
      | exact ih0 _ _ _ _ _
      | exact ih1 _ _ _ _ _ _ _ _
      | exact ih2 _ _ _ _ _ _ _
      | exact ih3 _ _ _ _ _ _ _ _ _ _
      | exact chain_Chain_Right.mono _ _
      | exact mailbaglaw07_head.mono _
      | exact mailbaglaw07_right.mono _ _
      | exact LeO.none _
      | refine LeO.ite ?_ ?_
      | refine LeO.bind ?_ (fun _ => ?_)
    · intro y0 y1 y2 y3 y4 y5 y6 y7 y8 y9
      unfold mailbaglaw07_ChainPuts.l0
      repeat' first
      | (with_reducible exact ih0 _ _ _ _ _)
      | (with_reducible exact ih1 _ _ _ _ _ _ _ _)
      | (with_reducible exact ih2 _ _ _ _ _ _ _)
      | (with_reducible exact ih3 _ _ _ _ _ _ _ _ _ _)
      | (with_reducible exact chain_Chain_Right.mono _ _)
      | (with_reducible exact mailbaglaw07_head.mono _)
      | (with_reducible exact mailbaglaw07_right.mono _ _)
      | (with_reducible exact LeO.refl _)
      | (with_reducible exact LeO.none _)
      | (with_reducible refine LeO.ite ?_ ?_)
      | (with_reducible refine LeO.bind ?_ (fun _ => ?_))
      | exact ih0 _ _ _ _ _
      | exact ih1 _ _ _ _ _ _ _ _
      | exact ih2 _ _ _ _ _ _ _
      | exact ih3 _ _ _ _ _ _ _ _ _ _
      | exact chain_Chain_Right.mono _ _
      | exact mailbaglaw07_head.mono _
      | exact mailbaglaw07_right.mono _ _
      | exact LeO.none _
      | refine LeO.ite ?_ ?_
      | refine LeO.bind ?_ (fun _ => ?_)
theorem mailbaglaw07_ChainPuts.mono : ∀ a0 a1 a2 a3 k, LeO (mailbaglaw07_ChainPuts.f k a0 a1 a2 a3) (mailbaglaw07_ChainPuts.f (k + 1) a0 a1 a2 a3) := by
  intro a0 a1 a2 a3 k
  obtain ⟨ih0, ih1, ih2, ih3⟩ := mailbaglaw07_ChainPuts.mono_l k
  unfold mailbaglaw07_ChainPuts.f
  repeat' first
      | (with_reducible exact ih0 _ _ _ _ _)
      | (with_reducible exact ih1 _ _ _ _ _ _ _ _)
      | (with_reducible exact ih2 _ _ _ _ _ _ _)
      | (with_reducible exact ih3 _ _ _ _ _ _ _ _ _ _)
      | (with_reducible exact chain_Chain_Right.mono _ _)
      | (with_reducible exact mailbaglaw07_head.mono _)
      | (with_reducible exact mailbaglaw07_right.mono _ _)
      | (with_reducible exact LeO.refl _)
      | (with_reducible exact LeO.none _)
      | (with_reducible refine LeO.ite ?_ ?_)
      | (with_reducible refine LeO.bind ?_ (fun _ => ?_))
      | exact ih0 _ _ _ _ _
      | exact ih1 _ _ _ _ _ _ _ _
      | exact ih2 _ _ _ _ _ _ _
      | exact ih3 _ _ _ _ _ _ _ _ _ _
      | exact chain_Chain_Right.mono _ _
      | exact mailbaglaw07_head.mono _
      | exact mailbaglaw07_right.mono _ _
      | exact LeO.none _
      | refine LeO.ite ?_ ?_
      | refine LeO.bind ?_ (fun _ => ?_)
end Go.Proofs.Ytcoollbcnpmlfaa.C
