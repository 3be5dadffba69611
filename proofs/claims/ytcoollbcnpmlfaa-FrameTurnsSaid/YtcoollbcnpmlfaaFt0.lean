-- Written by a program of this session, out of Lean's own print of the translation. Lean checks it.
import Derived.Test.YtcoollbcnpmlfaaPx0
import Derived.Test.YtcoollbcnpmlfaaFrz
import Derived.Test.YtcoollbcnpmlfaaPx6
import Derived.Test.YtcoollbcnpmlfaaPx8
import Derived.Test.YtcoollbcnpmlfaaPx12
namespace Go.Proofs.Ytcoollbcnpmlfaa.P
open Go.Proofs.Ytcoollbcnpmlfaa
open Go.RowKit Go.Proofs.YtcoollbcnpmlfaaW.PrintWords Go.Proofs.YtcoollbcnpmlfaaW.PrintLast Go.Proofs.YtcoollbcnpmlfaaW.PrintMore
attribute [local go_sem] max2_int min2_int max_two min_two max_three min_three max_four min_four   -- for this text's walks alone
set_option linter.unusedVariables false
set_option linter.unusedSimpArgs false

/-! ### mailbaglaw05_FrameTurns: function 9 -/
mutual
def mailbaglaw05_FrameTurns.j0 : Nat → List ByteArray → Int → Int → Int → Bool → Bool → Option (Bool)
  | 0, _, _, _, _, _, _ => none
  | k + 1, x0, x1, x2, x3, x4, x36 => if x36 = true then (some true) else (if (x0.length : Int) = 0 then (none) else (mailbaglaw05_FrameTurns.l0 k x0 (Int.tmod (Go.bits .and .i64 x1 1023) (x0.length : Int)) x2 x3 x4 (⟨#[]⟩ : ByteArray) 0 x0 (x0.length : Int) 0))
def mailbaglaw05_FrameTurns.l0 : Nat → List ByteArray → Int → Int → Int → Bool → ByteArray → Int → List ByteArray → Int → Int → Option (Bool)
  | 0, _, _, _, _, _, _, _, _, _, _ => none
  | k + 1, x0, x1, x2, x3, x4, x11, x12, x42, x43, x44 => if x44 < x43 then (if 0 ≤ x44 then (if x44 < (x42.length : Int) then (if ((rdOf ByteArray.empty x42 x44).size : Int) > 200 then (some true) else (if x44 = x1 then ((mailbaglaw05_one.f k (rdOf ByteArray.empty x42 x44)).bind fun t183 => (if x11.size + t183.size ≤ 9223372036854775807 then (mailbaglaw05_FrameTurns.l0 k x0 x1 x2 x3 x4 (x11 ++ t183) (x11.size : Int) x42 x43 (wrap64 (x44 + 1))) else (none))) else ((mailbaglaw05_one.f k (rdOf ByteArray.empty x42 x44)).bind fun t184 => (if x11.size + t184.size ≤ 9223372036854775807 then (mailbaglaw05_FrameTurns.l0 k x0 x1 x2 x3 x4 (x11 ++ t184) x12 x42 x43 (wrap64 (x44 + 1))) else (none))))) else (none)) else (none)) else (if 0 ≤ x1 then (if x1 < (x0.length : Int) then (if x4 = true then (mailbaglaw05_FrameTurns.j2 k x0 x1 x2 x3 x11 x12 x12 (wrap64 (x12 + 4))) else (mailbaglaw05_FrameTurns.j2 k x0 x1 x2 x3 x11 x12 (wrap64 (x12 + 12)) (wrap64 ((wrap64 (x12 + 12)) + ((rdOf ByteArray.empty x0 x1).size : Int))))) else (none)) else (none))
def mailbaglaw05_FrameTurns.j2 : Nat → List ByteArray → Int → Int → Int → ByteArray → Int → Int → Int → Option (Bool)
  | 0, _, _, _, _, _, _, _, _ => none
  | k + 1, x0, x1, x2, x3, x11, x12, x15, x16 => if x15 = x16 then (some true) else (if x11.size < 140737488355328 then (if (wrap64 (8 * (wrap64 (x16 - x15)))) = 0 then (none) else (mailbaglaw05_FrameTurns.l1 k x0 x1 (wrap64 ((wrap64 (8 * x15)) + (Int.tmod (Go.bits .and .i64 x2 65535) (wrap64 (8 * (wrap64 (x16 - x15))))))) x3 x12 x16 (bytesOf x11) false 0)) else (none))
def mailbaglaw05_FrameTurns.l1 : Nat → List ByteArray → Int → Int → Int → Int → Int → List Int → Bool → Int → Option (Bool)
  | 0, _, _, _, _, _, _, _, _, _ => none
  | k + 1, x0, x1, x2, x3, x12, x16, x17, x18, x19 => if x19 < 32 then (mailbaglaw05_FrameTurns.j4 k x0 x1 x2 x3 x12 x16 x17 x18 x19 (decide ((wrap64 (x2 + x19)) < (wrap64 (8 * x16))))) else (mailbaglaw05_FrameTurns.j4 k x0 x1 x2 x3 x12 x16 x17 x18 x19 false)
def mailbaglaw05_FrameTurns.j4 : Nat → List ByteArray → Int → Int → Int → Int → Int → List Int → Bool → Int → Bool → Option (Bool)
  | 0, _, _, _, _, _, _, _, _, _, _ => none
  | k + 1, x0, x1, x2, x3, x12, x16, x17, x18, x19, x99 => if x99 = true then (if 0 ≤ (IntKind.u64.wrap (x19)) then (if (Go.bits .and .u32 (shr .u32 x3 (IntKind.u64.wrap (x19))) 1) = 1 then (if 0 ≤ (wrap64 (Int.tdiv (wrap64 (x2 + x19)) 8)) then (if (wrap64 (Int.tdiv (wrap64 (x2 + x19)) 8)) < (x17.length : Int) then (if 0 ≤ (IntKind.u64.wrap (Int.tmod (wrap64 (x2 + x19)) 8)) then (mailbaglaw05_FrameTurns.l1 k x0 x1 x2 x3 x12 x16 (x17.set ((wrap64 (Int.tdiv (wrap64 (x2 + x19)) 8)) : Int).toNat (Go.bits .xor .u8 (rd x17 (wrap64 (Int.tdiv (wrap64 (x2 + x19)) 8))) (shl .u8 1 (IntKind.u64.wrap (Int.tmod (wrap64 (x2 + x19)) 8))))) true (wrap64 (x19 + 1))) else (none)) else (none)) else (none)) else (mailbaglaw05_FrameTurns.l1 k x0 x1 x2 x3 x12 x16 x17 x18 (wrap64 (x19 + 1)))) else (none)) else (if x18 = true then ((frame_All.f k (strOfNums x17)).bind fun bt191 => (if bt191.2 = x12 then (mailbaglaw05_FrameTurns.j5 k x0 bt191.1 ((bt191.1.length : Int) != x1)) else (mailbaglaw05_FrameTurns.j5 k x0 bt191.1 true))) else (some true))
def mailbaglaw05_FrameTurns.j5 : Nat → List ByteArray → List ByteArray → Bool → Option (Bool)
  | 0, _, _, _ => none
  | k + 1, x0, x20, x139 => if x139 = true then (some false) else (mailbaglaw05_FrameTurns.l2 k x0 x20 (x20.length : Int) 0)
def mailbaglaw05_FrameTurns.l2 : Nat → List ByteArray → List ByteArray → Int → Int → Option (Bool)
  | 0, _, _, _, _ => none
  | k + 1, x0, x20, x141, x142 => if x142 < x141 then (if 0 ≤ x142 then (if x142 < (x20.length : Int) then (if x142 < (x0.length : Int) then (if (rdOf ByteArray.empty x20 x142).toList = (rdOf ByteArray.empty x0 x142).toList then (mailbaglaw05_FrameTurns.l2 k x0 x20 x141 (wrap64 (x142 + 1))) else (some false)) else (none)) else (none)) else (none)) else (some true)
end
def mailbaglaw05_FrameTurns.f (k : Nat) (l0 : List ByteArray) (a1 : Int) (a2 : Int) (a3 : Int) (a4 : Bool) : Option (Bool) := (mailbaglaw05_head.f k).bind fun t181 => (if t181 = true then (if (l0.length : Int) = 0 then (mailbaglaw05_FrameTurns.j0 k l0 a1 a2 a3 a4 true) else (if (l0.length : Int) > 10 then (mailbaglaw05_FrameTurns.j0 k l0 a1 a2 a3 a4 true) else (mailbaglaw05_FrameTurns.j0 k l0 a1 a2 a3 a4 (a3 == 0)))) else (some false))
theorem mailbaglaw05_FrameTurns.mono_l : ∀ k, (∀ y0 y1 y2 y3 y4 y5, LeO (mailbaglaw05_FrameTurns.j0 k y0 y1 y2 y3 y4 y5) (mailbaglaw05_FrameTurns.j0 (k + 1) y0 y1 y2 y3 y4 y5)) ∧ (∀ y0 y1 y2 y3 y4 y5 y6 y7 y8 y9, LeO (mailbaglaw05_FrameTurns.l0 k y0 y1 y2 y3 y4 y5 y6 y7 y8 y9) (mailbaglaw05_FrameTurns.l0 (k + 1) y0 y1 y2 y3 y4 y5 y6 y7 y8 y9)) ∧ (∀ y0 y1 y2 y3 y4 y5 y6 y7, LeO (mailbaglaw05_FrameTurns.j2 k y0 y1 y2 y3 y4 y5 y6 y7) (mailbaglaw05_FrameTurns.j2 (k + 1) y0 y1 y2 y3 y4 y5 y6 y7)) ∧ (∀ y0 y1 y2 y3 y4 y5 y6 y7 y8, LeO (mailbaglaw05_FrameTurns.l1 k y0 y1 y2 y3 y4 y5 y6 y7 y8) (mailbaglaw05_FrameTurns.l1 (k + 1) y0 y1 y2 y3 y4 y5 y6 y7 y8)) ∧ (∀ y0 y1 y2 y3 y4 y5 y6 y7 y8 y9, LeO (mailbaglaw05_FrameTurns.j4 k y0 y1 y2 y3 y4 y5 y6 y7 y8 y9) (mailbaglaw05_FrameTurns.j4 (k + 1) y0 y1 y2 y3 y4 y5 y6 y7 y8 y9)) ∧ (∀ y0 y1 y2, LeO (mailbaglaw05_FrameTurns.j5 k y0 y1 y2) (mailbaglaw05_FrameTurns.j5 (k + 1) y0 y1 y2)) ∧ (∀ y0 y1 y2 y3, LeO (mailbaglaw05_FrameTurns.l2 k y0 y1 y2 y3) (mailbaglaw05_FrameTurns.l2 (k + 1) y0 y1 y2 y3))
  | 0 => ⟨fun _ _ _ _ _ _ r h => by simp [mailbaglaw05_FrameTurns.j0] at h, fun _ _ _ _ _ _ _ _ _ _ r h => by simp [mailbaglaw05_FrameTurns.l0] at h, fun _ _ _ _ _ _ _ _ r h => by simp [mailbaglaw05_FrameTurns.j2] at h, fun _ _ _ _ _ _ _ _ _ r h => by simp [mailbaglaw05_FrameTurns.l1] at h, fun _ _ _ _ _ _ _ _ _ _ r h => by simp [mailbaglaw05_FrameTurns.j4] at h, fun _ _ _ r h => by simp [mailbaglaw05_FrameTurns.j5] at h, fun _ _ _ _ r h => by simp [mailbaglaw05_FrameTurns.l2] at h⟩
  | k + 1 => by
    obtain ⟨ih0, ih1, ih2, ih3, ih4, ih5, ih6⟩ := mailbaglaw05_FrameTurns.mono_l k
    refine ⟨?_, ?_, ?_, ?_, ?_, ?_, ?_⟩
    · intro y0 y1 y2 y3 y4 y5
      unfold mailbaglaw05_FrameTurns.j0
      repeat' first
      | (with_reducible exact ih0 _ _ _ _ _ _)
      | (with_reducible exact ih1 _ _ _ _ _ _ _ _ _ _)
      | (with_reducible exact ih2 _ _ _ _ _ _ _ _)
      | (with_reducible exact ih3 _ _ _ _ _ _ _ _ _)
      | (with_reducible exact ih4 _ _ _ _ _ _ _ _ _ _)
      | (with_reducible exact ih5 _ _ _)
      | (with_reducible exact ih6 _ _ _ _)
      | (with_reducible exact frame_All.mono _ _)
      | (with_reducible exact mailbaglaw05_head.mono _)
      | (with_reducible exact mailbaglaw05_one.mono _ _)
      | (with_reducible exact LeO.refl _)
      | (with_reducible exact LeO.none _)
      | (with_reducible refine LeO.ite ?_ ?_)
      | (with_reducible refine LeO.bind ?_ (fun _ => ?_))
      | exact ih0 _ _ _ _ _ _
      | exact ih1 _ _ _ _ _ _ _ _ _ _
      | exact ih2 _ _ _ _ _ _ _ _
      | exact ih3 _ _ _ _ _ _ _ _ _
      | exact ih4 _ _ _ _ _ _ _ _ _ _
      | exact ih5 _ _ _
      | exact ih6 _ _ _ _
      | exact frame_All.mono _ _
      | exact mailbaglaw05_head.mono _
      | exact mailbaglaw05_one.mono _ _
      | exact LeO.none _
      | refine LeO.ite ?_ ?_
      | refine LeO.bind ?_ (fun _ => ?_)
    · intro y0 y1 y2 y3 y4 y5 y6 y7 y8 y9
      unfold mailbaglaw05_FrameTurns.l0
      repeat' first
      | (with_reducible exact ih0 _ _ _ _ _ _)
      | (with_reducible exact ih1 _ _ _ _ _ _ _ _ _ _)
      | (with_reducible exact ih2 _ _ _ _ _ _ _ _)
      | (with_reducible exact ih3 _ _ _ _ _ _ _ _ _)
      | (with_reducible exact ih4 _ _ _ _ _ _ _ _ _ _)
      | (with_reducible exact ih5 _ _ _)
      | (with_reducible exact ih6 _ _ _ _)
      | (with_reducible exact frame_All.mono _ _)
      | (with_reducible exact mailbaglaw05_head.mono _)
      | (with_reducible exact mailbaglaw05_one.mono _ _)
      | (with_reducible exact LeO.refl _)
      | (with_reducible exact LeO.none _)
      | (with_reducible refine LeO.ite ?_ ?_)
      | (with_reducible refine LeO.bind ?_ (fun _ => ?_))
      | exact ih0 _ _ _ _ _ _
      | exact ih1 _ _ _ _ _ _ _ _ _ _
      | exact ih2 _ _ _ _ _ _ _ _
      | exact ih3 _ _ _ _ _ _ _ _ _
      | exact ih4 _ _ _ _ _ _ _ _ _ _
      | exact ih5 _ _ _
      | exact ih6 _ _ _ _
      | exact frame_All.mono _ _
      | exact mailbaglaw05_head.mono _
      | exact mailbaglaw05_one.mono _ _
      | exact LeO.none _
      | refine LeO.ite ?_ ?_
      | refine LeO.bind ?_ (fun _ => ?_)
    · intro y0 y1 y2 y3 y4 y5 y6 y7
      unfold mailbaglaw05_FrameTurns.j2
      repeat' first
      | (with_reducible exact ih0 _ _ _ _ _ _)
      | (with_reducible exact ih1 _ _ _ _ _ _ _ _ _ _)
      | (with_reducible exact ih2 _ _ _ _ _ _ _ _)
      | (with_reducible exact ih3 _ _ _ _ _ _ _ _ _)
      | (with_reducible exact ih4 _ _ _ _ _ _ _ _ _ _)
      | (with_reducible exact ih5 _ _ _)
      | (with_reducible exact ih6 _ _ _ _)
      | (with_reducible exact frame_All.mono _ _)
      | (with_reducible exact mailbaglaw05_head.mono _)
      | (with_reducible exact mailbaglaw05_one.mono _ _)
      | (with_reducible exact LeO.refl _)
      | (with_reducible exact LeO.none _)
      | (with_reducible refine LeO.ite ?_ ?_)
      | (with_reducible refine LeO.bind ?_ (fun _ => ?_))
      | exact ih0 _ _ _ _ _ _
      | exact ih1 _ _ _ _ _ _ _ _ _ _
      | exact ih2 _ _ _ _ _ _ _ _
      | exact ih3 _ _ _ _ _ _ _ _ _
      | exact ih4 _ _ _ _ _ _ _ _ _ _
      | exact ih5 _ _ _
      | exact ih6 _ _ _ _
      | exact frame_All.mono _ _
      | exact mailbaglaw05_head.mono _
      | exact mailbaglaw05_one.mono _ _
      | exact LeO.none _
      | refine LeO.ite ?_ ?_
      | refine LeO.bind ?_ (fun _ => ?_)
    · intro y0 y1 y2 y3 y4 y5 y6 y7 y8
      unfold mailbaglaw05_FrameTurns.l1
      repeat' first
      | (with_reducible exact ih0 _ _ _ _ _ _)
      | (with_reducible exact ih1 _ _ _ _ _ _ _ _ _ _)
      | (with_reducible exact ih2 _ _ _ _ _ _ _ _)
      | (with_reducible exact ih3 _ _ _ _ _ _ _ _ _)
      | (with_reducible exact ih4 _ _ _ _ _ _ _ _ _ _)
      | (with_reducible exact ih5 _ _ _)
      | (with_reducible exact ih6 _ _ _ _)
      | (with_reducible exact frame_All.mono _ _)
      | (with_reducible exact mailbaglaw05_head.mono _)
      | (with_reducible exact mailbaglaw05_one.mono _ _)
      | (with_reducible exact LeO.refl _)
      | (with_reducible exact LeO.none _)
      | (with_reducible refine LeO.ite ?_ ?_)
      | (with_reducible refine LeO.bind ?_ (fun _ => ?_))
      | exact ih0 _ _ _ _ _ _
      | exact ih1 _ _ _ _ _ _ _ _ _ _
      | exact ih2 _ _ _ _ _ _ _ _
      | exact ih3 _ _ _ _ _ _ _ _ _
      | exact ih4 _ _ _ _ _ _ _ _ _ _
      | exact ih5 _ _ _
      | exact ih6 _ _ _ _
      | exact frame_All.mono _ _
      | exact mailbaglaw05_head.mono _
      | exact mailbaglaw05_one.mono _ _
      | exact LeO.none _
      | refine LeO.ite ?_ ?_
      | refine LeO.bind ?_ (fun _ => ?_)
    · intro y0 y1 y2 y3 y4 y5 y6 y7 y8 y9
      unfold mailbaglaw05_FrameTurns.j4
      repeat' first
      | (with_reducible exact ih0 _ _ _ _ _ _)
      | (with_reducible exact ih1 _ _ _ _ _ _ _ _ _ _)
      | (with_reducible exact ih2 _ _ _ _ _ _ _ _)
      | (with_reducible exact ih3 _ _ _ _ _ _ _ _ _)
      | (with_reducible exact ih4 _ _ _ _ _ _ _ _ _ _)
      | (with_reducible exact ih5 _ _ _)
      | (with_reducible exact ih6 _ _ _ _)
      | (with_reducible exact frame_All.mono _ _)
      | (with_reducible exact mailbaglaw05_head.mono _)
      | (with_reducible exact mailbaglaw05_one.mono _ _)
      | (with_reducible exact LeO.refl _)
      | (with_reducible exact LeO.none _)
      | (with_reducible refine LeO.ite ?_ ?_)
      | (with_reducible refine LeO.bind ?_ (fun _ => ?_))
      | exact ih0 _ _ _ _ _ _
      | exact ih1 _ _ _ _ _ _ _ _ _ _
      | exact ih2 _ _ _ _ _ _ _ _
      | exact ih3 _ _ _ _ _ _ _ _ _
      | exact ih4 _ _ _ _ _ _ _ _ _ _
      | exact ih5 _ _ _
      | exact ih6 _ _ _ _
      | exact frame_All.mono _ _
      | exact mailbaglaw05_head.mono _
      | exact mailbaglaw05_one.mono _ _
      | exact LeO.none _
      | refine LeO.ite ?_ ?_
      | refine LeO.bind ?_ (fun _ => ?_)
    · intro y0 y1 y2
      unfold mailbaglaw05_FrameTurns.j5
      repeat' first
      | (with_reducible exact ih0 _ _ _ _ _ _)
      | (with_reducible exact ih1 _ _ _ _ _ _ _ _ _ _)
      | (with_reducible exact ih2 _ _ _ _ _ _ _ _)
      | (with_reducible exact ih3 _ _ _ _ _ _ _ _ _)
      | (with_reducible exact ih4 _ _ _ _ _ _ _ _ _ _)
      | (with_reducible exact ih5 _ _ _)
      | (with_reducible exact ih6 _ _ _ _)
      | (with_reducible exact frame_All.mono _ _)
      | (with_reducible exact mailbaglaw05_head.mono _)
      | (with_reducible exact mailbaglaw05_one.mono _ _)
      | (with_reducible exact LeO.refl _)
      | (with_reducible exact LeO.none _)
      | (with_reducible refine LeO.ite ?_ ?_)
      | (with_reducible refine LeO.bind ?_ (fun _ => ?_))
      | exact ih0 _ _ _ _ _ _
      | exact ih1 _ _ _ _ _ _ _ _ _ _
      | exact ih2 _ _ _ _ _ _ _ _
      | exact ih3 _ _ _ _ _ _ _ _ _
      | exact ih4 _ _ _ _ _ _ _ _ _ _
      | exact ih5 _ _ _
      | exact ih6 _ _ _ _
      | exact frame_All.mono _ _
      | exact mailbaglaw05_head.mono _
      | exact mailbaglaw05_one.mono _ _
      | exact LeO.none _
      | refine LeO.ite ?_ ?_
      | refine LeO.bind ?_ (fun _ => ?_)
    · intro y0 y1 y2 y3
      unfold mailbaglaw05_FrameTurns.l2
      repeat' first
      | (with_reducible exact ih0 _ _ _ _ _ _)
      | (with_reducible exact ih1 _ _ _ _ _ _ _ _ _ _)
      | (with_reducible exact ih2 _ _ _ _ _ _ _ _)
      | (with_reducible exact ih3 _ _ _ _ _ _ _ _ _)
      | (with_reducible exact ih4 _ _ _ _ _ _ _ _ _ _)
      | (with_reducible exact ih5 _ _ _)
      | (with_reducible exact ih6 _ _ _ _)
      | (with_reducible exact frame_All.mono _ _)
      | (with_reducible exact mailbaglaw05_head.mono _)
      | (with_reducible exact mailbaglaw05_one.mono _ _)
      | (with_reducible exact LeO.refl _)
      | (with_reducible exact LeO.none _)
      | (with_reducible refine LeO.ite ?_ ?_)
      | (with_reducible refine LeO.bind ?_ (fun _ => ?_))
      | exact ih0 _ _ _ _ _ _
      | exact ih1 _ _ _ _ _ _ _ _ _ _
      | exact ih2 _ _ _ _ _ _ _ _
      | exact ih3 _ _ _ _ _ _ _ _ _
      | exact ih4 _ _ _ _ _ _ _ _ _ _
      | exact ih5 _ _ _
      | exact ih6 _ _ _ _
      | exact frame_All.mono _ _
      | exact mailbaglaw05_head.mono _
      | exact mailbaglaw05_one.mono _ _
      | exact LeO.none _
      | refine LeO.ite ?_ ?_
      | refine LeO.bind ?_ (fun _ => ?_)
theorem mailbaglaw05_FrameTurns.mono : ∀ a0 a1 a2 a3 a4 k, LeO (mailbaglaw05_FrameTurns.f k a0 a1 a2 a3 a4) (mailbaglaw05_FrameTurns.f (k + 1) a0 a1 a2 a3 a4) := by
  intro a0 a1 a2 a3 a4 k
  obtain ⟨ih0, ih1, ih2, ih3, ih4, ih5, ih6⟩ := mailbaglaw05_FrameTurns.mono_l k
  unfold mailbaglaw05_FrameTurns.f
  repeat' first
      | (with_reducible exact ih0 _ _ _ _ _ _)
      | (with_reducible exact ih1 _ _ _ _ _ _ _ _ _ _)
      | (with_reducible exact ih2 _ _ _ _ _ _ _ _)
      | (with_reducible exact ih3 _ _ _ _ _ _ _ _ _)
      | (with_reducible exact ih4 _ _ _ _ _ _ _ _ _ _)
      | (with_reducible exact ih5 _ _ _)
      | (with_reducible exact ih6 _ _ _ _)
      | (with_reducible exact frame_All.mono _ _)
      | (with_reducible exact mailbaglaw05_head.mono _)
      | (with_reducible exact mailbaglaw05_one.mono _ _)
      | (with_reducible exact LeO.refl _)
      | (with_reducible exact LeO.none _)
      | (with_reducible refine LeO.ite ?_ ?_)
      | (with_reducible refine LeO.bind ?_ (fun _ => ?_))
      | exact ih0 _ _ _ _ _ _
      | exact ih1 _ _ _ _ _ _ _ _ _ _
      | exact ih2 _ _ _ _ _ _ _ _
      | exact ih3 _ _ _ _ _ _ _ _ _
      | exact ih4 _ _ _ _ _ _ _ _ _ _
      | exact ih5 _ _ _
      | exact ih6 _ _ _ _
      | exact frame_All.mono _ _
      | exact mailbaglaw05_head.mono _
      | exact mailbaglaw05_one.mono _ _
      | exact LeO.none _
      | refine LeO.ite ?_ ?_
      | refine LeO.bind ?_ (fun _ => ?_)
end Go.Proofs.Ytcoollbcnpmlfaa.P
