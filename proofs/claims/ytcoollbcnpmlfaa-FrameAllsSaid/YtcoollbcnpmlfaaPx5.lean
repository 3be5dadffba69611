-- Written by a program of this session, out of Lean's own print of the translation. Lean checks it.
import Derived.Test.YtcoollbcnpmlfaaPx0
import Derived.Test.YtcoollbcnpmlfaaPx1
import Derived.Test.YtcoollbcnpmlfaaPx4
namespace Go.Proofs.Ytcoollbcnpmlfaa.P
open Go.RowKit Go.Proofs.YtcoollbcnpmlfaaW.PrintWords Go.Proofs.YtcoollbcnpmlfaaW.PrintLast Go.Proofs.YtcoollbcnpmlfaaW.PrintMore
attribute [local go_sem] max2_int min2_int max_two min_two max_three min_three max_four min_four   -- for this text's walks alone
set_option linter.unusedVariables false
set_option linter.unusedSimpArgs false

/-! ### mailbaglaw05_FrameAlls: function 8 -/
mutual
def mailbaglaw05_FrameAlls.j0 : Nat → List ByteArray → Int → ByteArray → Bool → Option (Bool)
  | 0, _, _, _, _ => none
  | k + 1, x0, x1, x2, x30 => if x30 = true then (some true) else (mailbaglaw05_FrameAlls.l0 k x0 x1 x2 (⟨#[]⟩ : ByteArray) (([0] : List Int)) x0 (x0.length : Int) 0)
def mailbaglaw05_FrameAlls.l0 : Nat → List ByteArray → Int → ByteArray → ByteArray → List Int → List ByteArray → Int → Int → Option (Bool)
  | 0, _, _, _, _, _, _, _, _ => none
  | k + 1, x0, x1, x2, x7, x8, x32, x33, x34 => if x34 < x33 then (if 0 ≤ x34 then (if x34 < (x32.length : Int) then (if ((rdOf ByteArray.empty x32 x34).size : Int) > 300 then (some true) else ((frame_Put.f k (rdOf ByteArray.empty x32 x34)).bind fun bt168 => (if bt168.2 = 0 then ((mailbaglaw05_one.f k (rdOf ByteArray.empty x32 x34)).bind fun t170 => (if bt168.1.toList = t170.toList then (if x7.size + bt168.1.size ≤ 9223372036854775807 then (if x8.length < 17592186044416 then (mailbaglaw05_FrameAlls.l0 k x0 x1 x2 (x7 ++ bt168.1) (x8 ++ [((x7.size : Int) + (bt168.1.size : Int))]) x32 x33 (wrap64 (x34 + 1))) else (none)) else (none)) else (some false))) else (some false)))) else (none)) else (none)) else ((frame_All.f k x7).bind fun bt174 => (if bt174.2 = (x7.size : Int) then (mailbaglaw05_FrameAlls.j2 k x0 x1 x2 x7 x8 bt174.1 ((bt174.1.length : Int) != (x0.length : Int))) else (mailbaglaw05_FrameAlls.j2 k x0 x1 x2 x7 x8 bt174.1 true)))
def mailbaglaw05_FrameAlls.j2 : Nat → List ByteArray → Int → ByteArray → ByteArray → List Int → List ByteArray → Bool → Option (Bool)
  | 0, _, _, _, _, _, _, _ => none
  | k + 1, x0, x1, x2, x7, x8, x13, x78 => if x78 = true then (some false) else (mailbaglaw05_FrameAlls.l1 k x0 x1 x2 x7 x8 x13 (x0.length : Int) 0)
def mailbaglaw05_FrameAlls.l1 : Nat → List ByteArray → Int → ByteArray → ByteArray → List Int → List ByteArray → Int → Int → Option (Bool)
  | 0, _, _, _, _, _, _, _, _ => none
  | k + 1, x0, x1, x2, x7, x8, x13, x80, x81 => if x81 < x80 then (if 0 ≤ x81 then (if x81 < (x13.length : Int) then (if x81 < (x0.length : Int) then (if (rdOf ByteArray.empty x13 x81).toList = (rdOf ByteArray.empty x0 x81).toList then (mailbaglaw05_FrameAlls.l1 k x0 x1 x2 x7 x8 x13 x80 (wrap64 (x81 + 1))) else (some false)) else (none)) else (none)) else (none)) else (if (wrap64 ((x7.size : Int) + 1)) = 0 then (none) else (if 0 ≤ (Int.tmod (Go.bits .and .i64 x1 65535) (wrap64 ((x7.size : Int) + 1))) then (if (Int.tmod (Go.bits .and .i64 x1 65535) (wrap64 ((x7.size : Int) + 1))) ≤ (x7.size : Int) then ((frame_All.f k (x7.extract 0 ((Int.tmod (Go.bits .and .i64 x1 65535) (wrap64 ((x7.size : Int) + 1))) : Int).toNat)).bind fun bt180 => (mailbaglaw05_FrameAlls.l2 k x0 (Int.tmod (Go.bits .and .i64 x1 65535) (wrap64 ((x7.size : Int) + 1))) x2 x7 x8 bt180.1 bt180.2 0)) else (none)) else (none)))
def mailbaglaw05_FrameAlls.l2 : Nat → List ByteArray → Int → ByteArray → ByteArray → List Int → List ByteArray → Int → Int → Option (Bool)
  | 0, _, _, _, _, _, _, _, _ => none
  | k + 1, x0, x1, x2, x7, x8, x16, x17, x18 => if x18 < (x0.length : Int) then (if 0 ≤ (wrap64 (x18 + 1)) then (if (wrap64 (x18 + 1)) < (x8.length : Int) then (if (rd x8 (wrap64 (x18 + 1))) ≤ x1 then (mailbaglaw05_FrameAlls.l2 k x0 x1 x2 x7 x8 x16 x17 (wrap64 (x18 + 1))) else (if (x16.length : Int) = x18 then (if 0 ≤ x18 then (if x18 < (x8.length : Int) then (if x17 = (rd x8 x18) then (if x7.size + x2.size ≤ 9223372036854775807 then ((frame_All.f k (x7 ++ x2)).bind fun bt186 => (if (bt186.1.length : Int) ≥ (x0.length : Int) then (some (decide (bt186.2 ≥ (x7.size : Int)))) else (some false))) else (none)) else (some false)) else (none)) else (none)) else (some false))) else (none)) else (none)) else (if (x16.length : Int) = x18 then (if 0 ≤ x18 then (if x18 < (x8.length : Int) then (if x17 = (rd x8 x18) then (if x7.size + x2.size ≤ 9223372036854775807 then ((frame_All.f k (x7 ++ x2)).bind fun bt191 => (if (bt191.1.length : Int) ≥ (x0.length : Int) then (some (decide (bt191.2 ≥ (x7.size : Int)))) else (some false))) else (none)) else (some false)) else (none)) else (none)) else (some false))
end
def mailbaglaw05_FrameAlls.f (k : Nat) (l0 : List ByteArray) (a1 : Int) (a2 : ByteArray) : Option (Bool) := (mailbaglaw05_head.f k).bind fun t163 => (if t163 = true then (if (l0.length : Int) > 12 then (mailbaglaw05_FrameAlls.j0 k l0 a1 a2 true) else (mailbaglaw05_FrameAlls.j0 k l0 a1 a2 (decide ((a2.size : Int) > 100)))) else (some false))
theorem mailbaglaw05_FrameAlls.mono_l : ∀ k, (∀ y0 y1 y2 y3, LeO (mailbaglaw05_FrameAlls.j0 k y0 y1 y2 y3) (mailbaglaw05_FrameAlls.j0 (k + 1) y0 y1 y2 y3)) ∧ (∀ y0 y1 y2 y3 y4 y5 y6 y7, LeO (mailbaglaw05_FrameAlls.l0 k y0 y1 y2 y3 y4 y5 y6 y7) (mailbaglaw05_FrameAlls.l0 (k + 1) y0 y1 y2 y3 y4 y5 y6 y7)) ∧ (∀ y0 y1 y2 y3 y4 y5 y6, LeO (mailbaglaw05_FrameAlls.j2 k y0 y1 y2 y3 y4 y5 y6) (mailbaglaw05_FrameAlls.j2 (k + 1) y0 y1 y2 y3 y4 y5 y6)) ∧ (∀ y0 y1 y2 y3 y4 y5 y6 y7, LeO (mailbaglaw05_FrameAlls.l1 k y0 y1 y2 y3 y4 y5 y6 y7) (mailbaglaw05_FrameAlls.l1 (k + 1) y0 y1 y2 y3 y4 y5 y6 y7)) ∧ (∀ y0 y1 y2 y3 y4 y5 y6 y7, LeO (mailbaglaw05_FrameAlls.l2 k y0 y1 y2 y3 y4 y5 y6 y7) (mailbaglaw05_FrameAlls.l2 (k + 1) y0 y1 y2 y3 y4 y5 y6 y7))
  | 0 => ⟨fun _ _ _ _ r h => by simp [mailbaglaw05_FrameAlls.j0] at h, fun _ _ _ _ _ _ _ _ r h => by simp [mailbaglaw05_FrameAlls.l0] at h, fun _ _ _ _ _ _ _ r h => by simp [mailbaglaw05_FrameAlls.j2] at h, fun _ _ _ _ _ _ _ _ r h => by simp [mailbaglaw05_FrameAlls.l1] at h, fun _ _ _ _ _ _ _ _ r h => by simp [mailbaglaw05_FrameAlls.l2] at h⟩
  | k + 1 => by
    obtain ⟨ih0, ih1, ih2, ih3, ih4⟩ := mailbaglaw05_FrameAlls.mono_l k
    refine ⟨?_, ?_, ?_, ?_, ?_⟩
    · intro y0 y1 y2 y3
      unfold mailbaglaw05_FrameAlls.j0
      repeat' first
      | (with_reducible exact ih0 _ _ _ _)
      | (with_reducible exact ih1 _ _ _ _ _ _ _ _)
      | (with_reducible exact ih2 _ _ _ _ _ _ _)
      | (with_reducible exact ih3 _ _ _ _ _ _ _ _)
      | (with_reducible exact ih4 _ _ _ _ _ _ _ _)
      | (with_reducible exact frame_All.mono _ _)
      | (with_reducible exact frame_Put.mono _ _)
      | (with_reducible exact mailbaglaw05_head.mono _)
      | (with_reducible exact mailbaglaw05_one.mono _ _)
      | (with_reducible exact LeO.refl _)
      | (with_reducible exact LeO.none _)
      | (with_reducible refine LeO.ite ?_ ?_)
      | (with_reducible refine LeO.bind ?_ (fun _ => ?_))
      | exact ih0 _ _ _ _
      | exact ih1 _ _ _ _ _ _ _ _
      | exact ih2 _ _ _ _ _ _ _
      | exact ih3 _ _ _ _ _ _ _ _
      | exact ih4 _ _ _ _ _ _ _ _
      | exact frame_All.mono _ _
      | exact frame_Put.mono _ _
      | exact mailbaglaw05_head.mono _
      | exact mailbaglaw05_one.mono _ _
      | exact LeO.none _
      | refine LeO.ite ?_ ?_
      | refine LeO.bind ?_ (fun _ => ?_)
    · intro y0 y1 y2 y3 y4 y5 y6 y7
      unfold mailbaglaw05_FrameAlls.l0
      repeat' first
      | (with_reducible exact ih0 _ _ _ _)
      | (with_reducible exact ih1 _ _ _ _ _ _ _ _)
      | (with_reducible exact ih2 _ _ _ _ _ _ _)
      | (with_reducible exact ih3 _ _ _ _ _ _ _ _)
      | (with_reducible exact ih4 _ _ _ _ _ _ _ _)
      | (with_reducible exact frame_All.mono _ _)
      | (with_reducible exact frame_Put.mono _ _)
      | (with_reducible exact mailbaglaw05_head.mono _)
      | (with_reducible exact mailbaglaw05_one.mono _ _)
      | (with_reducible exact LeO.refl _)
      | (with_reducible exact LeO.none _)
      | (with_reducible refine LeO.ite ?_ ?_)
      | (with_reducible refine LeO.bind ?_ (fun _ => ?_))
      | exact ih0 _ _ _ _
      | exact ih1 _ _ _ _ _ _ _ _
      | exact ih2 _ _ _ _ _ _ _
      | exact ih3 _ _ _ _ _ _ _ _
      | exact ih4 _ _ _ _ _ _ _ _
      | exact frame_All.mono _ _
      | exact frame_Put.mono _ _
      | exact mailbaglaw05_head.mono _
      | exact mailbaglaw05_one.mono _ _
      | exact LeO.none _
      | refine LeO.ite ?_ ?_
      | refine LeO.bind ?_ (fun _ => ?_)
    · intro y0 y1 y2 y3 y4 y5 y6
      unfold mailbaglaw05_FrameAlls.j2
      repeat' first
      | (with_reducible exact ih0 _ _ _ _)
      | (with_reducible exact ih1 _ _ _ _ _ _ _ _)
      | (with_reducible exact ih2 _ _ _ _ _ _ _)
      | (with_reducible exact ih3 _ _ _ _ _ _ _ _)
      | (with_reducible exact ih4 _ _ _ _ _ _ _ _)
      | (with_reducible exact frame_All.mono _ _)
      | (with_reducible exact frame_Put.mono _ _)
      | (with_reducible exact mailbaglaw05_head.mono _)
      | (with_reducible exact mailbaglaw05_one.mono _ _)
      | (with_reducible exact LeO.refl _)
      | (with_reducible exact LeO.none _)
      | (with_reducible refine LeO.ite ?_ ?_)
      | (with_reducible refine LeO.bind ?_ (fun _ => ?_))
      | exact ih0 _ _ _ _
      | exact ih1 _ _ _ _ _ _ _ _
      | exact ih2 _ _ _ _ _ _ _
      | exact ih3 _ _ _ _ _ _ _ _
      | exact ih4 _ _ _ _ _ _ _ _
      | exact frame_All.mono _ _
      | exact frame_Put.mono _ _
      | exact mailbaglaw05_head.mono _
      | exact mailbaglaw05_one.mono _ _
      | exact LeO.none _
      | refine LeO.ite ?_ ?_
      | refine LeO.bind ?_ (fun _ => ?_)
    · intro y0 y1 y2 y3 y4 y5 y6 y7
      unfold mailbaglaw05_FrameAlls.l1
      repeat' first
      | (with_reducible exact ih0 _ _ _ _)
      | (with_reducible exact ih1 _ _ _ _ _ _ _ _)
      | (with_reducible exact ih2 _ _ _ _ _ _ _)
      | (with_reducible exact ih3 _ _ _ _ _ _ _ _)
      | (with_reducible exact ih4 _ _ _ _ _ _ _ _)
      | (with_reducible exact frame_All.mono _ _)
      | (with_reducible exact frame_Put.mono _ _)
      | (with_reducible exact mailbaglaw05_head.mono _)
      | (with_reducible exact mailbaglaw05_one.mono _ _)
      | (with_reducible exact LeO.refl _)
      | (with_reducible exact LeO.none _)
      | (with_reducible refine LeO.ite ?_ ?_)
      | (with_reducible refine LeO.bind ?_ (fun _ => ?_))
      | exact ih0 _ _ _ _
      | exact ih1 _ _ _ _ _ _ _ _
      | exact ih2 _ _ _ _ _ _ _
      | exact ih3 _ _ _ _ _ _ _ _
      | exact ih4 _ _ _ _ _ _ _ _
      | exact frame_All.mono _ _
      | exact frame_Put.mono _ _
      | exact mailbaglaw05_head.mono _
      | exact mailbaglaw05_one.mono _ _
      | exact LeO.none _
      | refine LeO.ite ?_ ?_
      | refine LeO.bind ?_ (fun _ => ?_)
    · intro y0 y1 y2 y3 y4 y5 y6 y7
      unfold mailbaglaw05_FrameAlls.l2
      repeat' first
      | (with_reducible exact ih0 _ _ _ _)
      | (with_reducible exact ih1 _ _ _ _ _ _ _ _)
      | (with_reducible exact ih2 _ _ _ _ _ _ _)
      | (with_reducible exact ih3 _ _ _ _ _ _ _ _)
      | (with_reducible exact ih4 _ _ _ _ _ _ _ _)
      | (with_reducible exact frame_All.mono _ _)
      | (with_reducible exact frame_Put.mono _ _)
      | (with_reducible exact mailbaglaw05_head.mono _)
      | (with_reducible exact mailbaglaw05_one.mono _ _)
      | (with_reducible exact LeO.refl _)
      | (with_reducible exact LeO.none _)
      | (with_reducible refine LeO.ite ?_ ?_)
      | (with_reducible refine LeO.bind ?_ (fun _ => ?_))
      | exact ih0 _ _ _ _
      | exact ih1 _ _ _ _ _ _ _ _
      | exact ih2 _ _ _ _ _ _ _
      | exact ih3 _ _ _ _ _ _ _ _
      | exact ih4 _ _ _ _ _ _ _ _
      | exact frame_All.mono _ _
      | exact frame_Put.mono _ _
      | exact mailbaglaw05_head.mono _
      | exact mailbaglaw05_one.mono _ _
      | exact LeO.none _
      | refine LeO.ite ?_ ?_
      | refine LeO.bind ?_ (fun _ => ?_)
theorem mailbaglaw05_FrameAlls.mono : ∀ a0 a1 a2 k, LeO (mailbaglaw05_FrameAlls.f k a0 a1 a2) (mailbaglaw05_FrameAlls.f (k + 1) a0 a1 a2) := by
  intro a0 a1 a2 k
  obtain ⟨ih0, ih1, ih2, ih3, ih4⟩ := mailbaglaw05_FrameAlls.mono_l k
  unfold mailbaglaw05_FrameAlls.f
  repeat' first
      | (with_reducible exact ih0 _ _ _ _)
      | (with_reducible exact ih1 _ _ _ _ _ _ _ _)
      | (with_reducible exact ih2 _ _ _ _ _ _ _)
      | (with_reducible exact ih3 _ _ _ _ _ _ _ _)
      | (with_reducible exact ih4 _ _ _ _ _ _ _ _)
      | (with_reducible exact frame_All.mono _ _)
      | (with_reducible exact frame_Put.mono _ _)
      | (with_reducible exact mailbaglaw05_head.mono _)
      | (with_reducible exact mailbaglaw05_one.mono _ _)
      | (with_reducible exact LeO.refl _)
      | (with_reducible exact LeO.none _)
      | (with_reducible refine LeO.ite ?_ ?_)
      | (with_reducible refine LeO.bind ?_ (fun _ => ?_))
      | exact ih0 _ _ _ _
      | exact ih1 _ _ _ _ _ _ _ _
      | exact ih2 _ _ _ _ _ _ _
      | exact ih3 _ _ _ _ _ _ _ _
      | exact ih4 _ _ _ _ _ _ _ _
      | exact frame_All.mono _ _
      | exact frame_Put.mono _ _
      | exact mailbaglaw05_head.mono _
      | exact mailbaglaw05_one.mono _ _
      | exact LeO.none _
      | refine LeO.ite ?_ ?_
      | refine LeO.bind ?_ (fun _ => ?_)
set_option maxHeartbeats 8000000 in
set_option maxRecDepth 100000 in
theorem mailbaglaw05_FrameAlls.calls (k : Nat) (A0 : Option Addr) (c0 : Nat) (l0 : List ByteArray) (a1 : Int) (a2 : ByteArray) (r : Bool) (w : World) (hr0 : Kd.C Kd.string w A0 l0.length l0) (hc0 : l0.length ≤ c0) (h : mailbaglaw05_FrameAlls.f k l0 a1 a2 = some r) :
    Calls Try.prog 8 #[.slice A0 l0.length c0, .int .i64 a1, .string a2] w fun e w' => e = .returned (.bool r) ∧ Below w.heap.size w w' := by
  have HR0 := Aside0.mk hr0
  have HC0 := Aside0.mk hc0
  clear hr0 hc0
  have HB := Aside0.mk (Below.refl w.heap.size w)
  have H : ((mailbaglaw05_head.f k).bind fun t163 => (if t163 = true then (if (l0.length : Int) > 12 then (mailbaglaw05_FrameAlls.j0 k l0 a1 a2 true) else (mailbaglaw05_FrameAlls.j0 k l0 a1 a2 (decide ((a2.size : Int) > 100)))) else (some false))) = some r := h
  clear h
  replace H := Option.bind_eq_some_iff.mp H
  obtain ⟨t163, A40, H⟩ := H
  replace H : (if t163 = true then (if (l0.length : Int) > 12 then (mailbaglaw05_FrameAlls.j0 k l0 a1 a2 true) else (mailbaglaw05_FrameAlls.j0 k l0 a1 a2 (decide ((a2.size : Int) > 100)))) else (some false)) = some r := H
  have A4 := Aside0.mk A40
  clear A40
  by_cases c5 : t163 = true
  · subst c5
    have H1 : (if (l0.length : Int) > 12 then (mailbaglaw05_FrameAlls.j0 k l0 a1 a2 true) else (mailbaglaw05_FrameAlls.j0 k l0 a1 a2 (decide ((a2.size : Int) > 100)))) = some r := by rw [if_pos rfl] at H; exact H
    clear H
    have H := H1
    clear H1
    have HC6 := Aside0.mk H
    clear H
    go_enter Try.func8, Try.ntmps8
    go_upto_region 3 with (first | (go_at_call 12; (with_reducible refine (mailbaglaw05_head.calls k  true _ A4.out).mono ?_); rintro e w7 ⟨rfl, hb⟩; have n0_ := Aside0.mk (below_step (by repeat (first | (with_reducible first | exact HB.out | apply below_alloc | apply pw_below_drewN | apply below_drew1) | exact HB.out)) hb); clear HB; have HB := n0_; clear n0_; (try clear hb); (try clear hb2); (try clear hk); (try clear hi)))
    repeat (go_quiet (first | (go_at_call 12; (with_reducible refine (mailbaglaw05_head.calls k  true _ A4.out).mono ?_); rintro e w7 ⟨rfl, hb⟩; have n0_ := Aside0.mk (below_step (by repeat (first | (with_reducible first | exact HB.out | apply below_alloc | apply pw_below_drewN | apply below_drew1) | exact HB.out)) hb); clear HB; have HB := n0_; clear n0_; (try clear hb); (try clear hb2); (try clear hk); (try clear hi))); go_upto_region 3 with (first | (go_at_call 12; (with_reducible refine (mailbaglaw05_head.calls k  true _ A4.out).mono ?_); rintro e w7 ⟨rfl, hb⟩; have n0_ := Aside0.mk (below_step (by repeat (first | (with_reducible first | exact HB.out | apply below_alloc | apply pw_below_drewN | apply below_drew1) | exact HB.out)) hb); clear HB; have HB := n0_; clear n0_; (try clear hb); (try clear hb2); (try clear hk); (try clear hi))))
    (try simp only [Act.put, List.setIfInBounds_toArray, List.set_cons_zero, List.set_cons_succ])
    go_cut [30] (fun v30 wc => ∃ (kq : Nat) (x30_5 : Bool), v30 = .bool x30_5 ∧ Aside0 (mailbaglaw05_FrameAlls.j0 kq l0 a1 a2 x30_5 = some r) ∧ Aside0 (kq ≤ k) ∧ Aside0 (Below w.heap.size w wc))
    case first =>
      have H := HC6.out
      clear HC6
      by_cases c8 : (l0.length : Int) > 12
      · rw [if_pos c8] at H
        have c8b0 : decide (12 < (l0.length : Int)) = true := decide_eq_true c8
        have c8b1 : decide (12 < l0.length) = true := decide_eq_true (by omega)
        clear c8
        (first | rw [c8b0] | (simp only [i64_w, i32_w]; rw [c8b0]) | skip)
        have H' := Aside0.mk H
        clear H
        go_wp2
        repeat (go_quiet (fail); try go_wp2)
        go_meet
        case rel => exact ⟨_, (true), (by first | rfl | (simp; done) | (simp [*]; done)), H', ⟨by first | omega | exact Nat.le_refl _⟩, ⟨by repeat (first | (with_reducible first | exact HB.out | apply below_alloc | apply pw_below_drewN | apply below_drew1) | exact HB.out)⟩⟩
      · rw [if_neg c8] at H
        have c8b0 : decide (12 < (l0.length : Int)) = false := decide_eq_false c8
        have c8b1 : decide (12 < l0.length) = false := decide_eq_false (by omega)
        clear c8
        (first | rw [c8b0] | (simp only [i64_w, i32_w]; rw [c8b0]) | skip)
        have H' := Aside0.mk H
        clear H
        go_wp2
        repeat (go_quiet (fail); try go_wp2)
        go_meet
        case rel => exact ⟨_, (decide ((a2.size : Int) > 100)), (by first | rfl | (simp; done) | (simp [*]; done)), H', ⟨by first | omega | exact Nat.le_refl _⟩, ⟨by repeat (first | (with_reducible first | exact HB.out | apply below_alloc | apply pw_below_drewN | apply below_drew1) | exact HB.out)⟩⟩
    case rest =>
      clear HC6
      try clear p2
      try clear c5
      try clear c8
      try clear c8b0
      try clear c8b1
      obtain ⟨kq, x30_5, rfl, HA, HJ5, HB⟩ := hcut
      cases kq with
      | zero => exact absurd HA.out (by simp [mailbaglaw05_FrameAlls.j0])
      | succ kj5 =>
        have H := HA.out
        clear HA
        simp only [mailbaglaw05_FrameAlls.j0] at H
        by_cases c9 : x30_5 = true
        · subst c9
          have H1 : (some true) = some r := by rw [if_pos rfl] at H; exact H
          clear H
          have H := H1
          clear H1
          obtain rfl := Option.some.inj H
          go_wp2
          repeat (go_quiet (fail); try go_wp2)
          go_ret
          exact ⟨by first | rfl | (simp [errW_none, errW_some] <;> rfl) | (simp [*, errW_none, errW_some] <;> rfl), by repeat (first | (with_reducible first | exact HB.out | apply below_alloc | apply pw_below_drewN | apply below_drew1) | exact HB.out)⟩
        · replace c9 := Bool.eq_false_iff.mpr c9
          subst c9
          have H1 : (mailbaglaw05_FrameAlls.l0 kj5 l0 a1 a2 (⟨#[]⟩ : ByteArray) (([0] : List Int)) l0 (l0.length : Int) 0) = some r := by rw [if_neg (show ¬ (false = true) by decide)] at H; exact H
          clear H
          have H := H1
          clear H1
          obtain ⟨y164, hy164⟩ : ∃ y_ : List Int, y_ = (([0] : List Int)) := ⟨_, rfl⟩
          replace H : (mailbaglaw05_FrameAlls.l0 kj5 l0 a1 a2 (⟨#[]⟩ : ByteArray) y164 l0 (l0.length : Int) 0) = some r := by first | (rw [hy164]; with_reducible exact H) | (have H2_ := (Option.bind_some _ _).symm.trans H; rw [hy164]; with_reducible exact H2_) | (have H2_ := (Option.bind_some _ _).symm.trans H; with_reducible exact H2_) | with_reducible exact H | (rw [hy164]; exact H) | exact H
          have Ny164 := Aside0.mk hy164
          clear hy164
          have H' := Aside0.mk H
          clear H
          go_wp2_with (first | ((with_reducible refine gate_dst (N := 31) rfl ?_); (try (refine gate_guard (by rfl) ?_; dsimp only)); refine Kd.R_lit (Kd.int .i64) _ 3 ?hg (N := 31) ?hd (xs := ([0] : List Int)) (inner := [.int .i64 0]) (ok := fun _ => True) (okp := fun _ => True) ?hr ?hp (fun _ hk => hk) trivial (Below.refl _ _) (Nat.le_refl _) (by simp) ?_; (case hd => rfl); (case hg => rfl); (case hr => first | (go_simp; done) | (go_simp; rfl)); (case hp => exact (Reps.one (show Kd.M (Kd.int .i64) _ _ _ 0 [.int .i64 0] from rfl) (Reps.none _ _))); intro v165 w10 ho11 hb hg_ hnew_; clear hg_ hnew_; (first | rw [← Ny164.out] at ho11 | (simp only [Int.reduceToNat] at ho11; rw [← Ny164.out] at ho11)); have n0_ := Aside0.mk (Kd.R_lower ho11 (below_size (by repeat (first | (with_reducible first | exact HB.out | apply below_alloc | apply pw_below_drewN | apply below_drew1) | exact HB.out)))); have n1_ := Aside0.mk (below_step (by repeat (first | (with_reducible first | exact HB.out | apply below_alloc | apply pw_below_drewN | apply below_drew1) | exact HB.out)) hb); clear HB; have HO166 := n0_; have HB := n1_; clear n0_ n1_; clear hb ho11))
          repeat (go_quiet (first | ((with_reducible refine gate_dst (N := 31) rfl ?_); (try (refine gate_guard (by rfl) ?_; dsimp only)); refine Kd.R_lit (Kd.int .i64) _ 3 ?hg (N := 31) ?hd (xs := ([0] : List Int)) (inner := [.int .i64 0]) (ok := fun _ => True) (okp := fun _ => True) ?hr ?hp (fun _ hk => hk) trivial (Below.refl _ _) (Nat.le_refl _) (by simp) ?_; (case hd => rfl); (case hg => rfl); (case hr => first | (go_simp; done) | (go_simp; rfl)); (case hp => exact (Reps.one (show Kd.M (Kd.int .i64) _ _ _ 0 [.int .i64 0] from rfl) (Reps.none _ _))); intro v165 w10 ho11 hb hg_ hnew_; clear hg_ hnew_; (first | rw [← Ny164.out] at ho11 | (simp only [Int.reduceToNat] at ho11; rw [← Ny164.out] at ho11)); have n0_ := Aside0.mk (Kd.R_lower ho11 (below_size (by repeat (first | (with_reducible first | exact HB.out | apply below_alloc | apply pw_below_drewN | apply below_drew1) | exact HB.out)))); have n1_ := Aside0.mk (below_step (by repeat (first | (with_reducible first | exact HB.out | apply below_alloc | apply pw_below_drewN | apply below_drew1) | exact HB.out)) hb); clear HB; have HO166 := n0_; have HB := n1_; clear n0_ n1_; clear hb ho11)); try go_wp2_with (first | ((with_reducible refine gate_dst (N := 31) rfl ?_); (try (refine gate_guard (by rfl) ?_; dsimp only)); refine Kd.R_lit (Kd.int .i64) _ 3 ?hg (N := 31) ?hd (xs := ([0] : List Int)) (inner := [.int .i64 0]) (ok := fun _ => True) (okp := fun _ => True) ?hr ?hp (fun _ hk => hk) trivial (Below.refl _ _) (Nat.le_refl _) (by simp) ?_; (case hd => rfl); (case hg => rfl); (case hr => first | (go_simp; done) | (go_simp; rfl)); (case hp => exact (Reps.one (show Kd.M (Kd.int .i64) _ _ _ 0 [.int .i64 0] from rfl) (Reps.none _ _))); intro v165 w10 ho11 hb hg_ hnew_; clear hg_ hnew_; (first | rw [← Ny164.out] at ho11 | (simp only [Int.reduceToNat] at ho11; rw [← Ny164.out] at ho11)); have n0_ := Aside0.mk (Kd.R_lower ho11 (below_size (by repeat (first | (with_reducible first | exact HB.out | apply below_alloc | apply pw_below_drewN | apply below_drew1) | exact HB.out)))); have n1_ := Aside0.mk (below_step (by repeat (first | (with_reducible first | exact HB.out | apply below_alloc | apply pw_below_drewN | apply below_drew1) | exact HB.out)) hb); clear HB; have HO166 := n0_; have HB := n1_; clear n0_ n1_; clear hb ho11)))
          go_loopg [7, 8, 34] kj5 (fun kq v7 v8 v34 w' => ∃ (x7_2 : ByteArray) (x8_2 : List Int) (x34_2 : Int), v7 = .string x7_2 ∧ v34 = .int .i64 x34_2 ∧ Aside0 (mailbaglaw05_FrameAlls.l0 kq l0 a1 a2 x7_2 x8_2 l0 (l0.length : Int) x34_2 = some r) ∧ Aside0 (kq ≤ kj5) ∧ Aside0 (Kd.R (Kd.int .i64) 3 w' w.heap.size (fun _ => True) v8 x8_2) ∧ Aside0 (Below w.heap.size w w'))
          case atStart => exact ⟨((⟨#[]⟩ : ByteArray)), (y164), (0), (by first | rfl | (simp; done) | (simp [*]; done)), (by first | rfl | (simp; done) | (simp [*]; done)), H', ⟨Nat.le_refl _⟩, ⟨by (with_reducible repeat (first | apply Kd.R_alloc | apply Kd.R_drewN | apply Kd.R_drew)); exact HO166.out⟩, ⟨by repeat (first | (with_reducible first | exact HB.out | apply below_alloc | apply pw_below_drewN | apply below_drew1) | exact HB.out)⟩⟩
          case round =>
            clear H'
            try clear p2
            try clear c5
            try clear c8
            try clear c8b0
            try clear c8b1
            try clear c9
            try clear p2
            obtain ⟨x7_2, x8_2, x34_2, rfl, rfl, HA, HK2, HO_8, HB⟩ := hrel
            cases gk with
            | zero => exact absurd HA.out (by simp [mailbaglaw05_FrameAlls.l0])
            | succ k2 =>
              have H := HA.out
              clear HA
              simp only [mailbaglaw05_FrameAlls.l0] at H
              by_cases c12 : x34_2 < (l0.length : Int)
              · rw [if_pos c12] at H
                have c12b0 : decide (x34_2 < (l0.length : Int)) = true := decide_eq_true c12
                clear c12
                by_cases c13 : 0 ≤ x34_2
                · rw [if_pos c13] at H
                  have c13b0 : decide (0 ≤ x34_2) = true := decide_eq_true c13
                  clear c13
                  by_cases c14 : x34_2 < (l0.length : Int)
                  · rw [if_pos c14] at H
                    have c14b0 : decide (x34_2 < (l0.length : Int)) = true := decide_eq_true c14
                    clear c14
                    by_cases c15 : ((rdOf ByteArray.empty l0 x34_2).size : Int) > 300
                    · rw [if_pos c15] at H
                      have c15b0 : decide (300 < ((rdOf ByteArray.empty l0 x34_2).size : Int)) = true := decide_eq_true c15
                      have c15b1 : decide (300 < (rdOf ByteArray.empty l0 x34_2).size) = true := decide_eq_true (by omega)
                      clear c15
                      obtain rfl := Option.some.inj H
                      have p167 : 0 ≤ (x34_2 : Int) := of_decide_eq_true (by first | (with_reducible assumption) | assumption)
                      have q167 : x34_2 < (l0.length : Int) := of_decide_eq_true (by first | (with_reducible assumption) | assumption)
                      obtain ⟨ad167, e167, hx167_0⟩ := Kd.at_string HR0.out x34_2 p167 q167
                      cases e167
                      replace hx167_0 := (HB.out.cell (World.block_lt_of_cell? w _ hx167_0)).trans hx167_0
                      replace p167 := eq_true p167
                      replace q167 := eq_true q167
                      go_wp2
                      repeat (go_quiet (fail); try go_wp2)
                      go_ret
                      exact ⟨by first | rfl | (simp [errW_none, errW_some] <;> rfl) | (simp [*, errW_none, errW_some] <;> rfl), by repeat (first | (with_reducible first | exact HB.out | apply below_alloc | apply pw_below_drewN | apply below_drew1) | exact HB.out)⟩
                    · rw [if_neg c15] at H
                      have c15b0 : decide (300 < ((rdOf ByteArray.empty l0 x34_2).size : Int)) = false := decide_eq_false c15
                      have c15b1 : decide (300 < (rdOf ByteArray.empty l0 x34_2).size) = false := decide_eq_false (by omega)
                      clear c15
                      replace H := Option.bind_eq_some_iff.mp H
                      obtain ⟨⟨t168, t169⟩, A160, H⟩ := H
                      replace H : (if t169 = 0 then ((mailbaglaw05_one.f k2 (rdOf ByteArray.empty l0 x34_2)).bind fun t170 => (if t168.toList = t170.toList then (if x7_2.size + t168.size ≤ 9223372036854775807 then (if x8_2.length < 17592186044416 then (mailbaglaw05_FrameAlls.l0 k2 l0 a1 a2 (x7_2 ++ t168) (x8_2 ++ [((x7_2.size : Int) + (t168.size : Int))]) l0 (l0.length : Int) (wrap64 (x34_2 + 1))) else (none)) else (none)) else (some false))) else (some false)) = some r := H
                      have A16 := Aside0.mk A160
                      clear A160
                      by_cases c17 : t169 = 0
                      · rw [if_pos c17] at H
                        have c17b0 : (t169 == 0) = true := beq_iff_eq.mpr c17
                        have c17b1 : (t169 != 0) = false := bne_eq_false_iff_eq.mpr c17
                        clear c17
                        replace H := Option.bind_eq_some_iff.mp H
                        obtain ⟨t170, A180, H⟩ := H
                        replace H : (if t168.toList = t170.toList then (if x7_2.size + t168.size ≤ 9223372036854775807 then (if x8_2.length < 17592186044416 then (mailbaglaw05_FrameAlls.l0 k2 l0 a1 a2 (x7_2 ++ t168) (x8_2 ++ [((x7_2.size : Int) + (t168.size : Int))]) l0 (l0.length : Int) (wrap64 (x34_2 + 1))) else (none)) else (none)) else (some false)) = some r := H
                        have A18 := Aside0.mk A180
                        clear A180
                        by_cases c19 : t168.toList = t170.toList
                        · rw [if_pos c19] at H
                          have c19b0 : (t168.toList == t170.toList) = true := beq_iff_eq.mpr c19
                          have c19b1 : (t168.toList != t170.toList) = false := bne_eq_false_iff_eq.mpr c19
                          clear c19
                          by_cases c20 : x7_2.size + t168.size ≤ 9223372036854775807
                          · rw [if_pos c20] at H
                            have c20b0 := eq_true c20
                            have c20b1 : decide (x7_2.size + t168.size ≤ 9223372036854775807) = true := decide_eq_true c20
                            try have c20b2 : (9223372036854775807 < x7_2.size + t168.size) = False := eq_false (Nat.not_lt.2 c20)
                            by_cases c21 : x8_2.length < 17592186044416
                            · rw [if_pos c21] at H
                              have LMc21 := Aside0.mk c21
                              clear c21
                              obtain ⟨y171, hy171⟩ : ∃ y_ : List Int, y_ = (x8_2 ++ [((x7_2.size : Int) + (t168.size : Int))]) := ⟨_, rfl⟩
                              replace H : (mailbaglaw05_FrameAlls.l0 k2 l0 a1 a2 (x7_2 ++ t168) y171 l0 (l0.length : Int) (wrap64 (x34_2 + 1))) = some r := by first | (rw [hy171]; with_reducible exact H) | (have H2_ := (Option.bind_some _ _).symm.trans H; rw [hy171]; with_reducible exact H2_) | (have H2_ := (Option.bind_some _ _).symm.trans H; with_reducible exact H2_) | with_reducible exact H | (rw [hy171]; exact H) | exact H
                              have Ny171 := Aside0.mk hy171
                              clear hy171
                              have H' := Aside0.mk H
                              clear H
                              have p167 : 0 ≤ (x34_2 : Int) := of_decide_eq_true (by first | (with_reducible assumption) | assumption)
                              have q167 : x34_2 < (l0.length : Int) := of_decide_eq_true (by first | (with_reducible assumption) | assumption)
                              obtain ⟨ad167, e167, hx167_0⟩ := Kd.at_string HR0.out x34_2 p167 q167
                              cases e167
                              replace hx167_0 := (HB.out.cell (World.block_lt_of_cell? w _ hx167_0)).trans hx167_0
                              replace p167 := eq_true p167
                              replace q167 := eq_true q167
                              go_wp2_with (first | (go_at_call 16; (with_reducible refine (frame_Put.calls k2 (rdOf ByteArray.empty l0 x34_2) t168 t169 _ A16.out).mono ?_); rintro e w22 ⟨rfl, hb⟩; have n0_ := Aside0.mk (Kd.R_below (by (with_reducible repeat (first | apply Kd.R_alloc | apply Kd.R_drewN | apply Kd.R_drew)); exact HO_8.out) hb); have n1_ := Aside0.mk (below_step (by repeat (first | (with_reducible first | exact HB.out | apply below_alloc | apply pw_below_drewN | apply below_drew1) | exact HB.out)) hb); clear HO_8; clear HB; have HO_8 := n0_; have HB := n1_; clear n0_ n1_; (try clear hb); (try clear hb2); (try clear hk); (try clear hi)) | (go_at_call 14; (with_reducible refine (mailbaglaw05_one.calls k2 (rdOf ByteArray.empty l0 x34_2) t170 _ A18.out).mono ?_); rintro e w23 ⟨rfl, hb⟩; have n0_ := Aside0.mk (Kd.R_below (by (with_reducible repeat (first | apply Kd.R_alloc | apply Kd.R_drewN | apply Kd.R_drew)); exact HO_8.out) hb); have n1_ := Aside0.mk (below_step (by repeat (first | (with_reducible first | exact HB.out | apply below_alloc | apply pw_below_drewN | apply below_drew1) | exact HB.out)) hb); clear HO_8; clear HB; have HO_8 := n0_; have HB := n1_; clear n0_ n1_; (try clear hb); (try clear hb2); (try clear hk); (try clear hi)) | ((with_reducible refine gate_builtin (b := .append) (xs := #[.tmp 57, .tmp 60]) rfl ?_); (try (refine gate_guard (by rfl) ?_; dsimp only)); at_builtin; refine Kd.R_append (Kd.int .i64) (w0 := w) w.heap.size rfl (.tmp 57) (.tmp 60) 43 3 (.int .i64 0) 8 rfl Try.underlying43 info3 rfl (by decide) (by omega) u8 x8_2 ((x7_2.size : Int) + (t168.size : Int)) [.int .i64 ((x7_2.size : Int) + (t168.size : Int))] (fun _ => True) (fun _ => False) rfl rfl ?aP (fun _ hk => hk.elim) ?aF ?aO ?aB ?aS ?aL ?_; (case aP => exact rfl); (case aB => exact (by repeat (first | (with_reducible first | exact HB.out | apply below_alloc | apply pw_below_drewN | apply below_drew1) | exact HB.out))); (case aF => exact (fun _ _ => trivial)); (case aO => exact (by (with_reducible repeat (first | apply Kd.R_alloc | apply Kd.R_drewN | apply Kd.R_drew)); exact HO_8.out)); (case aS => exact (below_size (by repeat (first | (with_reducible first | exact HB.out | apply below_alloc | apply pw_below_drewN | apply below_drew1) | exact HB.out)))); (case aL => have := LMc21.out; omega); intro v172 w24 ho hb hg hat; rw [← Ny171.out] at ho; have n0_ := Aside0.mk (hb); have n1_ := Aside0.mk (ho); clear HB; clear HO_8; have HB := n0_; have HO173 := n1_; clear n0_ n1_; clear ho hb hg hat))
                              repeat (go_quiet (first | (go_at_call 16; (with_reducible refine (frame_Put.calls k2 (rdOf ByteArray.empty l0 x34_2) t168 t169 _ A16.out).mono ?_); rintro e w22 ⟨rfl, hb⟩; have n0_ := Aside0.mk (Kd.R_below (by (with_reducible repeat (first | apply Kd.R_alloc | apply Kd.R_drewN | apply Kd.R_drew)); exact HO_8.out) hb); have n1_ := Aside0.mk (below_step (by repeat (first | (with_reducible first | exact HB.out | apply below_alloc | apply pw_below_drewN | apply below_drew1) | exact HB.out)) hb); clear HO_8; clear HB; have HO_8 := n0_; have HB := n1_; clear n0_ n1_; (try clear hb); (try clear hb2); (try clear hk); (try clear hi)) | (go_at_call 14; (with_reducible refine (mailbaglaw05_one.calls k2 (rdOf ByteArray.empty l0 x34_2) t170 _ A18.out).mono ?_); rintro e w23 ⟨rfl, hb⟩; have n0_ := Aside0.mk (Kd.R_below (by (with_reducible repeat (first | apply Kd.R_alloc | apply Kd.R_drewN | apply Kd.R_drew)); exact HO_8.out) hb); have n1_ := Aside0.mk (below_step (by repeat (first | (with_reducible first | exact HB.out | apply below_alloc | apply pw_below_drewN | apply below_drew1) | exact HB.out)) hb); clear HO_8; clear HB; have HO_8 := n0_; have HB := n1_; clear n0_ n1_; (try clear hb); (try clear hb2); (try clear hk); (try clear hi)) | ((with_reducible refine gate_builtin (b := .append) (xs := #[.tmp 57, .tmp 60]) rfl ?_); (try (refine gate_guard (by rfl) ?_; dsimp only)); at_builtin; refine Kd.R_append (Kd.int .i64) (w0 := w) w.heap.size rfl (.tmp 57) (.tmp 60) 43 3 (.int .i64 0) 8 rfl Try.underlying43 info3 rfl (by decide) (by omega) u8 x8_2 ((x7_2.size : Int) + (t168.size : Int)) [.int .i64 ((x7_2.size : Int) + (t168.size : Int))] (fun _ => True) (fun _ => False) rfl rfl ?aP (fun _ hk => hk.elim) ?aF ?aO ?aB ?aS ?aL ?_; (case aP => exact rfl); (case aB => exact (by repeat (first | (with_reducible first | exact HB.out | apply below_alloc | apply pw_below_drewN | apply below_drew1) | exact HB.out))); (case aF => exact (fun _ _ => trivial)); (case aO => exact (by (with_reducible repeat (first | apply Kd.R_alloc | apply Kd.R_drewN | apply Kd.R_drew)); exact HO_8.out)); (case aS => exact (below_size (by repeat (first | (with_reducible first | exact HB.out | apply below_alloc | apply pw_below_drewN | apply below_drew1) | exact HB.out)))); (case aL => have := LMc21.out; omega); intro v172 w24 ho hb hg hat; rw [← Ny171.out] at ho; have n0_ := Aside0.mk (hb); have n1_ := Aside0.mk (ho); clear HB; clear HO_8; have HB := n0_; have HO173 := n1_; clear n0_ n1_; clear ho hb hg hat)); try go_wp2_with (first | (go_at_call 16; (with_reducible refine (frame_Put.calls k2 (rdOf ByteArray.empty l0 x34_2) t168 t169 _ A16.out).mono ?_); rintro e w22 ⟨rfl, hb⟩; have n0_ := Aside0.mk (Kd.R_below (by (with_reducible repeat (first | apply Kd.R_alloc | apply Kd.R_drewN | apply Kd.R_drew)); exact HO_8.out) hb); have n1_ := Aside0.mk (below_step (by repeat (first | (with_reducible first | exact HB.out | apply below_alloc | apply pw_below_drewN | apply below_drew1) | exact HB.out)) hb); clear HO_8; clear HB; have HO_8 := n0_; have HB := n1_; clear n0_ n1_; (try clear hb); (try clear hb2); (try clear hk); (try clear hi)) | (go_at_call 14; (with_reducible refine (mailbaglaw05_one.calls k2 (rdOf ByteArray.empty l0 x34_2) t170 _ A18.out).mono ?_); rintro e w23 ⟨rfl, hb⟩; have n0_ := Aside0.mk (Kd.R_below (by (with_reducible repeat (first | apply Kd.R_alloc | apply Kd.R_drewN | apply Kd.R_drew)); exact HO_8.out) hb); have n1_ := Aside0.mk (below_step (by repeat (first | (with_reducible first | exact HB.out | apply below_alloc | apply pw_below_drewN | apply below_drew1) | exact HB.out)) hb); clear HO_8; clear HB; have HO_8 := n0_; have HB := n1_; clear n0_ n1_; (try clear hb); (try clear hb2); (try clear hk); (try clear hi)) | ((with_reducible refine gate_builtin (b := .append) (xs := #[.tmp 57, .tmp 60]) rfl ?_); (try (refine gate_guard (by rfl) ?_; dsimp only)); at_builtin; refine Kd.R_append (Kd.int .i64) (w0 := w) w.heap.size rfl (.tmp 57) (.tmp 60) 43 3 (.int .i64 0) 8 rfl Try.underlying43 info3 rfl (by decide) (by omega) u8 x8_2 ((x7_2.size : Int) + (t168.size : Int)) [.int .i64 ((x7_2.size : Int) + (t168.size : Int))] (fun _ => True) (fun _ => False) rfl rfl ?aP (fun _ hk => hk.elim) ?aF ?aO ?aB ?aS ?aL ?_; (case aP => exact rfl); (case aB => exact (by repeat (first | (with_reducible first | exact HB.out | apply below_alloc | apply pw_below_drewN | apply below_drew1) | exact HB.out))); (case aF => exact (fun _ _ => trivial)); (case aO => exact (by (with_reducible repeat (first | apply Kd.R_alloc | apply Kd.R_drewN | apply Kd.R_drew)); exact HO_8.out)); (case aS => exact (below_size (by repeat (first | (with_reducible first | exact HB.out | apply below_alloc | apply pw_below_drewN | apply below_drew1) | exact HB.out)))); (case aL => have := LMc21.out; omega); intro v172 w24 ho hb hg hat; rw [← Ny171.out] at ho; have n0_ := Aside0.mk (hb); have n1_ := Aside0.mk (ho); clear HB; clear HO_8; have HB := n0_; have HO173 := n1_; clear n0_ n1_; clear ho hb hg hat)))
                              go_roundg k2
                              case measure => have := HJ5.out; have := HK2.out; omega
                              case rel => exact ⟨(x7_2 ++ t168), (y171), (wrap64 (x34_2 + 1)), (by first | rfl | (simp; done) | (simp [*]; done)), (by first | rfl | (simp; done) | (simp [*]; done)), H', ⟨by have := HJ5.out; have := HK2.out; omega⟩, ⟨by (with_reducible repeat (first | apply Kd.R_alloc | apply Kd.R_drewN | apply Kd.R_drew)); exact HO173.out⟩, ⟨by repeat (first | (with_reducible first | exact HB.out | apply below_alloc | apply pw_below_drewN | apply below_drew1) | exact HB.out)⟩⟩
                            · rw [if_neg c21] at H
                              exact absurd H (by simp)
                          · rw [if_neg c20] at H
                            exact absurd H (by simp)
                        · rw [if_neg c19] at H
                          have c19b0 : (t168.toList == t170.toList) = false := beq_eq_false_iff_ne.mpr c19
                          have c19b1 : (t168.toList != t170.toList) = true := bne_iff_ne.mpr c19
                          obtain rfl := Option.some.inj H
                          have p167 : 0 ≤ (x34_2 : Int) := of_decide_eq_true (by first | (with_reducible assumption) | assumption)
                          have q167 : x34_2 < (l0.length : Int) := of_decide_eq_true (by first | (with_reducible assumption) | assumption)
                          obtain ⟨ad167, e167, hx167_0⟩ := Kd.at_string HR0.out x34_2 p167 q167
                          cases e167
                          replace hx167_0 := (HB.out.cell (World.block_lt_of_cell? w _ hx167_0)).trans hx167_0
                          replace p167 := eq_true p167
                          replace q167 := eq_true q167
                          go_wp2_with (first | (go_at_call 16; (with_reducible refine (frame_Put.calls k2 (rdOf ByteArray.empty l0 x34_2) t168 t169 _ A16.out).mono ?_); rintro e w25 ⟨rfl, hb⟩; have n0_ := Aside0.mk (Kd.R_below (by (with_reducible repeat (first | apply Kd.R_alloc | apply Kd.R_drewN | apply Kd.R_drew)); exact HO_8.out) hb); have n1_ := Aside0.mk (below_step (by repeat (first | (with_reducible first | exact HB.out | apply below_alloc | apply pw_below_drewN | apply below_drew1) | exact HB.out)) hb); clear HO_8; clear HB; have HO_8 := n0_; have HB := n1_; clear n0_ n1_; (try clear hb); (try clear hb2); (try clear hk); (try clear hi)) | (go_at_call 14; (with_reducible refine (mailbaglaw05_one.calls k2 (rdOf ByteArray.empty l0 x34_2) t170 _ A18.out).mono ?_); rintro e w26 ⟨rfl, hb⟩; have n0_ := Aside0.mk (Kd.R_below (by (with_reducible repeat (first | apply Kd.R_alloc | apply Kd.R_drewN | apply Kd.R_drew)); exact HO_8.out) hb); have n1_ := Aside0.mk (below_step (by repeat (first | (with_reducible first | exact HB.out | apply below_alloc | apply pw_below_drewN | apply below_drew1) | exact HB.out)) hb); clear HO_8; clear HB; have HO_8 := n0_; have HB := n1_; clear n0_ n1_; (try clear hb); (try clear hb2); (try clear hk); (try clear hi)))
                          repeat (go_quiet (first | (go_at_call 16; (with_reducible refine (frame_Put.calls k2 (rdOf ByteArray.empty l0 x34_2) t168 t169 _ A16.out).mono ?_); rintro e w25 ⟨rfl, hb⟩; have n0_ := Aside0.mk (Kd.R_below (by (with_reducible repeat (first | apply Kd.R_alloc | apply Kd.R_drewN | apply Kd.R_drew)); exact HO_8.out) hb); have n1_ := Aside0.mk (below_step (by repeat (first | (with_reducible first | exact HB.out | apply below_alloc | apply pw_below_drewN | apply below_drew1) | exact HB.out)) hb); clear HO_8; clear HB; have HO_8 := n0_; have HB := n1_; clear n0_ n1_; (try clear hb); (try clear hb2); (try clear hk); (try clear hi)) | (go_at_call 14; (with_reducible refine (mailbaglaw05_one.calls k2 (rdOf ByteArray.empty l0 x34_2) t170 _ A18.out).mono ?_); rintro e w26 ⟨rfl, hb⟩; have n0_ := Aside0.mk (Kd.R_below (by (with_reducible repeat (first | apply Kd.R_alloc | apply Kd.R_drewN | apply Kd.R_drew)); exact HO_8.out) hb); have n1_ := Aside0.mk (below_step (by repeat (first | (with_reducible first | exact HB.out | apply below_alloc | apply pw_below_drewN | apply below_drew1) | exact HB.out)) hb); clear HO_8; clear HB; have HO_8 := n0_; have HB := n1_; clear n0_ n1_; (try clear hb); (try clear hb2); (try clear hk); (try clear hi))); try go_wp2_with (first | (go_at_call 16; (with_reducible refine (frame_Put.calls k2 (rdOf ByteArray.empty l0 x34_2) t168 t169 _ A16.out).mono ?_); rintro e w25 ⟨rfl, hb⟩; have n0_ := Aside0.mk (Kd.R_below (by (with_reducible repeat (first | apply Kd.R_alloc | apply Kd.R_drewN | apply Kd.R_drew)); exact HO_8.out) hb); have n1_ := Aside0.mk (below_step (by repeat (first | (with_reducible first | exact HB.out | apply below_alloc | apply pw_below_drewN | apply below_drew1) | exact HB.out)) hb); clear HO_8; clear HB; have HO_8 := n0_; have HB := n1_; clear n0_ n1_; (try clear hb); (try clear hb2); (try clear hk); (try clear hi)) | (go_at_call 14; (with_reducible refine (mailbaglaw05_one.calls k2 (rdOf ByteArray.empty l0 x34_2) t170 _ A18.out).mono ?_); rintro e w26 ⟨rfl, hb⟩; have n0_ := Aside0.mk (Kd.R_below (by (with_reducible repeat (first | apply Kd.R_alloc | apply Kd.R_drewN | apply Kd.R_drew)); exact HO_8.out) hb); have n1_ := Aside0.mk (below_step (by repeat (first | (with_reducible first | exact HB.out | apply below_alloc | apply pw_below_drewN | apply below_drew1) | exact HB.out)) hb); clear HO_8; clear HB; have HO_8 := n0_; have HB := n1_; clear n0_ n1_; (try clear hb); (try clear hb2); (try clear hk); (try clear hi))))
                          go_ret
                          exact ⟨by first | rfl | (simp [errW_none, errW_some] <;> rfl) | (simp [*, errW_none, errW_some] <;> rfl), by repeat (first | (with_reducible first | exact HB.out | apply below_alloc | apply pw_below_drewN | apply below_drew1) | exact HB.out)⟩
                      · rw [if_neg c17] at H
                        have c17b0 : (t169 == 0) = false := beq_eq_false_iff_ne.mpr c17
                        have c17b1 : (t169 != 0) = true := bne_iff_ne.mpr c17
                        obtain rfl := Option.some.inj H
                        have p167 : 0 ≤ (x34_2 : Int) := of_decide_eq_true (by first | (with_reducible assumption) | assumption)
                        have q167 : x34_2 < (l0.length : Int) := of_decide_eq_true (by first | (with_reducible assumption) | assumption)
                        obtain ⟨ad167, e167, hx167_0⟩ := Kd.at_string HR0.out x34_2 p167 q167
                        cases e167
                        replace hx167_0 := (HB.out.cell (World.block_lt_of_cell? w _ hx167_0)).trans hx167_0
                        replace p167 := eq_true p167
                        replace q167 := eq_true q167
                        go_wp2_with (first | (go_at_call 16; (with_reducible refine (frame_Put.calls k2 (rdOf ByteArray.empty l0 x34_2) t168 t169 _ A16.out).mono ?_); rintro e w27 ⟨rfl, hb⟩; have n0_ := Aside0.mk (Kd.R_below (by (with_reducible repeat (first | apply Kd.R_alloc | apply Kd.R_drewN | apply Kd.R_drew)); exact HO_8.out) hb); have n1_ := Aside0.mk (below_step (by repeat (first | (with_reducible first | exact HB.out | apply below_alloc | apply pw_below_drewN | apply below_drew1) | exact HB.out)) hb); clear HO_8; clear HB; have HO_8 := n0_; have HB := n1_; clear n0_ n1_; (try clear hb); (try clear hb2); (try clear hk); (try clear hi)))
                        repeat (go_quiet (first | (go_at_call 16; (with_reducible refine (frame_Put.calls k2 (rdOf ByteArray.empty l0 x34_2) t168 t169 _ A16.out).mono ?_); rintro e w27 ⟨rfl, hb⟩; have n0_ := Aside0.mk (Kd.R_below (by (with_reducible repeat (first | apply Kd.R_alloc | apply Kd.R_drewN | apply Kd.R_drew)); exact HO_8.out) hb); have n1_ := Aside0.mk (below_step (by repeat (first | (with_reducible first | exact HB.out | apply below_alloc | apply pw_below_drewN | apply below_drew1) | exact HB.out)) hb); clear HO_8; clear HB; have HO_8 := n0_; have HB := n1_; clear n0_ n1_; (try clear hb); (try clear hb2); (try clear hk); (try clear hi))); try go_wp2_with (first | (go_at_call 16; (with_reducible refine (frame_Put.calls k2 (rdOf ByteArray.empty l0 x34_2) t168 t169 _ A16.out).mono ?_); rintro e w27 ⟨rfl, hb⟩; have n0_ := Aside0.mk (Kd.R_below (by (with_reducible repeat (first | apply Kd.R_alloc | apply Kd.R_drewN | apply Kd.R_drew)); exact HO_8.out) hb); have n1_ := Aside0.mk (below_step (by repeat (first | (with_reducible first | exact HB.out | apply below_alloc | apply pw_below_drewN | apply below_drew1) | exact HB.out)) hb); clear HO_8; clear HB; have HO_8 := n0_; have HB := n1_; clear n0_ n1_; (try clear hb); (try clear hb2); (try clear hk); (try clear hi))))
                        go_ret
                        exact ⟨by first | rfl | (simp [errW_none, errW_some] <;> rfl) | (simp [*, errW_none, errW_some] <;> rfl), by repeat (first | (with_reducible first | exact HB.out | apply below_alloc | apply pw_below_drewN | apply below_drew1) | exact HB.out)⟩
                  · rw [if_neg c14] at H
                    exact absurd H (by simp)
                · rw [if_neg c13] at H
                  exact absurd H (by simp)
              · rw [if_neg c12] at H
                have c12b0 : decide (x34_2 < (l0.length : Int)) = false := decide_eq_false c12
                clear c12
                replace H := Option.bind_eq_some_iff.mp H
                obtain ⟨⟨t174, t175⟩, A280, H⟩ := H
                replace H : (if t175 = (x7_2.size : Int) then (mailbaglaw05_FrameAlls.j2 k2 l0 a1 a2 x7_2 x8_2 t174 ((t174.length : Int) != (l0.length : Int))) else (mailbaglaw05_FrameAlls.j2 k2 l0 a1 a2 x7_2 x8_2 t174 true)) = some r := H
                have A28 := Aside0.mk A280
                clear A280
                have HC29 := Aside0.mk H
                clear H
                go_upto_region 19 with (first | (go_at_call 21; (with_reducible refine (frame_All.calls k2 x7_2 t174 t175 _ A28.out).mono ?_); rintro e w30 ⟨v176, rfl, ho0, hb⟩; have n0_ := Aside0.mk (Kd.R_below (by (with_reducible repeat (first | apply Kd.R_alloc | apply Kd.R_drewN | apply Kd.R_drew)); exact HO_8.out) hb); have n1_ := Aside0.mk (Kd.R_lower ho0 (below_size (by repeat (first | (with_reducible first | exact HB.out | apply below_alloc | apply pw_below_drewN | apply below_drew1) | exact HB.out)))); have n2_ := Aside0.mk (below_step (by repeat (first | (with_reducible first | exact HB.out | apply below_alloc | apply pw_below_drewN | apply below_drew1) | exact HB.out)) hb); clear HO_8; clear HB; have HO_8 := n0_; have HO177 := n1_; have HB := n2_; clear n0_ n1_ n2_; (try clear hb); (try clear hb2); (try clear hk); (try clear hi); (try clear ho0)))
                repeat (go_quiet (first | (go_at_call 21; (with_reducible refine (frame_All.calls k2 x7_2 t174 t175 _ A28.out).mono ?_); rintro e w30 ⟨v176, rfl, ho0, hb⟩; have n0_ := Aside0.mk (Kd.R_below (by (with_reducible repeat (first | apply Kd.R_alloc | apply Kd.R_drewN | apply Kd.R_drew)); exact HO_8.out) hb); have n1_ := Aside0.mk (Kd.R_lower ho0 (below_size (by repeat (first | (with_reducible first | exact HB.out | apply below_alloc | apply pw_below_drewN | apply below_drew1) | exact HB.out)))); have n2_ := Aside0.mk (below_step (by repeat (first | (with_reducible first | exact HB.out | apply below_alloc | apply pw_below_drewN | apply below_drew1) | exact HB.out)) hb); clear HO_8; clear HB; have HO_8 := n0_; have HO177 := n1_; have HB := n2_; clear n0_ n1_ n2_; (try clear hb); (try clear hb2); (try clear hk); (try clear hi); (try clear ho0))); go_upto_region 19 with (first | (go_at_call 21; (with_reducible refine (frame_All.calls k2 x7_2 t174 t175 _ A28.out).mono ?_); rintro e w30 ⟨v176, rfl, ho0, hb⟩; have n0_ := Aside0.mk (Kd.R_below (by (with_reducible repeat (first | apply Kd.R_alloc | apply Kd.R_drewN | apply Kd.R_drew)); exact HO_8.out) hb); have n1_ := Aside0.mk (Kd.R_lower ho0 (below_size (by repeat (first | (with_reducible first | exact HB.out | apply below_alloc | apply pw_below_drewN | apply below_drew1) | exact HB.out)))); have n2_ := Aside0.mk (below_step (by repeat (first | (with_reducible first | exact HB.out | apply below_alloc | apply pw_below_drewN | apply below_drew1) | exact HB.out)) hb); clear HO_8; clear HB; have HO_8 := n0_; have HO177 := n1_; have HB := n2_; clear n0_ n1_ n2_; (try clear hb); (try clear hb2); (try clear hk); (try clear hi); (try clear ho0))))
                (try simp only [Act.put, List.setIfInBounds_toArray, List.set_cons_zero, List.set_cons_succ])
                go_cut [78] (fun v78 wc => ∃ (kq : Nat) (x78_28 : Bool), v78 = .bool x78_28 ∧ Aside0 (mailbaglaw05_FrameAlls.j2 kq l0 a1 a2 x7_2 x8_2 t174 x78_28 = some r) ∧ Aside0 (kq ≤ k2) ∧ Aside0 (Kd.R (Kd.int .i64) 3 wc w.heap.size (fun _ => True) u8 x8_2) ∧ Aside0 (Kd.R Kd.string 9 wc w.heap.size (fun _ => True) v176 t174) ∧ Aside0 (Below w.heap.size w wc))
                case first =>
                  have H := HC29.out
                  clear HC29
                  by_cases c31 : t175 = (x7_2.size : Int)
                  · rw [if_pos c31] at H
                    have c31b0 : (t175 == (x7_2.size : Int)) = true := beq_iff_eq.mpr c31
                    have c31b1 : (t175 != (x7_2.size : Int)) = false := bne_eq_false_iff_eq.mpr c31
                    clear c31
                    (first | rw [c31b0] | (simp only [i64_w, i32_w]; rw [c31b0]) | skip)
                    have H' := Aside0.mk H
                    clear H
                    obtain ⟨Ao32, co32, eo32⟩ := Kd.R_slice HO177.out
                    subst eo32
                    go_wp2
                    repeat (go_quiet (fail); try go_wp2)
                    go_meet
                    case rel => exact ⟨_, (((t174.length : Int) != (l0.length : Int))), (by first | rfl | (simp; done) | (simp [*]; done)), H', ⟨by have := HJ5.out; have := HK2.out; first | omega | exact Nat.le_refl _⟩, ⟨by (with_reducible repeat (first | apply Kd.R_alloc | apply Kd.R_drewN | apply Kd.R_drew)); exact HO_8.out⟩, ⟨by (with_reducible repeat (first | apply Kd.R_alloc | apply Kd.R_drewN | apply Kd.R_drew)); exact HO177.out⟩, ⟨by repeat (first | (with_reducible first | exact HB.out | apply below_alloc | apply pw_below_drewN | apply below_drew1) | exact HB.out)⟩⟩
                  · rw [if_neg c31] at H
                    have c31b0 : (t175 == (x7_2.size : Int)) = false := beq_eq_false_iff_ne.mpr c31
                    have c31b1 : (t175 != (x7_2.size : Int)) = true := bne_iff_ne.mpr c31
                    (first | rw [c31b0] | (simp only [i64_w, i32_w]; rw [c31b0]) | skip)
                    have H' := Aside0.mk H
                    clear H
                    go_wp2
                    repeat (go_quiet (fail); try go_wp2)
                    go_meet
                    case rel => exact ⟨_, (true), (by first | rfl | (simp; done) | (simp [*]; done)), H', ⟨by have := HJ5.out; have := HK2.out; first | omega | exact Nat.le_refl _⟩, ⟨by (with_reducible repeat (first | apply Kd.R_alloc | apply Kd.R_drewN | apply Kd.R_drew)); exact HO_8.out⟩, ⟨by (with_reducible repeat (first | apply Kd.R_alloc | apply Kd.R_drewN | apply Kd.R_drew)); exact HO177.out⟩, ⟨by repeat (first | (with_reducible first | exact HB.out | apply below_alloc | apply pw_below_drewN | apply below_drew1) | exact HB.out)⟩⟩
                case rest =>
                  clear HC29
                  try clear c1
                  try clear p1
                  try clear q1
                  try clear hx1
                  try clear c2
                  try clear p2
                  try clear c3
                  try clear c5
                  try clear p6
                  try clear c8
                  try clear c8b0
                  try clear c8b1
                  try clear c9
                  try clear c12
                  try clear c12b0
                  try clear c13
                  try clear c13b0
                  try clear c14
                  try clear c14b0
                  try clear c15
                  try clear c15b0
                  try clear c15b1
                  try clear p16
                  try clear q16
                  try clear hx16
                  try clear c17
                  try clear c17b0
                  try clear c17b1
                  try clear c19
                  try clear c19b0
                  try clear c19b1
                  try clear c20
                  try clear c20b0
                  try clear c20b1
                  try clear c20b2
                  try clear c21
                  try clear c31
                  try clear c31b0
                  try clear c31b1
                  try clear hx167_0
                  try clear p167
                  try clear p2
                  try clear q167
                  obtain ⟨kq, x78_28, rfl, HA, HJ28, HO_8, HO_13, HB⟩ := hcut
                  cases kq with
                  | zero => exact absurd HA.out (by simp [mailbaglaw05_FrameAlls.j2])
                  | succ kj28 =>
                    have H := HA.out
                    clear HA
                    simp only [mailbaglaw05_FrameAlls.j2] at H
                    by_cases c33 : x78_28 = true
                    · subst c33
                      have H1 : (some false) = some r := by rw [if_pos rfl] at H; exact H
                      clear H
                      have H := H1
                      clear H1
                      obtain rfl := Option.some.inj H
                      go_wp2
                      repeat (go_quiet (fail); try go_wp2)
                      go_ret
                      exact ⟨by first | rfl | (simp [errW_none, errW_some] <;> rfl) | (simp [*, errW_none, errW_some] <;> rfl), by repeat (first | (with_reducible first | exact HB.out | apply below_alloc | apply pw_below_drewN | apply below_drew1) | exact HB.out)⟩
                    · replace c33 := Bool.eq_false_iff.mpr c33
                      subst c33
                      have H1 : (mailbaglaw05_FrameAlls.l1 kj28 l0 a1 a2 x7_2 x8_2 t174 (l0.length : Int) 0) = some r := by rw [if_neg (show ¬ (false = true) by decide)] at H; exact H
                      clear H
                      have H := H1
                      clear H1
                      have H' := Aside0.mk H
                      clear H
                      go_wp2
                      repeat (go_quiet (fail); try go_wp2)
                      go_loopg [81] kj28 (fun kq v81 w' => ∃ (x81_4 : Int), v81 = .int .i64 x81_4 ∧ Aside0 (mailbaglaw05_FrameAlls.l1 kq l0 a1 a2 x7_2 x8_2 t174 (l0.length : Int) x81_4 = some r) ∧ Aside0 (kq ≤ kj28) ∧ Aside0 (Kd.R (Kd.int .i64) 3 w' w.heap.size (fun _ => True) u8 x8_2) ∧ Aside0 (Kd.R Kd.string 9 w' w.heap.size (fun _ => True) v176 t174) ∧ Aside0 (Below w.heap.size w w'))
                      case atStart => exact ⟨(0), (by first | rfl | (simp; done) | (simp [*]; done)), H', ⟨Nat.le_refl _⟩, ⟨by (with_reducible repeat (first | apply Kd.R_alloc | apply Kd.R_drewN | apply Kd.R_drew)); exact HO_8.out⟩, ⟨by (with_reducible repeat (first | apply Kd.R_alloc | apply Kd.R_drewN | apply Kd.R_drew)); exact HO_13.out⟩, ⟨by repeat (first | (with_reducible first | exact HB.out | apply below_alloc | apply pw_below_drewN | apply below_drew1) | exact HB.out)⟩⟩
                      case round =>
                        clear H'
                        try clear c1
                        try clear p1
                        try clear q1
                        try clear hx1
                        try clear c2
                        try clear p2
                        try clear c3
                        try clear c5
                        try clear p6
                        try clear c8
                        try clear c8b0
                        try clear c8b1
                        try clear c9
                        try clear c12
                        try clear c12b0
                        try clear c13
                        try clear c13b0
                        try clear c14
                        try clear c14b0
                        try clear c15
                        try clear c15b0
                        try clear c15b1
                        try clear p16
                        try clear q16
                        try clear hx16
                        try clear c17
                        try clear c17b0
                        try clear c17b1
                        try clear c19
                        try clear c19b0
                        try clear c19b1
                        try clear c20
                        try clear c20b0
                        try clear c20b1
                        try clear c20b2
                        try clear c21
                        try clear c31
                        try clear c31b0
                        try clear c31b1
                        try clear c33
                        try clear hx167_0
                        try clear p1
                        try clear p16
                        try clear p167
                        try clear p2
                        try clear p6
                        try clear q1
                        try clear q16
                        try clear q167
                        obtain ⟨x81_4, rfl, HA, HK4, HO_8, HO_13, HB⟩ := hrel
                        cases gk with
                        | zero => exact absurd HA.out (by simp [mailbaglaw05_FrameAlls.l1])
                        | succ k4 =>
                          have H := HA.out
                          clear HA
                          simp only [mailbaglaw05_FrameAlls.l1] at H
                          by_cases c34 : x81_4 < (l0.length : Int)
                          · rw [if_pos c34] at H
                            have c34b0 : decide (x81_4 < (l0.length : Int)) = true := decide_eq_true c34
                            clear c34
                            by_cases c35 : 0 ≤ x81_4
                            · rw [if_pos c35] at H
                              have c35b0 : decide (0 ≤ x81_4) = true := decide_eq_true c35
                              clear c35
                              by_cases c36 : x81_4 < (t174.length : Int)
                              · rw [if_pos c36] at H
                                have c36b0 : decide (x81_4 < (t174.length : Int)) = true := decide_eq_true c36
                                clear c36
                                by_cases c37 : x81_4 < (l0.length : Int)
                                · rw [if_pos c37] at H
                                  have c37b0 : decide (x81_4 < (l0.length : Int)) = true := decide_eq_true c37
                                  clear c37
                                  by_cases c38 : (rdOf ByteArray.empty t174 x81_4).toList = (rdOf ByteArray.empty l0 x81_4).toList
                                  · rw [if_pos c38] at H
                                    have c38b0 : ((rdOf ByteArray.empty t174 x81_4).toList == (rdOf ByteArray.empty l0 x81_4).toList) = true := beq_iff_eq.mpr c38
                                    have c38b1 : ((rdOf ByteArray.empty t174 x81_4).toList != (rdOf ByteArray.empty l0 x81_4).toList) = false := bne_eq_false_iff_eq.mpr c38
                                    clear c38
                                    have H' := Aside0.mk H
                                    clear H
                                    obtain ⟨Ao39, co39, eo39⟩ := Kd.R_slice HO_13.out
                                    subst eo39
                                    have p178 : 0 ≤ (x81_4 : Int) := of_decide_eq_true (by first | (with_reducible assumption) | assumption)
                                    have q178 : x81_4 < (t174.length : Int) := of_decide_eq_true (by first | (with_reducible assumption) | assumption)
                                    obtain ⟨ad178, e178, hx178_0⟩ := Kd.at_string (Kd.R_reads' HO_13.out).2.2 x81_4 p178 q178
                                    cases e178
                                    replace p178 := eq_true p178
                                    replace q178 := eq_true q178
                                    have p179 : 0 ≤ (x81_4 : Int) := of_decide_eq_true (by first | (with_reducible assumption) | assumption)
                                    have q179 : x81_4 < (l0.length : Int) := of_decide_eq_true (by first | (with_reducible assumption) | assumption)
                                    obtain ⟨ad179, e179, hx179_0⟩ := Kd.at_string HR0.out x81_4 p179 q179
                                    cases e179
                                    replace hx179_0 := (HB.out.cell (World.block_lt_of_cell? w _ hx179_0)).trans hx179_0
                                    replace p179 := eq_true p179
                                    replace q179 := eq_true q179
                                    go_wp2
                                    repeat (go_quiet (fail); try go_wp2)
                                    go_roundg k4
                                    case measure => have := HJ5.out; have := HK2.out; have := HJ28.out; have := HK4.out; omega
                                    case rel => exact ⟨(wrap64 (x81_4 + 1)), (by first | rfl | (simp; done) | (simp [*]; done)), H', ⟨by have := HJ5.out; have := HK2.out; have := HJ28.out; have := HK4.out; omega⟩, ⟨by (with_reducible repeat (first | apply Kd.R_alloc | apply Kd.R_drewN | apply Kd.R_drew)); exact HO_8.out⟩, ⟨by (with_reducible repeat (first | apply Kd.R_alloc | apply Kd.R_drewN | apply Kd.R_drew)); exact HO_13.out⟩, ⟨by repeat (first | (with_reducible first | exact HB.out | apply below_alloc | apply pw_below_drewN | apply below_drew1) | exact HB.out)⟩⟩
                                  · rw [if_neg c38] at H
                                    have c38b0 : ((rdOf ByteArray.empty t174 x81_4).toList == (rdOf ByteArray.empty l0 x81_4).toList) = false := beq_eq_false_iff_ne.mpr c38
                                    have c38b1 : ((rdOf ByteArray.empty t174 x81_4).toList != (rdOf ByteArray.empty l0 x81_4).toList) = true := bne_iff_ne.mpr c38
                                    obtain rfl := Option.some.inj H
                                    obtain ⟨Ao40, co40, eo40⟩ := Kd.R_slice HO_13.out
                                    subst eo40
                                    have p178 : 0 ≤ (x81_4 : Int) := of_decide_eq_true (by first | (with_reducible assumption) | assumption)
                                    have q178 : x81_4 < (t174.length : Int) := of_decide_eq_true (by first | (with_reducible assumption) | assumption)
                                    obtain ⟨ad178, e178, hx178_0⟩ := Kd.at_string (Kd.R_reads' HO_13.out).2.2 x81_4 p178 q178
                                    cases e178
                                    replace p178 := eq_true p178
                                    replace q178 := eq_true q178
                                    have p179 : 0 ≤ (x81_4 : Int) := of_decide_eq_true (by first | (with_reducible assumption) | assumption)
                                    have q179 : x81_4 < (l0.length : Int) := of_decide_eq_true (by first | (with_reducible assumption) | assumption)
                                    obtain ⟨ad179, e179, hx179_0⟩ := Kd.at_string HR0.out x81_4 p179 q179
                                    cases e179
                                    replace hx179_0 := (HB.out.cell (World.block_lt_of_cell? w _ hx179_0)).trans hx179_0
                                    replace p179 := eq_true p179
                                    replace q179 := eq_true q179
                                    go_wp2
                                    repeat (go_quiet (fail); try go_wp2)
                                    go_ret
                                    exact ⟨by first | rfl | (simp [errW_none, errW_some] <;> rfl) | (simp [*, errW_none, errW_some] <;> rfl), by repeat (first | (with_reducible first | exact HB.out | apply below_alloc | apply pw_below_drewN | apply below_drew1) | exact HB.out)⟩
                                · rw [if_neg c37] at H
                                  exact absurd H (by simp)
                              · rw [if_neg c36] at H
                                exact absurd H (by simp)
                            · rw [if_neg c35] at H
                              exact absurd H (by simp)
                          · rw [if_neg c34] at H
                            have c34b0 : decide (x81_4 < (l0.length : Int)) = false := decide_eq_false c34
                            clear c34
                            by_cases c41 : (wrap64 ((x7_2.size : Int) + 1)) = 0
                            · rw [if_pos c41] at H
                              exact absurd H (by simp)
                            · rw [if_neg c41] at H
                              have c41b0 : ((wrap64 ((x7_2.size : Int) + 1)) == 0) = false := beq_eq_false_iff_ne.mpr c41
                              have c41b1 : ((wrap64 ((x7_2.size : Int) + 1)) != 0) = true := bne_iff_ne.mpr c41
                              obtain ⟨ji42, hji42⟩ : ∃ j_ : Int, (Int.tmod (Go.bits .and .i64 a1 65535) (wrap64 ((x7_2.size : Int) + 1))) = j_ := ⟨_, rfl⟩
                              replace H : (if 0 ≤ (ji42) then (if (ji42) ≤ (x7_2.size : Int) then ((frame_All.f k4 (x7_2.extract 0 ((ji42) : Int).toNat)).bind fun bt180 => (mailbaglaw05_FrameAlls.l2 k4 l0 ji42 a2 x7_2 x8_2 bt180.1 bt180.2 0)) else (none)) else (none)) = some r := by first | (rw [hji42] at H; exact H) | (simp only [hji42] at H ⊢; exact H)
                              by_cases c43 : 0 ≤ (ji42)
                              · rw [if_pos c43] at H
                                have c43b0 := eq_true c43
                                have c43b1 : decide (0 ≤ (ji42)) = true := decide_eq_true c43
                                clear c43
                                by_cases c44 : (ji42) ≤ (x7_2.size : Int)
                                · rw [if_pos c44] at H
                                  have c44b0 := eq_true c44
                                  have c44b1 : decide ((ji42) ≤ (x7_2.size : Int)) = true := decide_eq_true c44
                                  clear c44
                                  replace H := Option.bind_eq_some_iff.mp H
                                  obtain ⟨⟨t180, t181⟩, A450, H⟩ := H
                                  replace H : (mailbaglaw05_FrameAlls.l2 k4 l0 ji42 a2 x7_2 x8_2 t180 t181 0) = some r := H
                                  have A45 := Aside0.mk A450
                                  clear A450
                                  have H' := Aside0.mk H
                                  clear H
                                  go_wp2_with (first | (go_at_call 21; (with_reducible refine (frame_All.calls k4 (x7_2.extract 0 ((ji42) : Int).toNat) t180 t181 _ A45.out).mono ?_); rintro e w46 ⟨v182, rfl, ho0, hb⟩; have n0_ := Aside0.mk (Kd.R_below (by (with_reducible repeat (first | apply Kd.R_alloc | apply Kd.R_drewN | apply Kd.R_drew)); exact HO_8.out) hb); have n1_ := Aside0.mk (Kd.R_elder' (by (with_reducible repeat (first | apply Kd.R_alloc | apply Kd.R_drewN | apply Kd.R_drew)); exact HO_13.out) (Kd.R_base ho0) hb); have n2_ := Aside0.mk (Kd.R_lower (Kd.R_new' ho0 (Kd.R_lt (by (with_reducible repeat (first | apply Kd.R_alloc | apply Kd.R_drewN | apply Kd.R_drew)); exact HO_13.out))) (below_size (by repeat (first | (with_reducible first | exact HB.out | apply below_alloc | apply pw_below_drewN | apply below_drew1) | exact HB.out)))); have n3_ := Aside0.mk (below_step (by repeat (first | (with_reducible first | exact HB.out | apply below_alloc | apply pw_below_drewN | apply below_drew1) | exact HB.out)) hb); clear HO_8; clear HO_13; clear HB; have HO_8 := n0_; have HO_13 := n1_; have HO183 := n2_; have HB := n3_; clear n0_ n1_ n2_ n3_; (try clear hb); (try clear hb2); (try clear hk); (try clear hi); (try clear ho0)))
                                  repeat (go_quiet (first | (go_at_call 21; (with_reducible refine (frame_All.calls k4 (x7_2.extract 0 ((ji42) : Int).toNat) t180 t181 _ A45.out).mono ?_); rintro e w46 ⟨v182, rfl, ho0, hb⟩; have n0_ := Aside0.mk (Kd.R_below (by (with_reducible repeat (first | apply Kd.R_alloc | apply Kd.R_drewN | apply Kd.R_drew)); exact HO_8.out) hb); have n1_ := Aside0.mk (Kd.R_elder' (by (with_reducible repeat (first | apply Kd.R_alloc | apply Kd.R_drewN | apply Kd.R_drew)); exact HO_13.out) (Kd.R_base ho0) hb); have n2_ := Aside0.mk (Kd.R_lower (Kd.R_new' ho0 (Kd.R_lt (by (with_reducible repeat (first | apply Kd.R_alloc | apply Kd.R_drewN | apply Kd.R_drew)); exact HO_13.out))) (below_size (by repeat (first | (with_reducible first | exact HB.out | apply below_alloc | apply pw_below_drewN | apply below_drew1) | exact HB.out)))); have n3_ := Aside0.mk (below_step (by repeat (first | (with_reducible first | exact HB.out | apply below_alloc | apply pw_below_drewN | apply below_drew1) | exact HB.out)) hb); clear HO_8; clear HO_13; clear HB; have HO_8 := n0_; have HO_13 := n1_; have HO183 := n2_; have HB := n3_; clear n0_ n1_ n2_ n3_; (try clear hb); (try clear hb2); (try clear hk); (try clear hi); (try clear ho0))); try go_wp2_with (first | (go_at_call 21; (with_reducible refine (frame_All.calls k4 (x7_2.extract 0 ((ji42) : Int).toNat) t180 t181 _ A45.out).mono ?_); rintro e w46 ⟨v182, rfl, ho0, hb⟩; have n0_ := Aside0.mk (Kd.R_below (by (with_reducible repeat (first | apply Kd.R_alloc | apply Kd.R_drewN | apply Kd.R_drew)); exact HO_8.out) hb); have n1_ := Aside0.mk (Kd.R_elder' (by (with_reducible repeat (first | apply Kd.R_alloc | apply Kd.R_drewN | apply Kd.R_drew)); exact HO_13.out) (Kd.R_base ho0) hb); have n2_ := Aside0.mk (Kd.R_lower (Kd.R_new' ho0 (Kd.R_lt (by (with_reducible repeat (first | apply Kd.R_alloc | apply Kd.R_drewN | apply Kd.R_drew)); exact HO_13.out))) (below_size (by repeat (first | (with_reducible first | exact HB.out | apply below_alloc | apply pw_below_drewN | apply below_drew1) | exact HB.out)))); have n3_ := Aside0.mk (below_step (by repeat (first | (with_reducible first | exact HB.out | apply below_alloc | apply pw_below_drewN | apply below_drew1) | exact HB.out)) hb); clear HO_8; clear HO_13; clear HB; have HO_8 := n0_; have HO_13 := n1_; have HO183 := n2_; have HB := n3_; clear n0_ n1_ n2_ n3_; (try clear hb); (try clear hb2); (try clear hk); (try clear hi); (try clear ho0))))
                                  go_loopg [18] k4 (fun kq v18 w' => ∃ (x18_5 : Int), v18 = .int .i64 x18_5 ∧ Aside0 (mailbaglaw05_FrameAlls.l2 kq l0 ji42 a2 x7_2 x8_2 t180 t181 x18_5 = some r) ∧ Aside0 (kq ≤ k4) ∧ Aside0 (Kd.R (Kd.int .i64) 3 w' w.heap.size (fun _ => True) u8 x8_2) ∧ Aside0 (Kd.R Kd.string 9 w' w.heap.size (fun _ => True) v182 t180) ∧ Aside0 (Below w.heap.size w w'))
                                  case atStart => exact ⟨(0), (by first | rfl | (simp; done) | (simp [*]; done)), H', ⟨Nat.le_refl _⟩, ⟨by (with_reducible repeat (first | apply Kd.R_alloc | apply Kd.R_drewN | apply Kd.R_drew)); exact HO_8.out⟩, ⟨by (with_reducible repeat (first | apply Kd.R_alloc | apply Kd.R_drewN | apply Kd.R_drew)); exact Kd.R_mono HO183.out (fun _ hk => trivial)⟩, ⟨by repeat (first | (with_reducible first | exact HB.out | apply below_alloc | apply pw_below_drewN | apply below_drew1) | exact HB.out)⟩⟩
                                  case round =>
                                    clear H'
                                    try clear c1
                                    try clear p1
                                    try clear q1
                                    try clear hx1
                                    try clear c2
                                    try clear p2
                                    try clear c3
                                    try clear c4
                                    try clear c5
                                    try clear p6
                                    try clear c8
                                    try clear c8b0
                                    try clear c8b1
                                    try clear c9
                                    try clear c12
                                    try clear c12b0
                                    try clear c13
                                    try clear c13b0
                                    try clear c14
                                    try clear c14b0
                                    try clear c15
                                    try clear c15b0
                                    try clear c15b1
                                    try clear p16
                                    try clear q16
                                    try clear hx16
                                    try clear c17
                                    try clear c17b0
                                    try clear c17b1
                                    try clear p17
                                    try clear q17
                                    try clear hx17
                                    try clear c19
                                    try clear c19b0
                                    try clear c19b1
                                    try clear c20
                                    try clear c20b0
                                    try clear c20b1
                                    try clear c20b2
                                    try clear c21
                                    try clear c31
                                    try clear c31b0
                                    try clear c31b1
                                    try clear c33
                                    try clear c34
                                    try clear c34b0
                                    try clear c35
                                    try clear c35b0
                                    try clear c36
                                    try clear c36b0
                                    try clear c37
                                    try clear c37b0
                                    try clear c38
                                    try clear c38b0
                                    try clear c38b1
                                    try clear c41
                                    try clear c41b0
                                    try clear c41b1
                                    try clear c43
                                    try clear c43b0
                                    try clear c43b1
                                    try clear c44
                                    try clear c44b0
                                    try clear c44b1
                                    try clear hx167_0
                                    try clear hx178_0
                                    try clear hx179_0
                                    try clear p1
                                    try clear p16
                                    try clear p167
                                    try clear p178
                                    try clear p179
                                    try clear p2
                                    try clear p6
                                    try clear q1
                                    try clear q16
                                    try clear q167
                                    try clear q178
                                    try clear q179
                                    obtain ⟨x18_5, rfl, HA, HK5, HO_8, HO_16, HB⟩ := hrel
                                    cases gk with
                                    | zero => exact absurd HA.out (by simp [mailbaglaw05_FrameAlls.l2])
                                    | succ k5 =>
                                      have H := HA.out
                                      clear HA
                                      simp only [mailbaglaw05_FrameAlls.l2] at H
                                      by_cases c47 : x18_5 < (l0.length : Int)
                                      · rw [if_pos c47] at H
                                        have c47b0 : decide (x18_5 < (l0.length : Int)) = true := decide_eq_true c47
                                        clear c47
                                        obtain ⟨ji48, hji48⟩ : ∃ j_ : Int, (wrap64 (x18_5 + 1)) = j_ := ⟨_, rfl⟩
                                        replace H : (if 0 ≤ (ji48) then (if (ji48) < (x8_2.length : Int) then (if (rd x8_2 (ji48)) ≤ ji42 then (mailbaglaw05_FrameAlls.l2 k5 l0 ji42 a2 x7_2 x8_2 t180 t181 ji48) else (if (t180.length : Int) = x18_5 then (if 0 ≤ x18_5 then (if x18_5 < (x8_2.length : Int) then (if t181 = (rd x8_2 x18_5) then (if x7_2.size + a2.size ≤ 9223372036854775807 then ((frame_All.f k5 (x7_2 ++ a2)).bind fun bt186 => (if (bt186.1.length : Int) ≥ (l0.length : Int) then (some (decide (bt186.2 ≥ (x7_2.size : Int)))) else (some false))) else (none)) else (some false)) else (none)) else (none)) else (some false))) else (none)) else (none)) = some r := by first | (rw [hji48] at H; exact H) | (simp only [hji48] at H ⊢; exact H)
                                        have hji48w : (IntKind.i64.wrap (x18_5 + 1)) = ji48 := (i64_w _).trans hji48
                                        by_cases c49 : 0 ≤ (ji48)
                                        · rw [if_pos c49] at H
                                          have c49b0 : decide (0 ≤ (ji48)) = true := decide_eq_true c49
                                          clear c49
                                          by_cases c50 : (ji48) < (x8_2.length : Int)
                                          · rw [if_pos c50] at H
                                            have c50b0 : decide ((ji48) < (x8_2.length : Int)) = true := decide_eq_true c50
                                            clear c50
                                            by_cases c51 : (rd x8_2 (ji48)) ≤ ji42
                                            · rw [if_pos c51] at H
                                              have c51b0 : decide ((rd x8_2 (ji48)) ≤ ji42) = true := decide_eq_true c51
                                              clear c51
                                              have H' := Aside0.mk H
                                              clear H
                                              obtain ⟨Ao52, co52, eo52⟩ := Kd.R_slice HO_8.out
                                              subst eo52
                                              have p184 : 0 ≤ ((ji48) : Int) := of_decide_eq_true (by first | (with_reducible assumption) | assumption)
                                              have q184 : (ji48) < (x8_2.length : Int) := of_decide_eq_true (by first | (with_reducible assumption) | assumption)
                                              obtain ⟨ad184, e184, hx184_0⟩ := Kd.at_int (Kd.R_reads' HO_8.out).2.2 (ji48) p184 q184
                                              cases e184
                                              replace p184 := eq_true p184
                                              replace q184 := eq_true q184
                                              go_wp2
                                              repeat (go_quiet (fail); try go_wp2)
                                              go_roundg k5
                                              case measure => have := HJ5.out; have := HK2.out; have := HJ28.out; have := HK4.out; have := HK5.out; omega
                                              case rel => exact ⟨(ji48), (by first | rfl | (simp; done) | (simp only [← hji48] <;> (first | rfl | simp)) | (simp [*]; done)), H', ⟨by have := HJ5.out; have := HK2.out; have := HJ28.out; have := HK4.out; have := HK5.out; omega⟩, ⟨by (with_reducible repeat (first | apply Kd.R_alloc | apply Kd.R_drewN | apply Kd.R_drew)); exact HO_8.out⟩, ⟨by (with_reducible repeat (first | apply Kd.R_alloc | apply Kd.R_drewN | apply Kd.R_drew)); exact HO_16.out⟩, ⟨by repeat (first | (with_reducible first | exact HB.out | apply below_alloc | apply pw_below_drewN | apply below_drew1) | exact HB.out)⟩⟩
                                            · rw [if_neg c51] at H
                                              have c51b0 : decide ((rd x8_2 (ji48)) ≤ ji42) = false := decide_eq_false c51
                                              clear c51
                                              by_cases c53 : (t180.length : Int) = x18_5
                                              · rw [if_pos c53] at H
                                                have c53b0 : ((t180.length : Int) == x18_5) = true := beq_iff_eq.mpr c53
                                                have c53b1 : ((t180.length : Int) != x18_5) = false := bne_eq_false_iff_eq.mpr c53
                                                clear c53
                                                by_cases c54 : 0 ≤ x18_5
                                                · rw [if_pos c54] at H
                                                  have c54b0 : decide (0 ≤ x18_5) = true := decide_eq_true c54
                                                  clear c54
                                                  by_cases c55 : x18_5 < (x8_2.length : Int)
                                                  · rw [if_pos c55] at H
                                                    have c55b0 : decide (x18_5 < (x8_2.length : Int)) = true := decide_eq_true c55
                                                    clear c55
                                                    by_cases c56 : t181 = (rd x8_2 x18_5)
                                                    · rw [if_pos c56] at H
                                                      have c56b0 : (t181 == (rd x8_2 x18_5)) = true := beq_iff_eq.mpr c56
                                                      have c56b1 : (t181 != (rd x8_2 x18_5)) = false := bne_eq_false_iff_eq.mpr c56
                                                      clear c56
                                                      by_cases c57 : x7_2.size + a2.size ≤ 9223372036854775807
                                                      · rw [if_pos c57] at H
                                                        have c57b0 := eq_true c57
                                                        have c57b1 : decide (x7_2.size + a2.size ≤ 9223372036854775807) = true := decide_eq_true c57
                                                        try have c57b2 : (9223372036854775807 < x7_2.size + a2.size) = False := eq_false (Nat.not_lt.2 c57)
                                                        replace H := Option.bind_eq_some_iff.mp H
                                                        obtain ⟨⟨t186, t187⟩, A580, H⟩ := H
                                                        replace H : (if (t186.length : Int) ≥ (l0.length : Int) then (some (decide (t187 ≥ (x7_2.size : Int)))) else (some false)) = some r := H
                                                        have A58 := Aside0.mk A580
                                                        clear A580
                                                        by_cases c59 : (t186.length : Int) ≥ (l0.length : Int)
                                                        · rw [if_pos c59] at H
                                                          have c59b0 : decide ((l0.length : Int) ≤ (t186.length : Int)) = true := decide_eq_true c59
                                                          have c59b1 : decide (l0.length ≤ t186.length) = true := decide_eq_true (Int.ofNat_le.mp c59)
                                                          clear c59
                                                          obtain rfl := Option.some.inj H
                                                          obtain ⟨Ao60, co60, eo60⟩ := Kd.R_slice HO_8.out
                                                          subst eo60
                                                          have p184 : 0 ≤ ((ji48) : Int) := of_decide_eq_true (by first | (with_reducible assumption) | assumption)
                                                          have q184 : (ji48) < (x8_2.length : Int) := of_decide_eq_true (by first | (with_reducible assumption) | assumption)
                                                          obtain ⟨ad184, e184, hx184_0⟩ := Kd.at_int (Kd.R_reads' HO_8.out).2.2 (ji48) p184 q184
                                                          cases e184
                                                          replace p184 := eq_true p184
                                                          replace q184 := eq_true q184
                                                          obtain ⟨Ao61, co61, eo61⟩ := Kd.R_slice HO_16.out
                                                          subst eo61
                                                          have p185 : 0 ≤ (x18_5 : Int) := of_decide_eq_true (by first | (with_reducible assumption) | assumption)
                                                          have q185 : x18_5 < (x8_2.length : Int) := of_decide_eq_true (by first | (with_reducible assumption) | assumption)
                                                          obtain ⟨ad185, e185, hx185_0⟩ := Kd.at_int (Kd.R_reads' HO_8.out).2.2 x18_5 p185 q185
                                                          obtain rfl : ad184 = ad185 := (by injection e185)
                                                          replace p185 := eq_true p185
                                                          replace q185 := eq_true q185
                                                          go_wp2_with (first | (go_at_call 21; (with_reducible refine (frame_All.calls k5 (x7_2 ++ a2) t186 t187 _ A58.out).mono ?_); rintro e w62 ⟨v188, rfl, ho0, hb⟩; have n0_ := Aside0.mk (Kd.R_below (by (with_reducible repeat (first | apply Kd.R_alloc | apply Kd.R_drewN | apply Kd.R_drew)); exact HO_8.out) hb); have n1_ := Aside0.mk (Kd.R_elder' (by (with_reducible repeat (first | apply Kd.R_alloc | apply Kd.R_drewN | apply Kd.R_drew)); exact HO_16.out) (Kd.R_base ho0) hb); have n2_ := Aside0.mk (Kd.R_lower (Kd.R_new' ho0 (Kd.R_lt (by (with_reducible repeat (first | apply Kd.R_alloc | apply Kd.R_drewN | apply Kd.R_drew)); exact HO_16.out))) (below_size (by repeat (first | (with_reducible first | exact HB.out | apply below_alloc | apply pw_below_drewN | apply below_drew1) | exact HB.out)))); have n3_ := Aside0.mk (below_step (by repeat (first | (with_reducible first | exact HB.out | apply below_alloc | apply pw_below_drewN | apply below_drew1) | exact HB.out)) hb); clear HO_8; clear HO_16; clear HB; have HO_8 := n0_; have HO_16 := n1_; have HO189 := n2_; have HB := n3_; clear n0_ n1_ n2_ n3_; (try clear hb); (try clear hb2); (try clear hk); (try clear hi); (try clear ho0); obtain ⟨Ao63, co63, eo63⟩ := Kd.R_slice HO189.out; subst eo63))
                                                          repeat (go_quiet (first | (go_at_call 21; (with_reducible refine (frame_All.calls k5 (x7_2 ++ a2) t186 t187 _ A58.out).mono ?_); rintro e w62 ⟨v188, rfl, ho0, hb⟩; have n0_ := Aside0.mk (Kd.R_below (by (with_reducible repeat (first | apply Kd.R_alloc | apply Kd.R_drewN | apply Kd.R_drew)); exact HO_8.out) hb); have n1_ := Aside0.mk (Kd.R_elder' (by (with_reducible repeat (first | apply Kd.R_alloc | apply Kd.R_drewN | apply Kd.R_drew)); exact HO_16.out) (Kd.R_base ho0) hb); have n2_ := Aside0.mk (Kd.R_lower (Kd.R_new' ho0 (Kd.R_lt (by (with_reducible repeat (first | apply Kd.R_alloc | apply Kd.R_drewN | apply Kd.R_drew)); exact HO_16.out))) (below_size (by repeat (first | (with_reducible first | exact HB.out | apply below_alloc | apply pw_below_drewN | apply below_drew1) | exact HB.out)))); have n3_ := Aside0.mk (below_step (by repeat (first | (with_reducible first | exact HB.out | apply below_alloc | apply pw_below_drewN | apply below_drew1) | exact HB.out)) hb); clear HO_8; clear HO_16; clear HB; have HO_8 := n0_; have HO_16 := n1_; have HO189 := n2_; have HB := n3_; clear n0_ n1_ n2_ n3_; (try clear hb); (try clear hb2); (try clear hk); (try clear hi); (try clear ho0); obtain ⟨Ao63, co63, eo63⟩ := Kd.R_slice HO189.out; subst eo63)); try go_wp2_with (first | (go_at_call 21; (with_reducible refine (frame_All.calls k5 (x7_2 ++ a2) t186 t187 _ A58.out).mono ?_); rintro e w62 ⟨v188, rfl, ho0, hb⟩; have n0_ := Aside0.mk (Kd.R_below (by (with_reducible repeat (first | apply Kd.R_alloc | apply Kd.R_drewN | apply Kd.R_drew)); exact HO_8.out) hb); have n1_ := Aside0.mk (Kd.R_elder' (by (with_reducible repeat (first | apply Kd.R_alloc | apply Kd.R_drewN | apply Kd.R_drew)); exact HO_16.out) (Kd.R_base ho0) hb); have n2_ := Aside0.mk (Kd.R_lower (Kd.R_new' ho0 (Kd.R_lt (by (with_reducible repeat (first | apply Kd.R_alloc | apply Kd.R_drewN | apply Kd.R_drew)); exact HO_16.out))) (below_size (by repeat (first | (with_reducible first | exact HB.out | apply below_alloc | apply pw_below_drewN | apply below_drew1) | exact HB.out)))); have n3_ := Aside0.mk (below_step (by repeat (first | (with_reducible first | exact HB.out | apply below_alloc | apply pw_below_drewN | apply below_drew1) | exact HB.out)) hb); clear HO_8; clear HO_16; clear HB; have HO_8 := n0_; have HO_16 := n1_; have HO189 := n2_; have HB := n3_; clear n0_ n1_ n2_ n3_; (try clear hb); (try clear hb2); (try clear hk); (try clear hi); (try clear ho0); obtain ⟨Ao63, co63, eo63⟩ := Kd.R_slice HO189.out; subst eo63)))
                                                          go_ret
                                                          exact ⟨by first | rfl | (simp [errW_none, errW_some] <;> rfl) | (simp only [← hji42, ← hji48]; first | rfl | (simp [errW_none, errW_some] <;> rfl)) | (simp [*, errW_none, errW_some] <;> rfl), by repeat (first | (with_reducible first | exact HB.out | apply below_alloc | apply pw_below_drewN | apply below_drew1) | exact HB.out)⟩
                                                        · rw [if_neg c59] at H
                                                          have c59b0 : decide ((l0.length : Int) ≤ (t186.length : Int)) = false := decide_eq_false c59
                                                          have c59b1 : decide (l0.length ≤ t186.length) = false := decide_eq_false (fun h => c59 (Int.ofNat_le.mpr h))
                                                          clear c59
                                                          obtain rfl := Option.some.inj H
                                                          obtain ⟨Ao64, co64, eo64⟩ := Kd.R_slice HO_8.out
                                                          subst eo64
                                                          have p184 : 0 ≤ ((ji48) : Int) := of_decide_eq_true (by first | (with_reducible assumption) | assumption)
                                                          have q184 : (ji48) < (x8_2.length : Int) := of_decide_eq_true (by first | (with_reducible assumption) | assumption)
                                                          obtain ⟨ad184, e184, hx184_0⟩ := Kd.at_int (Kd.R_reads' HO_8.out).2.2 (ji48) p184 q184
                                                          cases e184
                                                          replace p184 := eq_true p184
                                                          replace q184 := eq_true q184
                                                          obtain ⟨Ao65, co65, eo65⟩ := Kd.R_slice HO_16.out
                                                          subst eo65
                                                          have p185 : 0 ≤ (x18_5 : Int) := of_decide_eq_true (by first | (with_reducible assumption) | assumption)
                                                          have q185 : x18_5 < (x8_2.length : Int) := of_decide_eq_true (by first | (with_reducible assumption) | assumption)
                                                          obtain ⟨ad185, e185, hx185_0⟩ := Kd.at_int (Kd.R_reads' HO_8.out).2.2 x18_5 p185 q185
                                                          obtain rfl : ad184 = ad185 := (by injection e185)
                                                          replace p185 := eq_true p185
                                                          replace q185 := eq_true q185
                                                          go_wp2_with (first | (go_at_call 21; (with_reducible refine (frame_All.calls k5 (x7_2 ++ a2) t186 t187 _ A58.out).mono ?_); rintro e w66 ⟨v188, rfl, ho0, hb⟩; have n0_ := Aside0.mk (Kd.R_below (by (with_reducible repeat (first | apply Kd.R_alloc | apply Kd.R_drewN | apply Kd.R_drew)); exact HO_8.out) hb); have n1_ := Aside0.mk (Kd.R_elder' (by (with_reducible repeat (first | apply Kd.R_alloc | apply Kd.R_drewN | apply Kd.R_drew)); exact HO_16.out) (Kd.R_base ho0) hb); have n2_ := Aside0.mk (Kd.R_lower (Kd.R_new' ho0 (Kd.R_lt (by (with_reducible repeat (first | apply Kd.R_alloc | apply Kd.R_drewN | apply Kd.R_drew)); exact HO_16.out))) (below_size (by repeat (first | (with_reducible first | exact HB.out | apply below_alloc | apply pw_below_drewN | apply below_drew1) | exact HB.out)))); have n3_ := Aside0.mk (below_step (by repeat (first | (with_reducible first | exact HB.out | apply below_alloc | apply pw_below_drewN | apply below_drew1) | exact HB.out)) hb); clear HO_8; clear HO_16; clear HB; have HO_8 := n0_; have HO_16 := n1_; have HO189 := n2_; have HB := n3_; clear n0_ n1_ n2_ n3_; (try clear hb); (try clear hb2); (try clear hk); (try clear hi); (try clear ho0); obtain ⟨Ao67, co67, eo67⟩ := Kd.R_slice HO189.out; subst eo67))
                                                          repeat (go_quiet (first | (go_at_call 21; (with_reducible refine (frame_All.calls k5 (x7_2 ++ a2) t186 t187 _ A58.out).mono ?_); rintro e w66 ⟨v188, rfl, ho0, hb⟩; have n0_ := Aside0.mk (Kd.R_below (by (with_reducible repeat (first | apply Kd.R_alloc | apply Kd.R_drewN | apply Kd.R_drew)); exact HO_8.out) hb); have n1_ := Aside0.mk (Kd.R_elder' (by (with_reducible repeat (first | apply Kd.R_alloc | apply Kd.R_drewN | apply Kd.R_drew)); exact HO_16.out) (Kd.R_base ho0) hb); have n2_ := Aside0.mk (Kd.R_lower (Kd.R_new' ho0 (Kd.R_lt (by (with_reducible repeat (first | apply Kd.R_alloc | apply Kd.R_drewN | apply Kd.R_drew)); exact HO_16.out))) (below_size (by repeat (first | (with_reducible first | exact HB.out | apply below_alloc | apply pw_below_drewN | apply below_drew1) | exact HB.out)))); have n3_ := Aside0.mk (below_step (by repeat (first | (with_reducible first | exact HB.out | apply below_alloc | apply pw_below_drewN | apply below_drew1) | exact HB.out)) hb); clear HO_8; clear HO_16; clear HB; have HO_8 := n0_; have HO_16 := n1_; have HO189 := n2_; have HB := n3_; clear n0_ n1_ n2_ n3_; (try clear hb); (try clear hb2); (try clear hk); (try clear hi); (try clear ho0); obtain ⟨Ao67, co67, eo67⟩ := Kd.R_slice HO189.out; subst eo67)); try go_wp2_with (first | (go_at_call 21; (with_reducible refine (frame_All.calls k5 (x7_2 ++ a2) t186 t187 _ A58.out).mono ?_); rintro e w66 ⟨v188, rfl, ho0, hb⟩; have n0_ := Aside0.mk (Kd.R_below (by (with_reducible repeat (first | apply Kd.R_alloc | apply Kd.R_drewN | apply Kd.R_drew)); exact HO_8.out) hb); have n1_ := Aside0.mk (Kd.R_elder' (by (with_reducible repeat (first | apply Kd.R_alloc | apply Kd.R_drewN | apply Kd.R_drew)); exact HO_16.out) (Kd.R_base ho0) hb); have n2_ := Aside0.mk (Kd.R_lower (Kd.R_new' ho0 (Kd.R_lt (by (with_reducible repeat (first | apply Kd.R_alloc | apply Kd.R_drewN | apply Kd.R_drew)); exact HO_16.out))) (below_size (by repeat (first | (with_reducible first | exact HB.out | apply below_alloc | apply pw_below_drewN | apply below_drew1) | exact HB.out)))); have n3_ := Aside0.mk (below_step (by repeat (first | (with_reducible first | exact HB.out | apply below_alloc | apply pw_below_drewN | apply below_drew1) | exact HB.out)) hb); clear HO_8; clear HO_16; clear HB; have HO_8 := n0_; have HO_16 := n1_; have HO189 := n2_; have HB := n3_; clear n0_ n1_ n2_ n3_; (try clear hb); (try clear hb2); (try clear hk); (try clear hi); (try clear ho0); obtain ⟨Ao67, co67, eo67⟩ := Kd.R_slice HO189.out; subst eo67)))
                                                          go_ret
                                                          exact ⟨by first | rfl | (simp [errW_none, errW_some] <;> rfl) | (simp only [← hji42, ← hji48]; first | rfl | (simp [errW_none, errW_some] <;> rfl)) | (simp [*, errW_none, errW_some] <;> rfl), by repeat (first | (with_reducible first | exact HB.out | apply below_alloc | apply pw_below_drewN | apply below_drew1) | exact HB.out)⟩
                                                      · rw [if_neg c57] at H
                                                        exact absurd H (by simp)
                                                    · rw [if_neg c56] at H
                                                      have c56b0 : (t181 == (rd x8_2 x18_5)) = false := beq_eq_false_iff_ne.mpr c56
                                                      have c56b1 : (t181 != (rd x8_2 x18_5)) = true := bne_iff_ne.mpr c56
                                                      obtain rfl := Option.some.inj H
                                                      obtain ⟨Ao68, co68, eo68⟩ := Kd.R_slice HO_8.out
                                                      subst eo68
                                                      have p184 : 0 ≤ ((ji48) : Int) := of_decide_eq_true (by first | (with_reducible assumption) | assumption)
                                                      have q184 : (ji48) < (x8_2.length : Int) := of_decide_eq_true (by first | (with_reducible assumption) | assumption)
                                                      obtain ⟨ad184, e184, hx184_0⟩ := Kd.at_int (Kd.R_reads' HO_8.out).2.2 (ji48) p184 q184
                                                      cases e184
                                                      replace p184 := eq_true p184
                                                      replace q184 := eq_true q184
                                                      obtain ⟨Ao69, co69, eo69⟩ := Kd.R_slice HO_16.out
                                                      subst eo69
                                                      have p185 : 0 ≤ (x18_5 : Int) := of_decide_eq_true (by first | (with_reducible assumption) | assumption)
                                                      have q185 : x18_5 < (x8_2.length : Int) := of_decide_eq_true (by first | (with_reducible assumption) | assumption)
                                                      obtain ⟨ad185, e185, hx185_0⟩ := Kd.at_int (Kd.R_reads' HO_8.out).2.2 x18_5 p185 q185
                                                      obtain rfl : ad184 = ad185 := (by injection e185)
                                                      replace p185 := eq_true p185
                                                      replace q185 := eq_true q185
                                                      go_wp2
                                                      repeat (go_quiet (fail); try go_wp2)
                                                      go_ret
                                                      exact ⟨by first | rfl | (simp [errW_none, errW_some] <;> rfl) | (simp only [← hji42, ← hji48]; first | rfl | (simp [errW_none, errW_some] <;> rfl)) | (simp [*, errW_none, errW_some] <;> rfl), by repeat (first | (with_reducible first | exact HB.out | apply below_alloc | apply pw_below_drewN | apply below_drew1) | exact HB.out)⟩
                                                  · rw [if_neg c55] at H
                                                    exact absurd H (by simp)
                                                · rw [if_neg c54] at H
                                                  exact absurd H (by simp)
                                              · rw [if_neg c53] at H
                                                have c53b0 : ((t180.length : Int) == x18_5) = false := beq_eq_false_iff_ne.mpr c53
                                                have c53b1 : ((t180.length : Int) != x18_5) = true := bne_iff_ne.mpr c53
                                                obtain rfl := Option.some.inj H
                                                obtain ⟨Ao70, co70, eo70⟩ := Kd.R_slice HO_8.out
                                                subst eo70
                                                have p184 : 0 ≤ ((ji48) : Int) := of_decide_eq_true (by first | (with_reducible assumption) | assumption)
                                                have q184 : (ji48) < (x8_2.length : Int) := of_decide_eq_true (by first | (with_reducible assumption) | assumption)
                                                obtain ⟨ad184, e184, hx184_0⟩ := Kd.at_int (Kd.R_reads' HO_8.out).2.2 (ji48) p184 q184
                                                cases e184
                                                replace p184 := eq_true p184
                                                replace q184 := eq_true q184
                                                obtain ⟨Ao71, co71, eo71⟩ := Kd.R_slice HO_16.out
                                                subst eo71
                                                go_wp2
                                                repeat (go_quiet (fail); try go_wp2)
                                                go_ret
                                                exact ⟨by first | rfl | (simp [errW_none, errW_some] <;> rfl) | (simp only [← hji42, ← hji48]; first | rfl | (simp [errW_none, errW_some] <;> rfl)) | (simp [*, errW_none, errW_some] <;> rfl), by repeat (first | (with_reducible first | exact HB.out | apply below_alloc | apply pw_below_drewN | apply below_drew1) | exact HB.out)⟩
                                          · rw [if_neg c50] at H
                                            exact absurd H (by simp)
                                        · rw [if_neg c49] at H
                                          exact absurd H (by simp)
                                      · rw [if_neg c47] at H
                                        have c47b0 : decide (x18_5 < (l0.length : Int)) = false := decide_eq_false c47
                                        clear c47
                                        by_cases c72 : (t180.length : Int) = x18_5
                                        · rw [if_pos c72] at H
                                          have c72b0 : ((t180.length : Int) == x18_5) = true := beq_iff_eq.mpr c72
                                          have c72b1 : ((t180.length : Int) != x18_5) = false := bne_eq_false_iff_eq.mpr c72
                                          clear c72
                                          by_cases c73 : 0 ≤ x18_5
                                          · rw [if_pos c73] at H
                                            have c73b0 : decide (0 ≤ x18_5) = true := decide_eq_true c73
                                            clear c73
                                            by_cases c74 : x18_5 < (x8_2.length : Int)
                                            · rw [if_pos c74] at H
                                              have c74b0 : decide (x18_5 < (x8_2.length : Int)) = true := decide_eq_true c74
                                              clear c74
                                              by_cases c75 : t181 = (rd x8_2 x18_5)
                                              · rw [if_pos c75] at H
                                                have c75b0 : (t181 == (rd x8_2 x18_5)) = true := beq_iff_eq.mpr c75
                                                have c75b1 : (t181 != (rd x8_2 x18_5)) = false := bne_eq_false_iff_eq.mpr c75
                                                clear c75
                                                by_cases c76 : x7_2.size + a2.size ≤ 9223372036854775807
                                                · rw [if_pos c76] at H
                                                  have c76b0 := eq_true c76
                                                  have c76b1 : decide (x7_2.size + a2.size ≤ 9223372036854775807) = true := decide_eq_true c76
                                                  try have c76b2 : (9223372036854775807 < x7_2.size + a2.size) = False := eq_false (Nat.not_lt.2 c76)
                                                  replace H := Option.bind_eq_some_iff.mp H
                                                  obtain ⟨⟨t191, t192⟩, A770, H⟩ := H
                                                  replace H : (if (t191.length : Int) ≥ (l0.length : Int) then (some (decide (t192 ≥ (x7_2.size : Int)))) else (some false)) = some r := H
                                                  have A77 := Aside0.mk A770
                                                  clear A770
                                                  by_cases c78 : (t191.length : Int) ≥ (l0.length : Int)
                                                  · rw [if_pos c78] at H
                                                    have c78b0 : decide ((l0.length : Int) ≤ (t191.length : Int)) = true := decide_eq_true c78
                                                    have c78b1 : decide (l0.length ≤ t191.length) = true := decide_eq_true (Int.ofNat_le.mp c78)
                                                    clear c78
                                                    obtain rfl := Option.some.inj H
                                                    obtain ⟨Ao79, co79, eo79⟩ := Kd.R_slice HO_16.out
                                                    subst eo79
                                                    obtain ⟨Ao80, co80, eo80⟩ := Kd.R_slice HO_8.out
                                                    subst eo80
                                                    have p190 : 0 ≤ (x18_5 : Int) := of_decide_eq_true (by first | (with_reducible assumption) | assumption)
                                                    have q190 : x18_5 < (x8_2.length : Int) := of_decide_eq_true (by first | (with_reducible assumption) | assumption)
                                                    obtain ⟨ad190, e190, hx190_0⟩ := Kd.at_int (Kd.R_reads' HO_8.out).2.2 x18_5 p190 q190
                                                    cases e190
                                                    replace p190 := eq_true p190
                                                    replace q190 := eq_true q190
                                                    go_wp2_with (first | (go_at_call 21; (with_reducible refine (frame_All.calls k5 (x7_2 ++ a2) t191 t192 _ A77.out).mono ?_); rintro e w81 ⟨v193, rfl, ho0, hb⟩; have n0_ := Aside0.mk (Kd.R_below (by (with_reducible repeat (first | apply Kd.R_alloc | apply Kd.R_drewN | apply Kd.R_drew)); exact HO_8.out) hb); have n1_ := Aside0.mk (Kd.R_elder' (by (with_reducible repeat (first | apply Kd.R_alloc | apply Kd.R_drewN | apply Kd.R_drew)); exact HO_16.out) (Kd.R_base ho0) hb); have n2_ := Aside0.mk (Kd.R_lower (Kd.R_new' ho0 (Kd.R_lt (by (with_reducible repeat (first | apply Kd.R_alloc | apply Kd.R_drewN | apply Kd.R_drew)); exact HO_16.out))) (below_size (by repeat (first | (with_reducible first | exact HB.out | apply below_alloc | apply pw_below_drewN | apply below_drew1) | exact HB.out)))); have n3_ := Aside0.mk (below_step (by repeat (first | (with_reducible first | exact HB.out | apply below_alloc | apply pw_below_drewN | apply below_drew1) | exact HB.out)) hb); clear HO_8; clear HO_16; clear HB; have HO_8 := n0_; have HO_16 := n1_; have HO194 := n2_; have HB := n3_; clear n0_ n1_ n2_ n3_; (try clear hb); (try clear hb2); (try clear hk); (try clear hi); (try clear ho0); obtain ⟨Ao82, co82, eo82⟩ := Kd.R_slice HO194.out; subst eo82))
                                                    repeat (go_quiet (first | (go_at_call 21; (with_reducible refine (frame_All.calls k5 (x7_2 ++ a2) t191 t192 _ A77.out).mono ?_); rintro e w81 ⟨v193, rfl, ho0, hb⟩; have n0_ := Aside0.mk (Kd.R_below (by (with_reducible repeat (first | apply Kd.R_alloc | apply Kd.R_drewN | apply Kd.R_drew)); exact HO_8.out) hb); have n1_ := Aside0.mk (Kd.R_elder' (by (with_reducible repeat (first | apply Kd.R_alloc | apply Kd.R_drewN | apply Kd.R_drew)); exact HO_16.out) (Kd.R_base ho0) hb); have n2_ := Aside0.mk (Kd.R_lower (Kd.R_new' ho0 (Kd.R_lt (by (with_reducible repeat (first | apply Kd.R_alloc | apply Kd.R_drewN | apply Kd.R_drew)); exact HO_16.out))) (below_size (by repeat (first | (with_reducible first | exact HB.out | apply below_alloc | apply pw_below_drewN | apply below_drew1) | exact HB.out)))); have n3_ := Aside0.mk (below_step (by repeat (first | (with_reducible first | exact HB.out | apply below_alloc | apply pw_below_drewN | apply below_drew1) | exact HB.out)) hb); clear HO_8; clear HO_16; clear HB; have HO_8 := n0_; have HO_16 := n1_; have HO194 := n2_; have HB := n3_; clear n0_ n1_ n2_ n3_; (try clear hb); (try clear hb2); (try clear hk); (try clear hi); (try clear ho0); obtain ⟨Ao82, co82, eo82⟩ := Kd.R_slice HO194.out; subst eo82)); try go_wp2_with (first | (go_at_call 21; (with_reducible refine (frame_All.calls k5 (x7_2 ++ a2) t191 t192 _ A77.out).mono ?_); rintro e w81 ⟨v193, rfl, ho0, hb⟩; have n0_ := Aside0.mk (Kd.R_below (by (with_reducible repeat (first | apply Kd.R_alloc | apply Kd.R_drewN | apply Kd.R_drew)); exact HO_8.out) hb); have n1_ := Aside0.mk (Kd.R_elder' (by (with_reducible repeat (first | apply Kd.R_alloc | apply Kd.R_drewN | apply Kd.R_drew)); exact HO_16.out) (Kd.R_base ho0) hb); have n2_ := Aside0.mk (Kd.R_lower (Kd.R_new' ho0 (Kd.R_lt (by (with_reducible repeat (first | apply Kd.R_alloc | apply Kd.R_drewN | apply Kd.R_drew)); exact HO_16.out))) (below_size (by repeat (first | (with_reducible first | exact HB.out | apply below_alloc | apply pw_below_drewN | apply below_drew1) | exact HB.out)))); have n3_ := Aside0.mk (below_step (by repeat (first | (with_reducible first | exact HB.out | apply below_alloc | apply pw_below_drewN | apply below_drew1) | exact HB.out)) hb); clear HO_8; clear HO_16; clear HB; have HO_8 := n0_; have HO_16 := n1_; have HO194 := n2_; have HB := n3_; clear n0_ n1_ n2_ n3_; (try clear hb); (try clear hb2); (try clear hk); (try clear hi); (try clear ho0); obtain ⟨Ao82, co82, eo82⟩ := Kd.R_slice HO194.out; subst eo82)))
                                                    go_ret
                                                    exact ⟨by first | rfl | (simp [errW_none, errW_some] <;> rfl) | (simp only [← hji42]; first | rfl | (simp [errW_none, errW_some] <;> rfl)) | (simp [*, errW_none, errW_some] <;> rfl), by repeat (first | (with_reducible first | exact HB.out | apply below_alloc | apply pw_below_drewN | apply below_drew1) | exact HB.out)⟩
                                                  · rw [if_neg c78] at H
                                                    have c78b0 : decide ((l0.length : Int) ≤ (t191.length : Int)) = false := decide_eq_false c78
                                                    have c78b1 : decide (l0.length ≤ t191.length) = false := decide_eq_false (fun h => c78 (Int.ofNat_le.mpr h))
                                                    clear c78
                                                    obtain rfl := Option.some.inj H
                                                    obtain ⟨Ao83, co83, eo83⟩ := Kd.R_slice HO_16.out
                                                    subst eo83
                                                    obtain ⟨Ao84, co84, eo84⟩ := Kd.R_slice HO_8.out
                                                    subst eo84
                                                    have p190 : 0 ≤ (x18_5 : Int) := of_decide_eq_true (by first | (with_reducible assumption) | assumption)
                                                    have q190 : x18_5 < (x8_2.length : Int) := of_decide_eq_true (by first | (with_reducible assumption) | assumption)
                                                    obtain ⟨ad190, e190, hx190_0⟩ := Kd.at_int (Kd.R_reads' HO_8.out).2.2 x18_5 p190 q190
                                                    cases e190
                                                    replace p190 := eq_true p190
                                                    replace q190 := eq_true q190
                                                    go_wp2_with (first | (go_at_call 21; (with_reducible refine (frame_All.calls k5 (x7_2 ++ a2) t191 t192 _ A77.out).mono ?_); rintro e w85 ⟨v193, rfl, ho0, hb⟩; have n0_ := Aside0.mk (Kd.R_below (by (with_reducible repeat (first | apply Kd.R_alloc | apply Kd.R_drewN | apply Kd.R_drew)); exact HO_8.out) hb); have n1_ := Aside0.mk (Kd.R_elder' (by (with_reducible repeat (first | apply Kd.R_alloc | apply Kd.R_drewN | apply Kd.R_drew)); exact HO_16.out) (Kd.R_base ho0) hb); have n2_ := Aside0.mk (Kd.R_lower (Kd.R_new' ho0 (Kd.R_lt (by (with_reducible repeat (first | apply Kd.R_alloc | apply Kd.R_drewN | apply Kd.R_drew)); exact HO_16.out))) (below_size (by repeat (first | (with_reducible first | exact HB.out | apply below_alloc | apply pw_below_drewN | apply below_drew1) | exact HB.out)))); have n3_ := Aside0.mk (below_step (by repeat (first | (with_reducible first | exact HB.out | apply below_alloc | apply pw_below_drewN | apply below_drew1) | exact HB.out)) hb); clear HO_8; clear HO_16; clear HB; have HO_8 := n0_; have HO_16 := n1_; have HO194 := n2_; have HB := n3_; clear n0_ n1_ n2_ n3_; (try clear hb); (try clear hb2); (try clear hk); (try clear hi); (try clear ho0); obtain ⟨Ao86, co86, eo86⟩ := Kd.R_slice HO194.out; subst eo86))
                                                    repeat (go_quiet (first | (go_at_call 21; (with_reducible refine (frame_All.calls k5 (x7_2 ++ a2) t191 t192 _ A77.out).mono ?_); rintro e w85 ⟨v193, rfl, ho0, hb⟩; have n0_ := Aside0.mk (Kd.R_below (by (with_reducible repeat (first | apply Kd.R_alloc | apply Kd.R_drewN | apply Kd.R_drew)); exact HO_8.out) hb); have n1_ := Aside0.mk (Kd.R_elder' (by (with_reducible repeat (first | apply Kd.R_alloc | apply Kd.R_drewN | apply Kd.R_drew)); exact HO_16.out) (Kd.R_base ho0) hb); have n2_ := Aside0.mk (Kd.R_lower (Kd.R_new' ho0 (Kd.R_lt (by (with_reducible repeat (first | apply Kd.R_alloc | apply Kd.R_drewN | apply Kd.R_drew)); exact HO_16.out))) (below_size (by repeat (first | (with_reducible first | exact HB.out | apply below_alloc | apply pw_below_drewN | apply below_drew1) | exact HB.out)))); have n3_ := Aside0.mk (below_step (by repeat (first | (with_reducible first | exact HB.out | apply below_alloc | apply pw_below_drewN | apply below_drew1) | exact HB.out)) hb); clear HO_8; clear HO_16; clear HB; have HO_8 := n0_; have HO_16 := n1_; have HO194 := n2_; have HB := n3_; clear n0_ n1_ n2_ n3_; (try clear hb); (try clear hb2); (try clear hk); (try clear hi); (try clear ho0); obtain ⟨Ao86, co86, eo86⟩ := Kd.R_slice HO194.out; subst eo86)); try go_wp2_with (first | (go_at_call 21; (with_reducible refine (frame_All.calls k5 (x7_2 ++ a2) t191 t192 _ A77.out).mono ?_); rintro e w85 ⟨v193, rfl, ho0, hb⟩; have n0_ := Aside0.mk (Kd.R_below (by (with_reducible repeat (first | apply Kd.R_alloc | apply Kd.R_drewN | apply Kd.R_drew)); exact HO_8.out) hb); have n1_ := Aside0.mk (Kd.R_elder' (by (with_reducible repeat (first | apply Kd.R_alloc | apply Kd.R_drewN | apply Kd.R_drew)); exact HO_16.out) (Kd.R_base ho0) hb); have n2_ := Aside0.mk (Kd.R_lower (Kd.R_new' ho0 (Kd.R_lt (by (with_reducible repeat (first | apply Kd.R_alloc | apply Kd.R_drewN | apply Kd.R_drew)); exact HO_16.out))) (below_size (by repeat (first | (with_reducible first | exact HB.out | apply below_alloc | apply pw_below_drewN | apply below_drew1) | exact HB.out)))); have n3_ := Aside0.mk (below_step (by repeat (first | (with_reducible first | exact HB.out | apply below_alloc | apply pw_below_drewN | apply below_drew1) | exact HB.out)) hb); clear HO_8; clear HO_16; clear HB; have HO_8 := n0_; have HO_16 := n1_; have HO194 := n2_; have HB := n3_; clear n0_ n1_ n2_ n3_; (try clear hb); (try clear hb2); (try clear hk); (try clear hi); (try clear ho0); obtain ⟨Ao86, co86, eo86⟩ := Kd.R_slice HO194.out; subst eo86)))
                                                    go_ret
                                                    exact ⟨by first | rfl | (simp [errW_none, errW_some] <;> rfl) | (simp only [← hji42]; first | rfl | (simp [errW_none, errW_some] <;> rfl)) | (simp [*, errW_none, errW_some] <;> rfl), by repeat (first | (with_reducible first | exact HB.out | apply below_alloc | apply pw_below_drewN | apply below_drew1) | exact HB.out)⟩
                                                · rw [if_neg c76] at H
                                                  exact absurd H (by simp)
                                              · rw [if_neg c75] at H
                                                have c75b0 : (t181 == (rd x8_2 x18_5)) = false := beq_eq_false_iff_ne.mpr c75
                                                have c75b1 : (t181 != (rd x8_2 x18_5)) = true := bne_iff_ne.mpr c75
                                                obtain rfl := Option.some.inj H
                                                obtain ⟨Ao87, co87, eo87⟩ := Kd.R_slice HO_16.out
                                                subst eo87
                                                obtain ⟨Ao88, co88, eo88⟩ := Kd.R_slice HO_8.out
                                                subst eo88
                                                have p190 : 0 ≤ (x18_5 : Int) := of_decide_eq_true (by first | (with_reducible assumption) | assumption)
                                                have q190 : x18_5 < (x8_2.length : Int) := of_decide_eq_true (by first | (with_reducible assumption) | assumption)
                                                obtain ⟨ad190, e190, hx190_0⟩ := Kd.at_int (Kd.R_reads' HO_8.out).2.2 x18_5 p190 q190
                                                cases e190
                                                replace p190 := eq_true p190
                                                replace q190 := eq_true q190
                                                go_wp2
                                                repeat (go_quiet (fail); try go_wp2)
                                                go_ret
                                                exact ⟨by first | rfl | (simp [errW_none, errW_some] <;> rfl) | (simp only [← hji42]; first | rfl | (simp [errW_none, errW_some] <;> rfl)) | (simp [*, errW_none, errW_some] <;> rfl), by repeat (first | (with_reducible first | exact HB.out | apply below_alloc | apply pw_below_drewN | apply below_drew1) | exact HB.out)⟩
                                            · rw [if_neg c74] at H
                                              exact absurd H (by simp)
                                          · rw [if_neg c73] at H
                                            exact absurd H (by simp)
                                        · rw [if_neg c72] at H
                                          have c72b0 : ((t180.length : Int) == x18_5) = false := beq_eq_false_iff_ne.mpr c72
                                          have c72b1 : ((t180.length : Int) != x18_5) = true := bne_iff_ne.mpr c72
                                          obtain rfl := Option.some.inj H
                                          obtain ⟨Ao89, co89, eo89⟩ := Kd.R_slice HO_16.out
                                          subst eo89
                                          go_wp2
                                          repeat (go_quiet (fail); try go_wp2)
                                          go_ret
                                          exact ⟨by first | rfl | (simp [errW_none, errW_some] <;> rfl) | (simp only [← hji42]; first | rfl | (simp [errW_none, errW_some] <;> rfl)) | (simp [*, errW_none, errW_some] <;> rfl), by repeat (first | (with_reducible first | exact HB.out | apply below_alloc | apply pw_below_drewN | apply below_drew1) | exact HB.out)⟩
                                · rw [if_neg c44] at H
                                  exact absurd H (by simp)
                              · rw [if_neg c43] at H
                                exact absurd H (by simp)
  · replace c5 := Bool.eq_false_iff.mpr c5
    subst c5
    have H1 : (some false) = some r := by rw [if_neg (show ¬ (false = true) by decide)] at H; exact H
    clear H
    have H := H1
    clear H1
    obtain rfl := Option.some.inj H
    go_enter Try.func8, Try.ntmps8
    go_wp2_with (first | (go_at_call 12; (with_reducible refine (mailbaglaw05_head.calls k  false _ A4.out).mono ?_); rintro e w90 ⟨rfl, hb⟩; have n0_ := Aside0.mk (below_step (by repeat (first | (with_reducible first | exact HB.out | apply below_alloc | apply pw_below_drewN | apply below_drew1) | exact HB.out)) hb); clear HB; have HB := n0_; clear n0_; (try clear hb); (try clear hb2); (try clear hk); (try clear hi)))
    repeat (go_quiet (first | (go_at_call 12; (with_reducible refine (mailbaglaw05_head.calls k  false _ A4.out).mono ?_); rintro e w90 ⟨rfl, hb⟩; have n0_ := Aside0.mk (below_step (by repeat (first | (with_reducible first | exact HB.out | apply below_alloc | apply pw_below_drewN | apply below_drew1) | exact HB.out)) hb); clear HB; have HB := n0_; clear n0_; (try clear hb); (try clear hb2); (try clear hk); (try clear hi))); try go_wp2_with (first | (go_at_call 12; (with_reducible refine (mailbaglaw05_head.calls k  false _ A4.out).mono ?_); rintro e w90 ⟨rfl, hb⟩; have n0_ := Aside0.mk (below_step (by repeat (first | (with_reducible first | exact HB.out | apply below_alloc | apply pw_below_drewN | apply below_drew1) | exact HB.out)) hb); clear HB; have HB := n0_; clear n0_; (try clear hb); (try clear hb2); (try clear hk); (try clear hi))))
    go_ret
    exact ⟨by first | rfl | (simp [errW_none, errW_some] <;> rfl) | (simp [*, errW_none, errW_some] <;> rfl), by repeat (first | (with_reducible first | exact HB.out | apply below_alloc | apply pw_below_drewN | apply below_drew1) | exact HB.out)⟩

end Go.Proofs.Ytcoollbcnpmlfaa.P
