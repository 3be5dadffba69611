-- Written by a program of this session, out of Lean's own print of the translation. Lean checks it.
import Derived.Test.YtcoollbcnpmlfaaFt0
import Derived.Test.YtcoollbcnpmlfaaPx0
import Derived.Test.YtcoollbcnpmlfaaFrz
import Derived.Test.YtcoollbcnpmlfaaPx6
import Derived.Test.YtcoollbcnpmlfaaPx8
import Derived.Test.YtcoollbcnpmlfaaPx12
namespace Go.Proofs.Ytcoollbcnpmlfaa.P
open Go.Proofs.Ytcoollbcnpmlfaa
open Go.RowKit Go.Proofs.YtcoollbcnpmlfaaW.PrintWords Go.Proofs.YtcoollbcnpmlfaaW.PrintLast Go.Proofs.YtcoollbcnpmlfaaW.PrintMore
attribute [local go_sem] max2_int min2_int max_two min_two max_three min_three max_four min_four   -- for this text's walks alone
set_option linter.unusedVariables false
set_option linter.unusedSimpArgs false

set_option maxHeartbeats 8000000 in
set_option maxRecDepth 100000 in
theorem mailbaglaw05_FrameTurns.calls (k : Nat) (A0 : Option Addr) (c0 : Nat) (l0 : List ByteArray) (a1 : Int) (a2 : Int) (a3 : Int) (a4 : Bool) (r : Bool) (w : World) (hr0 : Kd.C Kd.string w A0 l0.length l0) (hc0 : l0.length ≤ c0) (h : mailbaglaw05_FrameTurns.f k l0 a1 a2 a3 a4 = some r) :
    Calls Try.prog 9 #[.slice A0 l0.length c0, .int .i64 a1, .int .i64 a2, .int .u32 a3, .bool a4] w fun e w' => e = .returned (.bool r) ∧ Below w.heap.size w w' := by
  have HR0 := Aside0.mk hr0
  have HC0 := Aside0.mk hc0
  clear hr0 hc0
  have HB := Aside0.mk (Below.refl w.heap.size w)
  have H : ((mailbaglaw05_head.f k).bind fun t181 => (if t181 = true then (if (l0.length : Int) = 0 then (mailbaglaw05_FrameTurns.j0 k l0 a1 a2 a3 a4 true) else (if (l0.length : Int) > 10 then (mailbaglaw05_FrameTurns.j0 k l0 a1 a2 a3 a4 true) else (mailbaglaw05_FrameTurns.j0 k l0 a1 a2 a3 a4 (a3 == 0)))) else (some false))) = some r := h
  clear h
  replace H := Option.bind_eq_some_iff.mp H
  obtain ⟨t181, A60, H⟩ := H
  replace H : (if t181 = true then (if (l0.length : Int) = 0 then (mailbaglaw05_FrameTurns.j0 k l0 a1 a2 a3 a4 true) else (if (l0.length : Int) > 10 then (mailbaglaw05_FrameTurns.j0 k l0 a1 a2 a3 a4 true) else (mailbaglaw05_FrameTurns.j0 k l0 a1 a2 a3 a4 (a3 == 0)))) else (some false)) = some r := H
  have A6 := Aside0.mk A60
  clear A60
  by_cases c7 : t181 = true
  · subst c7
    have H1 : (if (l0.length : Int) = 0 then (mailbaglaw05_FrameTurns.j0 k l0 a1 a2 a3 a4 true) else (if (l0.length : Int) > 10 then (mailbaglaw05_FrameTurns.j0 k l0 a1 a2 a3 a4 true) else (mailbaglaw05_FrameTurns.j0 k l0 a1 a2 a3 a4 (a3 == 0)))) = some r := by rw [if_pos rfl] at H; exact H
    clear H
    have H := H1
    clear H1
    have HC8 := Aside0.mk H
    clear H
    go_enter Try.func9, Try.ntmps9
    go_upto_region 3 with (first | (go_at_call 12; (with_reducible refine (mailbaglaw05_head.calls k  true _ A6.out).mono ?_); rintro e w9 ⟨rfl, hb⟩; have n0_ := Aside0.mk (below_step (by repeat (first | (with_reducible first | exact HB.out | apply below_alloc | apply pw_below_drewN | apply below_drew1) | exact HB.out)) hb); clear HB; have HB := n0_; clear n0_; (try clear hb); (try clear hb2); (try clear hk); (try clear hi)))
    repeat (go_quiet (first | (go_at_call 12; (with_reducible refine (mailbaglaw05_head.calls k  true _ A6.out).mono ?_); rintro e w9 ⟨rfl, hb⟩; have n0_ := Aside0.mk (below_step (by repeat (first | (with_reducible first | exact HB.out | apply below_alloc | apply pw_below_drewN | apply below_drew1) | exact HB.out)) hb); clear HB; have HB := n0_; clear n0_; (try clear hb); (try clear hb2); (try clear hk); (try clear hi))); go_upto_region 3 with (first | (go_at_call 12; (with_reducible refine (mailbaglaw05_head.calls k  true _ A6.out).mono ?_); rintro e w9 ⟨rfl, hb⟩; have n0_ := Aside0.mk (below_step (by repeat (first | (with_reducible first | exact HB.out | apply below_alloc | apply pw_below_drewN | apply below_drew1) | exact HB.out)) hb); clear HB; have HB := n0_; clear n0_; (try clear hb); (try clear hb2); (try clear hk); (try clear hi))))
    (try simp only [Act.put, List.setIfInBounds_toArray, List.set_cons_zero, List.set_cons_succ])
    go_cut [36] (fun v36 wc => ∃ (kq : Nat) (x36_7 : Bool), v36 = .bool x36_7 ∧ Aside0 (mailbaglaw05_FrameTurns.j0 kq l0 a1 a2 a3 a4 x36_7 = some r) ∧ Aside0 (kq ≤ k) ∧ Aside0 (Below w.heap.size w wc))
    case first =>
      have H := HC8.out
      clear HC8
      by_cases c10 : (l0.length : Int) = 0
      · rw [if_pos c10] at H
        have c10b0 : ((l0.length : Int) == 0) = true := beq_iff_eq.mpr c10
        have c10b1 : ((l0.length : Int) != 0) = false := bne_eq_false_iff_eq.mpr c10
        clear c10
        (first | rw [c10b0] | (simp only [i64_w, i32_w]; rw [c10b0]) | skip)
        have H' := Aside0.mk H
        clear H
        go_wp2
        repeat (go_quiet (fail); try go_wp2)
        go_meet
        case rel => exact ⟨_, (true), (by first | rfl | (simp; done) | (simp [*]; done)), H', ⟨by first | omega | exact Nat.le_refl _⟩, ⟨by repeat (first | (with_reducible first | exact HB.out | apply below_alloc | apply pw_below_drewN | apply below_drew1) | exact HB.out)⟩⟩
      · rw [if_neg c10] at H
        have c10b0 : ((l0.length : Int) == 0) = false := beq_eq_false_iff_ne.mpr c10
        have c10b1 : ((l0.length : Int) != 0) = true := bne_iff_ne.mpr c10
        have c10b2 : ¬ (l0 = []) := fun h_ => c10 (by rw [h_]; rfl)
        (first | rw [c10b0] | (simp only [i64_w, i32_w]; rw [c10b0]) | skip)
        by_cases c11 : (l0.length : Int) > 10
        · rw [if_pos c11] at H
          have c11b0 : decide (10 < (l0.length : Int)) = true := decide_eq_true c11
          have c11b1 : decide (10 < l0.length) = true := decide_eq_true (by omega)
          clear c11
          have H' := Aside0.mk H
          clear H
          go_wp2
          repeat (go_quiet (fail); try go_wp2)
          go_meet
          case rel => exact ⟨_, (true), (by first | rfl | (simp; done) | (simp [*]; done)), H', ⟨by first | omega | exact Nat.le_refl _⟩, ⟨by repeat (first | (with_reducible first | exact HB.out | apply below_alloc | apply pw_below_drewN | apply below_drew1) | exact HB.out)⟩⟩
        · rw [if_neg c11] at H
          have c11b0 : decide (10 < (l0.length : Int)) = false := decide_eq_false c11
          have c11b1 : decide (10 < l0.length) = false := decide_eq_false (by omega)
          clear c11
          have H' := Aside0.mk H
          clear H
          go_wp2
          repeat (go_quiet (fail); try go_wp2)
          go_meet
          case rel => exact ⟨_, ((a3 == 0)), (by first | rfl | (simp; done) | (simp [*]; done)), H', ⟨by first | omega | exact Nat.le_refl _⟩, ⟨by repeat (first | (with_reducible first | exact HB.out | apply below_alloc | apply pw_below_drewN | apply below_drew1) | exact HB.out)⟩⟩
    case rest =>
      clear HC8
      try clear c1
      try clear p2
      try clear c7
      try clear c9
      try clear c10
      try clear c10b0
      try clear c10b1
      try clear c10b2
      try clear c11
      try clear c11b0
      try clear c11b1
      obtain ⟨kq, x36_7, rfl, HA, HJ7, HB⟩ := hcut
      cases kq with
      | zero => exact absurd HA.out (by simp [mailbaglaw05_FrameTurns.j0])
      | succ kj7 =>
        have H := HA.out
        clear HA
        simp only [mailbaglaw05_FrameTurns.j0] at H
        by_cases c12 : x36_7 = true
        · subst c12
          have H1 : (some true) = some r := by rw [if_pos rfl] at H; exact H
          clear H
          have H := H1
          clear H1
          obtain rfl := Option.some.inj H
          go_wp2
          repeat (go_quiet (fail); try go_wp2)
          go_ret
          exact ⟨by first | rfl | (simp [errW_none, errW_some] <;> rfl) | (simp [*, errW_none, errW_some] <;> rfl), by repeat (first | (with_reducible first | exact HB.out | apply below_alloc | apply pw_below_drewN | apply below_drew1) | exact HB.out)⟩
        · replace c12 := Bool.eq_false_iff.mpr c12
          subst c12
          have H1 : (if (l0.length : Int) = 0 then (none) else (mailbaglaw05_FrameTurns.l0 kj7 l0 (Int.tmod (Go.bits .and .i64 a1 1023) (l0.length : Int)) a2 a3 a4 (⟨#[]⟩ : ByteArray) 0 l0 (l0.length : Int) 0)) = some r := by rw [if_neg (show ¬ (false = true) by decide)] at H; exact H
          clear H
          have H := H1
          clear H1
          by_cases c13 : (l0.length : Int) = 0
          · rw [if_pos c13] at H
            exact absurd H (by simp)
          · rw [if_neg c13] at H
            have c13b0 : ((l0.length : Int) == 0) = false := beq_eq_false_iff_ne.mpr c13
            have c13b1 : ((l0.length : Int) != 0) = true := bne_iff_ne.mpr c13
            have c13b2 : ¬ (l0 = []) := fun h_ => c13 (by rw [h_]; rfl)
            have H' := Aside0.mk H
            clear H
            go_wp2
            repeat (go_quiet (fail); try go_wp2)
            go_loopg [11, 12, 44] kj7 (fun kq v11 v12 v44 w' => ∃ (x11_2 : ByteArray) (x12_2 : Int) (x44_2 : Int), v11 = .string x11_2 ∧ v12 = .int .i64 x12_2 ∧ v44 = .int .i64 x44_2 ∧ Aside0 (mailbaglaw05_FrameTurns.l0 kq l0 (Int.tmod (Go.bits .and .i64 a1 1023) (l0.length : Int)) a2 a3 a4 x11_2 x12_2 l0 (l0.length : Int) x44_2 = some r) ∧ Aside0 (kq ≤ kj7) ∧ Aside0 (Below w.heap.size w w'))
            case atStart => exact ⟨((⟨#[]⟩ : ByteArray)), (0), (0), (by first | rfl | (simp; done) | (simp [*]; done)), (by first | rfl | (simp; done) | (simp [*]; done)), (by first | rfl | (simp; done) | (simp [*]; done)), H', ⟨Nat.le_refl _⟩, ⟨by repeat (first | (with_reducible first | exact HB.out | apply below_alloc | apply pw_below_drewN | apply below_drew1) | exact HB.out)⟩⟩
            case round =>
              clear H'
              try clear c1
              try clear p2
              try clear c7
              try clear c9
              try clear c10
              try clear c10b0
              try clear c10b1
              try clear c10b2
              try clear c11
              try clear c11b0
              try clear c11b1
              try clear c12
              try clear c13
              try clear c13b0
              try clear c13b1
              try clear c13b2
              try clear p2
              obtain ⟨x11_2, x12_2, x44_2, rfl, rfl, rfl, HA, HK2, HB⟩ := hrel
              cases gk with
              | zero => exact absurd HA.out (by simp [mailbaglaw05_FrameTurns.l0])
              | succ k2 =>
                have H := HA.out
                clear HA
                simp only [mailbaglaw05_FrameTurns.l0] at H
                by_cases c14 : x44_2 < (l0.length : Int)
                · rw [if_pos c14] at H
                  have c14b0 : decide (x44_2 < (l0.length : Int)) = true := decide_eq_true c14
                  clear c14
                  by_cases c15 : 0 ≤ x44_2
                  · rw [if_pos c15] at H
                    have c15b0 : decide (0 ≤ x44_2) = true := decide_eq_true c15
                    clear c15
                    by_cases c16 : x44_2 < (l0.length : Int)
                    · rw [if_pos c16] at H
                      have c16b0 : decide (x44_2 < (l0.length : Int)) = true := decide_eq_true c16
                      clear c16
                      by_cases c17 : ((rdOf ByteArray.empty l0 x44_2).size : Int) > 200
                      · rw [if_pos c17] at H
                        have c17b0 : decide (200 < ((rdOf ByteArray.empty l0 x44_2).size : Int)) = true := decide_eq_true c17
                        have c17b1 : decide (200 < (rdOf ByteArray.empty l0 x44_2).size) = true := decide_eq_true (by omega)
                        clear c17
                        obtain rfl := Option.some.inj H
                        have p182 : 0 ≤ (x44_2 : Int) := of_decide_eq_true (by first | (with_reducible assumption) | assumption)
                        have q182 : x44_2 < (l0.length : Int) := of_decide_eq_true (by first | (with_reducible assumption) | assumption)
                        obtain ⟨ad182, e182, hx182_0⟩ := Kd.at_string HR0.out x44_2 p182 q182
                        cases e182
                        replace hx182_0 := (HB.out.cell (World.block_lt_of_cell? w _ hx182_0)).trans hx182_0
                        replace p182 := eq_true p182
                        replace q182 := eq_true q182
                        go_wp2
                        repeat (go_quiet (fail); try go_wp2)
                        go_ret
                        exact ⟨by first | rfl | (simp [errW_none, errW_some] <;> rfl) | (simp [*, errW_none, errW_some] <;> rfl), by repeat (first | (with_reducible first | exact HB.out | apply below_alloc | apply pw_below_drewN | apply below_drew1) | exact HB.out)⟩
                      · rw [if_neg c17] at H
                        have c17b0 : decide (200 < ((rdOf ByteArray.empty l0 x44_2).size : Int)) = false := decide_eq_false c17
                        have c17b1 : decide (200 < (rdOf ByteArray.empty l0 x44_2).size) = false := decide_eq_false (by omega)
                        clear c17
                        by_cases c18 : x44_2 = (Int.tmod (Go.bits .and .i64 a1 1023) (l0.length : Int))
                        · rw [if_pos c18] at H
                          have c18b0 : (x44_2 == (Int.tmod (Go.bits .and .i64 a1 1023) (l0.length : Int))) = true := beq_iff_eq.mpr c18
                          have c18b1 : (x44_2 != (Int.tmod (Go.bits .and .i64 a1 1023) (l0.length : Int))) = false := bne_eq_false_iff_eq.mpr c18
                          clear c18
                          replace H := Option.bind_eq_some_iff.mp H
                          obtain ⟨t183, A190, H⟩ := H
                          replace H : (if x11_2.size + t183.size ≤ 9223372036854775807 then (mailbaglaw05_FrameTurns.l0 k2 l0 (Int.tmod (Go.bits .and .i64 a1 1023) (l0.length : Int)) a2 a3 a4 (x11_2 ++ t183) (x11_2.size : Int) l0 (l0.length : Int) (wrap64 (x44_2 + 1))) else (none)) = some r := H
                          have A19 := Aside0.mk A190
                          clear A190
                          by_cases c20 : x11_2.size + t183.size ≤ 9223372036854775807
                          · rw [if_pos c20] at H
                            have c20b0 := eq_true c20
                            have c20b1 : decide (x11_2.size + t183.size ≤ 9223372036854775807) = true := decide_eq_true c20
                            try have c20b2 : (9223372036854775807 < x11_2.size + t183.size) = False := eq_false (Nat.not_lt.2 c20)
                            have H' := Aside0.mk H
                            clear H
                            have p182 : 0 ≤ (x44_2 : Int) := of_decide_eq_true (by first | (with_reducible assumption) | assumption)
                            have q182 : x44_2 < (l0.length : Int) := of_decide_eq_true (by first | (with_reducible assumption) | assumption)
                            obtain ⟨ad182, e182, hx182_0⟩ := Kd.at_string HR0.out x44_2 p182 q182
                            cases e182
                            replace hx182_0 := (HB.out.cell (World.block_lt_of_cell? w _ hx182_0)).trans hx182_0
                            replace p182 := eq_true p182
                            replace q182 := eq_true q182
                            go_wp2_with (first | (go_at_call 14; (with_reducible refine (mailbaglaw05_one.calls k2 (rdOf ByteArray.empty l0 x44_2) t183 _ A19.out).mono ?_); rintro e w21 ⟨rfl, hb⟩; have n0_ := Aside0.mk (below_step (by repeat (first | (with_reducible first | exact HB.out | apply below_alloc | apply pw_below_drewN | apply below_drew1) | exact HB.out)) hb); clear HB; have HB := n0_; clear n0_; (try clear hb); (try clear hb2); (try clear hk); (try clear hi)))
                            repeat (go_quiet (first | (go_at_call 14; (with_reducible refine (mailbaglaw05_one.calls k2 (rdOf ByteArray.empty l0 x44_2) t183 _ A19.out).mono ?_); rintro e w21 ⟨rfl, hb⟩; have n0_ := Aside0.mk (below_step (by repeat (first | (with_reducible first | exact HB.out | apply below_alloc | apply pw_below_drewN | apply below_drew1) | exact HB.out)) hb); clear HB; have HB := n0_; clear n0_; (try clear hb); (try clear hb2); (try clear hk); (try clear hi))); try go_wp2_with (first | (go_at_call 14; (with_reducible refine (mailbaglaw05_one.calls k2 (rdOf ByteArray.empty l0 x44_2) t183 _ A19.out).mono ?_); rintro e w21 ⟨rfl, hb⟩; have n0_ := Aside0.mk (below_step (by repeat (first | (with_reducible first | exact HB.out | apply below_alloc | apply pw_below_drewN | apply below_drew1) | exact HB.out)) hb); clear HB; have HB := n0_; clear n0_; (try clear hb); (try clear hb2); (try clear hk); (try clear hi))))
                            go_roundg k2
                            case measure => have := HJ7.out; have := HK2.out; omega
                            case rel => exact ⟨(x11_2 ++ t183), ((x11_2.size : Int)), (wrap64 (x44_2 + 1)), (by first | rfl | (simp; done) | (simp [*]; done)), (by first | rfl | (simp; done) | (simp [*]; done)), (by first | rfl | (simp; done) | (simp [*]; done)), H', ⟨by have := HJ7.out; have := HK2.out; omega⟩, ⟨by repeat (first | (with_reducible first | exact HB.out | apply below_alloc | apply pw_below_drewN | apply below_drew1) | exact HB.out)⟩⟩
                          · rw [if_neg c20] at H
                            exact absurd H (by simp)
                        · rw [if_neg c18] at H
                          have c18b0 : (x44_2 == (Int.tmod (Go.bits .and .i64 a1 1023) (l0.length : Int))) = false := beq_eq_false_iff_ne.mpr c18
                          have c18b1 : (x44_2 != (Int.tmod (Go.bits .and .i64 a1 1023) (l0.length : Int))) = true := bne_iff_ne.mpr c18
                          replace H := Option.bind_eq_some_iff.mp H
                          obtain ⟨t184, A220, H⟩ := H
                          replace H : (if x11_2.size + t184.size ≤ 9223372036854775807 then (mailbaglaw05_FrameTurns.l0 k2 l0 (Int.tmod (Go.bits .and .i64 a1 1023) (l0.length : Int)) a2 a3 a4 (x11_2 ++ t184) x12_2 l0 (l0.length : Int) (wrap64 (x44_2 + 1))) else (none)) = some r := H
                          have A22 := Aside0.mk A220
                          clear A220
                          by_cases c23 : x11_2.size + t184.size ≤ 9223372036854775807
                          · rw [if_pos c23] at H
                            have c23b0 := eq_true c23
                            have c23b1 : decide (x11_2.size + t184.size ≤ 9223372036854775807) = true := decide_eq_true c23
                            try have c23b2 : (9223372036854775807 < x11_2.size + t184.size) = False := eq_false (Nat.not_lt.2 c23)
                            have H' := Aside0.mk H
                            clear H
                            have p182 : 0 ≤ (x44_2 : Int) := of_decide_eq_true (by first | (with_reducible assumption) | assumption)
                            have q182 : x44_2 < (l0.length : Int) := of_decide_eq_true (by first | (with_reducible assumption) | assumption)
                            obtain ⟨ad182, e182, hx182_0⟩ := Kd.at_string HR0.out x44_2 p182 q182
                            cases e182
                            replace hx182_0 := (HB.out.cell (World.block_lt_of_cell? w _ hx182_0)).trans hx182_0
                            replace p182 := eq_true p182
                            replace q182 := eq_true q182
                            go_wp2_with (first | (go_at_call 14; (with_reducible refine (mailbaglaw05_one.calls k2 (rdOf ByteArray.empty l0 x44_2) t184 _ A22.out).mono ?_); rintro e w24 ⟨rfl, hb⟩; have n0_ := Aside0.mk (below_step (by repeat (first | (with_reducible first | exact HB.out | apply below_alloc | apply pw_below_drewN | apply below_drew1) | exact HB.out)) hb); clear HB; have HB := n0_; clear n0_; (try clear hb); (try clear hb2); (try clear hk); (try clear hi)))
                            repeat (go_quiet (first | (go_at_call 14; (with_reducible refine (mailbaglaw05_one.calls k2 (rdOf ByteArray.empty l0 x44_2) t184 _ A22.out).mono ?_); rintro e w24 ⟨rfl, hb⟩; have n0_ := Aside0.mk (below_step (by repeat (first | (with_reducible first | exact HB.out | apply below_alloc | apply pw_below_drewN | apply below_drew1) | exact HB.out)) hb); clear HB; have HB := n0_; clear n0_; (try clear hb); (try clear hb2); (try clear hk); (try clear hi))); try go_wp2_with (first | (go_at_call 14; (with_reducible refine (mailbaglaw05_one.calls k2 (rdOf ByteArray.empty l0 x44_2) t184 _ A22.out).mono ?_); rintro e w24 ⟨rfl, hb⟩; have n0_ := Aside0.mk (below_step (by repeat (first | (with_reducible first | exact HB.out | apply below_alloc | apply pw_below_drewN | apply below_drew1) | exact HB.out)) hb); clear HB; have HB := n0_; clear n0_; (try clear hb); (try clear hb2); (try clear hk); (try clear hi))))
                            go_roundg k2
                            case measure => have := HJ7.out; have := HK2.out; omega
                            case rel => exact ⟨(x11_2 ++ t184), (x12_2), (wrap64 (x44_2 + 1)), (by first | rfl | (simp; done) | (simp [*]; done)), (by first | rfl | (simp; done) | (simp [*]; done)), (by first | rfl | (simp; done) | (simp [*]; done)), H', ⟨by have := HJ7.out; have := HK2.out; omega⟩, ⟨by repeat (first | (with_reducible first | exact HB.out | apply below_alloc | apply pw_below_drewN | apply below_drew1) | exact HB.out)⟩⟩
                          · rw [if_neg c23] at H
                            exact absurd H (by simp)
                    · rw [if_neg c16] at H
                      exact absurd H (by simp)
                  · rw [if_neg c15] at H
                    exact absurd H (by simp)
                · rw [if_neg c14] at H
                  have c14b0 : decide (x44_2 < (l0.length : Int)) = false := decide_eq_false c14
                  clear c14
                  obtain ⟨ji25, hji25⟩ : ∃ j_ : Int, (Int.tmod (Go.bits .and .i64 a1 1023) (l0.length : Int)) = j_ := ⟨_, rfl⟩
                  replace H : (if 0 ≤ (ji25) then (if (ji25) < (l0.length : Int) then (if a4 = true then (mailbaglaw05_FrameTurns.j2 k2 l0 (ji25) a2 a3 x11_2 x12_2 x12_2 (wrap64 (x12_2 + 4))) else (mailbaglaw05_FrameTurns.j2 k2 l0 (ji25) a2 a3 x11_2 x12_2 (wrap64 (x12_2 + 12)) (wrap64 ((wrap64 (x12_2 + 12)) + ((rdOf ByteArray.empty l0 (ji25)).size : Int))))) else (none)) else (none)) = some r := by first | (rw [hji25] at H; exact H) | (simp only [hji25] at H ⊢; exact H)
                  by_cases c26 : 0 ≤ (ji25)
                  · rw [if_pos c26] at H
                    have c26b0 : decide (0 ≤ (ji25)) = true := decide_eq_true c26
                    clear c26
                    by_cases c27 : (ji25) < (l0.length : Int)
                    · rw [if_pos c27] at H
                      have c27b0 : decide ((ji25) < (l0.length : Int)) = true := decide_eq_true c27
                      clear c27
                      have HC28 := Aside0.mk H
                      clear H
                      have p185 : 0 ≤ ((ji25) : Int) := of_decide_eq_true (by first | (with_reducible assumption) | assumption)
                      have q185 : (ji25) < (l0.length : Int) := of_decide_eq_true (by first | (with_reducible assumption) | assumption)
                      obtain ⟨ad185, e185, hx185_0⟩ := Kd.at_string HR0.out (ji25) p185 q185
                      cases e185
                      replace hx185_0 := (HB.out.cell (World.block_lt_of_cell? w _ hx185_0)).trans hx185_0
                      replace p185 := eq_true p185
                      replace q185 := eq_true q185
                      go_upto_if 71 with (fail)
                      repeat (go_quiet (fail); go_upto_if 71 with (fail))
                      go_cut [15, 16] (fun v15 v16 wc => ∃ (kq : Nat) (x15_27 : Int) (x16_27 : Int), v15 = .int .i64 x15_27 ∧ v16 = .int .i64 x16_27 ∧ Aside0 (mailbaglaw05_FrameTurns.j2 kq l0 (ji25) a2 a3 x11_2 x12_2 x15_27 x16_27 = some r) ∧ Aside0 (kq ≤ k2) ∧ Aside0 (Below w.heap.size w wc))
                      case first =>
                        have H := HC28.out
                        clear HC28
                        by_cases c29 : a4 = true
                        · subst c29
                          have H1 : (mailbaglaw05_FrameTurns.j2 k2 l0 (ji25) a2 a3 x11_2 x12_2 x12_2 (wrap64 (x12_2 + 4))) = some r := by rw [if_pos rfl] at H; exact H
                          clear H
                          have H := H1
                          clear H1
                          have H' := Aside0.mk H
                          clear H
                          go_wp2
                          repeat (go_quiet (fail); try go_wp2)
                          go_meet
                          case rel => exact ⟨_, (x12_2), (wrap64 (x12_2 + 4)), (by first | rfl | (simp; done) | (simp [*]; done)), (by first | rfl | (simp; done) | (simp [*]; done)), H', ⟨by have := HJ7.out; have := HK2.out; first | omega | exact Nat.le_refl _⟩, ⟨by repeat (first | (with_reducible first | exact HB.out | apply below_alloc | apply pw_below_drewN | apply below_drew1) | exact HB.out)⟩⟩
                        · replace c29 := Bool.eq_false_iff.mpr c29
                          subst c29
                          have H1 : (mailbaglaw05_FrameTurns.j2 k2 l0 (ji25) a2 a3 x11_2 x12_2 (wrap64 (x12_2 + 12)) (wrap64 ((wrap64 (x12_2 + 12)) + ((rdOf ByteArray.empty l0 (ji25)).size : Int)))) = some r := by rw [if_neg (show ¬ (false = true) by decide)] at H; exact H
                          clear H
                          have H := H1
                          clear H1
                          have H' := Aside0.mk H
                          clear H
                          go_wp2
                          repeat (go_quiet (fail); try go_wp2)
                          go_meet
                          case rel => exact ⟨_, (wrap64 (x12_2 + 12)), (wrap64 ((wrap64 (x12_2 + 12)) + ((rdOf ByteArray.empty l0 (ji25)).size : Int))), (by first | rfl | (simp; done) | (simp [*]; done)), (by first | rfl | (simp; done) | (simp only [← hji25] <;> (first | rfl | simp)) | (simp [*]; done)), H', ⟨by have := HJ7.out; have := HK2.out; first | omega | exact Nat.le_refl _⟩, ⟨by repeat (first | (with_reducible first | exact HB.out | apply below_alloc | apply pw_below_drewN | apply below_drew1) | exact HB.out)⟩⟩
                      case rest =>
                        clear HC28
                        try clear c1
                        try clear p1
                        try clear q1
                        try clear hx1
                        try clear c2
                        try clear p2
                        try clear p6
                        try clear c7
                        try clear c9
                        try clear c10
                        try clear c10b0
                        try clear c10b1
                        try clear c10b2
                        try clear c11
                        try clear c11b0
                        try clear c11b1
                        try clear c12
                        try clear c13
                        try clear c13b0
                        try clear c13b1
                        try clear c13b2
                        try clear c14
                        try clear c14b0
                        try clear c15
                        try clear c15b0
                        try clear c16
                        try clear c16b0
                        try clear c17
                        try clear c17b0
                        try clear c17b1
                        try clear c18
                        try clear c18b0
                        try clear c18b1
                        try clear p18
                        try clear q18
                        try clear hx18
                        try clear c20
                        try clear c20b0
                        try clear c20b1
                        try clear c20b2
                        try clear c23
                        try clear c23b0
                        try clear c23b1
                        try clear c23b2
                        try clear c26
                        try clear c26b0
                        try clear c27
                        try clear c27b0
                        try clear c29
                        try clear hx182_0
                        try clear hx185_0
                        try clear p182
                        try clear p185
                        try clear p2
                        try clear q182
                        try clear q185
                        obtain ⟨kq, x15_27, x16_27, rfl, rfl, HA, HJ27, HB⟩ := hcut
                        cases kq with
                        | zero => exact absurd HA.out (by simp [mailbaglaw05_FrameTurns.j2])
                        | succ kj27 =>
                          have H := HA.out
                          clear HA
                          simp only [mailbaglaw05_FrameTurns.j2] at H
                          by_cases c30 : x15_27 = x16_27
                          · rw [if_pos c30] at H
                            have c30b0 : (x15_27 == x16_27) = true := beq_iff_eq.mpr c30
                            have c30b1 : (x15_27 != x16_27) = false := bne_eq_false_iff_eq.mpr c30
                            clear c30
                            obtain rfl := Option.some.inj H
                            go_wp2
                            repeat (go_quiet (fail); try go_wp2)
                            go_ret
                            exact ⟨by first | rfl | (simp [errW_none, errW_some] <;> rfl) | (simp only [← hji25]; first | rfl | (simp [errW_none, errW_some] <;> rfl)) | (simp [*, errW_none, errW_some] <;> rfl), by repeat (first | (with_reducible first | exact HB.out | apply below_alloc | apply pw_below_drewN | apply below_drew1) | exact HB.out)⟩
                          · rw [if_neg c30] at H
                            have c30b0 : (x15_27 == x16_27) = false := beq_eq_false_iff_ne.mpr c30
                            have c30b1 : (x15_27 != x16_27) = true := bne_iff_ne.mpr c30
                            by_cases c31 : x11_2.size < 140737488355328
                            · rw [if_pos c31] at H
                              have LMc31 := Aside0.mk c31
                              clear c31
                              obtain ⟨y186, hy186⟩ : ∃ y_ : List Int, y_ = (bytesOf x11_2) := ⟨_, rfl⟩
                              replace H : (if (wrap64 (8 * (wrap64 (x16_27 - x15_27)))) = 0 then (none) else (mailbaglaw05_FrameTurns.l1 kj27 l0 (ji25) (wrap64 ((wrap64 (8 * x15_27)) + (Int.tmod (Go.bits .and .i64 a2 65535) (wrap64 (8 * (wrap64 (x16_27 - x15_27))))))) a3 x12_2 x16_27 y186 false 0)) = some r := by first | (rw [hy186]; with_reducible exact H) | (have H2_ := (Option.bind_some _ _).symm.trans H; rw [hy186]; with_reducible exact H2_) | (have H2_ := (Option.bind_some _ _).symm.trans H; with_reducible exact H2_) | with_reducible exact H | (rw [hy186]; exact H) | exact H
                              have Ny186 := Aside0.mk hy186
                              clear hy186
                              by_cases c32 : (wrap64 (8 * (wrap64 (x16_27 - x15_27)))) = 0
                              · rw [if_pos c32] at H
                                exact absurd H (by simp)
                              · rw [if_neg c32] at H
                                have c32b0 : ((wrap64 (8 * (wrap64 (x16_27 - x15_27)))) == 0) = false := beq_eq_false_iff_ne.mpr c32
                                have c32b1 : ((wrap64 (8 * (wrap64 (x16_27 - x15_27)))) != 0) = true := bne_iff_ne.mpr c32
                                have H' := Aside0.mk H
                                clear H
                                go_wp2_with (first | (refine Frz.RF_conv (w0 := w) w.heap.size rfl 9 27 (.tmp 78) rfl x11_2 rfl Try.underlying9 Try.underlying27 Try.underlying5 (by have := LMc31.out; have h_ : 140737488355328 ≤ maxLen := (by decide); omega) (by repeat (first | (with_reducible first | exact HB.out | apply below_alloc | apply pw_below_drewN | apply below_drew1) | exact HB.out)) (below_size (by repeat (first | (with_reducible first | exact HB.out | apply below_alloc | apply pw_below_drewN | apply below_drew1) | exact HB.out))) ?_; intro v187 w33 ho hb; rw [← Ny186.out] at ho; have n0_ := Aside0.mk hb; have n1_ := Aside0.mk ho; clear HB; have HB := n0_; have HO188 := n1_; clear n0_ n1_; clear ho hb))
                                repeat (go_quiet (first | (refine Frz.RF_conv (w0 := w) w.heap.size rfl 9 27 (.tmp 78) rfl x11_2 rfl Try.underlying9 Try.underlying27 Try.underlying5 (by have := LMc31.out; have h_ : 140737488355328 ≤ maxLen := (by decide); omega) (by repeat (first | (with_reducible first | exact HB.out | apply below_alloc | apply pw_below_drewN | apply below_drew1) | exact HB.out)) (below_size (by repeat (first | (with_reducible first | exact HB.out | apply below_alloc | apply pw_below_drewN | apply below_drew1) | exact HB.out))) ?_; intro v187 w33 ho hb; rw [← Ny186.out] at ho; have n0_ := Aside0.mk hb; have n1_ := Aside0.mk ho; clear HB; have HB := n0_; have HO188 := n1_; clear n0_ n1_; clear ho hb)); try go_wp2_with (first | (refine Frz.RF_conv (w0 := w) w.heap.size rfl 9 27 (.tmp 78) rfl x11_2 rfl Try.underlying9 Try.underlying27 Try.underlying5 (by have := LMc31.out; have h_ : 140737488355328 ≤ maxLen := (by decide); omega) (by repeat (first | (with_reducible first | exact HB.out | apply below_alloc | apply pw_below_drewN | apply below_drew1) | exact HB.out)) (below_size (by repeat (first | (with_reducible first | exact HB.out | apply below_alloc | apply pw_below_drewN | apply below_drew1) | exact HB.out))) ?_; intro v187 w33 ho hb; rw [← Ny186.out] at ho; have n0_ := Aside0.mk hb; have n1_ := Aside0.mk ho; clear HB; have HB := n0_; have HO188 := n1_; clear n0_ n1_; clear ho hb)))
                                go_loopg [18, 19] kj27 (fun kq v18 v19 w' => ∃ (x17_4 : List Int) (x18_4 : Bool) (x19_4 : Int), v18 = .bool x18_4 ∧ v19 = .int .i64 x19_4 ∧ Aside0 (mailbaglaw05_FrameTurns.l1 kq l0 (ji25) (wrap64 ((wrap64 (8 * x15_27)) + (Int.tmod (Go.bits .and .i64 a2 65535) (wrap64 (8 * (wrap64 (x16_27 - x15_27))))))) a3 x12_2 x16_27 x17_4 x18_4 x19_4 = some r) ∧ Aside0 (kq ≤ kj27) ∧ Aside0 (Frz.RF w' w.heap.size v187 x17_4) ∧ Aside0 (Below w.heap.size w w'))
                                case atStart => exact ⟨(y186), (false), (0), (by first | rfl | (simp; done) | (simp [*]; done)), (by first | rfl | (simp; done) | (simp [*]; done)), H', ⟨Nat.le_refl _⟩, ⟨by (with_reducible repeat (first | apply Frz.RF_alloc | apply Frz.RF_drewN | apply Frz.RF_drew)); exact HO188.out⟩, ⟨by repeat (first | (with_reducible first | exact HB.out | apply below_alloc | apply pw_below_drewN | apply below_drew1) | exact HB.out)⟩⟩
                                case round =>
                                  clear H'
                                  try clear c1
                                  try clear p1
                                  try clear q1
                                  try clear hx1
                                  try clear c2
                                  try clear p2
                                  try clear c3
                                  try clear p6
                                  try clear c7
                                  try clear c9
                                  try clear c10
                                  try clear c10b0
                                  try clear c10b1
                                  try clear c10b2
                                  try clear c11
                                  try clear c11b0
                                  try clear c11b1
                                  try clear c12
                                  try clear c13
                                  try clear c13b0
                                  try clear c13b1
                                  try clear c13b2
                                  try clear c14
                                  try clear c14b0
                                  try clear c15
                                  try clear c15b0
                                  try clear c16
                                  try clear c16b0
                                  try clear c17
                                  try clear c17b0
                                  try clear c17b1
                                  try clear c18
                                  try clear c18b0
                                  try clear c18b1
                                  try clear p18
                                  try clear q18
                                  try clear hx18
                                  try clear c20
                                  try clear c20b0
                                  try clear c20b1
                                  try clear c20b2
                                  try clear c23
                                  try clear c23b0
                                  try clear c23b1
                                  try clear c23b2
                                  try clear c26
                                  try clear c26b0
                                  try clear c27
                                  try clear c27b0
                                  try clear c29
                                  try clear c30
                                  try clear c30b0
                                  try clear c30b1
                                  try clear c31
                                  try clear c32
                                  try clear c32b0
                                  try clear c32b1
                                  try clear hx182_0
                                  try clear hx185_0
                                  try clear p1
                                  try clear p18
                                  try clear p182
                                  try clear p185
                                  try clear p2
                                  try clear p6
                                  try clear q1
                                  try clear q18
                                  try clear q182
                                  try clear q185
                                  obtain ⟨x17_4, x18_4, x19_4, rfl, rfl, HA, HK4, HO_17, HB⟩ := hrel
                                  cases gk with
                                  | zero => exact absurd HA.out (by simp [mailbaglaw05_FrameTurns.l1])
                                  | succ k4 =>
                                    have H := HA.out
                                    clear HA
                                    simp only [mailbaglaw05_FrameTurns.l1] at H
                                    have HC34 := Aside0.mk H
                                    clear H
                                    go_upto_region 28 with (fail)
                                    repeat (go_quiet (fail); go_upto_region 28 with (fail))
                                    go_cut [99] (fun v99 wc => ∃ (kq : Nat) (x99_33 : Bool), v99 = .bool x99_33 ∧ Aside0 (mailbaglaw05_FrameTurns.j4 kq l0 (ji25) (wrap64 ((wrap64 (8 * x15_27)) + (Int.tmod (Go.bits .and .i64 a2 65535) (wrap64 (8 * (wrap64 (x16_27 - x15_27))))))) a3 x12_2 x16_27 x17_4 x18_4 x19_4 x99_33 = some r) ∧ Aside0 (kq ≤ k4) ∧ Aside0 (Frz.RF wc w.heap.size v187 x17_4) ∧ Aside0 (Below w.heap.size w wc))
                                    case first =>
                                      have H := HC34.out
                                      clear HC34
                                      by_cases c35 : x19_4 < 32
                                      · rw [if_pos c35] at H
                                        have c35b0 : decide (x19_4 < 32) = true := decide_eq_true c35
                                        clear c35
                                        (first | rw [c35b0] | (simp only [i64_w, i32_w]; rw [c35b0]) | skip)
                                        have H' := Aside0.mk H
                                        clear H
                                        go_wp2
                                        repeat (go_quiet (fail); try go_wp2)
                                        go_meet
                                        case rel => exact ⟨_, (decide ((wrap64 ((wrap64 ((wrap64 (8 * x15_27)) + (Int.tmod (Go.bits .and .i64 a2 65535) (wrap64 (8 * (wrap64 (x16_27 - x15_27))))))) + x19_4)) < (wrap64 (8 * x16_27)))), (by first | rfl | (simp; done) | (simp [*]; done)), H', ⟨by have := HJ7.out; have := HK2.out; have := HJ27.out; have := HK4.out; first | omega | exact Nat.le_refl _⟩, ⟨by (with_reducible repeat (first | apply Frz.RF_alloc | apply Frz.RF_drewN | apply Frz.RF_drew)); exact HO_17.out⟩, ⟨by repeat (first | (with_reducible first | exact HB.out | apply below_alloc | apply pw_below_drewN | apply below_drew1) | exact HB.out)⟩⟩
                                      · rw [if_neg c35] at H
                                        have c35b0 : decide (x19_4 < 32) = false := decide_eq_false c35
                                        clear c35
                                        (first | rw [c35b0] | (simp only [i64_w, i32_w]; rw [c35b0]) | skip)
                                        have H' := Aside0.mk H
                                        clear H
                                        go_wp2
                                        repeat (go_quiet (fail); try go_wp2)
                                        go_meet
                                        case rel => exact ⟨_, (false), (by first | rfl | (simp; done) | (simp [*]; done)), H', ⟨by have := HJ7.out; have := HK2.out; have := HJ27.out; have := HK4.out; first | omega | exact Nat.le_refl _⟩, ⟨by (with_reducible repeat (first | apply Frz.RF_alloc | apply Frz.RF_drewN | apply Frz.RF_drew)); exact HO_17.out⟩, ⟨by repeat (first | (with_reducible first | exact HB.out | apply below_alloc | apply pw_below_drewN | apply below_drew1) | exact HB.out)⟩⟩
                                    case rest =>
                                      clear HC34
                                      try clear c1
                                      try clear p1
                                      try clear q1
                                      try clear hx1
                                      try clear c2
                                      try clear p2
                                      try clear c3
                                      try clear p6
                                      try clear c7
                                      try clear c9
                                      try clear c10
                                      try clear c10b0
                                      try clear c10b1
                                      try clear c10b2
                                      try clear c11
                                      try clear c11b0
                                      try clear c11b1
                                      try clear c12
                                      try clear c13
                                      try clear c13b0
                                      try clear c13b1
                                      try clear c13b2
                                      try clear c14
                                      try clear c14b0
                                      try clear c15
                                      try clear c15b0
                                      try clear c16
                                      try clear c16b0
                                      try clear c17
                                      try clear c17b0
                                      try clear c17b1
                                      try clear c18
                                      try clear c18b0
                                      try clear c18b1
                                      try clear p18
                                      try clear q18
                                      try clear hx18
                                      try clear c20
                                      try clear c20b0
                                      try clear c20b1
                                      try clear c20b2
                                      try clear c23
                                      try clear c23b0
                                      try clear c23b1
                                      try clear c23b2
                                      try clear c26
                                      try clear c26b0
                                      try clear c27
                                      try clear c27b0
                                      try clear c29
                                      try clear c30
                                      try clear c30b0
                                      try clear c30b1
                                      try clear c31
                                      try clear c32
                                      try clear c32b0
                                      try clear c32b1
                                      try clear c35
                                      try clear c35b0
                                      try clear hx182_0
                                      try clear hx185_0
                                      try clear p1
                                      try clear p18
                                      try clear p182
                                      try clear p185
                                      try clear p2
                                      try clear p6
                                      try clear q1
                                      try clear q18
                                      try clear q182
                                      try clear q185
                                      obtain ⟨kq, x99_33, rfl, HA, HJ33, HO_17, HB⟩ := hcut
                                      cases kq with
                                      | zero => exact absurd HA.out (by simp [mailbaglaw05_FrameTurns.j4])
                                      | succ kj33 =>
                                        have H := HA.out
                                        clear HA
                                        simp only [mailbaglaw05_FrameTurns.j4] at H
                                        by_cases c36 : x99_33 = true
                                        · subst c36
                                          have H1 : (if 0 ≤ (IntKind.u64.wrap (x19_4)) then (if (Go.bits .and .u32 (shr .u32 a3 (IntKind.u64.wrap (x19_4))) 1) = 1 then (if 0 ≤ (wrap64 (Int.tdiv (wrap64 ((wrap64 ((wrap64 (8 * x15_27)) + (Int.tmod (Go.bits .and .i64 a2 65535) (wrap64 (8 * (wrap64 (x16_27 - x15_27))))))) + x19_4)) 8)) then (if (wrap64 (Int.tdiv (wrap64 ((wrap64 ((wrap64 (8 * x15_27)) + (Int.tmod (Go.bits .and .i64 a2 65535) (wrap64 (8 * (wrap64 (x16_27 - x15_27))))))) + x19_4)) 8)) < (x17_4.length : Int) then (if 0 ≤ (IntKind.u64.wrap (Int.tmod (wrap64 ((wrap64 ((wrap64 (8 * x15_27)) + (Int.tmod (Go.bits .and .i64 a2 65535) (wrap64 (8 * (wrap64 (x16_27 - x15_27))))))) + x19_4)) 8)) then (mailbaglaw05_FrameTurns.l1 kj33 l0 (ji25) (wrap64 ((wrap64 (8 * x15_27)) + (Int.tmod (Go.bits .and .i64 a2 65535) (wrap64 (8 * (wrap64 (x16_27 - x15_27))))))) a3 x12_2 x16_27 (x17_4.set ((wrap64 (Int.tdiv (wrap64 ((wrap64 ((wrap64 (8 * x15_27)) + (Int.tmod (Go.bits .and .i64 a2 65535) (wrap64 (8 * (wrap64 (x16_27 - x15_27))))))) + x19_4)) 8)) : Int).toNat (Go.bits .xor .u8 (rd x17_4 (wrap64 (Int.tdiv (wrap64 ((wrap64 ((wrap64 (8 * x15_27)) + (Int.tmod (Go.bits .and .i64 a2 65535) (wrap64 (8 * (wrap64 (x16_27 - x15_27))))))) + x19_4)) 8))) (shl .u8 1 (IntKind.u64.wrap (Int.tmod (wrap64 ((wrap64 ((wrap64 (8 * x15_27)) + (Int.tmod (Go.bits .and .i64 a2 65535) (wrap64 (8 * (wrap64 (x16_27 - x15_27))))))) + x19_4)) 8))))) true (wrap64 (x19_4 + 1))) else (none)) else (none)) else (none)) else (mailbaglaw05_FrameTurns.l1 kj33 l0 (ji25) (wrap64 ((wrap64 (8 * x15_27)) + (Int.tmod (Go.bits .and .i64 a2 65535) (wrap64 (8 * (wrap64 (x16_27 - x15_27))))))) a3 x12_2 x16_27 x17_4 x18_4 (wrap64 (x19_4 + 1)))) else (none)) = some r := by rw [if_pos rfl] at H; exact H
                                          clear H
                                          have H := H1
                                          clear H1
                                          obtain ⟨ji37, hji37⟩ : ∃ j_ : Int, (IntKind.u64.wrap (x19_4)) = j_ := ⟨_, rfl⟩
                                          replace H : (if 0 ≤ (ji37) then (if (Go.bits .and .u32 (shr .u32 a3 (ji37)) 1) = 1 then (if 0 ≤ (wrap64 (Int.tdiv (wrap64 ((wrap64 ((wrap64 (8 * x15_27)) + (Int.tmod (Go.bits .and .i64 a2 65535) (wrap64 (8 * (wrap64 (x16_27 - x15_27))))))) + x19_4)) 8)) then (if (wrap64 (Int.tdiv (wrap64 ((wrap64 ((wrap64 (8 * x15_27)) + (Int.tmod (Go.bits .and .i64 a2 65535) (wrap64 (8 * (wrap64 (x16_27 - x15_27))))))) + x19_4)) 8)) < (x17_4.length : Int) then (if 0 ≤ (IntKind.u64.wrap (Int.tmod (wrap64 ((wrap64 ((wrap64 (8 * x15_27)) + (Int.tmod (Go.bits .and .i64 a2 65535) (wrap64 (8 * (wrap64 (x16_27 - x15_27))))))) + x19_4)) 8)) then (mailbaglaw05_FrameTurns.l1 kj33 l0 (ji25) (wrap64 ((wrap64 (8 * x15_27)) + (Int.tmod (Go.bits .and .i64 a2 65535) (wrap64 (8 * (wrap64 (x16_27 - x15_27))))))) a3 x12_2 x16_27 (x17_4.set ((wrap64 (Int.tdiv (wrap64 ((wrap64 ((wrap64 (8 * x15_27)) + (Int.tmod (Go.bits .and .i64 a2 65535) (wrap64 (8 * (wrap64 (x16_27 - x15_27))))))) + x19_4)) 8)) : Int).toNat (Go.bits .xor .u8 (rd x17_4 (wrap64 (Int.tdiv (wrap64 ((wrap64 ((wrap64 (8 * x15_27)) + (Int.tmod (Go.bits .and .i64 a2 65535) (wrap64 (8 * (wrap64 (x16_27 - x15_27))))))) + x19_4)) 8))) (shl .u8 1 (IntKind.u64.wrap (Int.tmod (wrap64 ((wrap64 ((wrap64 (8 * x15_27)) + (Int.tmod (Go.bits .and .i64 a2 65535) (wrap64 (8 * (wrap64 (x16_27 - x15_27))))))) + x19_4)) 8))))) true (wrap64 (x19_4 + 1))) else (none)) else (none)) else (none)) else (mailbaglaw05_FrameTurns.l1 kj33 l0 (ji25) (wrap64 ((wrap64 (8 * x15_27)) + (Int.tmod (Go.bits .and .i64 a2 65535) (wrap64 (8 * (wrap64 (x16_27 - x15_27))))))) a3 x12_2 x16_27 x17_4 x18_4 (wrap64 (x19_4 + 1)))) else (none)) = some r := by first | (rw [hji37] at H; exact H) | (simp only [hji37] at H ⊢; exact H)
                                          by_cases c38 : 0 ≤ (ji37)
                                          · rw [if_pos c38] at H
                                            have c38b0 := eq_true c38
                                            have c38b1 : decide (0 ≤ (ji37)) = true := decide_eq_true c38
                                            clear c38
                                            obtain ⟨ji39, hji39⟩ : ∃ j_ : Int, (shr .u32 a3 (ji37)) = j_ := ⟨_, rfl⟩
                                            replace H : (if (Go.bits .and .u32 (ji39) 1) = 1 then (if 0 ≤ (wrap64 (Int.tdiv (wrap64 ((wrap64 ((wrap64 (8 * x15_27)) + (Int.tmod (Go.bits .and .i64 a2 65535) (wrap64 (8 * (wrap64 (x16_27 - x15_27))))))) + x19_4)) 8)) then (if (wrap64 (Int.tdiv (wrap64 ((wrap64 ((wrap64 (8 * x15_27)) + (Int.tmod (Go.bits .and .i64 a2 65535) (wrap64 (8 * (wrap64 (x16_27 - x15_27))))))) + x19_4)) 8)) < (x17_4.length : Int) then (if 0 ≤ (IntKind.u64.wrap (Int.tmod (wrap64 ((wrap64 ((wrap64 (8 * x15_27)) + (Int.tmod (Go.bits .and .i64 a2 65535) (wrap64 (8 * (wrap64 (x16_27 - x15_27))))))) + x19_4)) 8)) then (mailbaglaw05_FrameTurns.l1 kj33 l0 (ji25) (wrap64 ((wrap64 (8 * x15_27)) + (Int.tmod (Go.bits .and .i64 a2 65535) (wrap64 (8 * (wrap64 (x16_27 - x15_27))))))) a3 x12_2 x16_27 (x17_4.set ((wrap64 (Int.tdiv (wrap64 ((wrap64 ((wrap64 (8 * x15_27)) + (Int.tmod (Go.bits .and .i64 a2 65535) (wrap64 (8 * (wrap64 (x16_27 - x15_27))))))) + x19_4)) 8)) : Int).toNat (Go.bits .xor .u8 (rd x17_4 (wrap64 (Int.tdiv (wrap64 ((wrap64 ((wrap64 (8 * x15_27)) + (Int.tmod (Go.bits .and .i64 a2 65535) (wrap64 (8 * (wrap64 (x16_27 - x15_27))))))) + x19_4)) 8))) (shl .u8 1 (IntKind.u64.wrap (Int.tmod (wrap64 ((wrap64 ((wrap64 (8 * x15_27)) + (Int.tmod (Go.bits .and .i64 a2 65535) (wrap64 (8 * (wrap64 (x16_27 - x15_27))))))) + x19_4)) 8))))) true (wrap64 (x19_4 + 1))) else (none)) else (none)) else (none)) else (mailbaglaw05_FrameTurns.l1 kj33 l0 (ji25) (wrap64 ((wrap64 (8 * x15_27)) + (Int.tmod (Go.bits .and .i64 a2 65535) (wrap64 (8 * (wrap64 (x16_27 - x15_27))))))) a3 x12_2 x16_27 x17_4 x18_4 (wrap64 (x19_4 + 1)))) = some r := by first | (rw [hji39] at H; exact H) | (simp only [hji39] at H ⊢; exact H)
                                            have hji39_ : (a3 / 2 ^ min (ji37).toNat 32) = ji39 := hji39
                                            have hji39z : (ji37) ≤ 32 → (a3 / 2 ^ (ji37).toNat) = ji39 := shr_small hji39
                                            by_cases c40 : (Go.bits .and .u32 (ji39) 1) = 1
                                            · rw [if_pos c40] at H
                                              have c40b0 : ((Go.bits .and .u32 (ji39) 1) == 1) = true := beq_iff_eq.mpr c40
                                              have c40b1 : ((Go.bits .and .u32 (ji39) 1) != 1) = false := bne_eq_false_iff_eq.mpr c40
                                              clear c40
                                              obtain ⟨ji41, hji41⟩ : ∃ j_ : Int, (wrap64 (Int.tdiv (wrap64 ((wrap64 ((wrap64 (8 * x15_27)) + (Int.tmod (Go.bits .and .i64 a2 65535) (wrap64 (8 * (wrap64 (x16_27 - x15_27))))))) + x19_4)) 8)) = j_ := ⟨_, rfl⟩
                                              replace H : (if 0 ≤ (ji41) then (if (ji41) < (x17_4.length : Int) then (if 0 ≤ (IntKind.u64.wrap (Int.tmod (wrap64 ((wrap64 ((wrap64 (8 * x15_27)) + (Int.tmod (Go.bits .and .i64 a2 65535) (wrap64 (8 * (wrap64 (x16_27 - x15_27))))))) + x19_4)) 8)) then (mailbaglaw05_FrameTurns.l1 kj33 l0 (ji25) (wrap64 ((wrap64 (8 * x15_27)) + (Int.tmod (Go.bits .and .i64 a2 65535) (wrap64 (8 * (wrap64 (x16_27 - x15_27))))))) a3 x12_2 x16_27 (x17_4.set ((ji41) : Int).toNat (Go.bits .xor .u8 (rd x17_4 (ji41)) (shl .u8 1 (IntKind.u64.wrap (Int.tmod (wrap64 ((wrap64 ((wrap64 (8 * x15_27)) + (Int.tmod (Go.bits .and .i64 a2 65535) (wrap64 (8 * (wrap64 (x16_27 - x15_27))))))) + x19_4)) 8))))) true (wrap64 (x19_4 + 1))) else (none)) else (none)) else (none)) = some r := by first | (rw [hji41] at H; exact H) | (simp only [hji41] at H ⊢; exact H)
                                              have hji41w : (IntKind.i64.wrap (Int.tdiv (wrap64 ((wrap64 ((wrap64 (8 * x15_27)) + (Int.tmod (Go.bits .and .i64 a2 65535) (wrap64 (8 * (wrap64 (x16_27 - x15_27))))))) + x19_4)) 8)) = ji41 := (i64_w _).trans hji41
                                              by_cases c42 : 0 ≤ (ji41)
                                              · rw [if_pos c42] at H
                                                have c42b0 : decide (0 ≤ (ji41)) = true := decide_eq_true c42
                                                clear c42
                                                by_cases c43 : (ji41) < (x17_4.length : Int)
                                                · rw [if_pos c43] at H
                                                  have c43b0 : decide ((ji41) < (x17_4.length : Int)) = true := decide_eq_true c43
                                                  clear c43
                                                  obtain ⟨ji44, hji44⟩ : ∃ j_ : Int, (IntKind.u64.wrap (Int.tmod (wrap64 ((wrap64 ((wrap64 (8 * x15_27)) + (Int.tmod (Go.bits .and .i64 a2 65535) (wrap64 (8 * (wrap64 (x16_27 - x15_27))))))) + x19_4)) 8)) = j_ := ⟨_, rfl⟩
                                                  replace H : (if 0 ≤ (ji44) then (mailbaglaw05_FrameTurns.l1 kj33 l0 (ji25) (wrap64 ((wrap64 (8 * x15_27)) + (Int.tmod (Go.bits .and .i64 a2 65535) (wrap64 (8 * (wrap64 (x16_27 - x15_27))))))) a3 x12_2 x16_27 (x17_4.set ((ji41) : Int).toNat (Go.bits .xor .u8 (rd x17_4 (ji41)) (shl .u8 1 (ji44)))) true (wrap64 (x19_4 + 1))) else (none)) = some r := by first | (rw [hji44] at H; exact H) | (simp only [hji44] at H ⊢; exact H)
                                                  by_cases c45 : 0 ≤ (ji44)
                                                  · rw [if_pos c45] at H
                                                    have c45b0 := eq_true c45
                                                    have c45b1 : decide (0 ≤ (ji44)) = true := decide_eq_true c45
                                                    clear c45
                                                    obtain ⟨ji46, hji46⟩ : ∃ j_ : Int, (shl .u8 1 (ji44)) = j_ := ⟨_, rfl⟩
                                                    replace H : (mailbaglaw05_FrameTurns.l1 kj33 l0 (ji25) (wrap64 ((wrap64 (8 * x15_27)) + (Int.tmod (Go.bits .and .i64 a2 65535) (wrap64 (8 * (wrap64 (x16_27 - x15_27))))))) a3 x12_2 x16_27 (x17_4.set ((ji41) : Int).toNat (Go.bits .xor .u8 (rd x17_4 (ji41)) (ji46))) true (wrap64 (x19_4 + 1))) = some r := by first | (rw [hji46] at H; exact H) | (simp only [hji46] at H ⊢; exact H)
                                                    have hji46_ : (IntKind.u8.wrap (1 * 2 ^ min (ji44).toNat 8)) = ji46 := hji46
                                                    have hji46z : (ji44) ≤ 8 → (IntKind.u8.wrap (1 * 2 ^ (ji44).toNat)) = ji46 := shl_small hji46
                                                    have hji46u : (IntKind.u8.wrap (2 ^ min (ji44).toNat 8)) = ji46 := by have h_ := hji46_; rw [Int.one_mul] at h_; exact h_
                                                    have hji46v : (ji44) ≤ 8 → (IntKind.u8.wrap (2 ^ (ji44).toNat)) = ji46 := fun hle_ => by have h_ := hji46z hle_; rw [Int.one_mul] at h_; exact h_
                                                    obtain ⟨y190, hy190⟩ : ∃ y_ : List Int, y_ = (x17_4.set ((ji41) : Int).toNat (Go.bits .xor .u8 (rd x17_4 (ji41)) (ji46))) := ⟨_, rfl⟩
                                                    replace H : (mailbaglaw05_FrameTurns.l1 kj33 l0 (ji25) (wrap64 ((wrap64 (8 * x15_27)) + (Int.tmod (Go.bits .and .i64 a2 65535) (wrap64 (8 * (wrap64 (x16_27 - x15_27))))))) a3 x12_2 x16_27 y190 true (wrap64 (x19_4 + 1))) = some r := by first | (rw [hy190]; with_reducible exact H) | (have H2_ := (Option.bind_some _ _).symm.trans H; rw [hy190]; with_reducible exact H2_) | (have H2_ := (Option.bind_some _ _).symm.trans H; with_reducible exact H2_) | with_reducible exact H | (rw [hy190]; exact H) | exact H
                                                    have Ny190 := Aside0.mk hy190
                                                    clear hy190
                                                    have H' := Aside0.mk H
                                                    clear H
                                                    obtain ⟨Ao48, co48, eo48⟩ := Frz.RF_slice HO_17.out
                                                    subst eo48
                                                    have p189 : 0 ≤ ((ji41) : Int) := of_decide_eq_true (by first | (with_reducible assumption) | assumption)
                                                    have q189 : (ji41) < (x17_4.length : Int) := of_decide_eq_true (by first | (with_reducible assumption) | assumption)
                                                    obtain ⟨ad189, e189, hx189_0⟩ := Kd.at_int (Frz.RF_C HO_17.out).2.2 (ji41) p189 q189
                                                    cases e189
                                                    replace p189 := eq_true p189
                                                    replace q189 := eq_true q189
                                                    have p47 : 0 ≤ ((ji41) : Int) := of_decide_eq_true (by first | (with_reducible assumption) | assumption)
                                                    have q47 : ((ji41) : Int) < ((x17_4.length : Int) : Int) := of_decide_eq_true (by first | (with_reducible assumption) | assumption)
                                                    obtain ⟨go47, co47, eo47, gb47, gl47, cl47, HG47⟩ := Frz.RF_form HO_17.out (by omega)
                                                    (first | cases eo47 | (injection eo47 with ea_ en_ ec_; (first | subst ea_ | (injection ea_ with ea_; subst ea_)); subst ec_; clear en_))
                                                    have GB47 := Aside0.mk gb47
                                                    have GG47 := Aside0.mk HG47
                                                    clear gb47 gl47 HG47
                                                    (first | simp only [add_plain] at hx189_0 | skip)
                                                    obtain ⟨hx47_0, hf47_0⟩ := Frz.RF_celln HO_17.out ((ji41) : Int) p47 q47
                                                    replace p47 := eq_true p47
                                                    replace q47 := eq_true q47
                                                    have HP49 := Frz.RF_putg HO_17.out ((ji41) : Int) (Go.bits .xor .u8 (rd x17_4 (ji41)) (ji46))
                                                    go_wp2_with (first | ((with_reducible refine gate_store (t := 5) (p := 122) rfl ?_); (try (rw [drewN_self wc]; generalize hq_ : World.drewN wc _ = wc; have n0_ := Aside0.mk (Frz.RF_at hq_ HO_17.out); have n1_ := Aside0.mk (below_at hq_ HB.out); clear hq_ HO_17 HB; have HO_17 := n0_; have HB := n1_; clear n0_ n1_; (try (have HP49 := Frz.RF_putg HO_17.out ((ji41) : Int) (Go.bits .xor .u8 (rd x17_4 (ji41)) (ji46)))))); refine store_event (t := 5) (p := 122) (v := ?vo_w50) (w1 := (wc.setCell ⟨go47, ((ji41) : Int).toNat, none⟩ (.int .u8 (Go.bits .xor .u8 (rd x17_4 (ji41)) (ji46))))) ?hg ?ho ?hn ?hr ?_; (case ho => rfl); (case hg => rfl); (case hn => rfl); (case hr => first | (go_simp; done) | (go_simp; rfl)); intro w50 hw; have hg : wc.grownBy w50 (some go47) := (by rw [hw]; exact HP49.2); have hp_ : Frz.RF w50 w.heap.size (.slice (some ⟨go47, 0, none⟩) x17_4.length co48) y190 := (by rw [hw, Ny190.out]; exact HP49.1); clear HP49; have n0_ := Aside0.mk (hp_); have n1_ := Aside0.mk ((by rw [hw]; exact below_set (HB.out) GB47.out : Below w.heap.size w w50)); clear HO_17; clear HB; have HO_17 := n0_; have HB := n1_; clear n0_ n1_; clear hg hw hp_))
                                                    repeat (go_quiet (first | ((with_reducible refine gate_store (t := 5) (p := 122) rfl ?_); (try (rw [drewN_self wc]; generalize hq_ : World.drewN wc _ = wc; have n0_ := Aside0.mk (Frz.RF_at hq_ HO_17.out); have n1_ := Aside0.mk (below_at hq_ HB.out); clear hq_ HO_17 HB; have HO_17 := n0_; have HB := n1_; clear n0_ n1_; (try (have HP49 := Frz.RF_putg HO_17.out ((ji41) : Int) (Go.bits .xor .u8 (rd x17_4 (ji41)) (ji46)))))); refine store_event (t := 5) (p := 122) (v := ?vo_w50) (w1 := (wc.setCell ⟨go47, ((ji41) : Int).toNat, none⟩ (.int .u8 (Go.bits .xor .u8 (rd x17_4 (ji41)) (ji46))))) ?hg ?ho ?hn ?hr ?_; (case ho => rfl); (case hg => rfl); (case hn => rfl); (case hr => first | (go_simp; done) | (go_simp; rfl)); intro w50 hw; have hg : wc.grownBy w50 (some go47) := (by rw [hw]; exact HP49.2); have hp_ : Frz.RF w50 w.heap.size (.slice (some ⟨go47, 0, none⟩) x17_4.length co48) y190 := (by rw [hw, Ny190.out]; exact HP49.1); clear HP49; have n0_ := Aside0.mk (hp_); have n1_ := Aside0.mk ((by rw [hw]; exact below_set (HB.out) GB47.out : Below w.heap.size w w50)); clear HO_17; clear HB; have HO_17 := n0_; have HB := n1_; clear n0_ n1_; clear hg hw hp_)); try go_wp2_with (first | ((with_reducible refine gate_store (t := 5) (p := 122) rfl ?_); (try (rw [drewN_self wc]; generalize hq_ : World.drewN wc _ = wc; have n0_ := Aside0.mk (Frz.RF_at hq_ HO_17.out); have n1_ := Aside0.mk (below_at hq_ HB.out); clear hq_ HO_17 HB; have HO_17 := n0_; have HB := n1_; clear n0_ n1_; (try (have HP49 := Frz.RF_putg HO_17.out ((ji41) : Int) (Go.bits .xor .u8 (rd x17_4 (ji41)) (ji46)))))); refine store_event (t := 5) (p := 122) (v := ?vo_w50) (w1 := (wc.setCell ⟨go47, ((ji41) : Int).toNat, none⟩ (.int .u8 (Go.bits .xor .u8 (rd x17_4 (ji41)) (ji46))))) ?hg ?ho ?hn ?hr ?_; (case ho => rfl); (case hg => rfl); (case hn => rfl); (case hr => first | (go_simp; done) | (go_simp; rfl)); intro w50 hw; have hg : wc.grownBy w50 (some go47) := (by rw [hw]; exact HP49.2); have hp_ : Frz.RF w50 w.heap.size (.slice (some ⟨go47, 0, none⟩) x17_4.length co48) y190 := (by rw [hw, Ny190.out]; exact HP49.1); clear HP49; have n0_ := Aside0.mk (hp_); have n1_ := Aside0.mk ((by rw [hw]; exact below_set (HB.out) GB47.out : Below w.heap.size w w50)); clear HO_17; clear HB; have HO_17 := n0_; have HB := n1_; clear n0_ n1_; clear hg hw hp_)))
                                                    go_roundg kj33
                                                    case measure => have := HJ7.out; have := HK2.out; have := HJ27.out; have := HK4.out; have := HJ33.out; omega
                                                    case rel => exact ⟨(y190), (true), (wrap64 (x19_4 + 1)), (by first | rfl | (simp; done) | (simp [*]; done)), (by first | rfl | (simp; done) | (simp [*]; done)), H', ⟨by have := HJ7.out; have := HK2.out; have := HJ27.out; have := HK4.out; have := HJ33.out; omega⟩, ⟨by (with_reducible repeat (first | apply Frz.RF_alloc | apply Frz.RF_drewN | apply Frz.RF_drew)); exact HO_17.out⟩, ⟨by repeat (first | (with_reducible first | exact HB.out | apply below_alloc | apply pw_below_drewN | apply below_drew1) | exact HB.out)⟩⟩
                                                  · rw [if_neg c45] at H
                                                    exact absurd H (by simp)
                                                · rw [if_neg c43] at H
                                                  exact absurd H (by simp)
                                              · rw [if_neg c42] at H
                                                exact absurd H (by simp)
                                            · rw [if_neg c40] at H
                                              have c40b0 : ((Go.bits .and .u32 (ji39) 1) == 1) = false := beq_eq_false_iff_ne.mpr c40
                                              have c40b1 : ((Go.bits .and .u32 (ji39) 1) != 1) = true := bne_iff_ne.mpr c40
                                              have H' := Aside0.mk H
                                              clear H
                                              go_wp2
                                              repeat (go_quiet (fail); try go_wp2)
                                              go_roundg kj33
                                              case measure => have := HJ7.out; have := HK2.out; have := HJ27.out; have := HK4.out; have := HJ33.out; omega
                                              case rel => exact ⟨(x17_4), (x18_4), (wrap64 (x19_4 + 1)), (by first | rfl | (simp; done) | (simp [*]; done)), (by first | rfl | (simp; done) | (simp [*]; done)), H', ⟨by have := HJ7.out; have := HK2.out; have := HJ27.out; have := HK4.out; have := HJ33.out; omega⟩, ⟨by (with_reducible repeat (first | apply Frz.RF_alloc | apply Frz.RF_drewN | apply Frz.RF_drew)); exact HO_17.out⟩, ⟨by repeat (first | (with_reducible first | exact HB.out | apply below_alloc | apply pw_below_drewN | apply below_drew1) | exact HB.out)⟩⟩
                                          · rw [if_neg c38] at H
                                            exact absurd H (by simp)
                                        · replace c36 := Bool.eq_false_iff.mpr c36
                                          subst c36
                                          have H1 : (if x18_4 = true then ((frame_All.f kj33 (strOfNums x17_4)).bind fun bt191 => (if bt191.2 = x12_2 then (mailbaglaw05_FrameTurns.j5 kj33 l0 bt191.1 ((bt191.1.length : Int) != (ji25))) else (mailbaglaw05_FrameTurns.j5 kj33 l0 bt191.1 true))) else (some true)) = some r := by rw [if_neg (show ¬ (false = true) by decide)] at H; exact H
                                          clear H
                                          have H := H1
                                          clear H1
                                          by_cases c51 : x18_4 = true
                                          · subst c51
                                            have H1 : ((frame_All.f kj33 (strOfNums x17_4)).bind fun bt191 => (if bt191.2 = x12_2 then (mailbaglaw05_FrameTurns.j5 kj33 l0 bt191.1 ((bt191.1.length : Int) != (ji25))) else (mailbaglaw05_FrameTurns.j5 kj33 l0 bt191.1 true))) = some r := by rw [if_pos rfl] at H; exact H
                                            clear H
                                            have H := H1
                                            clear H1
                                            replace H := Option.bind_eq_some_iff.mp H
                                            obtain ⟨⟨t191, t192⟩, A520, H⟩ := H
                                            replace H : (if t192 = x12_2 then (mailbaglaw05_FrameTurns.j5 kj33 l0 t191 ((t191.length : Int) != (ji25))) else (mailbaglaw05_FrameTurns.j5 kj33 l0 t191 true)) = some r := H
                                            have A52 := Aside0.mk A520
                                            clear A520
                                            have HC53 := Aside0.mk H
                                            clear H
                                            have hcv54 := Frz.RF_string (P := Try.prog) Try.underlying27 Try.underlying5 Try.underlying9 HO_17.out
                                            go_upto_region 36 with (first | (go_at_call 21; (with_reducible refine (frame_All.calls kj33 (strOfNums x17_4) t191 t192 _ A52.out).mono ?_); rintro e w55 ⟨v193, rfl, ho0, hb⟩; have n0_ := Aside0.mk (Frz.RF_below (by (with_reducible repeat (first | apply Frz.RF_alloc | apply Frz.RF_drewN | apply Frz.RF_drew)); exact HO_17.out) hb); have n1_ := Aside0.mk (Kd.R_lower ho0 (below_size (by repeat (first | (with_reducible first | exact HB.out | apply below_alloc | apply pw_below_drewN | apply below_drew1) | exact HB.out)))); have n2_ := Aside0.mk (below_step (by repeat (first | (with_reducible first | exact HB.out | apply below_alloc | apply pw_below_drewN | apply below_drew1) | exact HB.out)) hb); clear HO_17; clear HB; have HO_17 := n0_; have HO194 := n1_; have HB := n2_; clear n0_ n1_ n2_; (try clear hb); (try clear hb2); (try clear hk); (try clear hi); (try clear ho0)))
                                            repeat (go_quiet (first | (go_at_call 21; (with_reducible refine (frame_All.calls kj33 (strOfNums x17_4) t191 t192 _ A52.out).mono ?_); rintro e w55 ⟨v193, rfl, ho0, hb⟩; have n0_ := Aside0.mk (Frz.RF_below (by (with_reducible repeat (first | apply Frz.RF_alloc | apply Frz.RF_drewN | apply Frz.RF_drew)); exact HO_17.out) hb); have n1_ := Aside0.mk (Kd.R_lower ho0 (below_size (by repeat (first | (with_reducible first | exact HB.out | apply below_alloc | apply pw_below_drewN | apply below_drew1) | exact HB.out)))); have n2_ := Aside0.mk (below_step (by repeat (first | (with_reducible first | exact HB.out | apply below_alloc | apply pw_below_drewN | apply below_drew1) | exact HB.out)) hb); clear HO_17; clear HB; have HO_17 := n0_; have HO194 := n1_; have HB := n2_; clear n0_ n1_ n2_; (try clear hb); (try clear hb2); (try clear hk); (try clear hi); (try clear ho0))); go_upto_region 36 with (first | (go_at_call 21; (with_reducible refine (frame_All.calls kj33 (strOfNums x17_4) t191 t192 _ A52.out).mono ?_); rintro e w55 ⟨v193, rfl, ho0, hb⟩; have n0_ := Aside0.mk (Frz.RF_below (by (with_reducible repeat (first | apply Frz.RF_alloc | apply Frz.RF_drewN | apply Frz.RF_drew)); exact HO_17.out) hb); have n1_ := Aside0.mk (Kd.R_lower ho0 (below_size (by repeat (first | (with_reducible first | exact HB.out | apply below_alloc | apply pw_below_drewN | apply below_drew1) | exact HB.out)))); have n2_ := Aside0.mk (below_step (by repeat (first | (with_reducible first | exact HB.out | apply below_alloc | apply pw_below_drewN | apply below_drew1) | exact HB.out)) hb); clear HO_17; clear HB; have HO_17 := n0_; have HO194 := n1_; have HB := n2_; clear n0_ n1_ n2_; (try clear hb); (try clear hb2); (try clear hk); (try clear hi); (try clear ho0))))
                                            (try simp only [Act.put, List.setIfInBounds_toArray, List.set_cons_zero, List.set_cons_succ])
                                            go_cut [139] (fun v139 wc => ∃ (kq : Nat) (x139_52 : Bool), v139 = .bool x139_52 ∧ Aside0 (mailbaglaw05_FrameTurns.j5 kq l0 t191 x139_52 = some r) ∧ Aside0 (kq ≤ kj33) ∧ Aside0 (Kd.R Kd.string 9 wc w.heap.size (fun _ => True) v193 t191) ∧ Aside0 (Below w.heap.size w wc))
                                            case first =>
                                              have H := HC53.out
                                              clear HC53
                                              by_cases c56 : t192 = x12_2
                                              · rw [if_pos c56] at H
                                                have c56b0 : (t192 == x12_2) = true := beq_iff_eq.mpr c56
                                                have c56b1 : (t192 != x12_2) = false := bne_eq_false_iff_eq.mpr c56
                                                clear c56
                                                (first | rw [c56b0] | (simp only [i64_w, i32_w]; rw [c56b0]) | skip)
                                                have H' := Aside0.mk H
                                                clear H
                                                obtain ⟨Ao57, co57, eo57⟩ := Kd.R_slice HO194.out
                                                subst eo57
                                                go_wp2
                                                repeat (go_quiet (fail); try go_wp2)
                                                go_meet
                                                case rel => exact ⟨_, (((t191.length : Int) != (ji25))), (by first | rfl | (simp; done) | (simp only [← hji25] <;> (first | rfl | simp)) | (simp [*]; done)), H', ⟨by have := HJ7.out; have := HK2.out; have := HJ27.out; have := HK4.out; have := HJ33.out; first | omega | exact Nat.le_refl _⟩, ⟨by (with_reducible repeat (first | apply Kd.R_alloc | apply Kd.R_drewN | apply Kd.R_drew)); exact HO194.out⟩, ⟨by repeat (first | (with_reducible first | exact HB.out | apply below_alloc | apply pw_below_drewN | apply below_drew1) | exact HB.out)⟩⟩
                                              · rw [if_neg c56] at H
                                                have c56b0 : (t192 == x12_2) = false := beq_eq_false_iff_ne.mpr c56
                                                have c56b1 : (t192 != x12_2) = true := bne_iff_ne.mpr c56
                                                (first | rw [c56b0] | (simp only [i64_w, i32_w]; rw [c56b0]) | skip)
                                                have H' := Aside0.mk H
                                                clear H
                                                go_wp2
                                                repeat (go_quiet (fail); try go_wp2)
                                                go_meet
                                                case rel => exact ⟨_, (true), (by first | rfl | (simp; done) | (simp [*]; done)), H', ⟨by have := HJ7.out; have := HK2.out; have := HJ27.out; have := HK4.out; have := HJ33.out; first | omega | exact Nat.le_refl _⟩, ⟨by (with_reducible repeat (first | apply Kd.R_alloc | apply Kd.R_drewN | apply Kd.R_drew)); exact HO194.out⟩, ⟨by repeat (first | (with_reducible first | exact HB.out | apply below_alloc | apply pw_below_drewN | apply below_drew1) | exact HB.out)⟩⟩
                                            case rest =>
                                              clear HC53
                                              try clear c1
                                              try clear p1
                                              try clear q1
                                              try clear hx1
                                              try clear c2
                                              try clear p2
                                              try clear c3
                                              try clear c4
                                              try clear p4
                                              try clear q4
                                              try clear hx4
                                              try clear c5
                                              try clear hcv5
                                              try clear p6
                                              try clear c7
                                              try clear c9
                                              try clear c10
                                              try clear c10b0
                                              try clear c10b1
                                              try clear c10b2
                                              try clear c11
                                              try clear c11b0
                                              try clear c11b1
                                              try clear c12
                                              try clear c13
                                              try clear c13b0
                                              try clear c13b1
                                              try clear c13b2
                                              try clear c14
                                              try clear c14b0
                                              try clear c15
                                              try clear c15b0
                                              try clear c16
                                              try clear c16b0
                                              try clear c17
                                              try clear c17b0
                                              try clear c17b1
                                              try clear c18
                                              try clear c18b0
                                              try clear c18b1
                                              try clear p18
                                              try clear q18
                                              try clear hx18
                                              try clear c20
                                              try clear c20b0
                                              try clear c20b1
                                              try clear c20b2
                                              try clear c23
                                              try clear c23b0
                                              try clear c23b1
                                              try clear c23b2
                                              try clear c26
                                              try clear c26b0
                                              try clear c27
                                              try clear c27b0
                                              try clear c29
                                              try clear c30
                                              try clear c30b0
                                              try clear c30b1
                                              try clear c31
                                              try clear c32
                                              try clear c32b0
                                              try clear c32b1
                                              try clear c35
                                              try clear c35b0
                                              try clear c36
                                              try clear c38
                                              try clear c38b0
                                              try clear c38b1
                                              try clear c40
                                              try clear c40b0
                                              try clear c40b1
                                              try clear c42
                                              try clear c42b0
                                              try clear c43
                                              try clear c43b0
                                              try clear c45
                                              try clear c45b0
                                              try clear c45b1
                                              try clear p47
                                              try clear q47
                                              try clear hx47
                                              try clear hf47
                                              try clear c51
                                              try clear hcv54
                                              try clear c56
                                              try clear c56b0
                                              try clear c56b1
                                              try clear hx182_0
                                              try clear hx185_0
                                              try clear hx189_0
                                              try clear hx47_0
                                              try clear p1
                                              try clear p18
                                              try clear p182
                                              try clear p185
                                              try clear p189
                                              try clear p2
                                              try clear p47
                                              try clear p6
                                              try clear q1
                                              try clear q18
                                              try clear q182
                                              try clear q185
                                              try clear q189
                                              try clear q47
                                              obtain ⟨kq, x139_52, rfl, HA, HJ52, HO_20, HB⟩ := hcut
                                              cases kq with
                                              | zero => exact absurd HA.out (by simp [mailbaglaw05_FrameTurns.j5])
                                              | succ kj52 =>
                                                have H := HA.out
                                                clear HA
                                                simp only [mailbaglaw05_FrameTurns.j5] at H
                                                by_cases c58 : x139_52 = true
                                                · subst c58
                                                  have H1 : (some false) = some r := by rw [if_pos rfl] at H; exact H
                                                  clear H
                                                  have H := H1
                                                  clear H1
                                                  obtain rfl := Option.some.inj H
                                                  go_wp2
                                                  repeat (go_quiet (fail); try go_wp2)
                                                  go_ret
                                                  exact ⟨by first | rfl | (simp [errW_none, errW_some] <;> rfl) | (simp only [← hji25]; first | rfl | (simp [errW_none, errW_some] <;> rfl)) | (simp [*, errW_none, errW_some] <;> rfl), by repeat (first | (with_reducible first | exact HB.out | apply below_alloc | apply pw_below_drewN | apply below_drew1) | exact HB.out)⟩
                                                · replace c58 := Bool.eq_false_iff.mpr c58
                                                  subst c58
                                                  have H1 : (mailbaglaw05_FrameTurns.l2 kj52 l0 t191 (t191.length : Int) 0) = some r := by rw [if_neg (show ¬ (false = true) by decide)] at H; exact H
                                                  clear H
                                                  have H := H1
                                                  clear H1
                                                  have H' := Aside0.mk H
                                                  clear H
                                                  obtain ⟨Ao59, co59, eo59⟩ := Kd.R_slice HO_20.out
                                                  subst eo59
                                                  go_wp2
                                                  repeat (go_quiet (fail); try go_wp2)
                                                  go_loopg [142] kj52 (fun kq v142 w' => ∃ (x142_7 : Int), v142 = .int .i64 x142_7 ∧ Aside0 (mailbaglaw05_FrameTurns.l2 kq l0 t191 (t191.length : Int) x142_7 = some r) ∧ Aside0 (kq ≤ kj52) ∧ Aside0 (Kd.R Kd.string 9 w' w.heap.size (fun _ => True) (.slice Ao59 t191.length co59) t191) ∧ Aside0 (Below w.heap.size w w'))
                                                  case atStart => exact ⟨(0), (by first | rfl | (simp; done) | (simp [*]; done)), H', ⟨Nat.le_refl _⟩, ⟨by (with_reducible repeat (first | apply Kd.R_alloc | apply Kd.R_drewN | apply Kd.R_drew)); exact HO_20.out⟩, ⟨by repeat (first | (with_reducible first | exact HB.out | apply below_alloc | apply pw_below_drewN | apply below_drew1) | exact HB.out)⟩⟩
                                                  case round =>
                                                    clear H'
                                                    try clear c1
                                                    try clear p1
                                                    try clear q1
                                                    try clear hx1
                                                    try clear c2
                                                    try clear p2
                                                    try clear c3
                                                    try clear c4
                                                    try clear p4
                                                    try clear q4
                                                    try clear hx4
                                                    try clear c5
                                                    try clear hcv5
                                                    try clear p6
                                                    try clear c7
                                                    try clear c9
                                                    try clear c10
                                                    try clear c10b0
                                                    try clear c10b1
                                                    try clear c10b2
                                                    try clear c11
                                                    try clear c11b0
                                                    try clear c11b1
                                                    try clear c12
                                                    try clear c13
                                                    try clear c13b0
                                                    try clear c13b1
                                                    try clear c13b2
                                                    try clear c14
                                                    try clear c14b0
                                                    try clear c15
                                                    try clear c15b0
                                                    try clear c16
                                                    try clear c16b0
                                                    try clear c17
                                                    try clear c17b0
                                                    try clear c17b1
                                                    try clear c18
                                                    try clear c18b0
                                                    try clear c18b1
                                                    try clear p18
                                                    try clear q18
                                                    try clear hx18
                                                    try clear c20
                                                    try clear c20b0
                                                    try clear c20b1
                                                    try clear c20b2
                                                    try clear c23
                                                    try clear c23b0
                                                    try clear c23b1
                                                    try clear c23b2
                                                    try clear c26
                                                    try clear c26b0
                                                    try clear c27
                                                    try clear c27b0
                                                    try clear c29
                                                    try clear c30
                                                    try clear c30b0
                                                    try clear c30b1
                                                    try clear c31
                                                    try clear c32
                                                    try clear c32b0
                                                    try clear c32b1
                                                    try clear c35
                                                    try clear c35b0
                                                    try clear c36
                                                    try clear c38
                                                    try clear c38b0
                                                    try clear c38b1
                                                    try clear c40
                                                    try clear c40b0
                                                    try clear c40b1
                                                    try clear c42
                                                    try clear c42b0
                                                    try clear c43
                                                    try clear c43b0
                                                    try clear c45
                                                    try clear c45b0
                                                    try clear c45b1
                                                    try clear p47
                                                    try clear q47
                                                    try clear hx47
                                                    try clear hf47
                                                    try clear c51
                                                    try clear hcv54
                                                    try clear c56
                                                    try clear c56b0
                                                    try clear c56b1
                                                    try clear c58
                                                    try clear hx182_0
                                                    try clear hx185_0
                                                    try clear hx189_0
                                                    try clear hx47_0
                                                    try clear p1
                                                    try clear p18
                                                    try clear p182
                                                    try clear p185
                                                    try clear p189
                                                    try clear p2
                                                    try clear p4
                                                    try clear p47
                                                    try clear p6
                                                    try clear q1
                                                    try clear q18
                                                    try clear q182
                                                    try clear q185
                                                    try clear q189
                                                    try clear q4
                                                    try clear q47
                                                    obtain ⟨x142_7, rfl, HA, HK7, HO_20, HB⟩ := hrel
                                                    cases gk with
                                                    | zero => exact absurd HA.out (by simp [mailbaglaw05_FrameTurns.l2])
                                                    | succ k7 =>
                                                      have H := HA.out
                                                      clear HA
                                                      simp only [mailbaglaw05_FrameTurns.l2] at H
                                                      by_cases c60 : x142_7 < (t191.length : Int)
                                                      · rw [if_pos c60] at H
                                                        have c60b0 : decide (x142_7 < (t191.length : Int)) = true := decide_eq_true c60
                                                        clear c60
                                                        by_cases c61 : 0 ≤ x142_7
                                                        · rw [if_pos c61] at H
                                                          have c61b0 : decide (0 ≤ x142_7) = true := decide_eq_true c61
                                                          clear c61
                                                          by_cases c62 : x142_7 < (t191.length : Int)
                                                          · rw [if_pos c62] at H
                                                            have c62b0 : decide (x142_7 < (t191.length : Int)) = true := decide_eq_true c62
                                                            clear c62
                                                            by_cases c63 : x142_7 < (l0.length : Int)
                                                            · rw [if_pos c63] at H
                                                              have c63b0 : decide (x142_7 < (l0.length : Int)) = true := decide_eq_true c63
                                                              clear c63
                                                              by_cases c64 : (rdOf ByteArray.empty t191 x142_7).toList = (rdOf ByteArray.empty l0 x142_7).toList
                                                              · rw [if_pos c64] at H
                                                                have c64b0 : ((rdOf ByteArray.empty t191 x142_7).toList == (rdOf ByteArray.empty l0 x142_7).toList) = true := beq_iff_eq.mpr c64
                                                                have c64b1 : ((rdOf ByteArray.empty t191 x142_7).toList != (rdOf ByteArray.empty l0 x142_7).toList) = false := bne_eq_false_iff_eq.mpr c64
                                                                clear c64
                                                                have H' := Aside0.mk H
                                                                clear H
                                                                have p195 : 0 ≤ (x142_7 : Int) := of_decide_eq_true (by first | (with_reducible assumption) | assumption)
                                                                have q195 : x142_7 < (t191.length : Int) := of_decide_eq_true (by first | (with_reducible assumption) | assumption)
                                                                obtain ⟨ad195, e195, hx195_0⟩ := Kd.at_string (Kd.R_reads' HO_20.out).2.2 x142_7 p195 q195
                                                                cases e195
                                                                replace p195 := eq_true p195
                                                                replace q195 := eq_true q195
                                                                have p196 : 0 ≤ (x142_7 : Int) := of_decide_eq_true (by first | (with_reducible assumption) | assumption)
                                                                have q196 : x142_7 < (l0.length : Int) := of_decide_eq_true (by first | (with_reducible assumption) | assumption)
                                                                obtain ⟨ad196, e196, hx196_0⟩ := Kd.at_string HR0.out x142_7 p196 q196
                                                                obtain rfl : ad185 = ad196 := (by injection e196)
                                                                replace hx196_0 := (HB.out.cell (World.block_lt_of_cell? w _ hx196_0)).trans hx196_0
                                                                replace p196 := eq_true p196
                                                                replace q196 := eq_true q196
                                                                go_wp2
                                                                repeat (go_quiet (fail); try go_wp2)
                                                                go_roundg k7
                                                                case measure => have := HJ7.out; have := HK2.out; have := HJ27.out; have := HK4.out; have := HJ33.out; have := HJ52.out; have := HK7.out; omega
                                                                case rel => exact ⟨(wrap64 (x142_7 + 1)), (by first | rfl | (simp; done) | (simp [*]; done)), H', ⟨by have := HJ7.out; have := HK2.out; have := HJ27.out; have := HK4.out; have := HJ33.out; have := HJ52.out; have := HK7.out; omega⟩, ⟨by (with_reducible repeat (first | apply Kd.R_alloc | apply Kd.R_drewN | apply Kd.R_drew)); exact HO_20.out⟩, ⟨by repeat (first | (with_reducible first | exact HB.out | apply below_alloc | apply pw_below_drewN | apply below_drew1) | exact HB.out)⟩⟩
                                                              · rw [if_neg c64] at H
                                                                have c64b0 : ((rdOf ByteArray.empty t191 x142_7).toList == (rdOf ByteArray.empty l0 x142_7).toList) = false := beq_eq_false_iff_ne.mpr c64
                                                                have c64b1 : ((rdOf ByteArray.empty t191 x142_7).toList != (rdOf ByteArray.empty l0 x142_7).toList) = true := bne_iff_ne.mpr c64
                                                                obtain rfl := Option.some.inj H
                                                                have p195 : 0 ≤ (x142_7 : Int) := of_decide_eq_true (by first | (with_reducible assumption) | assumption)
                                                                have q195 : x142_7 < (t191.length : Int) := of_decide_eq_true (by first | (with_reducible assumption) | assumption)
                                                                obtain ⟨ad195, e195, hx195_0⟩ := Kd.at_string (Kd.R_reads' HO_20.out).2.2 x142_7 p195 q195
                                                                cases e195
                                                                replace p195 := eq_true p195
                                                                replace q195 := eq_true q195
                                                                have p196 : 0 ≤ (x142_7 : Int) := of_decide_eq_true (by first | (with_reducible assumption) | assumption)
                                                                have q196 : x142_7 < (l0.length : Int) := of_decide_eq_true (by first | (with_reducible assumption) | assumption)
                                                                obtain ⟨ad196, e196, hx196_0⟩ := Kd.at_string HR0.out x142_7 p196 q196
                                                                obtain rfl : ad185 = ad196 := (by injection e196)
                                                                replace hx196_0 := (HB.out.cell (World.block_lt_of_cell? w _ hx196_0)).trans hx196_0
                                                                replace p196 := eq_true p196
                                                                replace q196 := eq_true q196
                                                                go_wp2
                                                                repeat (go_quiet (fail); try go_wp2)
                                                                go_ret
                                                                exact ⟨by first | rfl | (simp [errW_none, errW_some] <;> rfl) | (simp only [← hji25]; first | rfl | (simp [errW_none, errW_some] <;> rfl)) | (simp [*, errW_none, errW_some] <;> rfl), by repeat (first | (with_reducible first | exact HB.out | apply below_alloc | apply pw_below_drewN | apply below_drew1) | exact HB.out)⟩
                                                            · rw [if_neg c63] at H
                                                              exact absurd H (by simp)
                                                          · rw [if_neg c62] at H
                                                            exact absurd H (by simp)
                                                        · rw [if_neg c61] at H
                                                          exact absurd H (by simp)
                                                      · rw [if_neg c60] at H
                                                        have c60b0 : decide (x142_7 < (t191.length : Int)) = false := decide_eq_false c60
                                                        clear c60
                                                        obtain rfl := Option.some.inj H
                                                        go_wp2
                                                        repeat (go_quiet (fail); try go_wp2)
                                                        go_ret
                                                        exact ⟨by first | rfl | (simp [errW_none, errW_some] <;> rfl) | (simp only [← hji25]; first | rfl | (simp [errW_none, errW_some] <;> rfl)) | (simp [*, errW_none, errW_some] <;> rfl), by repeat (first | (with_reducible first | exact HB.out | apply below_alloc | apply pw_below_drewN | apply below_drew1) | exact HB.out)⟩
                                          · replace c51 := Bool.eq_false_iff.mpr c51
                                            subst c51
                                            have H1 : (some true) = some r := by rw [if_neg (show ¬ (false = true) by decide)] at H; exact H
                                            clear H
                                            have H := H1
                                            clear H1
                                            obtain rfl := Option.some.inj H
                                            go_wp2
                                            repeat (go_quiet (fail); try go_wp2)
                                            go_ret
                                            exact ⟨by first | rfl | (simp [errW_none, errW_some] <;> rfl) | (simp only [← hji25]; first | rfl | (simp [errW_none, errW_some] <;> rfl)) | (simp [*, errW_none, errW_some] <;> rfl), by repeat (first | (with_reducible first | exact HB.out | apply below_alloc | apply pw_below_drewN | apply below_drew1) | exact HB.out)⟩
                            · rw [if_neg c31] at H
                              exact absurd H (by simp)
                    · rw [if_neg c27] at H
                      exact absurd H (by simp)
                  · rw [if_neg c26] at H
                    exact absurd H (by simp)
  · replace c7 := Bool.eq_false_iff.mpr c7
    subst c7
    have H1 : (some false) = some r := by rw [if_neg (show ¬ (false = true) by decide)] at H; exact H
    clear H
    have H := H1
    clear H1
    obtain rfl := Option.some.inj H
    go_enter Try.func9, Try.ntmps9
    go_wp2_with (first | (go_at_call 12; (with_reducible refine (mailbaglaw05_head.calls k  false _ A6.out).mono ?_); rintro e w65 ⟨rfl, hb⟩; have n0_ := Aside0.mk (below_step (by repeat (first | (with_reducible first | exact HB.out | apply below_alloc | apply pw_below_drewN | apply below_drew1) | exact HB.out)) hb); clear HB; have HB := n0_; clear n0_; (try clear hb); (try clear hb2); (try clear hk); (try clear hi)))
    repeat (go_quiet (first | (go_at_call 12; (with_reducible refine (mailbaglaw05_head.calls k  false _ A6.out).mono ?_); rintro e w65 ⟨rfl, hb⟩; have n0_ := Aside0.mk (below_step (by repeat (first | (with_reducible first | exact HB.out | apply below_alloc | apply pw_below_drewN | apply below_drew1) | exact HB.out)) hb); clear HB; have HB := n0_; clear n0_; (try clear hb); (try clear hb2); (try clear hk); (try clear hi))); try go_wp2_with (first | (go_at_call 12; (with_reducible refine (mailbaglaw05_head.calls k  false _ A6.out).mono ?_); rintro e w65 ⟨rfl, hb⟩; have n0_ := Aside0.mk (below_step (by repeat (first | (with_reducible first | exact HB.out | apply below_alloc | apply pw_below_drewN | apply below_drew1) | exact HB.out)) hb); clear HB; have HB := n0_; clear n0_; (try clear hb); (try clear hb2); (try clear hk); (try clear hi))))
    go_ret
    exact ⟨by first | rfl | (simp [errW_none, errW_some] <;> rfl) | (simp [*, errW_none, errW_some] <;> rfl), by repeat (first | (with_reducible first | exact HB.out | apply below_alloc | apply pw_below_drewN | apply below_drew1) | exact HB.out)⟩

end Go.Proofs.Ytcoollbcnpmlfaa.P
