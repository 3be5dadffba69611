-- Written by a program of this session, out of Lean's own print of the translation. Lean checks it.
import Derived.Test.YtcoollbcnpmlfaaPx0
import Derived.Test.YtcoollbcnpmlfaaPx1
import Derived.Test.YtcoollbcnpmlfaaPx7
namespace Go.Proofs.Ytcoollbcnpmlfaa.P
open Go.RowKit Go.Proofs.YtcoollbcnpmlfaaW.PrintWords Go.Proofs.YtcoollbcnpmlfaaW.PrintLast Go.Proofs.YtcoollbcnpmlfaaW.PrintMore
attribute [local go_sem] max2_int min2_int max_two min_two max_three min_three max_four min_four   -- for this text's walks alone
set_option linter.unusedVariables false
set_option linter.unusedSimpArgs false

/-! ### mailbaglaw05_one: function 14 -/
def mailbaglaw05_one.f (k : Nat) (a0 : ByteArray) : Option (ByteArray) := (mailbaglaw05_four.f (((a0.size : Int)) % 4294967296)).bind fun t122 => ((frame_Sum.f k t122).bind fun t123 => ((mailbaglaw05_four.f t123).bind fun t124 => (if t122.size + t124.size ≤ 9223372036854775807 then ((frame_Sum.f k a0).bind fun t125 => ((mailbaglaw05_four.f t125).bind fun t126 => (if t122.size + t124.size + t126.size ≤ 9223372036854775807 then (if t122.size + t124.size + t126.size + a0.size ≤ 9223372036854775807 then (some (((t122 ++ t124) ++ t126) ++ a0)) else (none)) else (none)))) else (none))))
theorem mailbaglaw05_one.mono : ∀ a0 k, LeO (mailbaglaw05_one.f k a0) (mailbaglaw05_one.f (k + 1) a0) := by
  intro a0 k
  unfold mailbaglaw05_one.f
  repeat' first
      | (with_reducible exact frame_Sum.mono _ _)
      | (with_reducible exact LeO.refl _)
      | (with_reducible exact LeO.none _)
      | (with_reducible refine LeO.ite ?_ ?_)
      | (with_reducible refine LeO.bind ?_ (fun _ => ?_))
      | exact frame_Sum.mono _ _
      | exact LeO.none _
      | refine LeO.ite ?_ ?_
      | refine LeO.bind ?_ (fun _ => ?_)
set_option maxHeartbeats 8000000 in
set_option maxRecDepth 100000 in
theorem mailbaglaw05_one.calls (k : Nat) (a0 : ByteArray) (r : ByteArray) (w : World) (h : mailbaglaw05_one.f k a0 = some r) :
    Calls Try.prog 14 #[.string a0] w fun e w' => e = .returned (.string r) ∧ Below w.heap.size w w' := by
  have HB := Aside0.mk (Below.refl w.heap.size w)
  have H : ((mailbaglaw05_four.f (((a0.size : Int)) % 4294967296)).bind fun t122 => ((frame_Sum.f k t122).bind fun t123 => ((mailbaglaw05_four.f t123).bind fun t124 => (if t122.size + t124.size ≤ 9223372036854775807 then ((frame_Sum.f k a0).bind fun t125 => ((mailbaglaw05_four.f t125).bind fun t126 => (if t122.size + t124.size + t126.size ≤ 9223372036854775807 then (if t122.size + t124.size + t126.size + a0.size ≤ 9223372036854775807 then (some (((t122 ++ t124) ++ t126) ++ a0)) else (none)) else (none)))) else (none))))) = some r := h
  clear h
  replace H := Option.bind_eq_some_iff.mp H
  obtain ⟨t122, A20, H⟩ := H
  replace H : ((frame_Sum.f k t122).bind fun t123 => ((mailbaglaw05_four.f t123).bind fun t124 => (if t122.size + t124.size ≤ 9223372036854775807 then ((frame_Sum.f k a0).bind fun t125 => ((mailbaglaw05_four.f t125).bind fun t126 => (if t122.size + t124.size + t126.size ≤ 9223372036854775807 then (if t122.size + t124.size + t126.size + a0.size ≤ 9223372036854775807 then (some (((t122 ++ t124) ++ t126) ++ a0)) else (none)) else (none)))) else (none)))) = some r := H
  have A2 := Aside0.mk A20
  clear A20
  replace H := Option.bind_eq_some_iff.mp H
  obtain ⟨t123, A30, H⟩ := H
  replace H : ((mailbaglaw05_four.f t123).bind fun t124 => (if t122.size + t124.size ≤ 9223372036854775807 then ((frame_Sum.f k a0).bind fun t125 => ((mailbaglaw05_four.f t125).bind fun t126 => (if t122.size + t124.size + t126.size ≤ 9223372036854775807 then (if t122.size + t124.size + t126.size + a0.size ≤ 9223372036854775807 then (some (((t122 ++ t124) ++ t126) ++ a0)) else (none)) else (none)))) else (none))) = some r := H
  have A3 := Aside0.mk A30
  clear A30
  replace H := Option.bind_eq_some_iff.mp H
  obtain ⟨t124, A40, H⟩ := H
  replace H : (if t122.size + t124.size ≤ 9223372036854775807 then ((frame_Sum.f k a0).bind fun t125 => ((mailbaglaw05_four.f t125).bind fun t126 => (if t122.size + t124.size + t126.size ≤ 9223372036854775807 then (if t122.size + t124.size + t126.size + a0.size ≤ 9223372036854775807 then (some (((t122 ++ t124) ++ t126) ++ a0)) else (none)) else (none)))) else (none)) = some r := H
  have A4 := Aside0.mk A40
  clear A40
  by_cases c5 : t122.size + t124.size ≤ 9223372036854775807
  · rw [if_pos c5] at H
    have c5b0 := eq_true c5
    have c5b1 : decide (t122.size + t124.size ≤ 9223372036854775807) = true := decide_eq_true c5
    try have c5b2 : (9223372036854775807 < t122.size + t124.size) = False := eq_false (Nat.not_lt.2 c5)
    replace H := Option.bind_eq_some_iff.mp H
    obtain ⟨t125, A60, H⟩ := H
    replace H : ((mailbaglaw05_four.f t125).bind fun t126 => (if t122.size + t124.size + t126.size ≤ 9223372036854775807 then (if t122.size + t124.size + t126.size + a0.size ≤ 9223372036854775807 then (some (((t122 ++ t124) ++ t126) ++ a0)) else (none)) else (none))) = some r := H
    have A6 := Aside0.mk A60
    clear A60
    replace H := Option.bind_eq_some_iff.mp H
    obtain ⟨t126, A70, H⟩ := H
    replace H : (if t122.size + t124.size + t126.size ≤ 9223372036854775807 then (if t122.size + t124.size + t126.size + a0.size ≤ 9223372036854775807 then (some (((t122 ++ t124) ++ t126) ++ a0)) else (none)) else (none)) = some r := H
    have A7 := Aside0.mk A70
    clear A70
    by_cases c8 : t122.size + t124.size + t126.size ≤ 9223372036854775807
    · rw [if_pos c8] at H
      have c8b0 := eq_true c8
      have c8b1 : decide (t122.size + t124.size + t126.size ≤ 9223372036854775807) = true := decide_eq_true c8
      try have c8b2 : (9223372036854775807 < t122.size + t124.size + t126.size) = False := eq_false (Nat.not_lt.2 c8)
      by_cases c9 : t122.size + t124.size + t126.size + a0.size ≤ 9223372036854775807
      · rw [if_pos c9] at H
        have c9b0 := eq_true c9
        have c9b1 : decide (t122.size + t124.size + t126.size + a0.size ≤ 9223372036854775807) = true := decide_eq_true c9
        try have c9b2 : (9223372036854775807 < t122.size + t124.size + t126.size + a0.size) = False := eq_false (Nat.not_lt.2 c9)
        obtain rfl := Option.some.inj H
        go_enter Try.func14, Try.ntmps14
        go_wp2_with (first | ((with_reducible refine gate_callee (f := 17) rfl ?_); refine goesL_ (some 7) rfl rfl Try.func17 (by kernel_rfl) rfl #[.int .u32 (((a0.size : Int)) % 4294967296)] rfl (by (try simp only [List.map_toArray, List.map_cons, List.map_nil]); first | done | rfl | (simp only [List.length_drop, List.length_take]; rfl)) ?_; (with_reducible refine (mailbaglaw05_four.calls (((a0.size : Int)) % 4294967296) t122 _ A2.out).mono ?_); rintro e w10 ⟨rfl, hb⟩; refine ⟨_, rfl, ?_⟩; have n0_ := Aside0.mk (below_step (by repeat (first | (with_reducible first | exact HB.out | apply below_alloc | apply pw_below_drewN | apply below_drew1) | exact HB.out)) hb); clear HB; have HB := n0_; clear n0_; (try clear hb); (try clear hb2); (try clear hk); (try clear hi)) | ((with_reducible refine gate_callee (f := 15) rfl ?_); refine goesL_ (some 10) rfl rfl Try.func15 (by kernel_rfl) rfl #[.string t122] rfl (by (try simp only [List.map_toArray, List.map_cons, List.map_nil]); first | done | rfl | (simp only [List.length_drop, List.length_take]; rfl)) ?_; (with_reducible refine (frame_Sum.calls k t122 t123 _ A3.out).mono ?_); rintro e w' ⟨rfl, ⟨nd, rfl⟩⟩; refine ⟨_, rfl, ?_⟩) | ((with_reducible refine gate_callee (f := 17) rfl ?_); refine goesL_ (some 11) rfl rfl Try.func17 (by kernel_rfl) rfl #[.int .u32 t123] rfl (by (try simp only [List.map_toArray, List.map_cons, List.map_nil]); first | done | rfl | (simp only [List.length_drop, List.length_take]; rfl)) ?_; (with_reducible refine (mailbaglaw05_four.calls t123 t124 _ A4.out).mono ?_); rintro e w11 ⟨rfl, hb⟩; refine ⟨_, rfl, ?_⟩; have n0_ := Aside0.mk (below_step (by repeat (first | (with_reducible first | exact HB.out | apply below_alloc | apply pw_below_drewN | apply below_drew1) | exact HB.out)) hb); clear HB; have HB := n0_; clear n0_; (try clear hb); (try clear hb2); (try clear hk); (try clear hi)) | ((with_reducible refine gate_callee (f := 15) rfl ?_); refine goesL_ (some 14) rfl rfl Try.func15 (by kernel_rfl) rfl #[.string a0] rfl (by (try simp only [List.map_toArray, List.map_cons, List.map_nil]); first | done | rfl | (simp only [List.length_drop, List.length_take]; rfl)) ?_; (with_reducible refine (frame_Sum.calls k a0 t125 _ A6.out).mono ?_); rintro e w' ⟨rfl, ⟨nd, rfl⟩⟩; refine ⟨_, rfl, ?_⟩) | ((with_reducible refine gate_callee (f := 17) rfl ?_); refine goesL_ (some 15) rfl rfl Try.func17 (by kernel_rfl) rfl #[.int .u32 t125] rfl (by (try simp only [List.map_toArray, List.map_cons, List.map_nil]); first | done | rfl | (simp only [List.length_drop, List.length_take]; rfl)) ?_; (with_reducible refine (mailbaglaw05_four.calls t125 t126 _ A7.out).mono ?_); rintro e w12 ⟨rfl, hb⟩; refine ⟨_, rfl, ?_⟩; have n0_ := Aside0.mk (below_step (by repeat (first | (with_reducible first | exact HB.out | apply below_alloc | apply pw_below_drewN | apply below_drew1) | exact HB.out)) hb); clear HB; have HB := n0_; clear n0_; (try clear hb); (try clear hb2); (try clear hk); (try clear hi)))
        go_ret
        exact ⟨by first | rfl | (simp [errW_none, errW_some] <;> rfl) | (simp [*, errW_none, errW_some] <;> rfl), by repeat (first | (with_reducible first | exact HB.out | apply below_alloc | apply pw_below_drewN | apply below_drew1) | exact HB.out)⟩
      · rw [if_neg c9] at H
        exact absurd H (by simp)
    · rw [if_neg c8] at H
      exact absurd H (by simp)
  · rw [if_neg c5] at H
    exact absurd H (by simp)

end Go.Proofs.Ytcoollbcnpmlfaa.P
