-- Written by a program of this session, out of Lean's own print of the translation. Lean checks it.
import Derived.Test.YtcoollbcnpmlfaaPx0
import Derived.Test.YtcoollbcnpmlfaaPx1
import Derived.Test.YtcoollbcnpmlfaaPx4
namespace Go.Proofs.Ytcoollbcnpmlfaa.P
open Go.RowKit Go.Proofs.YtcoollbcnpmlfaaW.PrintWords Go.Proofs.YtcoollbcnpmlfaaW.PrintLast Go.Proofs.YtcoollbcnpmlfaaW.PrintMore
attribute [local go_sem] max2_int min2_int max_two min_two max_three min_three max_four min_four   -- for this text's walks alone
set_option linter.unusedVariables false
set_option linter.unusedSimpArgs false

/-! ### frame_Put: function 16 -/
def frame_Put.f (k : Nat) (a0 : ByteArray) : Option (ByteArray × Int) := if (a0.size : Int) > 262144 then (some ((⟨#[]⟩ : ByteArray), 4)) else ((frame_four.f (((a0.size : Int)) % 4294967296)).bind fun t109 => ((frame_Sum.f k t109).bind fun t110 => ((frame_four.f t110).bind fun t111 => (if t109.size + t111.size ≤ 9223372036854775807 then ((frame_Sum.f k a0).bind fun t112 => ((frame_four.f t112).bind fun t113 => (if t109.size + t111.size + t113.size ≤ 9223372036854775807 then (if t109.size + t111.size + t113.size + a0.size ≤ 9223372036854775807 then (some (((t109 ++ t111) ++ t113) ++ a0, 0)) else (none)) else (none)))) else (none)))))
theorem frame_Put.mono : ∀ a0 k, LeO (frame_Put.f k a0) (frame_Put.f (k + 1) a0) := by
  intro a0 k
  unfold frame_Put.f
  repeat' first
      | (with_reducible exact frame_Sum.mono _ _)
      | (with_reducible exact LeO.refl _)
      | (with_reducible exact LeO.none _)
      | (with_reducible refine LeO.ite ?_ ?_)
      | (with_reducible refine LeO.bind ?_ (fun _ => ?_))
      | exact frame_Sum.mono _ _
      | exact LeO.none _
      | refine LeO.ite ?_ ?_
      | refine LeO.bind ?_ (fun _ => ?_)
set_option maxHeartbeats 8000000 in
set_option maxRecDepth 100000 in
theorem frame_Put.calls (k : Nat) (a0 : ByteArray) (r1 : ByteArray) (r2 : Int) (w : World) (h : frame_Put.f k a0 = some (r1, r2)) :
    Calls Try.prog 16 #[.string a0] w fun e w' => e = .returned (.tuple #[.string r1, .int .i64 r2]) ∧ Below w.heap.size w w' := by
  have HB := Aside0.mk (Below.refl w.heap.size w)
  have H : (if (a0.size : Int) > 262144 then (some ((⟨#[]⟩ : ByteArray), 4)) else ((frame_four.f (((a0.size : Int)) % 4294967296)).bind fun t109 => ((frame_Sum.f k t109).bind fun t110 => ((frame_four.f t110).bind fun t111 => (if t109.size + t111.size ≤ 9223372036854775807 then ((frame_Sum.f k a0).bind fun t112 => ((frame_four.f t112).bind fun t113 => (if t109.size + t111.size + t113.size ≤ 9223372036854775807 then (if t109.size + t111.size + t113.size + a0.size ≤ 9223372036854775807 then (some (((t109 ++ t111) ++ t113) ++ a0, 0)) else (none)) else (none)))) else (none)))))) = some (r1, r2) := h
  clear h
  by_cases c2 : (a0.size : Int) > 262144
  · rw [if_pos c2] at H
    have c2b0 : decide (262144 < (a0.size : Int)) = true := decide_eq_true c2
    have c2b1 : decide (262144 < a0.size) = true := decide_eq_true (by omega)
    clear c2
    simp only [Option.some.injEq, Prod.mk.injEq] at H
    obtain ⟨rfl, rfl⟩ := H
    go_enter Try.func16, Try.ntmps16
    go_wp2
    go_ret2
    exact ⟨by first | rfl | (simp [errW_none, errW_some] <;> rfl) | (simp [*, errW_none, errW_some] <;> rfl), by repeat (first | (with_reducible first | exact HB.out | apply below_alloc | apply pw_below_drewN | apply below_drew1) | exact HB.out)⟩
  · rw [if_neg c2] at H
    have c2b0 : decide (262144 < (a0.size : Int)) = false := decide_eq_false c2
    have c2b1 : decide (262144 < a0.size) = false := decide_eq_false (by omega)
    clear c2
    replace H := Option.bind_eq_some_iff.mp H
    obtain ⟨t109, A30, H⟩ := H
    replace H : ((frame_Sum.f k t109).bind fun t110 => ((frame_four.f t110).bind fun t111 => (if t109.size + t111.size ≤ 9223372036854775807 then ((frame_Sum.f k a0).bind fun t112 => ((frame_four.f t112).bind fun t113 => (if t109.size + t111.size + t113.size ≤ 9223372036854775807 then (if t109.size + t111.size + t113.size + a0.size ≤ 9223372036854775807 then (some (((t109 ++ t111) ++ t113) ++ a0, 0)) else (none)) else (none)))) else (none)))) = some (r1, r2) := H
    have A3 := Aside0.mk A30
    clear A30
    replace H := Option.bind_eq_some_iff.mp H
    obtain ⟨t110, A40, H⟩ := H
    replace H : ((frame_four.f t110).bind fun t111 => (if t109.size + t111.size ≤ 9223372036854775807 then ((frame_Sum.f k a0).bind fun t112 => ((frame_four.f t112).bind fun t113 => (if t109.size + t111.size + t113.size ≤ 9223372036854775807 then (if t109.size + t111.size + t113.size + a0.size ≤ 9223372036854775807 then (some (((t109 ++ t111) ++ t113) ++ a0, 0)) else (none)) else (none)))) else (none))) = some (r1, r2) := H
    have A4 := Aside0.mk A40
    clear A40
    replace H := Option.bind_eq_some_iff.mp H
    obtain ⟨t111, A50, H⟩ := H
    replace H : (if t109.size + t111.size ≤ 9223372036854775807 then ((frame_Sum.f k a0).bind fun t112 => ((frame_four.f t112).bind fun t113 => (if t109.size + t111.size + t113.size ≤ 9223372036854775807 then (if t109.size + t111.size + t113.size + a0.size ≤ 9223372036854775807 then (some (((t109 ++ t111) ++ t113) ++ a0, 0)) else (none)) else (none)))) else (none)) = some (r1, r2) := H
    have A5 := Aside0.mk A50
    clear A50
    by_cases c6 : t109.size + t111.size ≤ 9223372036854775807
    · rw [if_pos c6] at H
      have c6b0 := eq_true c6
      have c6b1 : decide (t109.size + t111.size ≤ 9223372036854775807) = true := decide_eq_true c6
      try have c6b2 : (9223372036854775807 < t109.size + t111.size) = False := eq_false (Nat.not_lt.2 c6)
      replace H := Option.bind_eq_some_iff.mp H
      obtain ⟨t112, A70, H⟩ := H
      replace H : ((frame_four.f t112).bind fun t113 => (if t109.size + t111.size + t113.size ≤ 9223372036854775807 then (if t109.size + t111.size + t113.size + a0.size ≤ 9223372036854775807 then (some (((t109 ++ t111) ++ t113) ++ a0, 0)) else (none)) else (none))) = some (r1, r2) := H
      have A7 := Aside0.mk A70
      clear A70
      replace H := Option.bind_eq_some_iff.mp H
      obtain ⟨t113, A80, H⟩ := H
      replace H : (if t109.size + t111.size + t113.size ≤ 9223372036854775807 then (if t109.size + t111.size + t113.size + a0.size ≤ 9223372036854775807 then (some (((t109 ++ t111) ++ t113) ++ a0, 0)) else (none)) else (none)) = some (r1, r2) := H
      have A8 := Aside0.mk A80
      clear A80
      by_cases c9 : t109.size + t111.size + t113.size ≤ 9223372036854775807
      · rw [if_pos c9] at H
        have c9b0 := eq_true c9
        have c9b1 : decide (t109.size + t111.size + t113.size ≤ 9223372036854775807) = true := decide_eq_true c9
        try have c9b2 : (9223372036854775807 < t109.size + t111.size + t113.size) = False := eq_false (Nat.not_lt.2 c9)
        by_cases c10 : t109.size + t111.size + t113.size + a0.size ≤ 9223372036854775807
        · rw [if_pos c10] at H
          have c10b0 := eq_true c10
          have c10b1 : decide (t109.size + t111.size + t113.size + a0.size ≤ 9223372036854775807) = true := decide_eq_true c10
          try have c10b2 : (9223372036854775807 < t109.size + t111.size + t113.size + a0.size) = False := eq_false (Nat.not_lt.2 c10)
          simp only [Option.some.injEq, Prod.mk.injEq] at H
          obtain ⟨rfl, rfl⟩ := H
          go_enter Try.func16, Try.ntmps16
          go_wp2_with (first | ((with_reducible refine gate_callee (f := 29) rfl ?_); refine goesL_ (some 11) rfl rfl Try.func29 (by kernel_rfl) rfl #[.int .u32 (((a0.size : Int)) % 4294967296)] rfl (by (try simp only [List.map_toArray, List.map_cons, List.map_nil]); first | done | rfl | (simp only [List.length_drop, List.length_take]; rfl)) ?_; (with_reducible refine (frame_four.calls (((a0.size : Int)) % 4294967296) t109 _ A3.out).mono ?_); rintro e w11 ⟨rfl, hb⟩; refine ⟨_, rfl, ?_⟩; have n0_ := Aside0.mk (below_step (by repeat (first | (with_reducible first | exact HB.out | apply below_alloc | apply pw_below_drewN | apply below_drew1) | exact HB.out)) hb); clear HB; have HB := n0_; clear n0_; (try clear hb); (try clear hb2); (try clear hk); (try clear hi)) | ((with_reducible refine gate_callee (f := 15) rfl ?_); refine goesL_ (some 14) rfl rfl Try.func15 (by kernel_rfl) rfl #[.string t109] rfl (by (try simp only [List.map_toArray, List.map_cons, List.map_nil]); first | done | rfl | (simp only [List.length_drop, List.length_take]; rfl)) ?_; (with_reducible refine (frame_Sum.calls k t109 t110 _ A4.out).mono ?_); rintro e w' ⟨rfl, ⟨nd, rfl⟩⟩; refine ⟨_, rfl, ?_⟩) | ((with_reducible refine gate_callee (f := 29) rfl ?_); refine goesL_ (some 15) rfl rfl Try.func29 (by kernel_rfl) rfl #[.int .u32 t110] rfl (by (try simp only [List.map_toArray, List.map_cons, List.map_nil]); first | done | rfl | (simp only [List.length_drop, List.length_take]; rfl)) ?_; (with_reducible refine (frame_four.calls t110 t111 _ A5.out).mono ?_); rintro e w12 ⟨rfl, hb⟩; refine ⟨_, rfl, ?_⟩; have n0_ := Aside0.mk (below_step (by repeat (first | (with_reducible first | exact HB.out | apply below_alloc | apply pw_below_drewN | apply below_drew1) | exact HB.out)) hb); clear HB; have HB := n0_; clear n0_; (try clear hb); (try clear hb2); (try clear hk); (try clear hi)) | ((with_reducible refine gate_callee (f := 15) rfl ?_); refine goesL_ (some 18) rfl rfl Try.func15 (by kernel_rfl) rfl #[.string a0] rfl (by (try simp only [List.map_toArray, List.map_cons, List.map_nil]); first | done | rfl | (simp only [List.length_drop, List.length_take]; rfl)) ?_; (with_reducible refine (frame_Sum.calls k a0 t112 _ A7.out).mono ?_); rintro e w' ⟨rfl, ⟨nd, rfl⟩⟩; refine ⟨_, rfl, ?_⟩) | ((with_reducible refine gate_callee (f := 29) rfl ?_); refine goesL_ (some 19) rfl rfl Try.func29 (by kernel_rfl) rfl #[.int .u32 t112] rfl (by (try simp only [List.map_toArray, List.map_cons, List.map_nil]); first | done | rfl | (simp only [List.length_drop, List.length_take]; rfl)) ?_; (with_reducible refine (frame_four.calls t112 t113 _ A8.out).mono ?_); rintro e w13 ⟨rfl, hb⟩; refine ⟨_, rfl, ?_⟩; have n0_ := Aside0.mk (below_step (by repeat (first | (with_reducible first | exact HB.out | apply below_alloc | apply pw_below_drewN | apply below_drew1) | exact HB.out)) hb); clear HB; have HB := n0_; clear n0_; (try clear hb); (try clear hb2); (try clear hk); (try clear hi)))
          go_ret2
          exact ⟨by first | rfl | (simp [errW_none, errW_some] <;> rfl) | (simp [*, errW_none, errW_some] <;> rfl), by repeat (first | (with_reducible first | exact HB.out | apply below_alloc | apply pw_below_drewN | apply below_drew1) | exact HB.out)⟩
        · rw [if_neg c10] at H
          exact absurd H (by simp)
      · rw [if_neg c9] at H
        exact absurd H (by simp)
    · rw [if_neg c6] at H
      exact absurd H (by simp)

end Go.Proofs.Ytcoollbcnpmlfaa.P
