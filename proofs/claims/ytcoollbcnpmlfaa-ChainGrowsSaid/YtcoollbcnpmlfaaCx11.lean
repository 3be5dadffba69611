-- Written by a program of this session, out of Lean's own print of the translation. Lean checks it.
import Derived.Test.YtcoollbcnpmlfaaCx0
import Derived.Test.YtcoollbcnpmlfaaCx1
import Derived.Test.YtcoollbcnpmlfaaCx2
import Derived.Test.YtcoollbcnpmlfaaCx5
import Derived.Test.YtcoollbcnpmlfaaCx7
import Derived.Test.YtcoollbcnpmlfaaCp
namespace Go.Proofs.Ytcoollbcnpmlfaa.C
open Go.RowKit Go.Proofs.YtcoollbcnpmlfaaW.PrintWords Go.Proofs.YtcoollbcnpmlfaaW.PrintLast Go.Proofs.YtcoollbcnpmlfaaW.PrintMore
attribute [local go_sem] max2_int min2_int max_two min_two max_three min_three max_four min_four   -- for this text's walks alone
set_option linter.unusedVariables false
set_option linter.unusedSimpArgs false

/-! ### mailbaglaw07_ChainGrows: function 11 -/
mutual
def mailbaglaw07_ChainGrows.l0 : Nat → Int → List (S52) → Int → List Int → Int → Int → Option (Bool)
  | 0, _, _, _, _, _, _ => none
  | k + 1, x1, x5, x6, x24, x25, x26 => if x26 < x25 then (if 0 ≤ x26 then (if x26 < (x24.length : Int) then (if 0 ≤ (IntKind.u64.wrap (Go.bits .and .i64 x26 31)) then (if (Go.bits .and .i64 (shr .i64 x1 (IntKind.u64.wrap (Go.bits .and .i64 x26 31))) 1) = 1 then (mailbaglaw07_ChainGrows.j1 k x1 x5 (wrap64 (x6 + (wrap64 (1 + (Go.bits .and .i64 (rd x24 x26) 7))))) x26 x24 x25 x26 (wrap64 (x6 + (wrap64 (1 + (Go.bits .and .i64 (rd x24 x26) 7))))) (⟨#[]⟩ : ByteArray) true) else (mailbaglaw07_ChainGrows.j1 k x1 x5 (wrap64 (x6 + (wrap64 (1 + (Go.bits .and .i64 (rd x24 x26) 7))))) x26 x24 x25 x26 (wrap64 (x6 + (wrap64 (1 + (Go.bits .and .i64 (rd x24 x26) 7))))) (strOfNums (([(97 + ((Int.tmod x26 26) % 256)) % 256] : List Int))) false)) else (none)) else (none)) else (none)) else ((chain_Chain_Right.f k x5).bind fun t143 => (some t143))
def mailbaglaw07_ChainGrows.j1 : Nat → Int → List (S52) → Int → Int → List Int → Int → Int → Int → ByteArray → Bool → Option (Bool)
  | 0, _, _, _, _, _, _, _, _, _, _ => none
  | k + 1, x1, x5, x6, x7, x24, x25, x26, x149000, x149001, x149002 => (chain_Chain_Put.f x5 x149000 x149001 x149002).bind fun bt149 => (if bt149.2 = 0 then (if (bt149.1.length : Int) = (wrap64 (x7 + 1)) then ((chain_Chain_Last.f bt149.1).bind fun t153 => (mailbaglaw07_ChainGrows.j2 k x1 x5 x6 bt149.1 x24 x25 x26 (t153 != x6) x149000 x149001 x149002)) else (mailbaglaw07_ChainGrows.j2 k x1 x5 x6 bt149.1 x24 x25 x26 true x149000 x149001 x149002)) else (mailbaglaw07_ChainGrows.j2 k x1 x5 x6 bt149.1 x24 x25 x26 true x149000 x149001 x149002))
def mailbaglaw07_ChainGrows.j2 : Nat → Int → List (S52) → Int → List (S52) → List Int → Int → Int → Bool → Int → ByteArray → Bool → Option (Bool)
  | 0, _, _, _, _, _, _, _, _, _, _, _ => none
  | k + 1, x1, x5, x6, x10, x24, x25, x26, x73, x149000, x149001, x149002 => if x73 = true then (some false) else ((chain_Chain_At.f x10 x6).bind fun bt154 => ((chain_Chain_At.f x10 (wrap64 (x6 - 1))).bind fun bt156 => ((chain_Chain_At.f x5 (wrap64 (x6 - 1))).bind fun bt158 => (if (bt154.2 == x149002) = true then (some false) else (if bt154.1.toList = x149001.toList then (if bt156.1.toList = bt158.1.toList then (if (bt156.2 != bt158.2) = true then (some false) else (mailbaglaw07_ChainGrows.l0 k x1 x10 x6 x24 x25 (wrap64 (x26 + 1)))) else (some false)) else (some false))))))
end
def mailbaglaw07_ChainGrows.f (k : Nat) (l0 : List Int) (a1 : Int) : Option (Bool) := (mailbaglaw07_head.f k).bind fun t139 => (if t139 = true then (if (l0.length : Int) > 40 then (some true) else (mailbaglaw07_ChainGrows.l0 k a1 (([] : List (S52))) 0 l0 (l0.length : Int) 0)) else (some false))
theorem mailbaglaw07_ChainGrows.mono_l : ∀ k, (∀ y0 y1 y2 y3 y4 y5, LeO (mailbaglaw07_ChainGrows.l0 k y0 y1 y2 y3 y4 y5) (mailbaglaw07_ChainGrows.l0 (k + 1) y0 y1 y2 y3 y4 y5)) ∧ (∀ y0 y1 y2 y3 y4 y5 y6 y7 y8 y9, LeO (mailbaglaw07_ChainGrows.j1 k y0 y1 y2 y3 y4 y5 y6 y7 y8 y9) (mailbaglaw07_ChainGrows.j1 (k + 1) y0 y1 y2 y3 y4 y5 y6 y7 y8 y9)) ∧ (∀ y0 y1 y2 y3 y4 y5 y6 y7 y8 y9 y10, LeO (mailbaglaw07_ChainGrows.j2 k y0 y1 y2 y3 y4 y5 y6 y7 y8 y9 y10) (mailbaglaw07_ChainGrows.j2 (k + 1) y0 y1 y2 y3 y4 y5 y6 y7 y8 y9 y10))
  | 0 => ⟨fun _ _ _ _ _ _ r h => by simp [mailbaglaw07_ChainGrows.l0] at h, fun _ _ _ _ _ _ _ _ _ _ r h => by simp [mailbaglaw07_ChainGrows.j1] at h, fun _ _ _ _ _ _ _ _ _ _ _ r h => by simp [mailbaglaw07_ChainGrows.j2] at h⟩
  | k + 1 => by
    obtain ⟨ih0, ih1, ih2⟩ := mailbaglaw07_ChainGrows.mono_l k
    refine ⟨?_, ?_, ?_⟩
    · intro y0 y1 y2 y3 y4 y5
      unfold mailbaglaw07_ChainGrows.l0
      repeat' first
      | (with_reducible exact ih0 _ _ _ _ _ _)
      | (with_reducible exact ih1 _ _ _ _ _ _ _ _ _ _)
      | (with_reducible exact ih2 _ _ _ _ _ _ _ _ _ _ _)
      | (with_reducible exact chain_Chain_Right.mono _ _)
      | (with_reducible exact mailbaglaw07_head.mono _)
      | (with_reducible exact LeO.refl _)
      | (with_reducible exact LeO.none _)
      | (with_reducible refine LeO.ite ?_ ?_)
      | (with_reducible refine LeO.bind ?_ (fun _ => ?_))
      | exact ih0 _ _ _ _ _ _
      | exact ih1 _ _ _ _ _ _ _ _ _ _
      | exact ih2 _ _ _ _ _ _ _ _ _ _ _
      | exact chain_Chain_Right.mono _ _
      | exact mailbaglaw07_head.mono _
      | exact LeO.none _
      | refine LeO.ite ?_ ?_
      | refine LeO.bind ?_ (fun _ => ?_)
    · intro y0 y1 y2 y3 y4 y5 y6 y7 y8 y9
      unfold mailbaglaw07_ChainGrows.j1
      repeat' first
      | (with_reducible exact ih0 _ _ _ _ _ _)
      | (with_reducible exact ih1 _ _ _ _ _ _ _ _ _ _)
      | (with_reducible exact ih2 _ _ _ _ _ _ _ _ _ _ _)
      | (with_reducible exact chain_Chain_Right.mono _ _)
      | (with_reducible exact mailbaglaw07_head.mono _)
      | (with_reducible exact LeO.refl _)
      | (with_reducible exact LeO.none _)
      | (with_reducible refine LeO.ite ?_ ?_)
      | (with_reducible refine LeO.bind ?_ (fun _ => ?_))
      | exact ih0 _ _ _ _ _ _
      | exact ih1 _ _ _ _ _ _ _ _ _ _
      | exact ih2 _ _ _ _ _ _ _ _ _ _ _
      | exact chain_Chain_Right.mono _ _
      | exact mailbaglaw07_head.mono _
      | exact LeO.none _
      | refine LeO.ite ?_ ?_
      | refine LeO.bind ?_ (fun _ => ?_)
    · intro y0 y1 y2 y3 y4 y5 y6 y7 y8 y9 y10
      unfold mailbaglaw07_ChainGrows.j2
      repeat' first
      | (with_reducible exact ih0 _ _ _ _ _ _)
      | (with_reducible exact ih1 _ _ _ _ _ _ _ _ _ _)
      | (with_reducible exact ih2 _ _ _ _ _ _ _ _ _ _ _)
      | (with_reducible exact chain_Chain_Right.mono _ _)
      | (with_reducible exact mailbaglaw07_head.mono _)
      | (with_reducible exact LeO.refl _)
      | (with_reducible exact LeO.none _)
      | (with_reducible refine LeO.ite ?_ ?_)
      | (with_reducible refine LeO.bind ?_ (fun _ => ?_))
      | exact ih0 _ _ _ _ _ _
      | exact ih1 _ _ _ _ _ _ _ _ _ _
      | exact ih2 _ _ _ _ _ _ _ _ _ _ _
      | exact chain_Chain_Right.mono _ _
      | exact mailbaglaw07_head.mono _
      | exact LeO.none _
      | refine LeO.ite ?_ ?_
      | refine LeO.bind ?_ (fun _ => ?_)
theorem mailbaglaw07_ChainGrows.mono : ∀ a0 a1 k, LeO (mailbaglaw07_ChainGrows.f k a0 a1) (mailbaglaw07_ChainGrows.f (k + 1) a0 a1) := by
  intro a0 a1 k
  obtain ⟨ih0, ih1, ih2⟩ := mailbaglaw07_ChainGrows.mono_l k
  unfold mailbaglaw07_ChainGrows.f
  repeat' first
      | (with_reducible exact ih0 _ _ _ _ _ _)
      | (with_reducible exact ih1 _ _ _ _ _ _ _ _ _ _)
      | (with_reducible exact ih2 _ _ _ _ _ _ _ _ _ _ _)
      | (with_reducible exact chain_Chain_Right.mono _ _)
      | (with_reducible exact mailbaglaw07_head.mono _)
      | (with_reducible exact LeO.refl _)
      | (with_reducible exact LeO.none _)
      | (with_reducible refine LeO.ite ?_ ?_)
      | (with_reducible refine LeO.bind ?_ (fun _ => ?_))
      | exact ih0 _ _ _ _ _ _
      | exact ih1 _ _ _ _ _ _ _ _ _ _
      | exact ih2 _ _ _ _ _ _ _ _ _ _ _
      | exact chain_Chain_Right.mono _ _
      | exact mailbaglaw07_head.mono _
      | exact LeO.none _
      | refine LeO.ite ?_ ?_
      | refine LeO.bind ?_ (fun _ => ?_)
set_option maxHeartbeats 8000000 in
set_option maxRecDepth 100000 in
theorem mailbaglaw07_ChainGrows.calls (k : Nat) (A0 : Option Addr) (c0 : Nat) (l0 : List Int) (a1 : Int) (r : Bool) (w : World) (hr0 : Kd.C (Kd.int .i64) w A0 l0.length l0) (hc0 : l0.length ≤ c0) (h : mailbaglaw07_ChainGrows.f k l0 a1 = some r) :
    Calls Try.prog 11 #[.slice A0 l0.length c0, .int .i64 a1] w fun e w' => e = .returned (.bool r) ∧ Below w.heap.size w w' := by
  have hu52 := Try.underlying52
  have HR0 := Aside0.mk hr0
  have HC0 := Aside0.mk hc0
  clear hr0 hc0
  have HB := Aside0.mk (Below.refl w.heap.size w)
  have H : ((mailbaglaw07_head.f k).bind fun t139 => (if t139 = true then (if (l0.length : Int) > 40 then (some true) else (mailbaglaw07_ChainGrows.l0 k a1 (([] : List (S52))) 0 l0 (l0.length : Int) 0)) else (some false))) = some r := h
  clear h
  replace H := Option.bind_eq_some_iff.mp H
  obtain ⟨t139, A30, H⟩ := H
  replace H : (if t139 = true then (if (l0.length : Int) > 40 then (some true) else (mailbaglaw07_ChainGrows.l0 k a1 (([] : List (S52))) 0 l0 (l0.length : Int) 0)) else (some false)) = some r := H
  have A3 := Aside0.mk A30
  clear A30
  by_cases c4 : t139 = true
  · subst c4
    have H1 : (if (l0.length : Int) > 40 then (some true) else (mailbaglaw07_ChainGrows.l0 k a1 (([] : List (S52))) 0 l0 (l0.length : Int) 0)) = some r := by rw [if_pos rfl] at H; exact H
    clear H
    have H := H1
    clear H1
    by_cases c5 : (l0.length : Int) > 40
    · rw [if_pos c5] at H
      have c5b0 : decide (40 < (l0.length : Int)) = true := decide_eq_true c5
      have c5b1 : decide (40 < l0.length) = true := decide_eq_true (by omega)
      clear c5
      obtain rfl := Option.some.inj H
      go_enter Try.func11, Try.ntmps11
      go_wp2_with (first | ((with_reducible refine gate_callee (f := 22) rfl ?_); refine goesL_ (some 18) rfl rfl Try.func22 (by kernel_rfl) rfl #[] rfl (by (try simp only [List.map_toArray, List.map_cons, List.map_nil]); first | done | rfl | (simp only [List.length_drop, List.length_take]; rfl)) ?_; (with_reducible refine (mailbaglaw07_head.calls k  true _ A3.out).mono ?_); rintro e w6 ⟨rfl, hb⟩; refine ⟨_, rfl, ?_⟩; have n0_ := Aside0.mk (below_step (by repeat (first | (with_reducible first | exact HB.out | apply below_alloc | apply pw_below_drewN | apply below_drew1) | exact HB.out)) hb); clear HB; have HB := n0_; clear n0_; (try clear hb); (try clear hb2); (try clear hk); (try clear hi)))
      go_ret
      exact ⟨by first | rfl | (simp [errW_none, errW_some] <;> rfl) | (simp [*, errW_none, errW_some] <;> rfl), by repeat (first | (with_reducible first | exact HB.out | apply below_alloc | apply pw_below_drewN | apply below_drew1) | exact HB.out)⟩
    · rw [if_neg c5] at H
      have c5b0 : decide (40 < (l0.length : Int)) = false := decide_eq_false c5
      have c5b1 : decide (40 < l0.length) = false := decide_eq_false (by omega)
      clear c5
      obtain ⟨y140, hy140⟩ : ∃ y_ : List (S52), y_ = (([] : List (S52))) := ⟨_, rfl⟩
      replace H : (mailbaglaw07_ChainGrows.l0 k a1 y140 0 l0 (l0.length : Int) 0) = some r := by first | (rw [hy140]; with_reducible exact H) | (have H2_ := (Option.bind_some _ _).symm.trans H; rw [hy140]; with_reducible exact H2_) | (have H2_ := (Option.bind_some _ _).symm.trans H; with_reducible exact H2_) | with_reducible exact H | (rw [hy140]; exact H) | exact H
      have Ny140 := Aside0.mk hy140
      clear hy140
      have H' := Aside0.mk H
      clear H
      go_enter Try.func11, Try.ntmps11
      go_wp2_with (first | ((with_reducible refine gate_callee (f := 22) rfl ?_); refine goesL_ (some 18) rfl rfl Try.func22 (by kernel_rfl) rfl #[] rfl (by (try simp only [List.map_toArray, List.map_cons, List.map_nil]); first | done | rfl | (simp only [List.length_drop, List.length_take]; rfl)) ?_; (with_reducible refine (mailbaglaw07_head.calls k  true _ A3.out).mono ?_); rintro e w7 ⟨rfl, hb⟩; refine ⟨_, rfl, ?_⟩; have n0_ := Aside0.mk (below_step (by repeat (first | (with_reducible first | exact HB.out | apply below_alloc | apply pw_below_drewN | apply below_drew1) | exact HB.out)) hb); clear HB; have HB := n0_; clear n0_; (try clear hb); (try clear hb2); (try clear hk); (try clear hi)) | ((with_reducible refine gate_dst (N := 23) rfl ?_); (try (refine gate_guard (by rfl) ?_; dsimp only)); refine Kd.R_lit k52 _ 52 ?hg (N := 23) ?hd (xs := ([] : List (S52))) (inner := []) (ok := fun _ => True) (okp := fun _ => True) ?hr ?hp (fun _ hk => hk) trivial (Below.refl _ _) (Nat.le_refl _) (by simp) ?_; (case hd => rfl); (case hg => rfl); (case hr => first | (go_simp; done) | (go_simp; rfl)); (case hp => exact (Reps.none _ _)); intro v141 w8 ho9 hb hg_ hnew_; clear hg_ hnew_; (first | rw [← Ny140.out] at ho9 | (simp only [Int.reduceToNat] at ho9; rw [← Ny140.out] at ho9)); have n0_ := Aside0.mk (Kd.R_lower ho9 (below_size (by repeat (first | (with_reducible first | exact HB.out | apply below_alloc | apply pw_below_drewN | apply below_drew1) | exact HB.out)))); have n1_ := Aside0.mk (below_step (by repeat (first | (with_reducible first | exact HB.out | apply below_alloc | apply pw_below_drewN | apply below_drew1) | exact HB.out)) hb); clear HB; have HO142 := n0_; have HB := n1_; clear n0_ n1_; clear hb ho9))
      go_loopg [5, 6, 26] k (fun kq v5 v6 v26 w' => ∃ (x5_1 : List (S52)) (x6_1 : Int) (x26_1 : Int), v6 = .int .i64 x6_1 ∧ v26 = .int .i64 x26_1 ∧ Aside0 (mailbaglaw07_ChainGrows.l0 kq a1 x5_1 x6_1 l0 (l0.length : Int) x26_1 = some r) ∧ Aside0 (kq ≤ k) ∧ Aside0 (Kd.R k52 52 w' w.heap.size (fun _ => True) v5 x5_1) ∧ Aside0 (Below w.heap.size w w'))
      case atStart => exact ⟨(y140), (0), (0), (by first | rfl | (simp; done) | (simp [*]; done)), (by first | rfl | (simp; done) | (simp [*]; done)), H', ⟨Nat.le_refl _⟩, ⟨by (with_reducible repeat (first | apply Kd.R_alloc | apply Kd.R_drewN | apply Kd.R_drew)); exact HO142.out⟩, ⟨by repeat (first | (with_reducible first | exact HB.out | apply below_alloc | apply pw_below_drewN | apply below_drew1) | exact HB.out)⟩⟩
      case round =>
        clear H'
        try clear c1
        try clear c2
        try clear p2
        try clear c4
        try clear c5
        try clear c5b0
        try clear c5b1
        obtain ⟨x5_1, x6_1, x26_1, rfl, rfl, HA, HK1, HO_5, HB⟩ := hrel
        cases gk with
        | zero => exact absurd HA.out (by simp [mailbaglaw07_ChainGrows.l0])
        | succ k1 =>
          have H := HA.out
          clear HA
          simp only [mailbaglaw07_ChainGrows.l0] at H
          by_cases c10 : x26_1 < (l0.length : Int)
          · rw [if_pos c10] at H
            have c10b0 : decide (x26_1 < (l0.length : Int)) = true := decide_eq_true c10
            clear c10
            by_cases c11 : 0 ≤ x26_1
            · rw [if_pos c11] at H
              have c11b0 : decide (0 ≤ x26_1) = true := decide_eq_true c11
              clear c11
              by_cases c12 : x26_1 < (l0.length : Int)
              · rw [if_pos c12] at H
                have c12b0 : decide (x26_1 < (l0.length : Int)) = true := decide_eq_true c12
                clear c12
                obtain ⟨y145, hy145⟩ : ∃ y_ : List Int, y_ = (([(97 + ((Int.tmod x26_1 26) % 256)) % 256] : List Int)) := ⟨_, rfl⟩
                replace H : (if 0 ≤ (IntKind.u64.wrap (Go.bits .and .i64 x26_1 31)) then (if (Go.bits .and .i64 (shr .i64 a1 (IntKind.u64.wrap (Go.bits .and .i64 x26_1 31))) 1) = 1 then (mailbaglaw07_ChainGrows.j1 k1 a1 x5_1 (wrap64 (x6_1 + (wrap64 (1 + (Go.bits .and .i64 (rd l0 x26_1) 7))))) x26_1 l0 (l0.length : Int) x26_1 (wrap64 (x6_1 + (wrap64 (1 + (Go.bits .and .i64 (rd l0 x26_1) 7))))) (⟨#[]⟩ : ByteArray) true) else (mailbaglaw07_ChainGrows.j1 k1 a1 x5_1 (wrap64 (x6_1 + (wrap64 (1 + (Go.bits .and .i64 (rd l0 x26_1) 7))))) x26_1 l0 (l0.length : Int) x26_1 (wrap64 (x6_1 + (wrap64 (1 + (Go.bits .and .i64 (rd l0 x26_1) 7))))) (strOfNums y145) false)) else (none)) = some r := by first | (rw [hy145]; with_reducible exact H) | (have H2_ := (Option.bind_some _ _).symm.trans H; rw [hy145]; with_reducible exact H2_) | (have H2_ := (Option.bind_some _ _).symm.trans H; with_reducible exact H2_) | with_reducible exact H | (rw [hy145]; exact H) | exact H
                have Ny145 := Aside0.mk hy145
                clear hy145
                obtain ⟨ji13, hji13⟩ : ∃ j_ : Int, (IntKind.u64.wrap (Go.bits .and .i64 x26_1 31)) = j_ := ⟨_, rfl⟩
                replace H : (if 0 ≤ (ji13) then (if (Go.bits .and .i64 (shr .i64 a1 (ji13)) 1) = 1 then (mailbaglaw07_ChainGrows.j1 k1 a1 x5_1 (wrap64 (x6_1 + (wrap64 (1 + (Go.bits .and .i64 (rd l0 x26_1) 7))))) x26_1 l0 (l0.length : Int) x26_1 (wrap64 (x6_1 + (wrap64 (1 + (Go.bits .and .i64 (rd l0 x26_1) 7))))) (⟨#[]⟩ : ByteArray) true) else (mailbaglaw07_ChainGrows.j1 k1 a1 x5_1 (wrap64 (x6_1 + (wrap64 (1 + (Go.bits .and .i64 (rd l0 x26_1) 7))))) x26_1 l0 (l0.length : Int) x26_1 (wrap64 (x6_1 + (wrap64 (1 + (Go.bits .and .i64 (rd l0 x26_1) 7))))) (strOfNums y145) false)) else (none)) = some r := by first | (rw [hji13] at H; exact H) | (simp only [hji13] at H ⊢; exact H)
                by_cases c14 : 0 ≤ (ji13)
                · rw [if_pos c14] at H
                  have c14b0 := eq_true c14
                  have c14b1 : decide (0 ≤ (ji13)) = true := decide_eq_true c14
                  clear c14
                  obtain ⟨ji15, hji15⟩ : ∃ j_ : Int, (shr .i64 a1 (ji13)) = j_ := ⟨_, rfl⟩
                  replace H : (if (Go.bits .and .i64 (ji15) 1) = 1 then (mailbaglaw07_ChainGrows.j1 k1 a1 x5_1 (wrap64 (x6_1 + (wrap64 (1 + (Go.bits .and .i64 (rd l0 x26_1) 7))))) x26_1 l0 (l0.length : Int) x26_1 (wrap64 (x6_1 + (wrap64 (1 + (Go.bits .and .i64 (rd l0 x26_1) 7))))) (⟨#[]⟩ : ByteArray) true) else (mailbaglaw07_ChainGrows.j1 k1 a1 x5_1 (wrap64 (x6_1 + (wrap64 (1 + (Go.bits .and .i64 (rd l0 x26_1) 7))))) x26_1 l0 (l0.length : Int) x26_1 (wrap64 (x6_1 + (wrap64 (1 + (Go.bits .and .i64 (rd l0 x26_1) 7))))) (strOfNums y145) false)) = some r := by first | (rw [hji15] at H; exact H) | (simp only [hji15] at H ⊢; exact H)
                  have hji15_ : (a1 / 2 ^ min (ji13).toNat 64) = ji15 := hji15
                  have hji15z : (ji13) ≤ 64 → (a1 / 2 ^ (ji13).toNat) = ji15 := shr_small hji15
                  have HC16 := Aside0.mk H
                  clear H
                  have p144 : 0 ≤ (x26_1 : Int) := of_decide_eq_true (by first | (with_reducible assumption) | assumption)
                  have q144 : x26_1 < (l0.length : Int) := of_decide_eq_true (by first | (with_reducible assumption) | assumption)
                  obtain ⟨ad144, e144, hx144_0⟩ := Kd.at_int HR0.out x26_1 p144 q144
                  cases e144
                  replace hx144_0 := (HB.out.cell (World.block_lt_of_cell? w _ hx144_0)).trans hx144_0
                  replace p144 := eq_true p144
                  replace q144 := eq_true q144
                  go_upto_if 50 with (first | ((with_reducible refine gate_dst (N := 41) rfl ?_); (try (refine gate_guard (by rfl) ?_; dsimp only)); refine Kd.R_lit (Kd.int .u8) _ 5 ?hg (N := 41) ?hd (xs := ([(97 + ((Int.tmod x26_1 26) % 256)) % 256] : List Int)) (inner := [.int .u8 ((97 + ((Int.tmod x26_1 26) % 256)) % 256)]) (ok := fun _ => True) (okp := fun _ => True) ?hr ?hp (fun _ hk => hk) trivial (Below.refl _ _) (Nat.le_refl _) (by simp) ?_; (case hd => rfl); (case hg => rfl); (case hr => first | (go_simp; done) | (go_simp; rfl)); (case hp => exact (Reps.one (show Kd.M (Kd.int .u8) _ _ _ ((97 + ((Int.tmod x26_1 26) % 256)) % 256) [.int .u8 ((97 + ((Int.tmod x26_1 26) % 256)) % 256)] from rfl) (Reps.none _ _))); intro v146 w17 ho18 hb hg_ hnew_; clear hg_ hnew_; (first | rw [← Ny145.out] at ho18 | (simp only [Int.reduceToNat] at ho18; rw [← Ny145.out] at ho18)); have n0_ := Aside0.mk (Kd.R_below (by (with_reducible repeat (first | apply Kd.R_alloc | apply Kd.R_drewN | apply Kd.R_drew)); exact HO_5.out) hb); have n1_ := Aside0.mk (Kd.R_lower ho18 (below_size (by repeat (first | (with_reducible first | exact HB.out | apply below_alloc | apply pw_below_drewN | apply below_drew1) | exact HB.out)))); have n2_ := Aside0.mk (below_step (by repeat (first | (with_reducible first | exact HB.out | apply below_alloc | apply pw_below_drewN | apply below_drew1) | exact HB.out)) hb); clear HO_5; clear HB; have HO_5 := n0_; have HO147 := n1_; have HB := n2_; clear n0_ n1_ n2_; clear hb ho18; have hcv19 := own_string (P := Try.prog) Try.underlying27 Try.underlying5 Try.underlying9 (Kd.own_of_R HO147.out)) | ((with_reducible refine gate_dst (N := 9) rfl ?_); (try (refine gate_guard (by rfl) ?_; dsimp only)); refine box_event ?hg (N := 9) ?hd (cs := #[.int .i64 0, .string (⟨#[]⟩ : ByteArray), .bool false]) (t := 52) ?hr ?_; (case hd => rfl); (case hg => rfl); (case hr => first | (go_simp; done) | (go_simp; rfl)); intro gb148 hg w20 hbox hb; have n0_ := Aside0.mk (Kd.R_below (Kd.R_elderB (by (with_reducible repeat (first | apply Kd.R_alloc | apply Kd.R_drewN | apply Kd.R_drew)); exact HO_5.out) gb148 (Nat.le_of_eq hg.symm)) hb); have n1_ := Aside0.mk (Kd.R_below (by (with_reducible repeat (first | apply Kd.R_alloc | apply Kd.R_drewN | apply Kd.R_drew)); exact HO147.out) hb); have n2_ := Aside0.mk (below_step (by repeat (first | (with_reducible first | exact HB.out | apply below_alloc | apply pw_below_drewN | apply below_drew1) | exact HB.out)) hb); have n3_ := Aside0.mk (hbox); have n4_ := Aside0.mk ((by rw [hg]; exact (below_size (by repeat (first | (with_reducible first | exact HB.out | apply below_alloc | apply pw_below_drewN | apply below_drew1) | exact HB.out))) : w.heap.size ≤ gb148)); have n5_ := Aside0.mk ((by rw [hg]; exact (below_size (by repeat (first | (with_reducible first | exact HB.out | apply below_alloc | apply pw_below_drewN | apply below_drew1) | exact HB.out))) : w.heap.size ≤ gb148)); clear HO_5; clear HO147; clear HB; have HO_5 := n0_; have HO147 := n1_; have HB := n2_; have BK148 := n3_; have GW148 := n4_; have GE148 := n5_; clear n0_ n1_ n2_ n3_ n4_ n5_; clear hb hbox hg; have hcz21_0 : w20.cell? ⟨gb148, 0, none⟩ = some (.int .i64 0) := (blk_cell BK148.out 0).trans rfl; have hcz21_1 : w20.cell? ⟨gb148, 1, none⟩ = some (.string (⟨#[]⟩ : ByteArray)) := (blk_cell BK148.out 1).trans rfl; have hcz21_2 : w20.cell? ⟨gb148, 2, none⟩ = some (.bool false) := (blk_cell BK148.out 2).trans rfl; have hfz21_0 := blk_frozen BK148.out 0; have hfz21_1 := blk_frozen BK148.out 1; have hfz21_2 := blk_frozen BK148.out 2))
                  (try simp only [Act.put, List.setIfInBounds_toArray, List.set_cons_zero, List.set_cons_succ])
                  go_cut [] (fun wc => ∃ (kq : Nat) (x149001_15 : ByteArray) (x149002_15 : Bool), Aside0 (mailbaglaw07_ChainGrows.j1 kq a1 x5_1 (wrap64 (x6_1 + (wrap64 (1 + (Go.bits .and .i64 (rd l0 x26_1) 7))))) x26_1 l0 (l0.length : Int) x26_1 (wrap64 (x6_1 + (wrap64 (1 + (Go.bits .and .i64 (rd l0 x26_1) 7))))) x149001_15 x149002_15 = some r) ∧ Aside0 (kq ≤ k1) ∧ Aside0 (Kd.R k52 52 wc w.heap.size (fun k_ => k_ ≠ gb148) u5 x5_1) ∧ Aside0 (wc.heap[gb148]? = some (.cells #[.int .i64 (wrap64 (x6_1 + (wrap64 (1 + (Go.bits .and .i64 (rd l0 x26_1) 7))))), .string x149001_15, .bool x149002_15] 52 (0, 0))) ∧ Aside0 (Below w.heap.size w wc))
                  case first =>
                    have H := HC16.out
                    clear HC16
                    by_cases c22 : (Go.bits .and .i64 (ji15) 1) = 1
                    · rw [if_pos c22] at H
                      have c22b0 : ((Go.bits .and .i64 (ji15) 1) == 1) = true := beq_iff_eq.mpr c22
                      have c22b1 : ((Go.bits .and .i64 (ji15) 1) != 1) = false := bne_eq_false_iff_eq.mpr c22
                      clear c22
                      (first | rw [c22b0] | (simp only [i64_w, i32_w]; rw [c22b0]) | skip)
                      have H' := Aside0.mk H
                      clear H
                      have hcz23_0 : w20.cell? ⟨gb148, 0, none⟩ = some (.int .i64 0) := (blk_cell BK148.out 0).trans rfl
                      have hcz23_1 : w20.cell? ⟨gb148, 1, none⟩ = some (.string (⟨#[]⟩ : ByteArray)) := (blk_cell BK148.out 1).trans rfl
                      have hcz23_2 : w20.cell? ⟨gb148, 2, none⟩ = some (.bool false) := (blk_cell BK148.out 2).trans rfl
                      have hfz23_0 := blk_frozen BK148.out 0
                      have hfz23_1 := blk_frozen BK148.out 1
                      have hfz23_2 := blk_frozen BK148.out 2
                      go_wp2
                      go_meet
                      case rel => exact ⟨_, ((⟨#[]⟩ : ByteArray)), (true), H', ⟨by have := HK1.out; first | omega | exact Nat.le_refl _⟩, ⟨by (with_reducible repeat (first | apply Kd.R_alloc | apply Kd.R_drewN | apply Kd.R_drew)); exact Kd.R_mono (Kd.R_far (p := ⟨gb148, 2, none⟩) (Kd.R_far (p := ⟨gb148, 1, none⟩) (Kd.R_far (p := ⟨gb148, 2, none⟩) (Kd.R_far (p := ⟨gb148, 1, none⟩) (Kd.R_far (p := ⟨gb148, 0, none⟩) (Kd.R_mono HO_5.out (fun k_ hk => (⟨hk, hk.2⟩ : _ ∧ k_ ≠ gb148))) (fun _ hk => hk.2) (.int .i64 (wrap64 (x6_1 + (wrap64 (1 + (Go.bits .and .i64 (rd l0 x26_1) 7))))))) (fun _ hk => hk.2) (.string (strOfNums y145))) (fun _ hk => hk.2) (.bool false)) (fun _ hk => hk.2) (.string (⟨#[]⟩ : ByteArray))) (fun _ hk => hk.2) (.bool true)) (fun _ hk => hk.1.2)⟩, ⟨by (with_reducible repeat (first | refine blk_drewN ?_ _ | refine blk_drew ?_ | refine blk_alloc ?_ _)); refine blk_put (cs := #[.int .i64 (wrap64 (x6_1 + (wrap64 (1 + (Go.bits .and .i64 (rd l0 x26_1) 7))))), .string (⟨#[]⟩ : ByteArray), .bool false]) ?_ 2 _ rfl; (with_reducible repeat (first | refine blk_drewN ?_ _ | refine blk_drew ?_ | refine blk_alloc ?_ _)); refine blk_put (cs := #[.int .i64 (wrap64 (x6_1 + (wrap64 (1 + (Go.bits .and .i64 (rd l0 x26_1) 7))))), .string (strOfNums y145), .bool false]) ?_ 1 _ rfl; (with_reducible repeat (first | refine blk_drewN ?_ _ | refine blk_drew ?_ | refine blk_alloc ?_ _)); refine blk_put (cs := #[.int .i64 (wrap64 (x6_1 + (wrap64 (1 + (Go.bits .and .i64 (rd l0 x26_1) 7))))), .string (strOfNums y145), .bool false]) ?_ 2 _ rfl; (with_reducible repeat (first | refine blk_drewN ?_ _ | refine blk_drew ?_ | refine blk_alloc ?_ _)); refine blk_put (cs := #[.int .i64 (wrap64 (x6_1 + (wrap64 (1 + (Go.bits .and .i64 (rd l0 x26_1) 7))))), .string (⟨#[]⟩ : ByteArray), .bool false]) ?_ 1 _ rfl; (with_reducible repeat (first | refine blk_drewN ?_ _ | refine blk_drew ?_ | refine blk_alloc ?_ _)); refine blk_put (cs := #[.int .i64 0, .string (⟨#[]⟩ : ByteArray), .bool false]) ?_ 0 _ rfl; (with_reducible repeat (first | refine blk_drewN ?_ _ | refine blk_drew ?_ | refine blk_alloc ?_ _)); exact BK148.out⟩, ⟨by repeat (first | (with_reducible first | exact HB.out | apply below_alloc | apply pw_below_drewN | apply below_drew1 | refine below_set ?_ GE148.out) | exact HB.out)⟩⟩
                    · rw [if_neg c22] at H
                      have c22b0 : ((Go.bits .and .i64 (ji15) 1) == 1) = false := beq_eq_false_iff_ne.mpr c22
                      have c22b1 : ((Go.bits .and .i64 (ji15) 1) != 1) = true := bne_iff_ne.mpr c22
                      (first | rw [c22b0] | (simp only [i64_w, i32_w]; rw [c22b0]) | skip)
                      have H' := Aside0.mk H
                      clear H
                      go_wp2
                      go_meet
                      case rel => exact ⟨_, (strOfNums y145), (false), H', ⟨by have := HK1.out; first | omega | exact Nat.le_refl _⟩, ⟨by (with_reducible repeat (first | apply Kd.R_alloc | apply Kd.R_drewN | apply Kd.R_drew)); exact Kd.R_mono (Kd.R_far (p := ⟨gb148, 2, none⟩) (Kd.R_far (p := ⟨gb148, 1, none⟩) (Kd.R_far (p := ⟨gb148, 0, none⟩) (Kd.R_mono HO_5.out (fun k_ hk => (⟨hk, hk.2⟩ : _ ∧ k_ ≠ gb148))) (fun _ hk => hk.2) (.int .i64 (wrap64 (x6_1 + (wrap64 (1 + (Go.bits .and .i64 (rd l0 x26_1) 7))))))) (fun _ hk => hk.2) (.string (strOfNums y145))) (fun _ hk => hk.2) (.bool false)) (fun _ hk => hk.1.2)⟩, ⟨by (with_reducible repeat (first | refine blk_drewN ?_ _ | refine blk_drew ?_ | refine blk_alloc ?_ _)); refine blk_put (cs := #[.int .i64 (wrap64 (x6_1 + (wrap64 (1 + (Go.bits .and .i64 (rd l0 x26_1) 7))))), .string (strOfNums y145), .bool false]) ?_ 2 _ rfl; (with_reducible repeat (first | refine blk_drewN ?_ _ | refine blk_drew ?_ | refine blk_alloc ?_ _)); refine blk_put (cs := #[.int .i64 (wrap64 (x6_1 + (wrap64 (1 + (Go.bits .and .i64 (rd l0 x26_1) 7))))), .string (⟨#[]⟩ : ByteArray), .bool false]) ?_ 1 _ rfl; (with_reducible repeat (first | refine blk_drewN ?_ _ | refine blk_drew ?_ | refine blk_alloc ?_ _)); refine blk_put (cs := #[.int .i64 0, .string (⟨#[]⟩ : ByteArray), .bool false]) ?_ 0 _ rfl; (with_reducible repeat (first | refine blk_drewN ?_ _ | refine blk_drew ?_ | refine blk_alloc ?_ _)); exact BK148.out⟩, ⟨by repeat (first | (with_reducible first | exact HB.out | apply below_alloc | apply pw_below_drewN | apply below_drew1 | refine below_set ?_ GE148.out) | exact HB.out)⟩⟩
                  case rest =>
                    clear HC16
                    try clear c1
                    try clear p1
                    try clear q1
                    try clear hx1
                    try clear hcv1
                    try clear c2
                    try clear p2
                    try clear c4
                    try clear c5
                    try clear c5b0
                    try clear c5b1
                    try clear p6
                    try clear c10
                    try clear c10b0
                    try clear c11
                    try clear c11b0
                    try clear c12
                    try clear c12b0
                    try clear c14
                    try clear c14b0
                    try clear c14b1
                    try clear p14
                    try clear q14
                    try clear hx14
                    try clear hcv19
                    try clear c22
                    try clear c22b0
                    try clear c22b1
                    try clear hcz21_0
                    try clear hcz21_1
                    try clear hcz21_2
                    try clear hcz23_0
                    try clear hcz23_1
                    try clear hcz23_2
                    try clear hfz21_0
                    try clear hfz21_1
                    try clear hfz21_2
                    try clear hfz23_0
                    try clear hfz23_1
                    try clear hfz23_2
                    try clear hx144_0
                    try clear p144
                    try clear p2
                    try clear q144
                    obtain ⟨kq, x149001_15, x149002_15, HA, HJ15, HO_5, BK148, HB⟩ := hcut
                    cases kq with
                    | zero => exact absurd HA.out (by simp [mailbaglaw07_ChainGrows.j1])
                    | succ kj15 =>
                      have H := HA.out
                      clear HA
                      simp only [mailbaglaw07_ChainGrows.j1] at H
                      replace H := Option.bind_eq_some_iff.mp H
                      obtain ⟨⟨t149, t152⟩, A240, H⟩ := H
                      replace H : (if t152 = 0 then (if (t149.length : Int) = (wrap64 (x26_1 + 1)) then ((chain_Chain_Last.f t149).bind fun t153 => (mailbaglaw07_ChainGrows.j2 kj15 a1 x5_1 (wrap64 (x6_1 + (wrap64 (1 + (Go.bits .and .i64 (rd l0 x26_1) 7))))) t149 l0 (l0.length : Int) x26_1 (t153 != (wrap64 (x6_1 + (wrap64 (1 + (Go.bits .and .i64 (rd l0 x26_1) 7)))))) (wrap64 (x6_1 + (wrap64 (1 + (Go.bits .and .i64 (rd l0 x26_1) 7))))) x149001_15 x149002_15)) else (mailbaglaw07_ChainGrows.j2 kj15 a1 x5_1 (wrap64 (x6_1 + (wrap64 (1 + (Go.bits .and .i64 (rd l0 x26_1) 7))))) t149 l0 (l0.length : Int) x26_1 true (wrap64 (x6_1 + (wrap64 (1 + (Go.bits .and .i64 (rd l0 x26_1) 7))))) x149001_15 x149002_15)) else (mailbaglaw07_ChainGrows.j2 kj15 a1 x5_1 (wrap64 (x6_1 + (wrap64 (1 + (Go.bits .and .i64 (rd l0 x26_1) 7))))) t149 l0 (l0.length : Int) x26_1 true (wrap64 (x6_1 + (wrap64 (1 + (Go.bits .and .i64 (rd l0 x26_1) 7))))) x149001_15 x149002_15)) = some r := H
                      have A24 := Aside0.mk A240
                      clear A240
                      have HC25 := Aside0.mk H
                      clear H
                      have hcz26_0 : wc.cell? ⟨gb148, 0, none⟩ = some (.int .i64 (wrap64 (x6_1 + (wrap64 (1 + (Go.bits .and .i64 (rd l0 x26_1) 7)))))) := (blk_cell BK148.out 0).trans rfl
                      have hcz26_1 : wc.cell? ⟨gb148, 1, none⟩ = some (.string x149001_15) := (blk_cell BK148.out 1).trans rfl
                      have hcz26_2 : wc.cell? ⟨gb148, 2, none⟩ = some (.bool x149002_15) := (blk_cell BK148.out 2).trans rfl
                      have hfz26_0 := blk_frozen BK148.out 0
                      have hfz26_1 := blk_frozen BK148.out 1
                      have hfz26_2 := blk_frozen BK148.out 2
                      obtain ⟨Ao27, co27, eo27⟩ := Kd.R_slice HO_5.out
                      subst eo27
                      go_upto_region 16 with (first | ((with_reducible refine gate_callee (f := 24) rfl ?_); refine goesL_ (some 56) rfl rfl Try.func24 (by kernel_rfl) rfl #[.slice Ao27 x5_1.length co27, .agg #[.int .i64 (wrap64 (x6_1 + (wrap64 (1 + (Go.bits .and .i64 (rd l0 x26_1) 7))))), .string x149001_15, .bool x149002_15]] rfl (by (try simp only [List.map_toArray, List.map_cons, List.map_nil]); first | done | rfl | (simp only [List.length_drop, List.length_take]; rfl)) ?_; (with_reducible refine (chain_Chain_Put.calls _ _ x5_1 (wrap64 (x6_1 + (wrap64 (1 + (Go.bits .and .i64 (rd l0 x26_1) 7))))) x149001_15 x149002_15 t149 t152 _ ?side1 ?side2 A24.out).mono ?_); (case side1 => repeat (first | exact (Kd.R_reads' HO_5.out).2.2 | (with_reducible refine Kd.C_alloc ?_ _) | (with_reducible refine Kd.C_drewN ?_ _) | (with_reducible refine Kd.C_drew ?_))); (case side2 => exact (Kd.R_reads' HO_5.out).2.1); rintro e w28 ⟨v150, rfl, ho0, hb⟩; refine ⟨_, rfl, ?_⟩; have n0_ := Aside0.mk (Kd.R_elder' (by (with_reducible repeat (first | apply Kd.R_alloc | apply Kd.R_drewN | apply Kd.R_drew)); exact HO_5.out) (Kd.R_base ho0) hb); have n1_ := Aside0.mk (Kd.R_lower (Kd.R_newB (Kd.R_new' ho0 (Kd.R_lt (by (with_reducible repeat (first | apply Kd.R_alloc | apply Kd.R_drewN | apply Kd.R_drew)); exact HO_5.out))) (g := gb148) (o := .cells #[.int .i64 (wrap64 (x6_1 + (wrap64 (1 + (Go.bits .and .i64 (rd l0 x26_1) 7))))), .string x149001_15, .bool x149002_15] 52 (0, 0)) (by (with_reducible repeat (first | refine blk_drewN ?_ _ | refine blk_drew ?_ | refine blk_alloc ?_ _)); exact BK148.out)) (below_size (by repeat (first | (with_reducible first | exact HB.out | apply below_alloc | apply pw_below_drewN | apply below_drew1 | refine below_set ?_ GE148.out) | exact HB.out)))); have n2_ := Aside0.mk (blk_below (g := gb148) (o := .cells #[.int .i64 (wrap64 (x6_1 + (wrap64 (1 + (Go.bits .and .i64 (rd l0 x26_1) 7))))), .string x149001_15, .bool x149002_15] 52 (0, 0)) (by (with_reducible repeat (first | refine blk_drewN ?_ _ | refine blk_drew ?_ | refine blk_alloc ?_ _)); exact BK148.out) hb); have n3_ := Aside0.mk (below_step (by repeat (first | (with_reducible first | exact HB.out | apply below_alloc | apply pw_below_drewN | apply below_drew1 | refine below_set ?_ GE148.out) | exact HB.out)) hb); clear HO_5; clear BK148; clear HB; have HO_5 := n0_; have HO151 := n1_; have BK148 := n2_; have HB := n3_; clear n0_ n1_ n2_ n3_; (try clear hb); (try clear hb2); (try clear hk); (try clear hi); (try clear ho0)))
                      (try simp only [Act.put, List.setIfInBounds_toArray, List.set_cons_zero, List.set_cons_succ])
                      go_cut [73] (fun v73 wc => ∃ (kq : Nat) (x73_24 : Bool), v73 = .bool x73_24 ∧ Aside0 (mailbaglaw07_ChainGrows.j2 kq a1 x5_1 (wrap64 (x6_1 + (wrap64 (1 + (Go.bits .and .i64 (rd l0 x26_1) 7))))) t149 l0 (l0.length : Int) x26_1 x73_24 (wrap64 (x6_1 + (wrap64 (1 + (Go.bits .and .i64 (rd l0 x26_1) 7))))) x149001_15 x149002_15 = some r) ∧ Aside0 (kq ≤ kj15) ∧ Aside0 (Kd.R k52 52 wc w.heap.size (fun k_ => some k_ ≠ (v150 : Value).ownBlock ∧ k_ ≠ gb148) (.slice Ao27 x5_1.length co27) x5_1) ∧ Aside0 (Kd.R k52 52 wc w.heap.size (fun k_ => some k_ ≠ ((.slice Ao27 x5_1.length co27) : Value).ownBlock ∧ k_ ≠ gb148) v150 t149) ∧ Aside0 (wc.heap[gb148]? = some (.cells #[.int .i64 (wrap64 (x6_1 + (wrap64 (1 + (Go.bits .and .i64 (rd l0 x26_1) 7))))), .string x149001_15, .bool x149002_15] 52 (0, 0))) ∧ Aside0 (Below w.heap.size w wc))
                      case first =>
                        have H := HC25.out
                        clear HC25
                        by_cases c29 : t152 = 0
                        · rw [if_pos c29] at H
                          have c29b0 : (t152 == 0) = true := beq_iff_eq.mpr c29
                          have c29b1 : (t152 != 0) = false := bne_eq_false_iff_eq.mpr c29
                          clear c29
                          (first | rw [c29b0] | (simp only [i64_w, i32_w]; rw [c29b0]) | skip)
                          by_cases c30 : (t149.length : Int) = (wrap64 (x26_1 + 1))
                          · rw [if_pos c30] at H
                            have c30b0 : ((t149.length : Int) == (wrap64 (x26_1 + 1))) = true := beq_iff_eq.mpr c30
                            have c30b1 : ((t149.length : Int) != (wrap64 (x26_1 + 1))) = false := bne_eq_false_iff_eq.mpr c30
                            clear c30
                            replace H := Option.bind_eq_some_iff.mp H
                            obtain ⟨t153, A310, H⟩ := H
                            replace H : (mailbaglaw07_ChainGrows.j2 kj15 a1 x5_1 (wrap64 (x6_1 + (wrap64 (1 + (Go.bits .and .i64 (rd l0 x26_1) 7))))) t149 l0 (l0.length : Int) x26_1 (t153 != (wrap64 (x6_1 + (wrap64 (1 + (Go.bits .and .i64 (rd l0 x26_1) 7)))))) (wrap64 (x6_1 + (wrap64 (1 + (Go.bits .and .i64 (rd l0 x26_1) 7))))) x149001_15 x149002_15) = some r := H
                            have A31 := Aside0.mk A310
                            clear A310
                            have H' := Aside0.mk H
                            clear H
                            obtain ⟨Ao32, co32, eo32⟩ := Kd.R_slice HO151.out
                            subst eo32
                            go_wp2_with (first | (go_at_call 26; (with_reducible refine (chain_Chain_Last.calls _ _ t149 t153 _ ?side1 ?side2 A31.out).mono ?_); (case side1 => repeat (first | exact (Kd.R_reads' HO151.out).2.2 | (with_reducible refine Kd.C_alloc ?_ _) | (with_reducible refine Kd.C_drewN ?_ _) | (with_reducible refine Kd.C_drew ?_))); (case side2 => exact (Kd.R_reads' HO151.out).2.1); rintro e w' ⟨rfl, ⟨nd, rfl⟩⟩))
                            go_meet
                            case rel => exact ⟨_, ((t153 != (wrap64 (x6_1 + (wrap64 (1 + (Go.bits .and .i64 (rd l0 x26_1) 7))))))), (by first | rfl | (simp; done) | (simp [*]; done)), H', ⟨by have := HK1.out; have := HJ15.out; first | omega | exact Nat.le_refl _⟩, ⟨by (with_reducible repeat (first | apply Kd.R_alloc | apply Kd.R_drewN | apply Kd.R_drew)); exact Kd.R_mono HO_5.out (fun _ hk => ⟨hk.2, hk.1⟩)⟩, ⟨by (with_reducible repeat (first | apply Kd.R_alloc | apply Kd.R_drewN | apply Kd.R_drew)); exact Kd.R_mono HO151.out (fun _ hk => ⟨hk.1.2, hk.2⟩)⟩, ⟨by (with_reducible repeat (first | refine blk_drewN ?_ _ | refine blk_drew ?_ | refine blk_alloc ?_ _)); exact BK148.out⟩, ⟨by repeat (first | (with_reducible first | exact HB.out | apply below_alloc | apply pw_below_drewN | apply below_drew1 | refine below_set ?_ GE148.out) | exact HB.out)⟩⟩
                          · rw [if_neg c30] at H
                            have c30b0 : ((t149.length : Int) == (wrap64 (x26_1 + 1))) = false := beq_eq_false_iff_ne.mpr c30
                            have c30b1 : ((t149.length : Int) != (wrap64 (x26_1 + 1))) = true := bne_iff_ne.mpr c30
                            have H' := Aside0.mk H
                            clear H
                            obtain ⟨Ao33, co33, eo33⟩ := Kd.R_slice HO151.out
                            subst eo33
                            go_wp2
                            go_meet
                            case rel => exact ⟨_, (true), (by first | rfl | (simp; done) | (simp [*]; done)), H', ⟨by have := HK1.out; have := HJ15.out; first | omega | exact Nat.le_refl _⟩, ⟨by (with_reducible repeat (first | apply Kd.R_alloc | apply Kd.R_drewN | apply Kd.R_drew)); exact Kd.R_mono HO_5.out (fun _ hk => ⟨hk.2, hk.1⟩)⟩, ⟨by (with_reducible repeat (first | apply Kd.R_alloc | apply Kd.R_drewN | apply Kd.R_drew)); exact Kd.R_mono HO151.out (fun _ hk => ⟨hk.1.2, hk.2⟩)⟩, ⟨by (with_reducible repeat (first | refine blk_drewN ?_ _ | refine blk_drew ?_ | refine blk_alloc ?_ _)); exact BK148.out⟩, ⟨by repeat (first | (with_reducible first | exact HB.out | apply below_alloc | apply pw_below_drewN | apply below_drew1 | refine below_set ?_ GE148.out) | exact HB.out)⟩⟩
                        · rw [if_neg c29] at H
                          have c29b0 : (t152 == 0) = false := beq_eq_false_iff_ne.mpr c29
                          have c29b1 : (t152 != 0) = true := bne_iff_ne.mpr c29
                          (first | rw [c29b0] | (simp only [i64_w, i32_w]; rw [c29b0]) | skip)
                          have H' := Aside0.mk H
                          clear H
                          go_wp2
                          go_meet
                          case rel => exact ⟨_, (true), (by first | rfl | (simp; done) | (simp [*]; done)), H', ⟨by have := HK1.out; have := HJ15.out; first | omega | exact Nat.le_refl _⟩, ⟨by (with_reducible repeat (first | apply Kd.R_alloc | apply Kd.R_drewN | apply Kd.R_drew)); exact Kd.R_mono HO_5.out (fun _ hk => ⟨hk.2, hk.1⟩)⟩, ⟨by (with_reducible repeat (first | apply Kd.R_alloc | apply Kd.R_drewN | apply Kd.R_drew)); exact Kd.R_mono HO151.out (fun _ hk => ⟨hk.1.2, hk.2⟩)⟩, ⟨by (with_reducible repeat (first | refine blk_drewN ?_ _ | refine blk_drew ?_ | refine blk_alloc ?_ _)); exact BK148.out⟩, ⟨by repeat (first | (with_reducible first | exact HB.out | apply below_alloc | apply pw_below_drewN | apply below_drew1 | refine below_set ?_ GE148.out) | exact HB.out)⟩⟩
                      case rest =>
                        clear HC25
                        try clear c1
                        try clear p1
                        try clear q1
                        try clear hx1
                        try clear hcv1
                        try clear c2
                        try clear p2
                        try clear c3
                        try clear c4
                        try clear c5
                        try clear c5b0
                        try clear c5b1
                        try clear p6
                        try clear c10
                        try clear c10b0
                        try clear c11
                        try clear c11b0
                        try clear c12
                        try clear c12b0
                        try clear c14
                        try clear c14b0
                        try clear c14b1
                        try clear p14
                        try clear q14
                        try clear hx14
                        try clear hcv19
                        try clear c22
                        try clear c22b0
                        try clear c22b1
                        try clear c24
                        try clear c29
                        try clear c29b0
                        try clear c29b1
                        try clear c30
                        try clear c30b0
                        try clear c30b1
                        try clear hcz21_0
                        try clear hcz21_1
                        try clear hcz21_2
                        try clear hcz23_0
                        try clear hcz23_1
                        try clear hcz23_2
                        try clear hcz26_0
                        try clear hcz26_1
                        try clear hcz26_2
                        try clear hfz21_0
                        try clear hfz21_1
                        try clear hfz21_2
                        try clear hfz23_0
                        try clear hfz23_1
                        try clear hfz23_2
                        try clear hfz26_0
                        try clear hfz26_1
                        try clear hfz26_2
                        try clear hx144_0
                        try clear p1
                        try clear p14
                        try clear p144
                        try clear p2
                        try clear p6
                        try clear q1
                        try clear q14
                        try clear q144
                        obtain ⟨kq, x73_24, rfl, HA, HJ24, HO_5, HO_10, BK148, HB⟩ := hcut
                        cases kq with
                        | zero => exact absurd HA.out (by simp [mailbaglaw07_ChainGrows.j2])
                        | succ kj24 =>
                          have H := HA.out
                          clear HA
                          simp only [mailbaglaw07_ChainGrows.j2] at H
                          by_cases c34 : x73_24 = true
                          · subst c34
                            have H1 : (some false) = some r := by rw [if_pos rfl] at H; exact H
                            clear H
                            have H := H1
                            clear H1
                            obtain rfl := Option.some.inj H
                            go_wp2
                            go_ret
                            exact ⟨by first | rfl | (simp [errW_none, errW_some] <;> rfl) | (simp only [← hji13, ← hji15]; first | rfl | (simp [errW_none, errW_some] <;> rfl)) | (simp [*, errW_none, errW_some] <;> rfl), by repeat (first | (with_reducible first | exact HB.out | apply below_alloc | apply pw_below_drewN | apply below_drew1 | refine below_set ?_ GE148.out) | exact HB.out)⟩
                          · replace c34 := Bool.eq_false_iff.mpr c34
                            subst c34
                            have H1 : ((chain_Chain_At.f t149 (wrap64 (x6_1 + (wrap64 (1 + (Go.bits .and .i64 (rd l0 x26_1) 7)))))).bind fun bt154 => ((chain_Chain_At.f t149 (wrap64 ((wrap64 (x6_1 + (wrap64 (1 + (Go.bits .and .i64 (rd l0 x26_1) 7))))) - 1))).bind fun bt156 => ((chain_Chain_At.f x5_1 (wrap64 ((wrap64 (x6_1 + (wrap64 (1 + (Go.bits .and .i64 (rd l0 x26_1) 7))))) - 1))).bind fun bt158 => (if (bt154.2 == x149002_15) = true then (some false) else (if bt154.1.toList = x149001_15.toList then (if bt156.1.toList = bt158.1.toList then (if (bt156.2 != bt158.2) = true then (some false) else (mailbaglaw07_ChainGrows.l0 kj24 a1 t149 (wrap64 (x6_1 + (wrap64 (1 + (Go.bits .and .i64 (rd l0 x26_1) 7))))) l0 (l0.length : Int) (wrap64 (x26_1 + 1)))) else (some false)) else (some false)))))) = some r := by rw [if_neg (show ¬ (false = true) by decide)] at H; exact H
                            clear H
                            have H := H1
                            clear H1
                            replace H := Option.bind_eq_some_iff.mp H
                            obtain ⟨⟨t154, t155⟩, A350, H⟩ := H
                            replace H : ((chain_Chain_At.f t149 (wrap64 ((wrap64 (x6_1 + (wrap64 (1 + (Go.bits .and .i64 (rd l0 x26_1) 7))))) - 1))).bind fun bt156 => ((chain_Chain_At.f x5_1 (wrap64 ((wrap64 (x6_1 + (wrap64 (1 + (Go.bits .and .i64 (rd l0 x26_1) 7))))) - 1))).bind fun bt158 => (if (t155 == x149002_15) = true then (some false) else (if t154.toList = x149001_15.toList then (if bt156.1.toList = bt158.1.toList then (if (bt156.2 != bt158.2) = true then (some false) else (mailbaglaw07_ChainGrows.l0 kj24 a1 t149 (wrap64 (x6_1 + (wrap64 (1 + (Go.bits .and .i64 (rd l0 x26_1) 7))))) l0 (l0.length : Int) (wrap64 (x26_1 + 1)))) else (some false)) else (some false))))) = some r := H
                            have A35 := Aside0.mk A350
                            clear A350
                            replace H := Option.bind_eq_some_iff.mp H
                            obtain ⟨⟨t156, t157⟩, A360, H⟩ := H
                            replace H : ((chain_Chain_At.f x5_1 (wrap64 ((wrap64 (x6_1 + (wrap64 (1 + (Go.bits .and .i64 (rd l0 x26_1) 7))))) - 1))).bind fun bt158 => (if (t155 == x149002_15) = true then (some false) else (if t154.toList = x149001_15.toList then (if t156.toList = bt158.1.toList then (if (t157 != bt158.2) = true then (some false) else (mailbaglaw07_ChainGrows.l0 kj24 a1 t149 (wrap64 (x6_1 + (wrap64 (1 + (Go.bits .and .i64 (rd l0 x26_1) 7))))) l0 (l0.length : Int) (wrap64 (x26_1 + 1)))) else (some false)) else (some false)))) = some r := H
                            have A36 := Aside0.mk A360
                            clear A360
                            replace H := Option.bind_eq_some_iff.mp H
                            obtain ⟨⟨t158, t159⟩, A370, H⟩ := H
                            replace H : (if (t155 == x149002_15) = true then (some false) else (if t154.toList = x149001_15.toList then (if t156.toList = t158.toList then (if (t157 != t159) = true then (some false) else (mailbaglaw07_ChainGrows.l0 kj24 a1 t149 (wrap64 (x6_1 + (wrap64 (1 + (Go.bits .and .i64 (rd l0 x26_1) 7))))) l0 (l0.length : Int) (wrap64 (x26_1 + 1)))) else (some false)) else (some false))) = some r := H
                            have A37 := Aside0.mk A370
                            clear A370
                            by_cases c38 : (t155 == x149002_15) = true
                            · rw [if_pos c38] at H
                              have c38b0 : (t155 == x149002_15) = true := c38
                              (try (have c38b1 : decide (t155 = x149002_15) = true := by simpa using c38))
                              (try (have c38b2 : (t155 == x149002_15) = true := by simpa using c38))
                              clear c38
                              obtain rfl := Option.some.inj H
                              obtain ⟨Ao39, co39, eo39⟩ := Kd.R_slice HO_10.out
                              subst eo39
                              go_wp2_with (first | ((with_reducible refine gate_callee (f := 27) rfl ?_); refine goesL_ (some 77) rfl rfl Try.func27 (by kernel_rfl) rfl #[.slice Ao39 t149.length co39, .int .i64 (wrap64 (x6_1 + (wrap64 (1 + (Go.bits .and .i64 (rd l0 x26_1) 7)))))] rfl (by (try simp only [List.map_toArray, List.map_cons, List.map_nil]); first | done | rfl | (simp only [List.length_drop, List.length_take]; rfl)) ?_; (with_reducible refine (chain_Chain_At.calls _ _ t149 (wrap64 (x6_1 + (wrap64 (1 + (Go.bits .and .i64 (rd l0 x26_1) 7))))) t154 t155 _ ?side1 ?side2 A35.out).mono ?_); (case side1 => repeat (first | exact (Kd.R_reads' HO_10.out).2.2 | (with_reducible refine Kd.C_alloc ?_ _) | (with_reducible refine Kd.C_drewN ?_ _) | (with_reducible refine Kd.C_drew ?_))); (case side2 => exact (Kd.R_reads' HO_10.out).2.1); rintro e w40 ⟨rfl, hb⟩; refine ⟨_, rfl, ?_⟩; have n0_ := Aside0.mk (Kd.R_below (by (with_reducible repeat (first | apply Kd.R_alloc | apply Kd.R_drewN | apply Kd.R_drew)); exact HO_5.out) hb); have n1_ := Aside0.mk (Kd.R_below (by (with_reducible repeat (first | apply Kd.R_alloc | apply Kd.R_drewN | apply Kd.R_drew)); exact HO_10.out) hb); have n2_ := Aside0.mk (blk_below (g := gb148) (o := .cells #[.int .i64 (wrap64 (x6_1 + (wrap64 (1 + (Go.bits .and .i64 (rd l0 x26_1) 7))))), .string x149001_15, .bool x149002_15] 52 (0, 0)) (by (with_reducible repeat (first | refine blk_drewN ?_ _ | refine blk_drew ?_ | refine blk_alloc ?_ _)); exact BK148.out) hb); have n3_ := Aside0.mk (below_step (by repeat (first | (with_reducible first | exact HB.out | apply below_alloc | apply pw_below_drewN | apply below_drew1 | refine below_set ?_ GE148.out) | exact HB.out)) hb); clear HO_5; clear HO_10; clear BK148; clear HB; have HO_5 := n0_; have HO_10 := n1_; have BK148 := n2_; have HB := n3_; clear n0_ n1_ n2_ n3_; (try clear hb); (try clear hb2); (try clear hk); (try clear hi)) | ((with_reducible refine gate_callee (f := 27) rfl ?_); refine goesL_ (some 84) rfl rfl Try.func27 (by kernel_rfl) rfl #[.slice Ao39 t149.length co39, .int .i64 (wrap64 ((wrap64 (x6_1 + (wrap64 (1 + (Go.bits .and .i64 (rd l0 x26_1) 7))))) - 1))] rfl (by (try simp only [List.map_toArray, List.map_cons, List.map_nil]); first | done | rfl | (simp only [List.length_drop, List.length_take]; rfl)) ?_; (with_reducible refine (chain_Chain_At.calls _ _ t149 (wrap64 ((wrap64 (x6_1 + (wrap64 (1 + (Go.bits .and .i64 (rd l0 x26_1) 7))))) - 1)) t156 t157 _ ?side1 ?side2 A36.out).mono ?_); (case side1 => repeat (first | exact (Kd.R_reads' HO_10.out).2.2 | (with_reducible refine Kd.C_alloc ?_ _) | (with_reducible refine Kd.C_drewN ?_ _) | (with_reducible refine Kd.C_drew ?_))); (case side2 => exact (Kd.R_reads' HO_10.out).2.1); rintro e w41 ⟨rfl, hb⟩; refine ⟨_, rfl, ?_⟩; have n0_ := Aside0.mk (Kd.R_below (by (with_reducible repeat (first | apply Kd.R_alloc | apply Kd.R_drewN | apply Kd.R_drew)); exact HO_5.out) hb); have n1_ := Aside0.mk (Kd.R_below (by (with_reducible repeat (first | apply Kd.R_alloc | apply Kd.R_drewN | apply Kd.R_drew)); exact HO_10.out) hb); have n2_ := Aside0.mk (blk_below (g := gb148) (o := .cells #[.int .i64 (wrap64 (x6_1 + (wrap64 (1 + (Go.bits .and .i64 (rd l0 x26_1) 7))))), .string x149001_15, .bool x149002_15] 52 (0, 0)) (by (with_reducible repeat (first | refine blk_drewN ?_ _ | refine blk_drew ?_ | refine blk_alloc ?_ _)); exact BK148.out) hb); have n3_ := Aside0.mk (below_step (by repeat (first | (with_reducible first | exact HB.out | apply below_alloc | apply pw_below_drewN | apply below_drew1 | refine below_set ?_ GE148.out) | exact HB.out)) hb); clear HO_5; clear HO_10; clear BK148; clear HB; have HO_5 := n0_; have HO_10 := n1_; have BK148 := n2_; have HB := n3_; clear n0_ n1_ n2_ n3_; (try clear hb); (try clear hb2); (try clear hk); (try clear hi)) | ((with_reducible refine gate_callee (f := 27) rfl ?_); refine goesL_ (some 91) rfl rfl Try.func27 (by kernel_rfl) rfl #[.slice Ao27 x5_1.length co27, .int .i64 (wrap64 ((wrap64 (x6_1 + (wrap64 (1 + (Go.bits .and .i64 (rd l0 x26_1) 7))))) - 1))] rfl (by (try simp only [List.map_toArray, List.map_cons, List.map_nil]); first | done | rfl | (simp only [List.length_drop, List.length_take]; rfl)) ?_; (with_reducible refine (chain_Chain_At.calls _ _ x5_1 (wrap64 ((wrap64 (x6_1 + (wrap64 (1 + (Go.bits .and .i64 (rd l0 x26_1) 7))))) - 1)) t158 t159 _ ?side1 ?side2 A37.out).mono ?_); (case side1 => repeat (first | exact (Kd.R_reads' HO_5.out).2.2 | (with_reducible refine Kd.C_alloc ?_ _) | (with_reducible refine Kd.C_drewN ?_ _) | (with_reducible refine Kd.C_drew ?_))); (case side2 => exact (Kd.R_reads' HO_5.out).2.1); rintro e w42 ⟨rfl, hb⟩; refine ⟨_, rfl, ?_⟩; have n0_ := Aside0.mk (Kd.R_below (by (with_reducible repeat (first | apply Kd.R_alloc | apply Kd.R_drewN | apply Kd.R_drew)); exact HO_5.out) hb); have n1_ := Aside0.mk (Kd.R_below (by (with_reducible repeat (first | apply Kd.R_alloc | apply Kd.R_drewN | apply Kd.R_drew)); exact HO_10.out) hb); have n2_ := Aside0.mk (blk_below (g := gb148) (o := .cells #[.int .i64 (wrap64 (x6_1 + (wrap64 (1 + (Go.bits .and .i64 (rd l0 x26_1) 7))))), .string x149001_15, .bool x149002_15] 52 (0, 0)) (by (with_reducible repeat (first | refine blk_drewN ?_ _ | refine blk_drew ?_ | refine blk_alloc ?_ _)); exact BK148.out) hb); have n3_ := Aside0.mk (below_step (by repeat (first | (with_reducible first | exact HB.out | apply below_alloc | apply pw_below_drewN | apply below_drew1 | refine below_set ?_ GE148.out) | exact HB.out)) hb); clear HO_5; clear HO_10; clear BK148; clear HB; have HO_5 := n0_; have HO_10 := n1_; have BK148 := n2_; have HB := n3_; clear n0_ n1_ n2_ n3_; (try clear hb); (try clear hb2); (try clear hk); (try clear hi); have hcz43_0 : w42.cell? ⟨gb148, 0, none⟩ = some (.int .i64 (wrap64 (x6_1 + (wrap64 (1 + (Go.bits .and .i64 (rd l0 x26_1) 7)))))) := (blk_cell BK148.out 0).trans rfl; have hcz43_1 : w42.cell? ⟨gb148, 1, none⟩ = some (.string x149001_15) := (blk_cell BK148.out 1).trans rfl; have hcz43_2 : w42.cell? ⟨gb148, 2, none⟩ = some (.bool x149002_15) := (blk_cell BK148.out 2).trans rfl; have hfz43_0 := blk_frozen BK148.out 0; have hfz43_1 := blk_frozen BK148.out 1; have hfz43_2 := blk_frozen BK148.out 2))
                              go_ret
                              exact ⟨by first | rfl | (simp [errW_none, errW_some] <;> rfl) | (simp only [← hji13, ← hji15]; first | rfl | (simp [errW_none, errW_some] <;> rfl)) | (simp [*, errW_none, errW_some] <;> rfl), by repeat (first | (with_reducible first | exact HB.out | apply below_alloc | apply pw_below_drewN | apply below_drew1 | refine below_set ?_ GE148.out) | exact HB.out)⟩
                            · rw [if_neg c38] at H
                              have c38b0 : (t155 == x149002_15) = false := by simpa using c38
                              (try (have c38b1 : decide (t155 = x149002_15) = false := by simpa using c38))
                              (try (have c38b2 : (t155 == x149002_15) = false := by simpa using c38))
                              (try (have c38b3 : ¬ (t155 = x149002_15) := by simpa using c38))
                              clear c38
                              by_cases c44 : t154.toList = x149001_15.toList
                              · rw [if_pos c44] at H
                                have c44b0 : (t154.toList == x149001_15.toList) = true := beq_iff_eq.mpr c44
                                have c44b1 : (t154.toList != x149001_15.toList) = false := bne_eq_false_iff_eq.mpr c44
                                clear c44
                                by_cases c45 : t156.toList = t158.toList
                                · rw [if_pos c45] at H
                                  have c45b0 : (t156.toList == t158.toList) = true := beq_iff_eq.mpr c45
                                  have c45b1 : (t156.toList != t158.toList) = false := bne_eq_false_iff_eq.mpr c45
                                  clear c45
                                  by_cases c46 : (t157 != t159) = true
                                  · rw [if_pos c46] at H
                                    have c46b0 : (t157 != t159) = true := c46
                                    (try (have c46b1 : decide (t157 = t159) = false := by simpa using c46))
                                    (try (have c46b2 : (t157 == t159) = false := by simpa using c46))
                                    (try (have c46b3 : ¬ (t157 = t159) := by simpa using c46))
                                    clear c46
                                    obtain rfl := Option.some.inj H
                                    obtain ⟨Ao47, co47, eo47⟩ := Kd.R_slice HO_10.out
                                    subst eo47
                                    go_wp2_with (first | ((with_reducible refine gate_callee (f := 27) rfl ?_); refine goesL_ (some 77) rfl rfl Try.func27 (by kernel_rfl) rfl #[.slice Ao47 t149.length co47, .int .i64 (wrap64 (x6_1 + (wrap64 (1 + (Go.bits .and .i64 (rd l0 x26_1) 7)))))] rfl (by (try simp only [List.map_toArray, List.map_cons, List.map_nil]); first | done | rfl | (simp only [List.length_drop, List.length_take]; rfl)) ?_; (with_reducible refine (chain_Chain_At.calls _ _ t149 (wrap64 (x6_1 + (wrap64 (1 + (Go.bits .and .i64 (rd l0 x26_1) 7))))) t154 t155 _ ?side1 ?side2 A35.out).mono ?_); (case side1 => repeat (first | exact (Kd.R_reads' HO_10.out).2.2 | (with_reducible refine Kd.C_alloc ?_ _) | (with_reducible refine Kd.C_drewN ?_ _) | (with_reducible refine Kd.C_drew ?_))); (case side2 => exact (Kd.R_reads' HO_10.out).2.1); rintro e w48 ⟨rfl, hb⟩; refine ⟨_, rfl, ?_⟩; have n0_ := Aside0.mk (Kd.R_below (by (with_reducible repeat (first | apply Kd.R_alloc | apply Kd.R_drewN | apply Kd.R_drew)); exact HO_5.out) hb); have n1_ := Aside0.mk (Kd.R_below (by (with_reducible repeat (first | apply Kd.R_alloc | apply Kd.R_drewN | apply Kd.R_drew)); exact HO_10.out) hb); have n2_ := Aside0.mk (blk_below (g := gb148) (o := .cells #[.int .i64 (wrap64 (x6_1 + (wrap64 (1 + (Go.bits .and .i64 (rd l0 x26_1) 7))))), .string x149001_15, .bool x149002_15] 52 (0, 0)) (by (with_reducible repeat (first | refine blk_drewN ?_ _ | refine blk_drew ?_ | refine blk_alloc ?_ _)); exact BK148.out) hb); have n3_ := Aside0.mk (below_step (by repeat (first | (with_reducible first | exact HB.out | apply below_alloc | apply pw_below_drewN | apply below_drew1 | refine below_set ?_ GE148.out) | exact HB.out)) hb); clear HO_5; clear HO_10; clear BK148; clear HB; have HO_5 := n0_; have HO_10 := n1_; have BK148 := n2_; have HB := n3_; clear n0_ n1_ n2_ n3_; (try clear hb); (try clear hb2); (try clear hk); (try clear hi)) | ((with_reducible refine gate_callee (f := 27) rfl ?_); refine goesL_ (some 84) rfl rfl Try.func27 (by kernel_rfl) rfl #[.slice Ao47 t149.length co47, .int .i64 (wrap64 ((wrap64 (x6_1 + (wrap64 (1 + (Go.bits .and .i64 (rd l0 x26_1) 7))))) - 1))] rfl (by (try simp only [List.map_toArray, List.map_cons, List.map_nil]); first | done | rfl | (simp only [List.length_drop, List.length_take]; rfl)) ?_; (with_reducible refine (chain_Chain_At.calls _ _ t149 (wrap64 ((wrap64 (x6_1 + (wrap64 (1 + (Go.bits .and .i64 (rd l0 x26_1) 7))))) - 1)) t156 t157 _ ?side1 ?side2 A36.out).mono ?_); (case side1 => repeat (first | exact (Kd.R_reads' HO_10.out).2.2 | (with_reducible refine Kd.C_alloc ?_ _) | (with_reducible refine Kd.C_drewN ?_ _) | (with_reducible refine Kd.C_drew ?_))); (case side2 => exact (Kd.R_reads' HO_10.out).2.1); rintro e w49 ⟨rfl, hb⟩; refine ⟨_, rfl, ?_⟩; have n0_ := Aside0.mk (Kd.R_below (by (with_reducible repeat (first | apply Kd.R_alloc | apply Kd.R_drewN | apply Kd.R_drew)); exact HO_5.out) hb); have n1_ := Aside0.mk (Kd.R_below (by (with_reducible repeat (first | apply Kd.R_alloc | apply Kd.R_drewN | apply Kd.R_drew)); exact HO_10.out) hb); have n2_ := Aside0.mk (blk_below (g := gb148) (o := .cells #[.int .i64 (wrap64 (x6_1 + (wrap64 (1 + (Go.bits .and .i64 (rd l0 x26_1) 7))))), .string x149001_15, .bool x149002_15] 52 (0, 0)) (by (with_reducible repeat (first | refine blk_drewN ?_ _ | refine blk_drew ?_ | refine blk_alloc ?_ _)); exact BK148.out) hb); have n3_ := Aside0.mk (below_step (by repeat (first | (with_reducible first | exact HB.out | apply below_alloc | apply pw_below_drewN | apply below_drew1 | refine below_set ?_ GE148.out) | exact HB.out)) hb); clear HO_5; clear HO_10; clear BK148; clear HB; have HO_5 := n0_; have HO_10 := n1_; have BK148 := n2_; have HB := n3_; clear n0_ n1_ n2_ n3_; (try clear hb); (try clear hb2); (try clear hk); (try clear hi)) | ((with_reducible refine gate_callee (f := 27) rfl ?_); refine goesL_ (some 91) rfl rfl Try.func27 (by kernel_rfl) rfl #[.slice Ao27 x5_1.length co27, .int .i64 (wrap64 ((wrap64 (x6_1 + (wrap64 (1 + (Go.bits .and .i64 (rd l0 x26_1) 7))))) - 1))] rfl (by (try simp only [List.map_toArray, List.map_cons, List.map_nil]); first | done | rfl | (simp only [List.length_drop, List.length_take]; rfl)) ?_; (with_reducible refine (chain_Chain_At.calls _ _ x5_1 (wrap64 ((wrap64 (x6_1 + (wrap64 (1 + (Go.bits .and .i64 (rd l0 x26_1) 7))))) - 1)) t158 t159 _ ?side1 ?side2 A37.out).mono ?_); (case side1 => repeat (first | exact (Kd.R_reads' HO_5.out).2.2 | (with_reducible refine Kd.C_alloc ?_ _) | (with_reducible refine Kd.C_drewN ?_ _) | (with_reducible refine Kd.C_drew ?_))); (case side2 => exact (Kd.R_reads' HO_5.out).2.1); rintro e w50 ⟨rfl, hb⟩; refine ⟨_, rfl, ?_⟩; have n0_ := Aside0.mk (Kd.R_below (by (with_reducible repeat (first | apply Kd.R_alloc | apply Kd.R_drewN | apply Kd.R_drew)); exact HO_5.out) hb); have n1_ := Aside0.mk (Kd.R_below (by (with_reducible repeat (first | apply Kd.R_alloc | apply Kd.R_drewN | apply Kd.R_drew)); exact HO_10.out) hb); have n2_ := Aside0.mk (blk_below (g := gb148) (o := .cells #[.int .i64 (wrap64 (x6_1 + (wrap64 (1 + (Go.bits .and .i64 (rd l0 x26_1) 7))))), .string x149001_15, .bool x149002_15] 52 (0, 0)) (by (with_reducible repeat (first | refine blk_drewN ?_ _ | refine blk_drew ?_ | refine blk_alloc ?_ _)); exact BK148.out) hb); have n3_ := Aside0.mk (below_step (by repeat (first | (with_reducible first | exact HB.out | apply below_alloc | apply pw_below_drewN | apply below_drew1 | refine below_set ?_ GE148.out) | exact HB.out)) hb); clear HO_5; clear HO_10; clear BK148; clear HB; have HO_5 := n0_; have HO_10 := n1_; have BK148 := n2_; have HB := n3_; clear n0_ n1_ n2_ n3_; (try clear hb); (try clear hb2); (try clear hk); (try clear hi); have hcz51_0 : w50.cell? ⟨gb148, 0, none⟩ = some (.int .i64 (wrap64 (x6_1 + (wrap64 (1 + (Go.bits .and .i64 (rd l0 x26_1) 7)))))) := (blk_cell BK148.out 0).trans rfl; have hcz51_1 : w50.cell? ⟨gb148, 1, none⟩ = some (.string x149001_15) := (blk_cell BK148.out 1).trans rfl; have hcz51_2 : w50.cell? ⟨gb148, 2, none⟩ = some (.bool x149002_15) := (blk_cell BK148.out 2).trans rfl; have hfz51_0 := blk_frozen BK148.out 0; have hfz51_1 := blk_frozen BK148.out 1; have hfz51_2 := blk_frozen BK148.out 2))
                                    go_ret
                                    exact ⟨by first | rfl | (simp [errW_none, errW_some] <;> rfl) | (simp only [← hji13, ← hji15]; first | rfl | (simp [errW_none, errW_some] <;> rfl)) | (simp [*, errW_none, errW_some] <;> rfl), by repeat (first | (with_reducible first | exact HB.out | apply below_alloc | apply pw_below_drewN | apply below_drew1 | refine below_set ?_ GE148.out) | exact HB.out)⟩
                                  · rw [if_neg c46] at H
                                    have c46b0 : (t157 != t159) = false := by simpa using c46
                                    (try (have c46b1 : decide (t157 = t159) = true := by simpa using c46))
                                    (try (have c46b2 : (t157 == t159) = true := by simpa using c46))
                                    clear c46
                                    have H' := Aside0.mk H
                                    clear H
                                    obtain ⟨Ao52, co52, eo52⟩ := Kd.R_slice HO_10.out
                                    subst eo52
                                    go_wp2_with (first | ((with_reducible refine gate_callee (f := 27) rfl ?_); refine goesL_ (some 77) rfl rfl Try.func27 (by kernel_rfl) rfl #[.slice Ao52 t149.length co52, .int .i64 (wrap64 (x6_1 + (wrap64 (1 + (Go.bits .and .i64 (rd l0 x26_1) 7)))))] rfl (by (try simp only [List.map_toArray, List.map_cons, List.map_nil]); first | done | rfl | (simp only [List.length_drop, List.length_take]; rfl)) ?_; (with_reducible refine (chain_Chain_At.calls _ _ t149 (wrap64 (x6_1 + (wrap64 (1 + (Go.bits .and .i64 (rd l0 x26_1) 7))))) t154 t155 _ ?side1 ?side2 A35.out).mono ?_); (case side1 => repeat (first | exact (Kd.R_reads' HO_10.out).2.2 | (with_reducible refine Kd.C_alloc ?_ _) | (with_reducible refine Kd.C_drewN ?_ _) | (with_reducible refine Kd.C_drew ?_))); (case side2 => exact (Kd.R_reads' HO_10.out).2.1); rintro e w53 ⟨rfl, hb⟩; refine ⟨_, rfl, ?_⟩; have n0_ := Aside0.mk (Kd.R_below (by (with_reducible repeat (first | apply Kd.R_alloc | apply Kd.R_drewN | apply Kd.R_drew)); exact HO_5.out) hb); have n1_ := Aside0.mk (Kd.R_below (by (with_reducible repeat (first | apply Kd.R_alloc | apply Kd.R_drewN | apply Kd.R_drew)); exact HO_10.out) hb); have n2_ := Aside0.mk (blk_below (g := gb148) (o := .cells #[.int .i64 (wrap64 (x6_1 + (wrap64 (1 + (Go.bits .and .i64 (rd l0 x26_1) 7))))), .string x149001_15, .bool x149002_15] 52 (0, 0)) (by (with_reducible repeat (first | refine blk_drewN ?_ _ | refine blk_drew ?_ | refine blk_alloc ?_ _)); exact BK148.out) hb); have n3_ := Aside0.mk (below_step (by repeat (first | (with_reducible first | exact HB.out | apply below_alloc | apply pw_below_drewN | apply below_drew1 | refine below_set ?_ GE148.out) | exact HB.out)) hb); clear HO_5; clear HO_10; clear BK148; clear HB; have HO_5 := n0_; have HO_10 := n1_; have BK148 := n2_; have HB := n3_; clear n0_ n1_ n2_ n3_; (try clear hb); (try clear hb2); (try clear hk); (try clear hi)) | ((with_reducible refine gate_callee (f := 27) rfl ?_); refine goesL_ (some 84) rfl rfl Try.func27 (by kernel_rfl) rfl #[.slice Ao52 t149.length co52, .int .i64 (wrap64 ((wrap64 (x6_1 + (wrap64 (1 + (Go.bits .and .i64 (rd l0 x26_1) 7))))) - 1))] rfl (by (try simp only [List.map_toArray, List.map_cons, List.map_nil]); first | done | rfl | (simp only [List.length_drop, List.length_take]; rfl)) ?_; (with_reducible refine (chain_Chain_At.calls _ _ t149 (wrap64 ((wrap64 (x6_1 + (wrap64 (1 + (Go.bits .and .i64 (rd l0 x26_1) 7))))) - 1)) t156 t157 _ ?side1 ?side2 A36.out).mono ?_); (case side1 => repeat (first | exact (Kd.R_reads' HO_10.out).2.2 | (with_reducible refine Kd.C_alloc ?_ _) | (with_reducible refine Kd.C_drewN ?_ _) | (with_reducible refine Kd.C_drew ?_))); (case side2 => exact (Kd.R_reads' HO_10.out).2.1); rintro e w54 ⟨rfl, hb⟩; refine ⟨_, rfl, ?_⟩; have n0_ := Aside0.mk (Kd.R_below (by (with_reducible repeat (first | apply Kd.R_alloc | apply Kd.R_drewN | apply Kd.R_drew)); exact HO_5.out) hb); have n1_ := Aside0.mk (Kd.R_below (by (with_reducible repeat (first | apply Kd.R_alloc | apply Kd.R_drewN | apply Kd.R_drew)); exact HO_10.out) hb); have n2_ := Aside0.mk (blk_below (g := gb148) (o := .cells #[.int .i64 (wrap64 (x6_1 + (wrap64 (1 + (Go.bits .and .i64 (rd l0 x26_1) 7))))), .string x149001_15, .bool x149002_15] 52 (0, 0)) (by (with_reducible repeat (first | refine blk_drewN ?_ _ | refine blk_drew ?_ | refine blk_alloc ?_ _)); exact BK148.out) hb); have n3_ := Aside0.mk (below_step (by repeat (first | (with_reducible first | exact HB.out | apply below_alloc | apply pw_below_drewN | apply below_drew1 | refine below_set ?_ GE148.out) | exact HB.out)) hb); clear HO_5; clear HO_10; clear BK148; clear HB; have HO_5 := n0_; have HO_10 := n1_; have BK148 := n2_; have HB := n3_; clear n0_ n1_ n2_ n3_; (try clear hb); (try clear hb2); (try clear hk); (try clear hi)) | ((with_reducible refine gate_callee (f := 27) rfl ?_); refine goesL_ (some 91) rfl rfl Try.func27 (by kernel_rfl) rfl #[.slice Ao27 x5_1.length co27, .int .i64 (wrap64 ((wrap64 (x6_1 + (wrap64 (1 + (Go.bits .and .i64 (rd l0 x26_1) 7))))) - 1))] rfl (by (try simp only [List.map_toArray, List.map_cons, List.map_nil]); first | done | rfl | (simp only [List.length_drop, List.length_take]; rfl)) ?_; (with_reducible refine (chain_Chain_At.calls _ _ x5_1 (wrap64 ((wrap64 (x6_1 + (wrap64 (1 + (Go.bits .and .i64 (rd l0 x26_1) 7))))) - 1)) t158 t159 _ ?side1 ?side2 A37.out).mono ?_); (case side1 => repeat (first | exact (Kd.R_reads' HO_5.out).2.2 | (with_reducible refine Kd.C_alloc ?_ _) | (with_reducible refine Kd.C_drewN ?_ _) | (with_reducible refine Kd.C_drew ?_))); (case side2 => exact (Kd.R_reads' HO_5.out).2.1); rintro e w55 ⟨rfl, hb⟩; refine ⟨_, rfl, ?_⟩; have n0_ := Aside0.mk (Kd.R_below (by (with_reducible repeat (first | apply Kd.R_alloc | apply Kd.R_drewN | apply Kd.R_drew)); exact HO_5.out) hb); have n1_ := Aside0.mk (Kd.R_below (by (with_reducible repeat (first | apply Kd.R_alloc | apply Kd.R_drewN | apply Kd.R_drew)); exact HO_10.out) hb); have n2_ := Aside0.mk (blk_below (g := gb148) (o := .cells #[.int .i64 (wrap64 (x6_1 + (wrap64 (1 + (Go.bits .and .i64 (rd l0 x26_1) 7))))), .string x149001_15, .bool x149002_15] 52 (0, 0)) (by (with_reducible repeat (first | refine blk_drewN ?_ _ | refine blk_drew ?_ | refine blk_alloc ?_ _)); exact BK148.out) hb); have n3_ := Aside0.mk (below_step (by repeat (first | (with_reducible first | exact HB.out | apply below_alloc | apply pw_below_drewN | apply below_drew1 | refine below_set ?_ GE148.out) | exact HB.out)) hb); clear HO_5; clear HO_10; clear BK148; clear HB; have HO_5 := n0_; have HO_10 := n1_; have BK148 := n2_; have HB := n3_; clear n0_ n1_ n2_ n3_; (try clear hb); (try clear hb2); (try clear hk); (try clear hi); have hcz56_0 : w55.cell? ⟨gb148, 0, none⟩ = some (.int .i64 (wrap64 (x6_1 + (wrap64 (1 + (Go.bits .and .i64 (rd l0 x26_1) 7)))))) := (blk_cell BK148.out 0).trans rfl; have hcz56_1 : w55.cell? ⟨gb148, 1, none⟩ = some (.string x149001_15) := (blk_cell BK148.out 1).trans rfl; have hcz56_2 : w55.cell? ⟨gb148, 2, none⟩ = some (.bool x149002_15) := (blk_cell BK148.out 2).trans rfl; have hfz56_0 := blk_frozen BK148.out 0; have hfz56_1 := blk_frozen BK148.out 1; have hfz56_2 := blk_frozen BK148.out 2))
                                    go_roundg kj24
                                    case measure => have := HK1.out; have := HJ15.out; have := HJ24.out; omega
                                    case rel => exact ⟨(t149), ((wrap64 (x6_1 + (wrap64 (1 + (Go.bits .and .i64 (rd l0 x26_1) 7)))))), (wrap64 (x26_1 + 1)), (by first | rfl | (simp; done) | (simp [*]; done)), (by first | rfl | (simp; done) | (simp [*]; done)), H', ⟨by have := HK1.out; have := HJ15.out; have := HJ24.out; omega⟩, ⟨by (with_reducible repeat (first | apply Kd.R_alloc | apply Kd.R_drewN | apply Kd.R_drew)); exact Kd.R_mono HO_10.out (fun _ hk => trivial)⟩, ⟨by repeat (first | (with_reducible first | exact HB.out | apply below_alloc | apply pw_below_drewN | apply below_drew1 | refine below_set ?_ GE148.out) | exact HB.out)⟩⟩
                                · rw [if_neg c45] at H
                                  have c45b0 : (t156.toList == t158.toList) = false := beq_eq_false_iff_ne.mpr c45
                                  have c45b1 : (t156.toList != t158.toList) = true := bne_iff_ne.mpr c45
                                  obtain rfl := Option.some.inj H
                                  obtain ⟨Ao57, co57, eo57⟩ := Kd.R_slice HO_10.out
                                  subst eo57
                                  go_wp2_with (first | ((with_reducible refine gate_callee (f := 27) rfl ?_); refine goesL_ (some 77) rfl rfl Try.func27 (by kernel_rfl) rfl #[.slice Ao57 t149.length co57, .int .i64 (wrap64 (x6_1 + (wrap64 (1 + (Go.bits .and .i64 (rd l0 x26_1) 7)))))] rfl (by (try simp only [List.map_toArray, List.map_cons, List.map_nil]); first | done | rfl | (simp only [List.length_drop, List.length_take]; rfl)) ?_; (with_reducible refine (chain_Chain_At.calls _ _ t149 (wrap64 (x6_1 + (wrap64 (1 + (Go.bits .and .i64 (rd l0 x26_1) 7))))) t154 t155 _ ?side1 ?side2 A35.out).mono ?_); (case side1 => repeat (first | exact (Kd.R_reads' HO_10.out).2.2 | (with_reducible refine Kd.C_alloc ?_ _) | (with_reducible refine Kd.C_drewN ?_ _) | (with_reducible refine Kd.C_drew ?_))); (case side2 => exact (Kd.R_reads' HO_10.out).2.1); rintro e w58 ⟨rfl, hb⟩; refine ⟨_, rfl, ?_⟩; have n0_ := Aside0.mk (Kd.R_below (by (with_reducible repeat (first | apply Kd.R_alloc | apply Kd.R_drewN | apply Kd.R_drew)); exact HO_5.out) hb); have n1_ := Aside0.mk (Kd.R_below (by (with_reducible repeat (first | apply Kd.R_alloc | apply Kd.R_drewN | apply Kd.R_drew)); exact HO_10.out) hb); have n2_ := Aside0.mk (blk_below (g := gb148) (o := .cells #[.int .i64 (wrap64 (x6_1 + (wrap64 (1 + (Go.bits .and .i64 (rd l0 x26_1) 7))))), .string x149001_15, .bool x149002_15] 52 (0, 0)) (by (with_reducible repeat (first | refine blk_drewN ?_ _ | refine blk_drew ?_ | refine blk_alloc ?_ _)); exact BK148.out) hb); have n3_ := Aside0.mk (below_step (by repeat (first | (with_reducible first | exact HB.out | apply below_alloc | apply pw_below_drewN | apply below_drew1 | refine below_set ?_ GE148.out) | exact HB.out)) hb); clear HO_5; clear HO_10; clear BK148; clear HB; have HO_5 := n0_; have HO_10 := n1_; have BK148 := n2_; have HB := n3_; clear n0_ n1_ n2_ n3_; (try clear hb); (try clear hb2); (try clear hk); (try clear hi)) | ((with_reducible refine gate_callee (f := 27) rfl ?_); refine goesL_ (some 84) rfl rfl Try.func27 (by kernel_rfl) rfl #[.slice Ao57 t149.length co57, .int .i64 (wrap64 ((wrap64 (x6_1 + (wrap64 (1 + (Go.bits .and .i64 (rd l0 x26_1) 7))))) - 1))] rfl (by (try simp only [List.map_toArray, List.map_cons, List.map_nil]); first | done | rfl | (simp only [List.length_drop, List.length_take]; rfl)) ?_; (with_reducible refine (chain_Chain_At.calls _ _ t149 (wrap64 ((wrap64 (x6_1 + (wrap64 (1 + (Go.bits .and .i64 (rd l0 x26_1) 7))))) - 1)) t156 t157 _ ?side1 ?side2 A36.out).mono ?_); (case side1 => repeat (first | exact (Kd.R_reads' HO_10.out).2.2 | (with_reducible refine Kd.C_alloc ?_ _) | (with_reducible refine Kd.C_drewN ?_ _) | (with_reducible refine Kd.C_drew ?_))); (case side2 => exact (Kd.R_reads' HO_10.out).2.1); rintro e w59 ⟨rfl, hb⟩; refine ⟨_, rfl, ?_⟩; have n0_ := Aside0.mk (Kd.R_below (by (with_reducible repeat (first | apply Kd.R_alloc | apply Kd.R_drewN | apply Kd.R_drew)); exact HO_5.out) hb); have n1_ := Aside0.mk (Kd.R_below (by (with_reducible repeat (first | apply Kd.R_alloc | apply Kd.R_drewN | apply Kd.R_drew)); exact HO_10.out) hb); have n2_ := Aside0.mk (blk_below (g := gb148) (o := .cells #[.int .i64 (wrap64 (x6_1 + (wrap64 (1 + (Go.bits .and .i64 (rd l0 x26_1) 7))))), .string x149001_15, .bool x149002_15] 52 (0, 0)) (by (with_reducible repeat (first | refine blk_drewN ?_ _ | refine blk_drew ?_ | refine blk_alloc ?_ _)); exact BK148.out) hb); have n3_ := Aside0.mk (below_step (by repeat (first | (with_reducible first | exact HB.out | apply below_alloc | apply pw_below_drewN | apply below_drew1 | refine below_set ?_ GE148.out) | exact HB.out)) hb); clear HO_5; clear HO_10; clear BK148; clear HB; have HO_5 := n0_; have HO_10 := n1_; have BK148 := n2_; have HB := n3_; clear n0_ n1_ n2_ n3_; (try clear hb); (try clear hb2); (try clear hk); (try clear hi)) | ((with_reducible refine gate_callee (f := 27) rfl ?_); refine goesL_ (some 91) rfl rfl Try.func27 (by kernel_rfl) rfl #[.slice Ao27 x5_1.length co27, .int .i64 (wrap64 ((wrap64 (x6_1 + (wrap64 (1 + (Go.bits .and .i64 (rd l0 x26_1) 7))))) - 1))] rfl (by (try simp only [List.map_toArray, List.map_cons, List.map_nil]); first | done | rfl | (simp only [List.length_drop, List.length_take]; rfl)) ?_; (with_reducible refine (chain_Chain_At.calls _ _ x5_1 (wrap64 ((wrap64 (x6_1 + (wrap64 (1 + (Go.bits .and .i64 (rd l0 x26_1) 7))))) - 1)) t158 t159 _ ?side1 ?side2 A37.out).mono ?_); (case side1 => repeat (first | exact (Kd.R_reads' HO_5.out).2.2 | (with_reducible refine Kd.C_alloc ?_ _) | (with_reducible refine Kd.C_drewN ?_ _) | (with_reducible refine Kd.C_drew ?_))); (case side2 => exact (Kd.R_reads' HO_5.out).2.1); rintro e w60 ⟨rfl, hb⟩; refine ⟨_, rfl, ?_⟩; have n0_ := Aside0.mk (Kd.R_below (by (with_reducible repeat (first | apply Kd.R_alloc | apply Kd.R_drewN | apply Kd.R_drew)); exact HO_5.out) hb); have n1_ := Aside0.mk (Kd.R_below (by (with_reducible repeat (first | apply Kd.R_alloc | apply Kd.R_drewN | apply Kd.R_drew)); exact HO_10.out) hb); have n2_ := Aside0.mk (blk_below (g := gb148) (o := .cells #[.int .i64 (wrap64 (x6_1 + (wrap64 (1 + (Go.bits .and .i64 (rd l0 x26_1) 7))))), .string x149001_15, .bool x149002_15] 52 (0, 0)) (by (with_reducible repeat (first | refine blk_drewN ?_ _ | refine blk_drew ?_ | refine blk_alloc ?_ _)); exact BK148.out) hb); have n3_ := Aside0.mk (below_step (by repeat (first | (with_reducible first | exact HB.out | apply below_alloc | apply pw_below_drewN | apply below_drew1 | refine below_set ?_ GE148.out) | exact HB.out)) hb); clear HO_5; clear HO_10; clear BK148; clear HB; have HO_5 := n0_; have HO_10 := n1_; have BK148 := n2_; have HB := n3_; clear n0_ n1_ n2_ n3_; (try clear hb); (try clear hb2); (try clear hk); (try clear hi); have hcz61_0 : w60.cell? ⟨gb148, 0, none⟩ = some (.int .i64 (wrap64 (x6_1 + (wrap64 (1 + (Go.bits .and .i64 (rd l0 x26_1) 7)))))) := (blk_cell BK148.out 0).trans rfl; have hcz61_1 : w60.cell? ⟨gb148, 1, none⟩ = some (.string x149001_15) := (blk_cell BK148.out 1).trans rfl; have hcz61_2 : w60.cell? ⟨gb148, 2, none⟩ = some (.bool x149002_15) := (blk_cell BK148.out 2).trans rfl; have hfz61_0 := blk_frozen BK148.out 0; have hfz61_1 := blk_frozen BK148.out 1; have hfz61_2 := blk_frozen BK148.out 2))
                                  go_ret
                                  exact ⟨by first | rfl | (simp [errW_none, errW_some] <;> rfl) | (simp only [← hji13, ← hji15]; first | rfl | (simp [errW_none, errW_some] <;> rfl)) | (simp [*, errW_none, errW_some] <;> rfl), by repeat (first | (with_reducible first | exact HB.out | apply below_alloc | apply pw_below_drewN | apply below_drew1 | refine below_set ?_ GE148.out) | exact HB.out)⟩
                              · rw [if_neg c44] at H
                                have c44b0 : (t154.toList == x149001_15.toList) = false := beq_eq_false_iff_ne.mpr c44
                                have c44b1 : (t154.toList != x149001_15.toList) = true := bne_iff_ne.mpr c44
                                obtain rfl := Option.some.inj H
                                obtain ⟨Ao62, co62, eo62⟩ := Kd.R_slice HO_10.out
                                subst eo62
                                go_wp2_with (first | ((with_reducible refine gate_callee (f := 27) rfl ?_); refine goesL_ (some 77) rfl rfl Try.func27 (by kernel_rfl) rfl #[.slice Ao62 t149.length co62, .int .i64 (wrap64 (x6_1 + (wrap64 (1 + (Go.bits .and .i64 (rd l0 x26_1) 7)))))] rfl (by (try simp only [List.map_toArray, List.map_cons, List.map_nil]); first | done | rfl | (simp only [List.length_drop, List.length_take]; rfl)) ?_; (with_reducible refine (chain_Chain_At.calls _ _ t149 (wrap64 (x6_1 + (wrap64 (1 + (Go.bits .and .i64 (rd l0 x26_1) 7))))) t154 t155 _ ?side1 ?side2 A35.out).mono ?_); (case side1 => repeat (first | exact (Kd.R_reads' HO_10.out).2.2 | (with_reducible refine Kd.C_alloc ?_ _) | (with_reducible refine Kd.C_drewN ?_ _) | (with_reducible refine Kd.C_drew ?_))); (case side2 => exact (Kd.R_reads' HO_10.out).2.1); rintro e w63 ⟨rfl, hb⟩; refine ⟨_, rfl, ?_⟩; have n0_ := Aside0.mk (Kd.R_below (by (with_reducible repeat (first | apply Kd.R_alloc | apply Kd.R_drewN | apply Kd.R_drew)); exact HO_5.out) hb); have n1_ := Aside0.mk (Kd.R_below (by (with_reducible repeat (first | apply Kd.R_alloc | apply Kd.R_drewN | apply Kd.R_drew)); exact HO_10.out) hb); have n2_ := Aside0.mk (blk_below (g := gb148) (o := .cells #[.int .i64 (wrap64 (x6_1 + (wrap64 (1 + (Go.bits .and .i64 (rd l0 x26_1) 7))))), .string x149001_15, .bool x149002_15] 52 (0, 0)) (by (with_reducible repeat (first | refine blk_drewN ?_ _ | refine blk_drew ?_ | refine blk_alloc ?_ _)); exact BK148.out) hb); have n3_ := Aside0.mk (below_step (by repeat (first | (with_reducible first | exact HB.out | apply below_alloc | apply pw_below_drewN | apply below_drew1 | refine below_set ?_ GE148.out) | exact HB.out)) hb); clear HO_5; clear HO_10; clear BK148; clear HB; have HO_5 := n0_; have HO_10 := n1_; have BK148 := n2_; have HB := n3_; clear n0_ n1_ n2_ n3_; (try clear hb); (try clear hb2); (try clear hk); (try clear hi)) | ((with_reducible refine gate_callee (f := 27) rfl ?_); refine goesL_ (some 84) rfl rfl Try.func27 (by kernel_rfl) rfl #[.slice Ao62 t149.length co62, .int .i64 (wrap64 ((wrap64 (x6_1 + (wrap64 (1 + (Go.bits .and .i64 (rd l0 x26_1) 7))))) - 1))] rfl (by (try simp only [List.map_toArray, List.map_cons, List.map_nil]); first | done | rfl | (simp only [List.length_drop, List.length_take]; rfl)) ?_; (with_reducible refine (chain_Chain_At.calls _ _ t149 (wrap64 ((wrap64 (x6_1 + (wrap64 (1 + (Go.bits .and .i64 (rd l0 x26_1) 7))))) - 1)) t156 t157 _ ?side1 ?side2 A36.out).mono ?_); (case side1 => repeat (first | exact (Kd.R_reads' HO_10.out).2.2 | (with_reducible refine Kd.C_alloc ?_ _) | (with_reducible refine Kd.C_drewN ?_ _) | (with_reducible refine Kd.C_drew ?_))); (case side2 => exact (Kd.R_reads' HO_10.out).2.1); rintro e w64 ⟨rfl, hb⟩; refine ⟨_, rfl, ?_⟩; have n0_ := Aside0.mk (Kd.R_below (by (with_reducible repeat (first | apply Kd.R_alloc | apply Kd.R_drewN | apply Kd.R_drew)); exact HO_5.out) hb); have n1_ := Aside0.mk (Kd.R_below (by (with_reducible repeat (first | apply Kd.R_alloc | apply Kd.R_drewN | apply Kd.R_drew)); exact HO_10.out) hb); have n2_ := Aside0.mk (blk_below (g := gb148) (o := .cells #[.int .i64 (wrap64 (x6_1 + (wrap64 (1 + (Go.bits .and .i64 (rd l0 x26_1) 7))))), .string x149001_15, .bool x149002_15] 52 (0, 0)) (by (with_reducible repeat (first | refine blk_drewN ?_ _ | refine blk_drew ?_ | refine blk_alloc ?_ _)); exact BK148.out) hb); have n3_ := Aside0.mk (below_step (by repeat (first | (with_reducible first | exact HB.out | apply below_alloc | apply pw_below_drewN | apply below_drew1 | refine below_set ?_ GE148.out) | exact HB.out)) hb); clear HO_5; clear HO_10; clear BK148; clear HB; have HO_5 := n0_; have HO_10 := n1_; have BK148 := n2_; have HB := n3_; clear n0_ n1_ n2_ n3_; (try clear hb); (try clear hb2); (try clear hk); (try clear hi)) | ((with_reducible refine gate_callee (f := 27) rfl ?_); refine goesL_ (some 91) rfl rfl Try.func27 (by kernel_rfl) rfl #[.slice Ao27 x5_1.length co27, .int .i64 (wrap64 ((wrap64 (x6_1 + (wrap64 (1 + (Go.bits .and .i64 (rd l0 x26_1) 7))))) - 1))] rfl (by (try simp only [List.map_toArray, List.map_cons, List.map_nil]); first | done | rfl | (simp only [List.length_drop, List.length_take]; rfl)) ?_; (with_reducible refine (chain_Chain_At.calls _ _ x5_1 (wrap64 ((wrap64 (x6_1 + (wrap64 (1 + (Go.bits .and .i64 (rd l0 x26_1) 7))))) - 1)) t158 t159 _ ?side1 ?side2 A37.out).mono ?_); (case side1 => repeat (first | exact (Kd.R_reads' HO_5.out).2.2 | (with_reducible refine Kd.C_alloc ?_ _) | (with_reducible refine Kd.C_drewN ?_ _) | (with_reducible refine Kd.C_drew ?_))); (case side2 => exact (Kd.R_reads' HO_5.out).2.1); rintro e w65 ⟨rfl, hb⟩; refine ⟨_, rfl, ?_⟩; have n0_ := Aside0.mk (Kd.R_below (by (with_reducible repeat (first | apply Kd.R_alloc | apply Kd.R_drewN | apply Kd.R_drew)); exact HO_5.out) hb); have n1_ := Aside0.mk (Kd.R_below (by (with_reducible repeat (first | apply Kd.R_alloc | apply Kd.R_drewN | apply Kd.R_drew)); exact HO_10.out) hb); have n2_ := Aside0.mk (blk_below (g := gb148) (o := .cells #[.int .i64 (wrap64 (x6_1 + (wrap64 (1 + (Go.bits .and .i64 (rd l0 x26_1) 7))))), .string x149001_15, .bool x149002_15] 52 (0, 0)) (by (with_reducible repeat (first | refine blk_drewN ?_ _ | refine blk_drew ?_ | refine blk_alloc ?_ _)); exact BK148.out) hb); have n3_ := Aside0.mk (below_step (by repeat (first | (with_reducible first | exact HB.out | apply below_alloc | apply pw_below_drewN | apply below_drew1 | refine below_set ?_ GE148.out) | exact HB.out)) hb); clear HO_5; clear HO_10; clear BK148; clear HB; have HO_5 := n0_; have HO_10 := n1_; have BK148 := n2_; have HB := n3_; clear n0_ n1_ n2_ n3_; (try clear hb); (try clear hb2); (try clear hk); (try clear hi); have hcz66_0 : w65.cell? ⟨gb148, 0, none⟩ = some (.int .i64 (wrap64 (x6_1 + (wrap64 (1 + (Go.bits .and .i64 (rd l0 x26_1) 7)))))) := (blk_cell BK148.out 0).trans rfl; have hcz66_1 : w65.cell? ⟨gb148, 1, none⟩ = some (.string x149001_15) := (blk_cell BK148.out 1).trans rfl; have hcz66_2 : w65.cell? ⟨gb148, 2, none⟩ = some (.bool x149002_15) := (blk_cell BK148.out 2).trans rfl; have hfz66_0 := blk_frozen BK148.out 0; have hfz66_1 := blk_frozen BK148.out 1; have hfz66_2 := blk_frozen BK148.out 2))
                                go_ret
                                exact ⟨by first | rfl | (simp [errW_none, errW_some] <;> rfl) | (simp only [← hji13, ← hji15]; first | rfl | (simp [errW_none, errW_some] <;> rfl)) | (simp [*, errW_none, errW_some] <;> rfl), by repeat (first | (with_reducible first | exact HB.out | apply below_alloc | apply pw_below_drewN | apply below_drew1 | refine below_set ?_ GE148.out) | exact HB.out)⟩
                · rw [if_neg c14] at H
                  exact absurd H (by simp)
              · rw [if_neg c12] at H
                exact absurd H (by simp)
            · rw [if_neg c11] at H
              exact absurd H (by simp)
          · rw [if_neg c10] at H
            have c10b0 : decide (x26_1 < (l0.length : Int)) = false := decide_eq_false c10
            clear c10
            replace H := Option.bind_eq_some_iff.mp H
            obtain ⟨t143, A670, H⟩ := H
            replace H : (some t143) = some r := H
            have A67 := Aside0.mk A670
            clear A670
            obtain rfl := Option.some.inj H
            obtain ⟨Ao68, co68, eo68⟩ := Kd.R_slice HO_5.out
            subst eo68
            go_wp2_with (first | ((with_reducible refine gate_callee (f := 25) rfl ?_); refine goesL_ (some 117) rfl rfl Try.func25 (by kernel_rfl) rfl #[.slice Ao68 x5_1.length co68] rfl (by (try simp only [List.map_toArray, List.map_cons, List.map_nil]); first | done | rfl | (simp only [List.length_drop, List.length_take]; rfl)) ?_; (with_reducible refine (chain_Chain_Right.calls k1 _ _ x5_1 t143 _ ?side1 ?side2 A67.out).mono ?_); (case side1 => repeat (first | exact (Kd.R_reads' HO_5.out).2.2 | (with_reducible refine Kd.C_alloc ?_ _) | (with_reducible refine Kd.C_drewN ?_ _) | (with_reducible refine Kd.C_drew ?_))); (case side2 => exact (Kd.R_reads' HO_5.out).2.1); rintro e w69 ⟨rfl, hb⟩; refine ⟨_, rfl, ?_⟩; have n0_ := Aside0.mk (Kd.R_below (by (with_reducible repeat (first | apply Kd.R_alloc | apply Kd.R_drewN | apply Kd.R_drew)); exact HO_5.out) hb); have n1_ := Aside0.mk (below_step (by repeat (first | (with_reducible first | exact HB.out | apply below_alloc | apply pw_below_drewN | apply below_drew1) | exact HB.out)) hb); clear HO_5; clear HB; have HO_5 := n0_; have HB := n1_; clear n0_ n1_; (try clear hb); (try clear hb2); (try clear hk); (try clear hi)))
            go_ret
            exact ⟨by first | rfl | (simp [errW_none, errW_some] <;> rfl) | (simp [*, errW_none, errW_some] <;> rfl), by repeat (first | (with_reducible first | exact HB.out | apply below_alloc | apply pw_below_drewN | apply below_drew1) | exact HB.out)⟩
  · replace c4 := Bool.eq_false_iff.mpr c4
    subst c4
    have H1 : (some false) = some r := by rw [if_neg (show ¬ (false = true) by decide)] at H; exact H
    clear H
    have H := H1
    clear H1
    obtain rfl := Option.some.inj H
    go_enter Try.func11, Try.ntmps11
    go_wp2_with (first | ((with_reducible refine gate_callee (f := 22) rfl ?_); refine goesL_ (some 18) rfl rfl Try.func22 (by kernel_rfl) rfl #[] rfl (by (try simp only [List.map_toArray, List.map_cons, List.map_nil]); first | done | rfl | (simp only [List.length_drop, List.length_take]; rfl)) ?_; (with_reducible refine (mailbaglaw07_head.calls k  false _ A3.out).mono ?_); rintro e w70 ⟨rfl, hb⟩; refine ⟨_, rfl, ?_⟩; have n0_ := Aside0.mk (below_step (by repeat (first | (with_reducible first | exact HB.out | apply below_alloc | apply pw_below_drewN | apply below_drew1) | exact HB.out)) hb); clear HB; have HB := n0_; clear n0_; (try clear hb); (try clear hb2); (try clear hk); (try clear hi)))
    go_ret
    exact ⟨by first | rfl | (simp [errW_none, errW_some] <;> rfl) | (simp [*, errW_none, errW_some] <;> rfl), by repeat (first | (with_reducible first | exact HB.out | apply below_alloc | apply pw_below_drewN | apply below_drew1) | exact HB.out)⟩

/-- THE ONE PURE STATEMENT of mailbaglaw07_ChainGrows: yours. -/
def mailbaglaw07_ChainGrows.Pure : Prop := ∀ (l0 : List Int) (a1 : Int), l0.length ≤ maxLen → l0.length * 8 ≤ 140737488351232 → (∀ x ∈ l0, (Lit.int .i64 x).wf = true) → (Lit.int .i64 a1).wf = true → ∃ k, mailbaglaw07_ChainGrows.f k l0 a1 = some true
theorem mailbaglaw07_ChainGrows.walk (P : mailbaglaw07_ChainGrows.Pure) (a0 : Option Addr) (len0 cap0 : Nat) (z0 : List Int) (a1 : Int) (w : World) (w0 : (a0 = none ∧ len0 = 0 ∧ cap0 = 0 ∧ z0 = []) ∨ ∃ x, a0 = some x ∧ len0 ≤ cap0 ∧ cap0 ≤ maxLen ∧ z0.length = cap0 ∧ (∀ i, i < z0.length → w.cell? (x.add i) = some (.int .i64 (z0.getD i 0))) ∧ ∀ n ∈ z0, (Lit.int .i64 n).wf = true) (y0 : len0 * 8 ≤ 140737488351232) (w1 : (Lit.int .i64 a1).wf = true) :
    Calls Try.prog 11 #[.slice a0 len0 cap0, .int .i64 a1] w fun e w' => e = .returned (.bool true) ∧ Below w.heap.size w w' := by
  obtain ⟨l0, rfl, hr0, hm0, hw0, hc0⟩ := ReadsInt.ofRowC w0
  obtain ⟨k, h⟩ := P l0 a1 hm0 y0 hw0 w1
  refine (mailbaglaw07_ChainGrows.calls k _ _ l0 a1 true w (Kd.C_of_reads (d := (0 : Int)) (h1 := fun _ => rfl) hr0) hc0 h).mono ?_
  rintro e w' ⟨rfl, hd⟩
  exact ⟨rfl, hd⟩

end Go.Proofs.Ytcoollbcnpmlfaa.C
