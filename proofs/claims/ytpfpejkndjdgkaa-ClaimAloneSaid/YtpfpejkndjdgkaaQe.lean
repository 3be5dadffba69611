/- ClaimAlone, the walk. -/
import Derived.Test.YtpfpejkndjdgkaaQd
set_option linter.unusedVariables false
set_option linter.unusedSimpArgs false
namespace Go.Proofs.Ytpfpejkndjdgkaa.Q
open Go.RowKit Go.Maps Go.WideMaps Go.Proofs.YtpfpejkndjdgkaaW.PrintWords Go.Proofs.YtpfpejkndjdgkaaW.PrintLast Go.Proofs.YtpfpejkndjdgkaaW.PrintMore
attribute [local go_sem] Oper.semAt_some

set_option maxRecDepth 100000 in
set_option maxHeartbeats 8000000 in
theorem alone_in (A : Option Addr) (c : Nat) (ks : List ByteArray) (a b : Int) (w : World) (ha : (Lit.int .i64 a).wf = true) (hb : (Lit.int .i64 b).wf = true) (hA : StrA w A ks) (hn : ks.length < 4611686018427387904) (hc : ks.length ≤ c) :
    CallsIn Fence.wide 4 Try.prog 4 #[.int .i64 a, .int .i64 b, .slice A ks.length c] w fun e w' => e = .returned (.bool true) ∧ Below w.heap.size w w' := by
  have HA := Aside0.mk hA
  clear hA
  refine callsIn_of_wp_marks Try.func4 rfl trivial ?_ rfl
  simp only [Try.ntmps4, List.size_toArray, List.length_cons, List.length_nil, Nat.reduceAdd, Nat.reduceSub, Array.replicate_succ, Array.replicate_zero, List.push_toArray, List.append_toArray, List.nil_append, List.cons_append]
  rcases Nat.lt_or_ge 40 ks.length with h1 | h1
  · have h4 : (40 : Int) < (ks.length : Int) := by omega
    gi_wp2_with (first
      | (refine ⟨trivial, ?_⟩; gi_at_call 8; refine (callsIn_wide.2 (head_any _)).mono ?_; rintro e w1 ⟨rfl, hb⟩; have HB := Aside0.mk hb; clear hb))
    exact ⟨_, results_tmp rfl _ _ _, rfl, HB.out⟩
  have h4 : ¬ (40 : Int) < (ks.length : Int) := by omega
  gi_wp2_with (first
    | (refine ⟨trivial, ?_⟩; gi_at_call 8; refine (callsIn_wide.2 (head_any _)).mono ?_; rintro e w1 ⟨rfl, hb⟩; have HB := Aside0.mk hb; clear hb)
    | (refine ⟨trivial, ?_⟩; gi_at_call 9; refine (callsIn_wide.2 (new_any _)).mono ?_; rintro e w2 ⟨rfl, hcl, hb⟩; have HC0 : Aside0 (ClaimAt w2 (w1.heap.size + 1) w1.heap.size 0 (turnC a b ks 0)) := ⟨hcl⟩; have HB2 := Aside0.mk (HB.out.trans (hb.mono HB.out.size)); clear hcl hb))
  have hw1 : w.heap.size ≤ w1.heap.size := HB.out.size
  clear HB
  gi_loopw [25] (fun v25 wq => ∃ i : Nat, v25 = .int .i64 (i : Int) ∧ i ≤ ks.length ∧ Aside0 (ClaimAt wq (w1.heap.size + 1) w1.heap.size i (turnC a b ks i)) ∧ Aside0 (Below w.heap.size w wq) ∧ Aside0 (∀ j, j < i → (kA ks j).size ≤ 100)) (fun v25 _ => ks.length - (intOf v25).toNat)
  case atStart => exact ⟨0, rfl, Nat.zero_le _, HC0, HB2, ⟨fun j hj => absurd hj (Nat.not_lt_zero _)⟩⟩
  case round =>
    clear HC0 HB2
    obtain ⟨i, rfl, hi, HC, HB, HS⟩ := hrel
    have g0 : (0 : Int) ≤ (i : Int) := by omega
    by_cases hlt : i < ks.length
    · have g1 : (i : Int) < (ks.length : Int) := by omega
      obtain ⟨ad, ea, e0⟩ := (HA.out.up HB.out) i hlt
      replace e0 : wr.cell? (ad.add i) = some (.string (kA ks i)) := e0
      have htc : turnC a b ks (i + 1) = (takeC (turnC a b ks i) (if i % 2 = 1 then b else a) (kA ks i)).2 := rfl
      obtain ⟨x, hx0⟩ : ∃ x, x = kA ks i := ⟨_, rfl⟩
      have HX0 := Aside0.mk hx0
      rw [← hx0] at e0 htc
      clear hx0
      subst ea
      by_cases hx : x.size ≤ 100
      · have HS2 : Aside0 (∀ j, j < i + 1 → (kA ks j).size ≤ 100) := ⟨fun j hj => by
          by_cases e : j = i
          · rw [e, ← HX0.out]; exact hx
          · exact HS.out j (by omega)⟩
        have hx2 : ¬ (100 : Int) < (x.size : Int) := by omega
        rcases Nat.mod_two_eq_zero_or_one i with hp | hp
        · have m1 : bits .and .i64 (i : Int) 1 = 0 := by rw [and_1]; omega
          rw [if_neg (by omega)] at htc
          have HTC := Aside0.mk htc
          have HTK := Aside0.mk (take_any HC.out (by simp only [maxLen]; omega) a ha (x := x) (by simp only [maxLen]; omega))
          clear htc
          gi_wp2_with (first
            | (refine ⟨trivial, ?_⟩; gi_at_call 12; refine (callsIn_wide.2 HTK.out).mono ?_; rintro e w5 ⟨rfl, hcl, hg⟩; have HC5 := Aside0.mk hcl; have HG5 := Aside0.mk hg; clear hcl hg))
          exact ⟨⟨i + 1, by simp, by omega, ⟨by rw [HTC.out]; exact HC5.out⟩, ⟨HB.out.grown HG5.out HB.out.size (fun k e => by cases e; exact hw1)⟩, HS2⟩, by simp [intOf]; omega⟩
        · have m1 : bits .and .i64 (i : Int) 1 = 1 := by rw [and_1]; omega
          rw [if_pos hp] at htc
          have HTC := Aside0.mk htc
          have HTK := Aside0.mk (take_any HC.out (by simp only [maxLen]; omega) b hb (x := x) (by simp only [maxLen]; omega))
          clear htc
          gi_wp2_with (first
            | (refine ⟨trivial, ?_⟩; gi_at_call 12; refine (callsIn_wide.2 HTK.out).mono ?_; rintro e w5 ⟨rfl, hcl, hg⟩; have HC5 := Aside0.mk hcl; have HG5 := Aside0.mk hg; clear hcl hg))
          exact ⟨⟨i + 1, by simp, by omega, ⟨by rw [HTC.out]; exact HC5.out⟩, ⟨HB.out.grown HG5.out HB.out.size (fun k e => by cases e; exact hw1)⟩, HS2⟩, by simp [intOf]; omega⟩
      · have hx2 : (100 : Int) < (x.size : Int) := by omega
        gi_wp2
        exact ⟨_, results_tmp rfl _ _ _, rfl, HB.out⟩
    · have hiz : i = ks.length := by omega
      subst hiz
      clear hi hlt
      obtain ⟨C, hC⟩ : ∃ C, C = turnC a b ks ks.length := ⟨_, rfl⟩
      have HV : Aside0 (∀ e ∈ C, e.2 = a ∨ e.2 = b) := ⟨by rw [hC]; exact turn_vals a b ks _⟩
      have HH : Aside0 (∀ j, j < ks.length → hasC C (kA ks j) = true) := ⟨by rw [hC]; exact turn_has a b ks _⟩
      have hCl : C.length ≤ ks.length := by rw [hC]; exact turn_len a b ks _
      rw [← hC] at HC
      clear hC
      gi_wp2
      gi_loopw [45] (fun v45 wq => ∃ j : Nat, v45 = .int .i64 (j : Int) ∧ j ≤ ks.length ∧ Aside0 (ClaimAt wq (w1.heap.size + 1) w1.heap.size ks.length C) ∧ Aside0 (Below w.heap.size w wq)) (fun v45 _ => ks.length - (intOf v45).toNat)
      case atStart => exact ⟨0, rfl, Nat.zero_le _, HC, HB⟩
      case round =>
        clear HC HB
        obtain ⟨j, rfl, hj, HC, HB⟩ := hrel
        have g0 : (0 : Int) ≤ (j : Int) := by omega
        by_cases hlt : j < ks.length
        · have g1 : (j : Int) < (ks.length : Int) := by omega
          obtain ⟨ad, ea, e0⟩ := (HA.out.up HB.out) j hlt
          replace e0 : wr.cell? (ad.add j) = some (.string (kA ks j)) := e0
          have hhas := HH.out j hlt
          have hxs := HS.out j hlt
          generalize kA ks j = x at *
          subst ea
          have hv := HV.out _ (val_mem HC.out.nd hhas)
          replace hv : valC C x = a ∨ valC C x = b := hv
          have hxm : x.size ≤ maxLen := by simp only [maxLen]; omega
          by_cases hab : a = b
          · subst hab
            have hbx : busyC C a x = false := by
              unfold busyC
              rcases hv with e | e <;> simp [e]
            clear hv hhas
            gi_wp2_with (first
              | (refine ⟨trivial, ?_⟩; gi_at_call 10; refine (callsIn_wide.2 (busy_made _ _ _)).mono ?_; rintro e w5 ⟨rfl, b1, b2, hb⟩; have HC1 := Aside0.mk (HC.out.below hb); have HB1 := Aside0.mk (HB.out.trans (hb.mono HB.out.size)); clear hb HC HB)
              | (refine ⟨trivial, ?_⟩; gi_at_call 22; refine (callsIn_wide.2 (busy1_any HC1.out _ _ _ hxm b1 b2)).mono ?_; rw [hbx]; rintro e w6 ⟨rfl, rfl⟩; clear b1 b2)
              | (refine ⟨trivial, ?_⟩; gi_at_call 10; refine (callsIn_wide.2 (busy_made _ _ _)).mono ?_; rintro e w7 ⟨rfl, b3, b4, hb⟩; have HC2 := Aside0.mk (HC1.out.below hb); have HB2 := Aside0.mk (HB1.out.trans (hb.mono HB1.out.size)); clear hb)
              | (refine ⟨trivial, ?_⟩; gi_at_call 22; refine (callsIn_wide.2 (busy1_any HC2.out _ _ _ hxm b3 b4)).mono ?_; rw [hbx]; rintro e w8 ⟨rfl, rfl⟩))
            exact ⟨⟨j + 1, by simp, by omega, HC2, HB2⟩, by simp [intOf]; omega⟩
          · have hne : (a == b) = false := by simpa using hab
            rcases hv with e | e
            · have hby : busyC C a x = false := by unfold busyC; simp [e]
              have hbx : busyC C b x = true := by unfold busyC; simp [e, hhas, hab]
              clear e hhas
              gi_wp2_with (first
                | (refine ⟨trivial, ?_⟩; gi_at_call 10; refine (callsIn_wide.2 (busy_made _ _ _)).mono ?_; rintro e w5 ⟨rfl, b1, b2, hb⟩; have HC1 := Aside0.mk (HC.out.below hb); have HB1 := Aside0.mk (HB.out.trans (hb.mono HB.out.size)); clear hb HC HB)
                | (refine ⟨trivial, ?_⟩; gi_at_call 22; refine (callsIn_wide.2 (busy1_any HC1.out _ _ _ hxm b1 b2)).mono ?_; rw [hbx]; rintro e w6 ⟨rfl, rfl⟩; clear b1 b2)
                | (refine ⟨trivial, ?_⟩; gi_at_call 10; refine (callsIn_wide.2 (busy_made _ _ _)).mono ?_; rintro e w7 ⟨rfl, b3, b4, hb⟩; have HC2 := Aside0.mk (HC1.out.below hb); have HB2 := Aside0.mk (HB1.out.trans (hb.mono HB1.out.size)); clear hb)
                | (refine ⟨trivial, ?_⟩; gi_at_call 22; refine (callsIn_wide.2 (busy1_any HC2.out _ _ _ hxm b3 b4)).mono ?_; rw [hby]; rintro e w8 ⟨rfl, rfl⟩))
              exact ⟨⟨j + 1, by simp, by omega, HC2, HB2⟩, by simp [intOf]; omega⟩
            · have hby : busyC C a x = true := by
                unfold busyC
                simp [e, hhas]
                exact fun q => hab q.symm
              have hbx : busyC C b x = false := by unfold busyC; simp [e]
              clear e hhas
              gi_wp2_with (first
                | (refine ⟨trivial, ?_⟩; gi_at_call 10; refine (callsIn_wide.2 (busy_made _ _ _)).mono ?_; rintro e w5 ⟨rfl, b1, b2, hb⟩; have HC1 := Aside0.mk (HC.out.below hb); have HB1 := Aside0.mk (HB.out.trans (hb.mono HB.out.size)); clear hb HC HB)
                | (refine ⟨trivial, ?_⟩; gi_at_call 22; refine (callsIn_wide.2 (busy1_any HC1.out _ _ _ hxm b1 b2)).mono ?_; rw [hbx]; rintro e w6 ⟨rfl, rfl⟩; clear b1 b2)
                | (refine ⟨trivial, ?_⟩; gi_at_call 10; refine (callsIn_wide.2 (busy_made _ _ _)).mono ?_; rintro e w7 ⟨rfl, b3, b4, hb⟩; have HC2 := Aside0.mk (HC1.out.below hb); have HB2 := Aside0.mk (HB1.out.trans (hb.mono HB1.out.size)); clear hb)
                | (refine ⟨trivial, ?_⟩; gi_at_call 22; refine (callsIn_wide.2 (busy1_any HC2.out _ _ _ hxm b3 b4)).mono ?_; rw [hby]; rintro e w8 ⟨rfl, rfl⟩))
              exact ⟨⟨j + 1, by simp, by omega, HC2, HB2⟩, by simp [intOf]; omega⟩
        · have hjz : j = ks.length := by omega
          subst hjz
          clear hj hlt
          have HFR := Aside0.mk (free_any HC.out (by omega) (by omega) a)
          have HFV := Aside0.mk (free_vals HV.out)
          gi_wp2_with (first
            | (refine ⟨trivial, ?_⟩; gi_at_call 11; refine (callsIn_wide.2 HFR.out).mono ?_; rintro e w7 ⟨A7, cap7, rfl, _, hcl, hg⟩; have HC7 := Aside0.mk hcl; have HB7 := Aside0.mk (HB.out.grown hg HB.out.size (fun k e => by cases e; exact hw1)); clear hcl hg))
          clear HC HB HFR
          gi_loopw [84] (fun v84 wq => ∃ (j nn : Nat) (D : List Pair), v84 = .int .i64 (j : Int) ∧ j ≤ ks.length ∧ nn ≤ ks.length + j ∧ Aside0 (ClaimAt wq (w1.heap.size + 1) w1.heap.size nn D) ∧ Aside0 (∀ e ∈ D, e.2 = b) ∧ Aside0 (Below w.heap.size w wq)) (fun v84 _ => ks.length - (intOf v84).toNat)
          case atStart => exact ⟨0, _, _, rfl, Nat.zero_le _, Nat.le_refl _, HC7, HFV, HB7⟩
          case round =>
            clear HC7 HFV HB7
            obtain ⟨j, nn, D, rfl, hj, hnn, HC, HDV, HB⟩ := hrel
            have g0 : (0 : Int) ≤ (j : Int) := by omega
            by_cases hlt : j < ks.length
            · have g1 : (j : Int) < (ks.length : Int) := by omega
              obtain ⟨ad, ea, e0⟩ := (HA.out.up HB.out) j hlt
              replace e0 : wr.cell? (ad.add j) = some (.string (kA ks j)) := e0
              have hxs := HS.out j hlt
              generalize kA ks j = x at *
              subst ea
              have hxm : x.size ≤ maxLen := by simp only [maxLen]; omega
              have hbx := busy_same HC.out.nd HDV.out x
              have htk := take_same HC.out.nd HDV.out x
              have HDV2 : Aside0 (∀ e ∈ (takeC D b x).2, e.2 = b) := ⟨fun e he => (takeC_mem he).elim (HDV.out e) id⟩
              gi_wp2_with (first
                | (refine ⟨trivial, ?_⟩; gi_at_call 10; refine (callsIn_wide.2 (busy_made _ _ _)).mono ?_; rintro e w5 ⟨rfl, b1, b2, hb⟩; have HC1 := Aside0.mk (HC.out.below hb); have HB1 := Aside0.mk (HB.out.trans (hb.mono HB.out.size)); clear hb)
                | (refine ⟨trivial, ?_⟩; gi_at_call 22; refine (callsIn_wide.2 (busy1_any HC1.out _ _ _ hxm b1 b2)).mono ?_; rw [hbx]; rintro e w6 ⟨rfl, rfl⟩)
                | (refine ⟨trivial, ?_⟩; gi_at_call 12; refine (callsIn_wide.2 (take_any HC1.out (by simp only [maxLen]; omega) b hb hxm)).mono ?_; rw [htk]; rintro e w8 ⟨rfl, hcl, hg⟩; have HC5 := Aside0.mk hcl; have HG5 := Aside0.mk hg; clear hcl hg))
              exact ⟨⟨j + 1, nn + 1, _, by simp, by omega, by omega, HC5, HDV2, ⟨HB1.out.grown HG5.out HB1.out.size (fun k e => by cases e; exact hw1)⟩⟩, by simp [intOf]; omega⟩
            · have hjz : j = ks.length := by omega
              subst hjz
              clear hj hlt
              by_cases hab : a = b
              · have hbeq : (a == b) = true := by simpa using hab
                clear hab
                gi_wp2
                refine ⟨trivial, ?_⟩
                gi_wp2
                exact ⟨_, results_tmp rfl _ _ _, rfl, HB.out⟩
              · have hne : (a == b) = false := by simpa using hab
                have hof := of_any HC.out (by omega) a
                rw [of_none HDV.out hab] at hof
                have HOF := Aside0.mk hof
                clear hof
                gi_wp2_with (first
                  | (refine ⟨trivial, ?_⟩; gi_at_call 14; refine (callsIn_wide.2 HOF.out).mono ?_; rintro e w9 ⟨A9, cap9, rfl, _, hb9⟩; have HB9 := Aside0.mk (HB.out.trans (hb9.mono HB.out.size)); clear hb9))
                exact ⟨_, results_tmp rfl _ _ _, rfl, HB9.out⟩
end Go.Proofs.Ytpfpejkndjdgkaa.Q
