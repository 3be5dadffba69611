/- TreeOrders, the walk. -/
import Derived.Test.YtmpcmpanolnpfaaOe
set_option linter.unusedVariables false
set_option linter.unusedSimpArgs false
namespace Go.Proofs.Ytmpcmpanolnpfaa.Tr
open Go.RowKit Go.Proofs.YtmpcmpanolnpfaaW.PrintWords Go.Proofs.YtmpcmpanolnpfaaW.PrintLast Go.Proofs.YtmpcmpanolnpfaaW.PrintMore
attribute [local go_sem] Oper.semAt_some

theorem wf_small {i n : Nat} (h : i < n) (hn : n ≤ 100) : (Lit.int .i64 (i : Int)).wf = true := by
  have h2 : (i : Int) < 9223372036854775808 := by omega
  have h3 : (-9223372036854775808 : Int) ≤ (i : Int) := by omega
  have h4 : IntKind.i64.min = -9223372036854775808 := by rfl
  simp [Lit.wf]
  omega
set_option maxRecDepth 100000 in
set_option maxHeartbeats 8000000 in
theorem orders_in (A A2 : Option Addr) (c c2 : Nat) (ks os : List ByteArray) (turn : Int) (w : World) (hA : StrAt w A ks) (hA2 : StrAt w A2 os) (hn : ks.length < 4611686018427387904) (hn2 : os.length < 4611686018427387904) (hc : ks.length ≤ c) (hc2 : os.length ≤ c2)
    (hk : ∀ x ∈ ks, x.size ≤ 140737488351232) (hk2 : ∀ x ∈ os, x.size ≤ 140737488351232) :
    CallsIn Fence.wide 5 Try.prog 4 #[.slice A ks.length c, .int .i64 turn, .slice A2 os.length c2] w fun e w' => e = .returned (.bool true) ∧ Below w.heap.size w w' := by
  have hh : ∀ W, CallsIn Fence.wide 4 Try.prog 9 #[] W fun e w' => e = .returned (.bool true) ∧ Below W.heap.size W w' := fun W => callsIn_wide.2 (callsIn_wide.1 (head_in W))
  have HA := Aside0.mk hA
  have HA2 := Aside0.mk hA2
  have HK := Aside0.mk hk
  have HK2 := Aside0.mk hk2
  have KB := Aside0.mk (Boxed.new w 4 (.bool false))
  have HB0 : Aside0 (Below w.heap.size w (w.alloc (.cells #[.bool false] 4))) := ⟨below_alloc (Below.refl _ _) _⟩
  clear hA hA2 hk hk2
  refine callsIn_of_wp_marks Try.func4 rfl trivial ?_ rfl
  simp only [Try.ntmps4, List.size_toArray, List.length_cons, List.length_nil, Nat.reduceAdd, Nat.reduceSub, Array.replicate_succ, Array.replicate_zero, List.push_toArray, List.append_toArray, List.nil_append, List.cons_append]
  have hcase : (¬ ks.length ≤ 100) ∨ (ks.length ≤ 100 ∧ ¬ os.length ≤ 100) ∨ (ks.length ≤ 100 ∧ os.length ≤ 100 ∧ ks.length = 0) ∨ (ks.length ≤ 100 ∧ os.length ≤ 100 ∧ 0 < ks.length) := by omega
  rcases hcase with h1 | ⟨h1, h2⟩ | ⟨h1, h2, h3⟩ | ⟨h1, h2, h3⟩
  · have h4 : (100 : Int) < (ks.length : Int) := by omega
    gi_wp2_with (first
      | (refine ⟨trivial, ?_⟩; gi_at_call 9; refine (hh _).mono ?_; rintro e w1 ⟨rfl, hb⟩; have HB := Aside0.mk (HB0.out.trans (hb.mono HB0.out.size)); have B1 := Aside0.mk (Boxed.upB KB.out hb); have c1 := B1.out.cell; have f1 := B1.out.frozen; clear hb))
    exact ⟨.bool true, results_bool rfl _ _ ⟨w.heap.size, 0, none⟩ true rfl (B1.out.set (.bool true)).cell Try.underlying4, rfl, HB.out.setCell (p := ⟨w.heap.size, 0, none⟩) (Nat.le_refl _) _⟩
  · have h4 : ¬ (100 : Int) < (ks.length : Int) := by omega
    have h5 : (100 : Int) < (os.length : Int) := by omega
    gi_wp2_with (first
      | (refine ⟨trivial, ?_⟩; gi_at_call 9; refine (hh _).mono ?_; rintro e w1 ⟨rfl, hb⟩; have HB := Aside0.mk (HB0.out.trans (hb.mono HB0.out.size)); have B1 := Aside0.mk (Boxed.upB KB.out hb); have c1 := B1.out.cell; have f1 := B1.out.frozen; clear hb))
    exact ⟨.bool true, results_bool rfl _ _ ⟨w.heap.size, 0, none⟩ true rfl (B1.out.set (.bool true)).cell Try.underlying4, rfl, HB.out.setCell (p := ⟨w.heap.size, 0, none⟩) (Nat.le_refl _) _⟩
  · have h4 : ¬ (100 : Int) < (ks.length : Int) := by omega
    have h5 : ¬ (100 : Int) < (os.length : Int) := by omega
    have hbq : ((ks.length : Int) == 0) = true := by rw [h3]; rfl
    clear h3
    gi_wp2_with (first
      | (refine ⟨trivial, ?_⟩; gi_at_call 9; refine (hh _).mono ?_; rintro e w1 ⟨rfl, hb⟩; have HB := Aside0.mk (HB0.out.trans (hb.mono HB0.out.size)); have B1 := Aside0.mk (Boxed.upB KB.out hb); have c1 := B1.out.cell; have f1 := B1.out.frozen; clear hb))
    exact ⟨.bool true, results_bool rfl _ _ ⟨w.heap.size, 0, none⟩ true rfl (B1.out.set (.bool true)).cell Try.underlying4, rfl, HB.out.setCell (p := ⟨w.heap.size, 0, none⟩) (Nat.le_refl _) _⟩
  have h4 : ¬ (100 : Int) < (ks.length : Int) := by omega
  have h5 : ¬ (100 : Int) < (os.length : Int) := by omega
  have h6 : ¬ (ks.length : Int) = 0 := by omega
  have h7 : ¬ ks.length = 0 := by omega
  have hbq : ((ks.length : Int) == 0) = false := by simpa using h7
  obtain ⟨t0, ht0⟩ : ∃ t0 : Nat, turn % 65536 = (t0 : Int) := ⟨(turn % 65536).toNat, by omega⟩
  have m3 : bits .and .i64 turn 65535 = (t0 : Int) := (and_65535 turn).trans ht0
  obtain ⟨tt, htt⟩ : ∃ tt, tt = t0 % ks.length := ⟨_, rfl⟩
  have httl : tt < ks.length := by rw [htt]; exact Nat.mod_lt _ h3
  have hrem2 : (t0 : Int) % (ks.length : Int) = (tt : Int) := by rw [htt]; omega
  have hrem : Int.tmod (t0 : Int) (ks.length : Int) = (tt : Int) := by rw [Int.tmod_eq_emod_of_nonneg (by omega)]; exact hrem2
  have hmm := @run_makeMap Try.prog
  have HTT := Aside0.mk htt
  clear htt ht0
  gi_wp2_with (first
    | (refine ⟨trivial, ?_⟩; gi_at_call 9; refine (hh _).mono ?_; rintro e w1 ⟨rfl, hb⟩; have HB := Aside0.mk (HB0.out.trans (hb.mono HB0.out.size)); have B1 := Aside0.mk (Boxed.upB KB.out hb); have c1 := B1.out.cell; have f1 := B1.out.frozen; clear hb))
  obtain ⟨X0, hX0⟩ : ∃ X0, X0 = (((w1.alloc (.map #[] 0)).alloc (.cells #[.map (some w1.heap.size)] 37)).alloc (.cells #[.slice none 0 0, .int .i64 0] 28)).alloc (.cells #[.slice none 0 0, .int .i64 0] 28) := ⟨_, rfl⟩
  rw [← hX0]
  obtain ⟨os0, ta0, tb0, hz0⟩ := OSt.new w w1 HB.out B1.out X0 hX0
  have hwm : w.heap.size < w1.heap.size := B1.out.lt
  have OS0 := Aside0.mk os0
  have TA0 := Aside0.mk ta0
  have TB0 := Aside0.mk tb0
  have HZ0 := Aside0.mk hz0
  clear hX0 os0 ta0 tb0 hz0 c1 f1 B1 HB hrem hrem2 m3 hmm hbq
  gi_loopw [57] (fun v57 wr => ∃ i : Nat, v57 = .int .i64 (i : Int) ∧ i ≤ ks.length ∧ Aside0 (OSt w wr w1.heap.size i (firstsZ ks i)) ∧ Aside0 (TreeAt (fun k => k = w1.heap.size + 2) wr (w1.heap.size + 2) []) ∧ Aside0 (TreeAt (fun k => k = w1.heap.size + 3) wr (w1.heap.size + 3) []) ∧ Aside0 (∀ j, j < i → (kAt ks j).size ≤ 40)) (fun v57 _ => ks.length - (intOf v57).toNat)
  case atStart => exact ⟨0, rfl, Nat.zero_le _, OS0, TA0, TB0, ⟨fun j hj => absurd hj (Nat.not_lt_zero _)⟩⟩
  case round =>
    obtain ⟨i, rfl, hi, HO, HTA, HTB, HS40⟩ := hrel
    have HAr : Aside0 (StrAt wr A ks) := ⟨HA.out.up HO.out.bel⟩
    have r1 := HO.out.res.cell
    have r2 := HO.out.res.frozen
    have b1 := HO.out.box.cell
    have g0 : (0 : Int) ≤ (i : Int) := by omega
    by_cases hlt : i < ks.length
    · have g1 : (i : Int) < (ks.length : Int) := by omega
      obtain ⟨ad, ea, e0⟩ := HAr.out i hlt
      subst ea
      obtain ⟨x, hx⟩ : ∃ x, x = kAt ks i := ⟨_, rfl⟩
      rw [← hx] at e0
      have HX := Aside0.mk hx
      clear hx
      by_cases h40 : x.size ≤ 40
      · have h41 : ¬ (40 : Int) < (x.size : Int) := by omega
        have l1 := HO.out.map.look2 (x := x) (by simp only [maxLen]; omega)
        have HN40 : Aside0 (∀ j, j < i + 1 → (kAt ks j).size ≤ 40) := ⟨fun j hj => by
          by_cases e : j = i
          · rw [e, ← HX.out]; exact h40
          · exact HS40.out j (by omega)⟩
        by_cases hhas : hasZ (firstsZ ks i) x = true
        · rw [hhas] at l1
          have HF : Aside0 (firstsZ ks (i + 1) = firstsZ ks i) := ⟨by rw [firstsZ, if_pos (by rw [← HX.out]; exact hhas)]⟩
          gi_wp2
          exact ⟨⟨i + 1, by simp, by omega, ⟨by rw [HF.out]; exact ⟨HO.out.bel, HO.out.res, HO.out.box, ⟨HO.out.map.srt, by obtain ⟨D, q1, q2⟩ := HO.out.map.ex; exact ⟨D, q1.mono (Nat.le_succ _), q2⟩⟩⟩⟩, HTA, HTB, HN40⟩, by simp [intOf]; omega⟩
        · have hhf : hasZ (firstsZ ks i) x = false := by simpa using hhas
          rw [hhf] at l1
          have HF : Aside0 (firstsZ ks (i + 1) = insZ (firstsZ ks i) x i) := ⟨by rw [firstsZ, if_neg (by rw [← HX.out]; exact hhas), ← HX.out]⟩
          obtain ⟨w9, u1, u2, u3⟩ := HO.out.map.put (y := (i : Int)) (by simp only [maxLen]; omega) (x := x) (by simp only [maxLen]; omega) (wf_small hlt h1)
          have U2 := Aside0.mk u2
          have U3 := Aside0.mk u3
          clear u2 u3 hhas
          gi_wp2
          exact ⟨⟨i + 1, by simp, by omega, ⟨by rw [HF.out]; exact HO.out.put hwm U3.out U2.out⟩, ⟨HTA.out.grown U3.out (by omega)⟩, ⟨HTB.out.grown U3.out (by omega)⟩, HN40⟩, by simp [intOf]; omega⟩
      · have h41 : (40 : Int) < (x.size : Int) := by omega
        gi_wp2
        exact ⟨.bool true, results_bool rfl _ _ ⟨w.heap.size, 0, none⟩ true rfl (HO.out.res.set (.bool true)).cell Try.underlying4, rfl, HO.out.bel.setCell (p := ⟨w.heap.size, 0, none⟩) (Nat.le_refl _) _⟩
    · have hiz : i = ks.length := by omega
      subst hiz
      clear hi hlt
      obtain ⟨V, hV⟩ : ∃ V, V = firstsZ ks ks.length := ⟨_, rfl⟩
      rw [← hV] at HO
      obtain ⟨v1, v2, v3⟩ := firsts_spec ks ks.length
      have hoa := orders_a ks
      have hob := orders_b ks os t0 h3
      rw [← hV] at v1 v2 v3 hoa hob
      have V1 := Aside0.mk v1
      have HVS : Aside0 (∀ a ∈ V, a.1.size ≤ 40) := ⟨fun a ha => by
        obtain ⟨j, hj, e⟩ := (v3 a.1).1 (hasZ_iff.2 ⟨a, ha, rfl⟩)
        rw [← e]
        exact HS40.out j hj⟩
      have HOA := Aside0.mk hoa
      have HOBB := Aside0.mk hob
      obtain ⟨S1, hS1⟩ : ∃ S1, S1 = wr.heap.size := ⟨_, rfl⟩
      have hS1m : w1.heap.size + 3 < S1 := by rw [hS1]; exact HTB.out.lt
      have HTA2 : Aside0 (TreeAt (fun k => k = w1.heap.size + 2 ∨ S1 ≤ k) wr (w1.heap.size + 2) ((putsZ (kAt ks) (valZ V) [] 0).map zi)) := ⟨HTA.out.turn (fun k _ hk => .inl hk)⟩
      have HS1 : Aside0 (S1 ≤ wr.heap.size) := ⟨Nat.le_of_eq hS1⟩
      clear v1 v3 hV hS1 HTA hoa hob
      gi_wp2
      gi_loopw [79] (fun v79 wq => ∃ i : Nat, v79 = .int .i64 (i : Int) ∧ i ≤ ks.length ∧ Aside0 (OSt w wq w1.heap.size ks.length V) ∧ Aside0 (TreeAt (fun k => k = w1.heap.size + 2 ∨ S1 ≤ k) wq (w1.heap.size + 2) ((putsZ (kAt ks) (valZ V) [] i).map zi)) ∧ Aside0 (TreeAt (fun k => k = w1.heap.size + 3) wq (w1.heap.size + 3) []) ∧ Aside0 (S1 ≤ wq.heap.size)) (fun v79 _ => ks.length - (intOf v79).toNat)
      case atStart => exact ⟨0, rfl, Nat.zero_le _, HO, HTA2, HTB, HS1⟩
      case round =>
        clear HO HTA2 HTB HS1
        obtain ⟨i, rfl, hi, HO, HTA, HTB, HSz⟩ := hrel
        have b1 := HO.out.box.cell
        have g0 : (0 : Int) ≤ (i : Int) := by omega
        by_cases hlt : i < ks.length
        · have g1 : (i : Int) < (ks.length : Int) := by omega
          have HAr : Aside0 (StrAt wr A ks) := ⟨HA.out.up HO.out.bel⟩
          obtain ⟨ad, ea, e0⟩ := HAr.out i hlt
          subst ea
          have h40 := HS40.out i hlt
          obtain ⟨x, hx⟩ : ∃ x, x = kAt ks i := ⟨_, rfl⟩
          have HP1 : Aside0 (putsZ (kAt ks) (valZ V) [] (i + 1) = insZ (putsZ (kAt ks) (valZ V) [] i) x (valZ V x)) := ⟨by rw [putsZ, ← hx]⟩
          rw [← hx] at e0 h40
          clear hx
          have HPT := Aside0.mk (put_int HTA.out (fun k hk => .inr (Nat.le_trans HSz.out hk)) (show (putsZ (kAt ks) (valZ V) [] i).length ≤ maxTree by have := (puts_spec (Z := []) List.Pairwise.nil (kAt ks) (valZ V) i).2.1; simp at this; unfold maxTree; omega) x (valZ V x))
          have l1 := HO.out.map.look (x := x) (by simp only [maxLen]; omega)
          gi_wp2_with (first
            | (refine ⟨trivial, ?_⟩; gi_at_call 11; refine (callsIn_wide.2 HPT.out).mono ?_; rintro e w5 ⟨rfl, ht, hf⟩
               have HT5 := Aside0.mk ht
               have HF5 := Aside0.mk hf
               clear ht hf))
          exact ⟨⟨i + 1, by simp, by omega, ⟨HO.out.fr HF5.out hwm (fun k hk e => by omega)⟩, ⟨by rw [HP1.out]; exact HT5.out⟩, ⟨HTB.out.fr HF5.out (fun k e1 e2 => by omega)⟩, ⟨Nat.le_trans HSz.out HF5.out.size⟩⟩, by simp [intOf]; omega⟩
        · have hiz : i = ks.length := by omega
          subst hiz
          rw [HOA.out] at HTA
          clear hi hlt
          obtain ⟨S2, hS2⟩ : ∃ S2, S2 = wr.heap.size := ⟨_, rfl⟩
          have hS2m : w1.heap.size + 3 < S2 := by rw [hS2]; exact HTB.out.lt
          have HTA2 : Aside0 (TreeAt (fun k => k ≠ w1.heap.size + 3 ∧ k < S2) wr (w1.heap.size + 2) (V.map zi)) := ⟨HTA.out.turn (fun k hk e => ⟨by omega, by omega⟩)⟩
          have HTB2 : Aside0 (TreeAt (fun k => k = w1.heap.size + 3 ∨ S2 ≤ k) wr (w1.heap.size + 3) ((putsZ (kAt os) (fun _ => -1) [] 0).map zi)) := ⟨HTB.out.turn (fun k _ hk => .inl hk)⟩
          have HS2 : Aside0 (S2 ≤ wr.heap.size) := ⟨Nat.le_of_eq hS2⟩
          clear hS2 HTA HTB HSz
          gi_wp2
          gi_loopw [92] (fun v92 wq => ∃ i : Nat, v92 = .int .i64 (i : Int) ∧ i ≤ os.length ∧ Aside0 (OSt w wq w1.heap.size ks.length V) ∧ Aside0 (TreeAt (fun k => k ≠ w1.heap.size + 3 ∧ k < S2) wq (w1.heap.size + 2) (V.map zi)) ∧ Aside0 (TreeAt (fun k => k = w1.heap.size + 3 ∨ S2 ≤ k) wq (w1.heap.size + 3) ((putsZ (kAt os) (fun _ => -1) [] i).map zi)) ∧ Aside0 (S2 ≤ wq.heap.size)) (fun v92 _ => os.length - (intOf v92).toNat)
          case atStart => exact ⟨0, rfl, Nat.zero_le _, HO, HTA2, HTB2, HS2⟩
          case round =>
            clear HO HTA2 HTB2 HS2
            obtain ⟨i, rfl, hi, HO, HTA, HTB, HSz⟩ := hrel
            have g0 : (0 : Int) ≤ (i : Int) := by omega
            by_cases hlt : i < os.length
            · have g1 : (i : Int) < (os.length : Int) := by omega
              have HAr : Aside0 (StrAt wr A2 os) := ⟨HA2.out.up HO.out.bel⟩
              obtain ⟨ad2, ea, e0⟩ := HAr.out i hlt
              subst ea
              obtain ⟨x, hx⟩ : ∃ x, x = kAt os i := ⟨_, rfl⟩
              have HP1 : Aside0 (putsZ (kAt os) (fun _ => -1) [] (i + 1) = insZ (putsZ (kAt os) (fun _ => -1) [] i) x (-1)) := ⟨by rw [putsZ, ← hx]⟩
              rw [← hx] at e0
              clear hx
              have HPT := Aside0.mk (put_int HTB.out (fun k hk => .inr (Nat.le_trans HSz.out hk)) (show (putsZ (kAt os) (fun _ => -1) [] i).length ≤ maxTree by have := (puts_spec (Z := []) List.Pairwise.nil (kAt os) (fun _ => -1) i).2.1; simp at this; unfold maxTree; omega) x (-1))
              gi_wp2_with (first
                | (refine ⟨trivial, ?_⟩; gi_at_call 11; refine (callsIn_wide.2 HPT.out).mono ?_; rintro e w5 ⟨rfl, ht, hf⟩
                   have HT5 := Aside0.mk ht
                   have HF5 := Aside0.mk hf
                   clear ht hf))
              exact ⟨⟨i + 1, by simp, by omega, ⟨HO.out.fr HF5.out hwm (fun k hk e => by omega)⟩, ⟨HTA.out.fr HF5.out (fun k e1 e2 => by omega)⟩, ⟨by rw [HP1.out]; exact HT5.out⟩, ⟨Nat.le_trans HSz.out HF5.out.size⟩⟩, by simp [intOf]; omega⟩
            · have hiz : i = os.length := by omega
              subst hiz
              clear hi hlt
              obtain ⟨o1, o2, o3, o4⟩ := puts_spec (Z := []) List.Pairwise.nil (kAt os) (fun _ => -1) os.length
              obtain ⟨B3, hB3⟩ : ∃ B3, B3 = putsZ (kAt os) (fun _ => -1) [] os.length := ⟨_, rfl⟩
              rw [← hB3] at HTB HOBB o1 o2
              have O1 := Aside0.mk o1
              simp only [List.length_nil, Nat.zero_add] at o2
              clear hB3 o1 o3 o4
              have HTB2 : Aside0 (TreeAt (fun k => k = w1.heap.size + 3 ∨ S2 ≤ k) wr (w1.heap.size + 3) ((putsZ (fun j => kAt ks ((j + t0) % ks.length)) (valZ V) B3 0).map zi)) := HTB
              clear HTB
              gi_wp2
              gi_loopw [102] (fun v102 wq => ∃ i : Nat, v102 = .int .i64 (i : Int) ∧ i ≤ ks.length ∧ Aside0 (OSt w wq w1.heap.size ks.length V) ∧ Aside0 (TreeAt (fun k => k ≠ w1.heap.size + 3 ∧ k < S2) wq (w1.heap.size + 2) (V.map zi)) ∧ Aside0 (TreeAt (fun k => k = w1.heap.size + 3 ∨ S2 ≤ k) wq (w1.heap.size + 3) ((putsZ (fun j => kAt ks ((j + t0) % ks.length)) (valZ V) B3 i).map zi)) ∧ Aside0 (S2 ≤ wq.heap.size)) (fun v102 _ => ks.length - (intOf v102).toNat)
              case atStart => exact ⟨0, rfl, Nat.zero_le _, HO, HTA, HTB2, HSz⟩
              case round =>
                clear HO HTA HTB2 HSz
                obtain ⟨i, rfl, hi, HO, HTA, HTB, HSz⟩ := hrel
                have b1 := HO.out.box.cell
                by_cases hlt : i < ks.length
                · have HAr : Aside0 (StrAt wr A ks) := ⟨HA.out.up HO.out.bel⟩
                  have g1 : (i : Int) < (ks.length : Int) := by omega
                  obtain ⟨r, hr⟩ : ∃ r, r = (i + t0) % ks.length := ⟨_, rfl⟩
                  have hrl : r < ks.length := by rw [hr]; exact Nat.mod_lt _ h3
                  have hra : Int.tmod ((i : Int) + (tt : Int)) (ks.length : Int) = (r : Int) := by
                    rw [Int.tmod_eq_emod_of_nonneg (by omega), hr, ← Nat.add_mod_mod, ← HTT.out]
                    simp
                  have hra2 : ((i : Int) + (tt : Int)) % (ks.length : Int) = (r : Int) := by
                    rw [hr, ← Nat.add_mod_mod, ← HTT.out]
                    simp
                  have hwr : IntKind.i64.wrap ((i : Int) + (tt : Int)) = (i : Int) + (tt : Int) := by rw [IntKind.wrap_i64]; omega
                  have g2 : (0 : Int) ≤ (r : Int) := by omega
                  have g3 : (r : Int) < (ks.length : Int) := by omega
                  obtain ⟨ad, ea, e0⟩ := HAr.out r hrl
                  subst ea
                  have h40 := HS40.out r hrl
                  obtain ⟨x, hx⟩ : ∃ x, x = kAt ks r := ⟨_, rfl⟩
                  have HP1 : Aside0 (putsZ (fun j => kAt ks ((j + t0) % ks.length)) (valZ V) B3 (i + 1) = insZ (putsZ (fun j => kAt ks ((j + t0) % ks.length)) (valZ V) B3 i) x (valZ V x)) := ⟨by rw [putsZ, ← hr, ← hx]⟩
                  rw [← hx] at e0 h40
                  clear hx hr
                  have HPT := Aside0.mk (put_int HTB.out (fun k hk => .inr (Nat.le_trans HSz.out hk)) (show (putsZ (fun j => kAt ks ((j + t0) % ks.length)) (valZ V) B3 i).length ≤ maxTree by have := (puts_spec O1.out (fun j => kAt ks ((j + t0) % ks.length)) (valZ V) i).2.1; unfold maxTree; omega) x (valZ V x))
                  have l1 := HO.out.map.look (x := x) (by simp only [maxLen]; omega)
                  gi_wp2_with (first
                    | (refine ⟨trivial, ?_⟩; gi_at_call 11; refine (callsIn_wide.2 HPT.out).mono ?_; rintro e w5 ⟨rfl, ht, hf⟩
                       have HT5 := Aside0.mk ht
                       have HF5 := Aside0.mk hf
                       clear ht hf))
                  exact ⟨⟨i + 1, by simp, by omega, ⟨HO.out.fr HF5.out hwm (fun k hk e => by omega)⟩, ⟨HTA.out.fr HF5.out (fun k e1 e2 => by omega)⟩, ⟨by rw [HP1.out]; exact HT5.out⟩, ⟨Nat.le_trans HSz.out HF5.out.size⟩⟩, by simp [intOf]; omega⟩
                · have hiz : i = ks.length := by omega
                  subst hiz
                  clear hi hlt
                  obtain ⟨p1, p2, p3, p4⟩ := puts_spec O1.out (fun j => kAt ks ((j + t0) % ks.length)) (valZ V) ks.length
                  obtain ⟨B4, hB4⟩ : ∃ B4, B4 = putsZ (fun j => kAt ks ((j + t0) % ks.length)) (valZ V) B3 ks.length := ⟨_, rfl⟩
                  rw [← hB4] at HTB HOBB p1 p2
                  have P1 := Aside0.mk p1
                  clear hB4 p1 p3 p4
                  have HTB2 : Aside0 (TreeAt (fun k => k = w1.heap.size + 3 ∨ S2 ≤ k) wr (w1.heap.size + 3) ((dropsZ V (kAt os) B4 0).map zi)) := HTB
                  clear HTB
                  gi_wp2
                  gi_loopw [123] (fun v123 wq => ∃ i : Nat, v123 = .int .i64 (i : Int) ∧ i ≤ os.length ∧ Aside0 (OSt w wq w1.heap.size ks.length V) ∧ Aside0 (TreeAt (fun k => k ≠ w1.heap.size + 3 ∧ k < S2) wq (w1.heap.size + 2) (V.map zi)) ∧ Aside0 (TreeAt (fun k => k = w1.heap.size + 3 ∨ S2 ≤ k) wq (w1.heap.size + 3) ((dropsZ V (kAt os) B4 i).map zi)) ∧ Aside0 (S2 ≤ wq.heap.size)) (fun v123 _ => os.length - (intOf v123).toNat)
                  case atStart => exact ⟨0, rfl, Nat.zero_le _, HO, HTA, HTB2, HSz⟩
                  case round =>
                    clear HO HTA HTB2 HSz
                    obtain ⟨i, rfl, hi, HO, HTA, HTB, HSz⟩ := hrel
                    have b1 := HO.out.box.cell
                    have g0 : (0 : Int) ≤ (i : Int) := by omega
                    by_cases hlt : i < os.length
                    · have g1 : (i : Int) < (os.length : Int) := by omega
                      have HAr : Aside0 (StrAt wr A2 os) := ⟨HA2.out.up HO.out.bel⟩
                      obtain ⟨ad2, ea, e0⟩ := HAr.out i hlt
                      subst ea
                      have hsz : (kAt os i).size ≤ 140737488351232 := HK2.out _ (by rw [kAt_eq hlt]; exact List.getElem_mem hlt)
                      obtain ⟨x, hx⟩ : ∃ x, x = kAt os i := ⟨_, rfl⟩
                      have HDS : Aside0 (dropsZ V (kAt os) B4 (i + 1) = if hasZ V x = true then dropsZ V (kAt os) B4 i else delZ (dropsZ V (kAt os) B4 i) x) := ⟨by rw [dropsZ, ← hx]⟩
                      rw [← hx] at e0 hsz
                      clear hx
                      have l1 := HO.out.map.look2 (x := x) (by simp only [maxLen]; omega)
                      by_cases hhas : hasZ V x = true
                      · rw [hhas] at l1
                        have HF : Aside0 (dropsZ V (kAt os) B4 (i + 1) = dropsZ V (kAt os) B4 i) := ⟨by rw [HDS.out, if_pos hhas]⟩
                        clear HDS hhas
                        gi_wp2
                        exact ⟨⟨i + 1, by simp, by omega, HO, HTA, ⟨by rw [HF.out]; exact HTB.out⟩, HSz⟩, by simp [intOf]; omega⟩
                      · have hhf : hasZ V x = false := by simpa using hhas
                        rw [hhf] at l1
                        have HF : Aside0 (dropsZ V (kAt os) B4 (i + 1) = delZ (dropsZ V (kAt os) B4 i) x) := ⟨by rw [HDS.out, if_neg hhas]⟩
                        clear HDS hhas
                        have HPT := Aside0.mk (drop_int HTB.out (fun k hk => .inr (Nat.le_trans HSz.out hk)) (show (dropsZ V (kAt os) B4 i).length ≤ maxTree by have := (drops_spec P1.out V (kAt os) i).2.1; unfold maxTree; omega) x)
                        gi_wp2_with (first
                          | (refine ⟨trivial, ?_⟩; gi_at_call 12; refine (callsIn_wide.2 HPT.out).mono ?_; rintro e w5 ⟨rfl, ht, hf⟩
                             have HT5 := Aside0.mk ht
                             have HF5 := Aside0.mk hf
                             clear ht hf))
                        exact ⟨⟨i + 1, by simp, by omega, ⟨HO.out.fr HF5.out hwm (fun k hk e => by omega)⟩, ⟨HTA.out.fr HF5.out (fun k e1 e2 => by omega)⟩, ⟨by rw [HF.out]; exact HT5.out⟩, ⟨Nat.le_trans HSz.out HF5.out.size⟩⟩, by simp [intOf]; omega⟩
                    · have hiz : i = os.length := by omega
                      subst hiz
                      rw [HOBB.out] at HTB
                      clear hi hlt
                      gi_wp2
                      have hml : ∀ k, (Builtin.len_ #[37] 3 #[.map (some w1.heap.size)]).run Try.prog (wr.drewN k) = .ok (.int .i64 (V.length : Int)) (wr.drewN k) := fun k => (HO.out.map.same (w' := wr.drewN k) rfl).len 3
                      refine wpIn_wide.2 (wp_region_noPanic ?_)
                      go_quiet (first
                        | (go_at_call 14; exact Calls.quiet_of_same (len_int (HTA.out.below (pw_below_drewN (Below.refl _ _) _))))
                        | (go_at_call 14; exact Calls.quiet_of_same (len_int (HTB.out.below (pw_below_drewN (Below.refl _ _) _)))))
                      refine NoPanic.normal ?_
                      have hby := pw_below_drewN (Below.refl wr.heap.size wr) nq
                      obtain ⟨Y, hY⟩ : ∃ Y, Y = wr.drewN nq := ⟨_, rfl⟩
                      rw [← hY] at hby ⊢
                      have HOY := Aside0.mk (HO.out.fr (Fr.below hby) hwm (F := fun _ => False) (fun k hk e => e.elim))
                      have HTAY := Aside0.mk (HTA.out.below hby)
                      have HTBY := Aside0.mk (HTB.out.below hby)
                      have hvl : V.length ≤ 100 := by omega
                      clear hml hY hby HO HTA HTB HSz b1
                      gi_wp2_with (first
                        | (refine ⟨trivial, ?_⟩; gi_at_call 13; refine (callsIn_wide.2 (from_any _ _ _)).mono ?_; rintro e w6 ⟨rfl, rfl⟩))
                      obtain ⟨X1, hX1⟩ : ∃ X1, X1 = (((Y.alloc (.cells #[] 9)).alloc (.cells #[.slice (some ⟨Y.heap.size, 0, none⟩) 0 0] 36)).alloc (.cells #[.pointer (some ⟨w1.heap.size + 1 + 1, 0, none⟩)] 25)).alloc (.cells #[.string ⟨#[]⟩] 9) := ⟨_, rfl⟩
                      rw [← hX1]
                      have hz1 : X1.heap.size = Y.heap.size + 4 := by rw [hX1]; simp
                      have XS0 : Aside0 (XSt Y (Y.heap.size + 1) X1 Y.heap.size 0 []) := ⟨by
                        rw [hX1]
                        exact ((XSt.new Y).below (below_alloc (Below.refl _ _) _)).below (below_alloc (Below.refl _ _) _)⟩
                      have hb1 : Below Y.heap.size Y X1 := XS0.out.bel
                      have q1 : Boxed X1 (Y.heap.size + 2) 25 (.pointer (some ⟨w1.heap.size + 2, 0, none⟩)) := by
                        rw [hX1]
                        have := Boxed.new ((Y.alloc (.cells #[] 9)).alloc (.cells #[.slice (some ⟨Y.heap.size, 0, none⟩) 0 0] 36)) 25 (.pointer (some ⟨w1.heap.size + 2, 0, none⟩))
                        rw [World.size_alloc, World.size_alloc] at this
                        exact this.alloc _
                      have q2 : Boxed X1 (Y.heap.size + 3) 9 (.string ⟨#[]⟩) := by
                        rw [hX1]
                        have := Boxed.new (((Y.alloc (.cells #[] 9)).alloc (.cells #[.slice (some ⟨Y.heap.size, 0, none⟩) 0 0] 36)).alloc (.cells #[.pointer (some ⟨w1.heap.size + 2, 0, none⟩)] 25)) 9 (.string ⟨#[]⟩)
                        rw [World.size_alloc, World.size_alloc, World.size_alloc] at this
                        exact this
                      have hga := HTAY.out.lt
                      have hgb := HTBY.out.lt
                      have hml := HOY.out.map.lt
                      clear hX1
                      have hseq := from_stops 4 (by omega) (Y.heap.size + 2) (Y.heap.size + 3) (w1.heap.size + 2) (fun k => k < Y.heap.size ∨ k = Y.heap.size + 2 ∨ k = Y.heap.size + 3) ⟨#[]⟩ V X1 (.inr (.inl rfl)) (.inr (.inr rfl)) (by unfold maxTree; omega)
                        ((HTAY.out.turn (G := fun k => k < Y.heap.size ∨ k = Y.heap.size + 2 ∨ k = Y.heap.size + 3) (fun k hk _ => .inl hk)).below hb1) q1.cell q2.cell
                      refine' wpIn_rangeFunc_ownF rfl (by omega) (gf := 30) (lb := #[.pointer (some ⟨Y.heap.size + 2, 0, none⟩), .pointer (some ⟨Y.heap.size + 3, 0, none⟩)]) rfl trivial (enters_of Try.func30 (by kernel_rfl) rfl) hseq Kb.trans
                        (fun W l o o' hl _ _ _ => kb_putObj (n := Y.heap.size + 4) (fun k hk => by omega) W l o' (by omega)) (Below.refl _ _) (fun _ => rfl)
                        (fun pre X => ∃ lb cap : Nat, XSt Y (Y.heap.size + 1) X lb cap ((vals pre).map (·.1)) ∧ (lb = Y.heap.size ∨ Y.heap.size + 4 ≤ lb) ∧ Y.heap.size + 4 ≤ X.heap.size)
                        (fun _ _ _ => False) ?ownA (fun _ _ _ _ _ hs _ _ => hs) ⟨Y.heap.size, 0, XS0.out, .inl rfl, by omega⟩ _ ?assign ?body ?done ?stop
                      case ownA =>
                        intro s X X' row hs hg hr
                        obtain ⟨lb, cap, q, ql, qs⟩ := hs
                        exact ⟨lb, cap, q.ownG hg (fun r e => ⟨by have := (hr r e).1; omega, (hr r e).2⟩), ql, Nat.le_trans qs hg.size⟩
                      case assign =>
                        intro l x W K hK
                        dsimp only [pe]
                        gi_wp2
                        exact hK
                      case stop =>
                        rintro D c pre X hD _ h _
                        exact h.elim
                      case body =>
                        rintro l0 pre z X ⟨lb, cap, hx, hlb, hX4⟩ hlen
                        have hOX := HOY.out.fr (Fr.below hx.bel) hwm (F := fun _ => False) (fun k hk e => e.elim)
                        have hvz := valZ_of V1.out z.2
                        have hsz := HVS.out z.1 z.2
                        have hxl : ((vals pre).map (·.1)).length = pre.length := by simp [vals]
                        have hsn : (vals (pre ++ [z])).map (·.1) = (vals pre).map (·.1) ++ [z.1.1] := by rw [vals_snoc]; simp
                        obtain ⟨⟨xk, xv⟩, hz⟩ := z
                        replace hsz : xk.size ≤ 40 := hsz
                        replace hvz : valZ V xk = xv := hvz
                        replace hsn : (vals (pre ++ [(⟨(xk, xv), hz⟩ : El V)])).map (·.1) = (vals pre).map (·.1) ++ [xk] := hsn
                        have l1 := hOX.map.look (x := xk) (by simp only [maxLen]; omega)
                        rw [hvz] at l1
                        have b1 := hOX.box.cell
                        have c1 := hx.box.cell
                        have HSN := Aside0.mk hsn
                        have hlen2 : pre.length < V.length := hlen
                        generalize (vals pre).map (·.1) = L at *
                        have hLl : L.length ≤ 100 := by omega
                        clear hxl
                        have hba : Below X.heap.size X (X.alloc (.cells #[.string xk] 9)) := below_alloc (Below.refl _ _) _
                        have HXA := Aside0.mk (hx.below hba)
                        have HNW : Aside0 (∀ t u, [Value.string xk][t]? = some u → (X.alloc (.cells #[.string xk] 9)).cell? ((⟨X.heap.size, 0, none⟩ : Addr).add t) = some u) := ⟨fun t u hu => cells_of_heap (heap_alloc_new X _) 0 t u (by simpa using hu)⟩
                        have hXl := hx.bel.size
                        have hlbx := hx.own.lt lb rfl
                        have hrc := row_cells HXA.out.own
                        have HRC := Aside0.mk hrc
                        clear hba hx hOX hvz hsn hlen hrc
                        gi_wp2_with (first
                          | (gi_at_builtin; refine app36 _ rfl _ _ rfl Y.heap.size lb L.length cap (L.map Value.string) (by simp [Act.eval, Act.put]) HXA.out.own ⟨X.heap.size, 0, none⟩ 1 1 [.string xk] (by simp [Act.eval, Act.put]) rfl HNW.out (by intro u hu; simp at hu; subst hu; rfl) (by omega) HXA.out.bel.size ?_
                             intro g1 cap1 w2 ho1 hg1 hat
                             have HO1 := Aside0.mk ho1
                             have HG1 := Aside0.mk hg1
                             have HAT := Aside0.mk hat
                             have hbk := HXA.out.box.kept hg1 (Boxed.not_row HXA.out.box (by decide) HXA.out.own)
                             have k1 := hbk.cell
                             have k2 := hbk.frozen
                             clear ho1 hg1 hat hbk))
                        have hsa : (X.alloc (.cells #[.string xk] 9)).heap.size = X.heap.size + 1 := World.size_alloc _ _
                        refine ⟨((KeepsOthers.alloc _ _).trans (KeepsOthers.of_grownBy HG1.out (fun j o e ho => ?_))).trans (KeepsOthers.setCell _ _ _), ((Kb.alloc _ _).trans (Kb.grown HG1.out (by omega))).trans (kb_setCell _ _ _ _ (by omega)), g1, cap1, ?_, ?_, ?_⟩
                        · cases e
                          obtain ⟨o', h1, h2⟩ := HRC.out
                          rw [h1] at ho
                          cases ho
                          exact h2
                        · rw [HSN.out]
                          exact HXA.out.add (by omega) HO1.out HG1.out
                        · rcases HAT.out with e | e
                          · rw [e]; exact hlb
                          · right; rw [e, hsa]; omega
                        · rw [size_setCell]
                          have := HG1.out.size
                          omega
                      case done =>
                        rintro D xs X hD hxs ⟨lb, cap, hx, hlb, hX4⟩ hK
                        replace hxs : vals xs = fromL V ⟨#[]⟩ := hxs
                        rw [fromL_all] at hxs
                        rw [hxs] at hx
                        have hkl2 : (V.map (·.1)).length = V.length := by simp
                        have HXR := Aside0.mk hx
                        have HKD := Aside0.mk hK
                        have hXl := hx.bel.size
                        have hDl := (Array.getElem?_eq_some_iff.1 hK).1
                        have HOX := Aside0.mk (HOY.out.fr (Fr.below hx.bel) hwm (F := fun _ => False) (fun k hk e => e.elim))
                        have HTBX := Aside0.mk (HTBY.out.below hx.bel)
                        clear hx hK hxs q1 q2
                        gi_wp2_with (first
                          | (refine ⟨trivial, ?_⟩; gi_at_call 13; refine (callsIn_wide.2 (from_any _ _ _)).mono ?_; rintro e w6 ⟨rfl, rfl⟩))
                        obtain ⟨X2, hX2⟩ : ∃ X2, X2 = ((X.alloc (.cells #[.int .i64 0] 3)).alloc (.cells #[.pointer (some ⟨w1.heap.size + 1 + 1 + 1, 0, none⟩)] 25)).alloc (.cells #[.string ⟨#[]⟩] 9) := ⟨_, rfl⟩
                        rw [← hX2]
                        obtain ⟨bx1, bx2, bx3⟩ := three_boxes X (.int .i64 0) (.pointer (some ⟨w1.heap.size + 1 + 1 + 1, 0, none⟩)) (.string ⟨#[]⟩) 3 25 9
                        rw [← hX2] at bx1 bx2 bx3
                        have hb2 : Below X.heap.size X X2 := by
                          rw [hX2]
                          exact ((((Below.refl _ _).alloc (Nat.le_refl _) _).alloc (by simp) _).alloc (by simp; omega) _)
                        have hz2 : X2.heap.size = X.heap.size + 3 := by rw [hX2]; simp
                        clear hX2
                        have hseq2 := from_stops 4 (by omega) (X.heap.size + 1) (X.heap.size + 2) (w1.heap.size + 3) (fun k => k < X.heap.size ∨ k = X.heap.size + 1 ∨ k = X.heap.size + 2) ⟨#[]⟩ V X2 (.inr (.inl rfl)) (.inr (.inr rfl)) (by unfold maxTree; omega)
                          ((HTBX.out.turn (G := fun k => k < X.heap.size ∨ k = X.heap.size + 1 ∨ k = X.heap.size + 2) (fun k hk _ => .inl hk)).below hb2) bx2.cell bx3.cell
                        refine' wpIn_rangeFunc_ownF rfl (by omega) (gf := 30) (lb := #[.pointer (some ⟨X.heap.size + 1, 0, none⟩), .pointer (some ⟨X.heap.size + 2, 0, none⟩)]) rfl trivial (enters_of Try.func30 (by kernel_rfl) rfl) hseq2 Kb.trans
                          (fun W l o o' hl _ _ _ => kb_putObj (n := X.heap.size + 3) (fun k hk => by omega) W l o' (by omega)) (Below.refl _ _) (fun _ => rfl)
                          (fun pre W => (vals pre = V.take pre.length ∧ Boxed W X.heap.size 3 (.int .i64 (pre.length : Int))) ∧ Below X.heap.size X W)
                          (fun _ pre _ => ¬ vals pre <+: V) ?ownB (fun _ _ _ _ _ hs _ _ => hs) ⟨⟨rfl, bx1⟩, hb2⟩ _ ?assign2 ?body2 ?done2 ?stop2
                        case ownB =>
                          intro s W W' row hs hg hr
                          exact ⟨⟨hs.1.1, own_boxS hs.1.2 hg hr⟩, own_belowS (Nat.le_refl _) (by omega) hs.2 hg hr⟩
                        case assign2 =>
                          intro l x W K hK
                          dsimp only [pe]
                          gi_wp2
                          exact hK
                        case stop2 =>
                          rintro D2 c pre W hD2 hsp h _
                          replace hsp : vals pre <+: fromL V ⟨#[]⟩ := hsp
                          rw [fromL_all] at hsp
                          exact absurd hsp h
                        case body2 =>
                          rintro l0 pre z W ⟨⟨hv, p1⟩, hb⟩ hlen
                          have hOX := HOX.out.fr (Fr.below hb) hwm (F := fun _ => False) (fun k hk e => e.elim)
                          have hvz := valZ_of V1.out z.2
                          have hsz := HVS.out z.1 z.2
                          have hxw := HXR.out.below hb
                          have e0 := hxw.cell (k := pre.length) (by rw [hkl2]; exact hlen)
                          rw [List.getElem_map] at e0
                          have c1 := hxw.box.cell
                          rw [hkl2] at c1
                          obtain ⟨⟨xk, xv⟩, hz⟩ := z
                          replace hsz : xk.size ≤ 40 := hsz
                          replace hvz : valZ V xk = xv := hvz
                          have hpf : vals (pre ++ [(⟨(xk, xv), hz⟩ : El V)]) <+: V → V[pre.length]'hlen = (xk, xv) := fun hpre => by
                            rw [vals_snoc] at hpre
                            have hlv : (vals pre).length = pre.length := by simp [vals]
                            have h1 := prefix_get hpre
                            rw [hlv, List.getElem?_eq_getElem hlen] at h1
                            simpa using h1
                          have HPF := Aside0.mk hpf
                          have hsn : (V[pre.length]'hlen).1 = xk → vals (pre ++ [(⟨(xk, xv), hz⟩ : El V)]) = V.take (pre.length + 1) := fun e => by
                            have h2 := valZ_of V1.out (List.getElem_mem hlen)
                            rw [e, hvz] at h2
                            rw [vals_snoc, hv, List.take_succ_eq_append_getElem hlen, show V[pre.length] = (xk, xv) from Prod.ext e h2.symm]
                          have HSN := Aside0.mk hsn
                          have l1 := hOX.map.look (x := xk) (by simp only [maxLen]; omega)
                          rw [hvz] at l1
                          have b1 := hOX.box.cell
                          have r1 := hOX.res.cell
                          have r2 := hOX.res.frozen
                          have P1 := Aside0.mk p1
                          have HB1 := Aside0.mk hb
                          have hln : (pre ++ [(⟨(xk, xv), hz⟩ : El V)]).length = pre.length + 1 := by simp
                          have HLN := Aside0.mk hln
                          have hxl : pre.length < V.length := hlen
                          clear hpf hsn hv p1 hb hxw hOX hvz hln
                          generalize hq : V[pre.length]'hlen = q at *
                          clear hq hlen
                          generalize pre.length = i at *
                          have c0 := P1.out.cell
                          have f0 := P1.out.frozen
                          have hi0 : (0 : Int) ≤ (i : Int) := by omega
                          have hi1 : (i : Int) < (V.length : Int) := by omega
                          have hni : ¬ V.length ≤ i := by omega
                          have hni2 : ¬ (V.length : Int) ≤ (i : Int) := by omega
                          have hwr : IntKind.i64.wrap ((i : Int) + 1) = (i : Int) + 1 := by rw [IntKind.wrap_i64]; omega
                          by_cases hkq : q.1 = xk
                          · have HKQ := Aside0.mk hkq
                            have hbe : (q.1.toList == xk.toList) = true := by rw [hkq]; simp
                            clear hkq
                            gi_wp2
                            refine ⟨KeepsOthers.setCell _ _ _, kb_setCell _ _ _ _ (by omega), ⟨?_, ?_⟩, HB1.out.setCell (p := ⟨X.heap.size, 0, none⟩) (Nat.le_refl _) _⟩
                            · rw [HLN.out]; exact HSN.out HKQ.out
                            · rw [HLN.out, show ((i + 1 : Nat) : Int) = (i : Int) + 1 by omega]; exact P1.out.set _
                          · have hbe : (q.1.toList == xk.toList) = false := bytes_neS hkq
                            gi_wp2
                            refine ⟨KeepsOthers.setCell _ _ _, fun hpre => hkq ?_⟩
                            rw [HPF.out hpre]
                        case done2 =>
                          rintro D2 ys W hD2 hys ⟨⟨hv, p1⟩, hb⟩ hK2
                          replace hys : vals ys = fromL V ⟨#[]⟩ := hys
                          rw [fromL_all] at hys
                          have hyl : ys.length = V.length := by simpa [vals] using congrArg List.length hys
                          rw [hyl] at p1
                          have c0 := p1.cell
                          have hxw := HXR.out.below hb
                          have c1 := hxw.box.cell
                          rw [hkl2] at c1
                          have hOX := HOX.out.fr (Fr.below hb) hwm (F := fun _ => False) (fun k hk e => e.elim)
                          have b1 := hOX.box.cell
                          have r1 := hOX.res.cell
                          have r2 := hOX.res.frozen
                          have hlm := hOX.map.len 3
                          have HOW := Aside0.mk hOX
                          have HK2 := Aside0.mk hK2
                          have HKD2 := Aside0.mk ((hb.block D hDl).trans HKD.out)
                          clear hyl hys hv p1 hb hxw hOX hK2
                          gi_wp2
                          have hk2 : (W.setCell ⟨w.heap.size, 0, none⟩ (.bool true)).heap[D2]? = some (.deferred (some [])) := (KeepsOthers.setCell W ⟨w.heap.size, 0, none⟩ (.bool true)).same D2 _ HK2.out rfl
                          have hk1 : (W.setCell ⟨w.heap.size, 0, none⟩ (.bool true)).heap[D]? = some (.deferred (some [])) := (KeepsOthers.setCell W ⟨w.heap.size, 0, none⟩ (.bool true)).same D _ HKD2.out rfl
                          have hBT : Below w.heap.size w (W.setCell ⟨w.heap.size, 0, none⟩ (.bool true)) := HOW.out.bel.setCell (p := ⟨w.heap.size, 0, none⟩) (Nat.le_refl _) _
                          obtain ⟨h8, h9⟩ := two_marksS hBT (by omega) (by omega) hk1 hk2
                          refine ⟨by simp, .inl ⟨_, _, rfl, run_takeDeferred hk2, ?_⟩⟩
                          refine ⟨by simp, .inl ⟨_, _, rfl, run_takeDeferred h8, ?_⟩⟩
                          refine ⟨.bool true, results_bool rfl _ _ ⟨w.heap.size, 0, none⟩ true rfl ?_ Try.underlying4, rfl, h9⟩
                          exact ((World.cell?_of_block (World.putObj_heap_other (by show w.heap.size ≠ D; omega))).trans (World.cell?_of_block (World.putObj_heap_other (by show w.heap.size ≠ D2; omega)))).trans (HOW.out.res.set (.bool true)).cell
end Go.Proofs.Ytmpcmpanolnpfaa.Tr
