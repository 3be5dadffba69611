/- ClaimMany, the walk. -/
import Derived.Test.YtpfpejkndjdgkaaQg
import Derived.Deep.RegionLaw
set_option linter.unusedVariables false
set_option linter.unusedSimpArgs false
namespace Go.Proofs.Ytpfpejkndjdgkaa.Q
open Go.RowKit Go.Maps Go.WideMaps Go.Proofs.YtpfpejkndjdgkaaW.PrintWords Go.Proofs.YtpfpejkndjdgkaaW.PrintLast Go.Proofs.YtpfpejkndjdgkaaW.PrintMore

set_option maxRecDepth 100000 in
set_option maxHeartbeats 1200000 in
theorem many_any (n0 k0 g0 : Int) (w : World) : Calls Try.prog 5 #[.int .i64 n0, .int .i64 k0, .int .i64 g0] w fun e w' => e = .returned (.bool true) ∧ Below w.heap.size w w' := by
  obtain ⟨n, hn⟩ : ∃ n : Nat, n0 % 16 + 1 = (n : Int) := ⟨(n0 % 16 + 1).toNat, by omega⟩
  obtain ⟨k, hk⟩ : ∃ k : Nat, k0 % 64 = (k : Int) := ⟨(k0 % 64).toNat, by omega⟩
  obtain ⟨g1, hg1⟩ : ∃ g : Nat, g0 % 16 = (g : Int) := ⟨(g0 % 16).toNat, by omega⟩
  have m1 : bits .and .i64 n0 15 = (n : Int) - 1 := by rw [and_15]; omega
  have m2 : bits .and .i64 k0 63 = (k : Int) := by rw [and_63]; omega
  have m3 : bits .and .i64 g0 15 = (g1 : Int) := by rw [and_15]; omega
  have hn1 : 1 ≤ n := by omega
  have hn2 : n ≤ 16 := by omega
  have hk2 : k < 64 := by omega
  have wr1 : IntKind.i64.wrap (1 + ((n : Int) - 1)) = (n : Int) := by rw [IntKind.wrap_i64]; omega
  obtain ⟨g, hg⟩ : ∃ g, g = g1 % n := ⟨_, rfl⟩
  have hgn : g < n := by rw [hg]; exact Nat.mod_lt _ hn1
  have hrem2 : (g1 : Int) % (n : Int) = (g : Int) := by rw [hg]; simp
  have hrem : Int.tmod (g1 : Int) (n : Int) = (g : Int) := by rw [Int.tmod_eq_emod_of_nonneg (by omega)]; exact hrem2
  have hnz : ¬ (n : Int) = 0 := by omega
  have hnz2 : ¬ n = 0 := by omega
  have hnb : ((n : Int) == 0) = false := by simpa using hnz2
  clear hn hk hg1 hg
  go_enter Try.func5, Try.ntmps5
  go_wp2_with (first
    | (go_at_call 8; refine (head_any _).mono ?_; rintro e w1 ⟨rfl, hb⟩; have HB := Aside0.mk hb; clear hb)
    | (go_at_call 9; refine (new_any _).mono ?_; rintro e w2 ⟨rfl, hcl, hb⟩; have HC0 : Aside0 (ClaimAt w2 (w1.heap.size + 1) w1.heap.size 0 (manyC n 0)) := ⟨hcl⟩; have HB2 := Aside0.mk (HB.out.trans (hb.mono HB.out.size)); clear hcl hb))
  have hw1 : w.heap.size ≤ w1.heap.size := HB.out.size
  clear HB
  go_loopg [8] (k + 1) (fun kq v8 wq => ∃ (i nn : Nat), v8 = .int .i64 (i : Int) ∧ i ≤ k ∧ k - i < kq ∧ nn ≤ i * 16 ∧ Aside0 (ClaimAt wq (w1.heap.size + 1) w1.heap.size nn (manyC n i)) ∧ Aside0 (Below w.heap.size w wq))
  case atStart => exact ⟨0, 0, rfl, Nat.zero_le _, by omega, by omega, HC0, HB2⟩
  case round =>
    clear HC0 HB2
    obtain ⟨i, nn, rfl, hi, hkk, hnn, HC, HB⟩ := hrel
    have z0 : (0 : Int) ≤ (i : Int) := by omega
    by_cases hlt : i < k
    · have z1 : (i : Int) < (k : Int) := by omega
      obtain ⟨GK, hGK⟩ : ∃ GK, GK = gk := ⟨_, rfl⟩
      have hi64 : i < 64 := by omega
      have wu8 : IntKind.u8.wrap (i : Int) = (i : Int) := by rw [IntKind.wrap_u8]; omega
      go_wp2
      go_loopg [9] (n + 1) (fun kq v9 wq => ∃ (v n2 : Nat), v9 = .int .i64 (v : Int) ∧ v ≤ n ∧ n - v < kq ∧ n2 ≤ i * 16 + v ∧ Aside0 (ClaimAt wq (w1.heap.size + 1) w1.heap.size n2 (manyC n (if v = 0 then i else i + 1))) ∧ Aside0 (Below w.heap.size w wq))
      case atStart => exact ⟨0, nn, rfl, Nat.zero_le _, by omega, by omega, HC, HB⟩
      case round =>
        clear HC HB
        obtain ⟨v, n2, rfl, hv, hkv, hn2, HC, HB⟩ := hrel
        have z2 : (0 : Int) ≤ (v : Int) := by omega
        by_cases hvl : v < n
        · have z3 : (v : Int) < (n : Int) := by omega
          obtain ⟨r, hr⟩ : ∃ r, r = (i + v) % n := ⟨_, rfl⟩
          have wri : IntKind.i64.wrap ((i : Int) + (v : Int)) = (i : Int) + (v : Int) := by rw [IntKind.wrap_i64]; omega
          have hr2 : ((i : Int) + (v : Int)) % (n : Int) = (r : Int) := by rw [hr]; simp
          have hr3 : Int.tmod ((i : Int) + (v : Int)) (n : Int) = (r : Int) := by rw [Int.tmod_eq_emod_of_nonneg (by omega)]; exact hr2
          have hrn : r < n := by rw [hr]; exact Nat.mod_lt _ hn1
          have hwf : (Lit.int .i64 (r : Int)).wf = true := by
            have h4 : IntKind.i64.min = -9223372036854775808 := by rfl
            simp [Lit.wf]
            omega
          rcases Nat.eq_zero_or_pos v with hv0 | hv0
          · rw [if_pos hv0] at HC
            have htk : takeC (manyC n i) (r : Int) (ky i) = (true, manyC n (i + 1)) := by rw [hr, hv0, Nat.add_zero]; exact take_first hi64
            have hv4 : ((v : Int) == 0) = true := by rw [hv0]; rfl
            clear hr
            have HV0 := Aside0.mk hv0
            clear hv0
            have bd1 : Below wr.heap.size wr (wr.alloc (.cells #[.int .u8 (i : Int)] 5)).drew := (fun h => ⟨h.os, h.tape, h.output, h.size, h.block⟩ : Below wr.heap.size wr (wr.alloc (.cells #[.int .u8 (i : Int)] 5)) → _) (below_alloc (Below.refl _ _) _)
            have BD1 := Aside0.mk bd1
            have hc1 : (wr.alloc (.cells #[.int .u8 (i : Int)] 5)).drew.cell? ⟨wr.heap.size, 0, none⟩ = some (.int .u8 (i : Int)) := (Boxed.new wr 5 (.int .u8 (i : Int))).cell
            have hconv := conv_ky (wr.alloc (.cells #[.int .u8 (i : Int)] 5)).drew hi64 wr.heap.size hc1
            clear bd1 hc1
            go_wp2
            go_region_law (first
              | (rw [if_pos (by rfl)]; go_simp; refine (take_any (HC.out.below BD1.out) (by simp only [maxLen]; omega) _ hwf (x := ky i) (by simp only [maxLen]; exact Nat.le_trans (show (ky i).size ≤ 1 from Nat.le_refl 1) (by decide))).mono ?_
                 rw [htk]; rintro e w5 ⟨rfl, hcl, hg⟩
                 have HC5 := Aside0.mk hcl; have HB5 := Aside0.mk ((HB.out.trans (BD1.out.mono HB.out.size)).grown hg (Nat.le_trans HB.out.size BD1.out.size) (fun k e => by cases e; exact hw1)); clear hcl hg))
            go_wp2
            go_roundg (gk - 1)
            case measure => omega
            case rel => exact ⟨v + 1, n2 + 1, by go_num, by omega, by omega, by omega, ⟨by rw [if_neg (by omega)]; exact HC5.out⟩, HB5⟩
          · rw [if_neg (by omega)] at HC
            have htk : takeC (manyC n (i + 1)) (r : Int) (ky i) = (false, manyC n (i + 1)) := by rw [hr]; exact take_later hi64 hv0 hvl
            clear hr
            have hv2 : ¬ (v : Int) = 0 := by omega
            have hv3 : ¬ v = 0 := by omega
            have hv4 : ((v : Int) == 0) = false := by simpa using hv3
            have bd1 : Below wr.heap.size wr (wr.alloc (.cells #[.int .u8 (i : Int)] 5)).drew := (fun h => ⟨h.os, h.tape, h.output, h.size, h.block⟩ : Below wr.heap.size wr (wr.alloc (.cells #[.int .u8 (i : Int)] 5)) → _) (below_alloc (Below.refl _ _) _)
            have BD1 := Aside0.mk bd1
            have hc1 : (wr.alloc (.cells #[.int .u8 (i : Int)] 5)).drew.cell? ⟨wr.heap.size, 0, none⟩ = some (.int .u8 (i : Int)) := (Boxed.new wr 5 (.int .u8 (i : Int))).cell
            have hconv := conv_ky (wr.alloc (.cells #[.int .u8 (i : Int)] 5)).drew hi64 wr.heap.size hc1
            clear bd1 hc1
            go_wp2
            go_region_law (first
              | (rw [if_pos (by rfl)]; go_simp; refine (take_any (HC.out.below BD1.out) (by simp only [maxLen]; omega) _ hwf (x := ky i) (by simp only [maxLen]; exact Nat.le_trans (show (ky i).size ≤ 1 from Nat.le_refl 1) (by decide))).mono ?_
                 rw [htk]; rintro e w5 ⟨rfl, hcl, hg⟩
                 have HC5 := Aside0.mk hcl; have HB5 := Aside0.mk ((HB.out.trans (BD1.out.mono HB.out.size)).grown hg (Nat.le_trans HB.out.size BD1.out.size) (fun k e => by cases e; exact hw1)); clear hcl hg))
            go_wp2
            go_roundg (gk - 1)
            case measure => omega
            case rel => exact ⟨v + 1, n2 + 1, by go_num, by omega, by omega, by omega, ⟨by rw [if_neg (by omega)]; exact HC5.out⟩, HB5⟩
        · have hvn : v = n := by omega
          rw [if_neg (by omega)] at HC
          clear hvl
          subst hvn
          go_wp2
          go_roundg (GK - 1)
          case measure => omega
          case rel => exact ⟨i + 1, n2, by go_num, by omega, by omega, by omega, HC, HB⟩
    · have hik : i = k := by omega
      have hni : ¬ (i : Int) < (k : Int) := by omega
      rw [hik] at HC
      have hnk : nn ≤ 1024 := by omega
      clear hik hi hkk hnn
      go_wp2
      go_loopg [10, 11] (k + 1) (fun kq v10 v11 wq => ∃ t : Nat, v11 = .int .i64 (t : Int) ∧ v10 = .int .i64 ((wantN n g t : Nat) : Int) ∧ t ≤ k ∧ k - t < kq ∧ Aside0 (ClaimAt wq (w1.heap.size + 1) w1.heap.size nn (manyC n k)) ∧ Aside0 (Below w.heap.size w wq))
      case atStart => exact ⟨0, rfl, rfl, Nat.zero_le _, by omega, HC, HB⟩
      case round =>
        clear HC HB
        obtain ⟨t, rfl, rfl, ht, hkt, HC, HB⟩ := hrel
        have hws := want_succ n g t
        have hwl := want_le n g t
        obtain ⟨u, hu⟩ : ∃ u, u = wantN n g t := ⟨_, rfl⟩
        rw [← hu] at hws hwl ⊢
        have HU := Aside0.mk hu
        have HWS := Aside0.mk hws
        clear hu hws
        have z2 : (0 : Int) ≤ (t : Int) := by omega
        by_cases htl : t < k
        · have z3 : (t : Int) < (k : Int) := by omega
          obtain ⟨r, hr⟩ : ∃ r, r = t % n := ⟨_, rfl⟩
          have hr2 : (t : Int) % (n : Int) = (r : Int) := by rw [hr]; simp
          have hr3 : Int.tmod (t : Int) (n : Int) = (r : Int) := by rw [Int.tmod_eq_emod_of_nonneg (by omega)]; exact hr2
          have HRR := Aside0.mk hr
          clear hr
          have wru : IntKind.i64.wrap ((u : Int) + 1) = (u : Int) + 1 := by rw [IntKind.wrap_i64]; omega
          by_cases hrg : r = g
          · have HW : Aside0 (wantN n g (t + 1) = u + 1) := ⟨by rw [HWS.out, ← HRR.out, if_pos hrg]⟩
            have hrb : ((r : Int) == (g : Int)) = true := by rw [hrg]; simp
            clear hrg
            go_wp2
            go_roundg (gk - 1)
            case measure => omega
            case rel => exact ⟨t + 1, by go_num, by rw [HW.out]; go_num, by omega, by omega, HC, HB⟩
          · have HW : Aside0 (wantN n g (t + 1) = u) := ⟨by rw [HWS.out, ← HRR.out, if_neg hrg]; rfl⟩
            have hri : ¬ (r : Int) = (g : Int) := by omega
            have hrb : ((r : Int) == (g : Int)) = false := beq_eq_false_iff_ne.2 hri
            go_wp2
            go_roundg (gk - 1)
            case measure => omega
            case rel => exact ⟨t + 1, by go_num, by rw [HW.out], by omega, by omega, HC, HB⟩
        · have htk : t = k := by omega
          have hnt : ¬ (t : Int) < (k : Int) := by omega
          rw [htk] at HU
          have hlo : (ofC (manyC n k) (g : Int)).length = u := by rw [of_length, many_of, HU.out]
          have hfl : (freeC (manyC n k) (g : Int)).length + u = k := by rw [HU.out]; exact free_len n g k
          have hle : ((freeC (manyC n k) (g : Int)).length : Int) = (k : Int) - (u : Int) := by omega
          have hln := len_any HC.out
          rw [many_len] at hln
          have hof := of_any HC.out (by omega) (g : Int)
          rw [hlo] at hof
          have HLN := Aside0.mk hln
          have HOF := Aside0.mk hof
          clear hln hof htk ht hkt htl
          go_wp2_with (first
            | (go_at_call 13; refine HLN.out.mono ?_; rintro e w4 ⟨rfl, rfl⟩; clear HLN)
            | (go_at_call 14; refine HOF.out.mono ?_; rintro e w5 ⟨A5, c5, rfl, _, hb⟩
               have HC5 := Aside0.mk (HC.out.below hb); have HB5 := Aside0.mk (HB.out.trans (hb.mono HB.out.size)); clear hb)
            | (go_at_call 11; refine (free_any HC5.out (by omega) (by rw [many_len]; omega) (g : Int)).mono ?_; rw [hlo]; rintro e w6 ⟨A6, c6, rfl, _, hcl, hg⟩
               have HC6 := Aside0.mk hcl; have HB6 := Aside0.mk (HB5.out.grown hg HB5.out.size (fun k e => by cases e; exact hw1)); clear hcl hg)
            | (go_at_call 13; refine (len_any HC6.out).mono ?_; rintro e w7 ⟨rfl, rfl⟩))
          clear HC HB HC5 HB5 HOF hlo hfl hle
          have hF := fun (q : Nat) (hq : q < k) => busy_many (g := g) (Nat.le_of_lt hk2) hq hn1
          have HF := Aside0.mk hF
          have HFO := Aside0.mk (of_free (manyC n k) (g : Int))
          have hFl : (freeC (manyC n k) (g : Int)).length ≤ 1000000 := by
            have := free_len n g k
            omega
          generalize freeC (manyC n k) (g : Int) = C6 at *
          clear hF
          go_loopg [12] (k + 1) (fun kq v12 wq => ∃ q : Nat, v12 = .int .i64 (q : Int) ∧ q ≤ k ∧ k - q < kq ∧ Aside0 (ClaimAt wq (w1.heap.size + 1) w1.heap.size nn C6) ∧ Aside0 (Below w.heap.size w wq))
          case atStart => exact ⟨0, rfl, Nat.zero_le _, by omega, HC6, HB6⟩
          case round =>
            clear HC6 HB6
            obtain ⟨q, rfl, hq, hkq, HC, HB⟩ := hrel
            have y0 : (0 : Int) ≤ (q : Int) := by omega
            by_cases hql : q < k
            · have y1 : (q : Int) < (k : Int) := by omega
              have hq64 : q < 64 := by omega
              obtain ⟨r, hr⟩ : ∃ r, r = q % n := ⟨_, rfl⟩
              have hr2 : (q : Int) % (n : Int) = (r : Int) := by rw [hr]; simp
              have hr3 : Int.tmod (q : Int) (n : Int) = (r : Int) := by rw [Int.tmod_eq_emod_of_nonneg (by omega)]; exact hr2
              have hbz := HF.out q hql
              rw [← hr] at hbz
              have wu8 : IntKind.u8.wrap (q : Int) = (q : Int) := by rw [IntKind.wrap_u8]; omega
              have hconv : ∀ (X : World) (bl : Nat), X.cell? ⟨bl, 0, none⟩ = some (.int .u8 (q : Int)) → (convert 39 9 (.slice (some ⟨bl, 0, none⟩) 1 1)).run Try.prog X = .ok (.string (ky q)) X := fun X bl h => conv_ky X hq64 bl h
              have hkz : (ky q).size ≤ maxLen := by simp only [maxLen]; exact Nat.le_trans (show (ky q).size ≤ 1 from Nat.le_refl 1) (by decide)
              clear hr
              have bdA : Aside0 (Below wr.heap.size wr wr.drew) := ⟨⟨rfl, rfl, rfl, Nat.le_refl _, fun _ _ => rfl⟩⟩
              have bdB : Aside0 (Below wr.heap.size wr (wr.alloc (.cells #[.int .u8 (q : Int)] 5)).drew) := ⟨(fun h => ⟨h.os, h.tape, h.output, h.size, h.block⟩ : Below wr.heap.size wr (wr.alloc (.cells #[.int .u8 (q : Int)] 5)) → _) (below_alloc (Below.refl _ _) _)⟩
              have HCB : Aside0 ((wr.alloc (.cells #[.int .u8 (q : Int)] 5)).drew.cell? ⟨wr.heap.size, 0, none⟩ = some (.int .u8 (q : Int))) := ⟨(Boxed.new wr 5 (.int .u8 (q : Int))).cell⟩
              have hrgc : r = g ∨ ¬ r = g := Decidable.em _
              rcases hrgc with hrg | hrg
              · have hb0 : busyC C6 (n : Int) (ky q) = false := by rw [hbz, hrg]; simp
                have hrb : ((r : Int) == (g : Int)) = true := by rw [hrg]; simp
                clear hrg hbz
                go_wp2
                go_region_law (first
                  | (rw [if_pos (by rfl)]; go_simp; refine (busy_made _ _ _).mono ?_; rintro e w8 ⟨rfl, b1, b2, hb⟩; have HC8 := Aside0.mk ((HC.out.below bdA.out).below hb); have HB8 := Aside0.mk ((HB.out.trans (bdA.out.mono HB.out.size)).trans (hb.mono (Nat.le_trans HB.out.size bdA.out.size))); clear hb)
                  | (rw [if_pos (by rfl)]; go_simp; refine (busy_made _ _ _).mono ?_; rintro e w8 ⟨rfl, b1, b2, hb⟩; have HC8 := Aside0.mk ((HC.out.below bdB.out).below hb); have HB8 := Aside0.mk ((HB.out.trans (bdB.out.mono HB.out.size)).trans (hb.mono (Nat.le_trans HB.out.size bdB.out.size))); have b3 := up hb HCB.out; rw [show (wr.alloc (.cells #[.int .u8 (q : Int)] 5)).drew.heap.size = wr.heap.size + 1 from World.size_alloc _ _] at b1 b2; clear hb)
                  | (rw [if_pos (by rfl)]; go_simp; refine (busy1_any (C := C6) (n := nn) (b := w1.heap.size) (p := w1.heap.size + 1) ?_ _ _ (n : Int) hkz ?_ ?_).mono ?_
                     · first | with_reducible exact HC8.out | exact HC8.out.below (below_alloc (Below.refl _ _) _)
                     · first | with_reducible exact b1 | exact up (below_alloc (Below.refl _ _) _) b1
                     · first | with_reducible exact b2 | exact up (below_alloc (Below.refl _ _) _) b2
                     rw [hb0]; rintro e w10 ⟨rfl, hw10⟩; have HW10 := Aside0.mk hw10; clear hw10))
                all_goals
                  have HC10 : Aside0 (ClaimAt w10 (w1.heap.size + 1) w1.heap.size nn C6) := ⟨by rw [HW10.out]; first | with_reducible exact HC8.out | exact HC8.out.below (below_alloc (Below.refl _ _) _)⟩
                  have HB10 : Aside0 (Below w.heap.size w w10) := ⟨by rw [HW10.out]; first | with_reducible exact HB8.out | exact HB8.out.alloc HB8.out.size _⟩
                  clear HW10
                  go_wp2
                  go_roundg (gk - 1)
                  case measure => omega
                  case rel => exact ⟨q + 1, by go_num, by omega, by omega, HC10, HB10⟩
              · have hb0 : busyC C6 (n : Int) (ky q) = true := by rw [hbz]; simp [hrg]
                have hri : ¬ (r : Int) = (g : Int) := by omega
                have hrb : ((r : Int) == (g : Int)) = false := beq_eq_false_iff_ne.2 hri
                clear hbz
                go_wp2
                go_region_law (first
                  | (rw [if_pos (by rfl)]; go_simp; refine (busy_made _ _ _).mono ?_; rintro e w8 ⟨rfl, b1, b2, hb⟩; have HC8 := Aside0.mk ((HC.out.below bdA.out).below hb); have HB8 := Aside0.mk ((HB.out.trans (bdA.out.mono HB.out.size)).trans (hb.mono (Nat.le_trans HB.out.size bdA.out.size))); clear hb)
                  | (rw [if_pos (by rfl)]; go_simp; refine (busy_made _ _ _).mono ?_; rintro e w8 ⟨rfl, b1, b2, hb⟩; have HC8 := Aside0.mk ((HC.out.below bdB.out).below hb); have HB8 := Aside0.mk ((HB.out.trans (bdB.out.mono HB.out.size)).trans (hb.mono (Nat.le_trans HB.out.size bdB.out.size))); have b3 := up hb HCB.out; rw [show (wr.alloc (.cells #[.int .u8 (q : Int)] 5)).drew.heap.size = wr.heap.size + 1 from World.size_alloc _ _] at b1 b2; clear hb)
                  | (rw [if_pos (by rfl)]; go_simp; refine (busy1_any (C := C6) (n := nn) (b := w1.heap.size) (p := w1.heap.size + 1) ?_ _ _ (n : Int) hkz ?_ ?_).mono ?_
                     · first | with_reducible exact HC8.out | exact HC8.out.below (below_alloc (Below.refl _ _) _)
                     · first | with_reducible exact b1 | exact up (below_alloc (Below.refl _ _) _) b1
                     · first | with_reducible exact b2 | exact up (below_alloc (Below.refl _ _) _) b2
                     rw [hb0]; rintro e w10 ⟨rfl, hw10⟩; have HW10 := Aside0.mk hw10; clear hw10))
                all_goals
                  have HC10 : Aside0 (ClaimAt w10 (w1.heap.size + 1) w1.heap.size nn C6) := ⟨by rw [HW10.out]; first | with_reducible exact HC8.out | exact HC8.out.below (below_alloc (Below.refl _ _) _)⟩
                  have HB10 : Aside0 (Below w.heap.size w w10) := ⟨by rw [HW10.out]; first | with_reducible exact HB8.out | exact HB8.out.alloc HB8.out.size _⟩
                  clear HW10
                  go_wp2
                  go_roundg (gk - 1)
                  case measure => omega
                  case rel => exact ⟨q + 1, by go_num, by omega, by omega, HC10, HB10⟩
            · have hqk : q = k := by omega
              have hnq : ¬ (q : Int) < (k : Int) := by omega
              have hfr := free_any HC.out (by omega) hFl (g : Int)
              rw [HFO.out] at hfr
              have HFR := Aside0.mk hfr
              clear hfr hqk hq hkq hql
              go_wp2_with (first
                | (go_at_call 11; refine HFR.out.mono ?_; rintro e w9 ⟨A9, c9, rfl, _, hcl, hg⟩; have HB9 := Aside0.mk (HB.out.grown hg HB.out.size (fun k e => by cases e; exact hw1)); clear hcl hg))
              go_ret
              exact ⟨by simp, HB9.out⟩
end Go.Proofs.Ytpfpejkndjdgkaa.Q
