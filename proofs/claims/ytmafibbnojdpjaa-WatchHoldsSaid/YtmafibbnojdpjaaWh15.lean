/- Lemmas that the proof needs, part 15. -/
import Derived.Test.YtmafibbnojdpjaaWWords
import Derived.Test.YtmafibbnojdpjaaWKept
import Derived.Deep.RegionHeld3
import Derived.Test.YtmafibbnojdpjaaWh1
import Derived.Test.YtmafibbnojdpjaaWh2
import Derived.Test.YtmafibbnojdpjaaWh3
import Derived.Test.YtmafibbnojdpjaaWh4
import Derived.Test.YtmafibbnojdpjaaWh5
import Derived.Test.YtmafibbnojdpjaaWh6
import Derived.Test.YtmafibbnojdpjaaWh7
import Derived.Test.YtmafibbnojdpjaaWh8
import Derived.Test.YtmafibbnojdpjaaWh9
import Derived.Test.YtmafibbnojdpjaaWh10
import Derived.Test.YtmafibbnojdpjaaWh11
import Derived.Test.YtmafibbnojdpjaaWh12
import Derived.Test.YtmafibbnojdpjaaWh13
import Derived.Test.YtmafibbnojdpjaaWh14
section
set_option linter.unusedVariables false
set_option maxRecDepth 100000
set_option linter.unusedSimpArgs false
namespace Go.Proofs.Ytmafibbnojdpjaa.St
open Go.Proofs.Ytmafibbnojdpjaa.Tr Go.RowKit Go.Proofs.YtmafibbnojdpjaaW.PrintWords Go.Proofs.YtmafibbnojdpjaaW.PrintLast Go.Proofs.YtmafibbnojdpjaaW.PrintMore Go.Proofs.Ytmafibbnojdpjaa.P Go.Proofs.Ytmafibbnojdpjaa.Mv
theorem and_127 (n : Int) : bits .and .i64 n 127 = n % 128 := by
  rw [Tr.low_bits n 127 7 (by decide), IntKind.wrap_i64]; omega
/-- the marks 0, 1, .. under the numbers 1, 2, .. -/
def hC (i : Nat) : List (Int × Int) := (List.range i).map fun j : Nat => ((j : Int) + 1, (j : Int))
theorem hC_succ (i : Nat) : hC (i + 1) = hC i ++ [((i : Int) + 1, (i : Int))] := by
  unfold hC
  rw [List.range_succ, List.map_append]
  rfl
theorem hC_len (i : Nat) : (hC i).length = i := by simp [hC]
theorem hC_mem {i : Nat} {a : Int × Int} : a ∈ hC i ↔ 0 ≤ a.2 ∧ a.2 < i ∧ a.1 = a.2 + 1 := by
  unfold hC
  rw [List.mem_map]
  constructor
  · rintro ⟨j, hj, rfl⟩
    rw [List.mem_range] at hj
    exact ⟨by show (0 : Int) ≤ (j : Int); omega, by show (j : Int) < i; omega, rfl⟩
  · rintro ⟨h1, h2, h3⟩
    exact ⟨a.2.toNat, by rw [List.mem_range]; omega, Prod.ext (by show ((a.2.toNat : Int)) + 1 = a.1; omega) (by show ((a.2.toNat : Int)) = a.2; omega)⟩
theorem put_hC (i : Nat) : putC (hC i) ((i : Int) + 1) (i : Int) = hC (i + 1) := by
  rw [hC_succ]
  unfold putC
  congr 1
  refine List.filter_eq_self.2 (fun a ha => ?_)
  have := hC_mem.1 ha
  rw [decide_eq_true_eq]
  omega
theorem least_iff {C : List (Int × Int)} {x y : Int} (h1 : ∀ a ∈ C, y ≤ a.2) (h2 : y ≤ x) (h3 : y = x ∨ ∃ a ∈ C, a.2 = y) : leastC C x = y := by
  induction C generalizing x with
  | nil =>
    rcases h3 with h | ⟨a, ha, _⟩
    · exact h.symm
    · cases ha
  | cons b C ih =>
    show leastC C (mnI x b.2) = y
    have hb := h1 b (List.mem_cons_self ..)
    refine ih (fun a ha => h1 a (List.mem_cons_of_mem _ ha)) (by unfold mnI; split <;> omega) ?_
    rcases h3 with h | ⟨a, ha, h⟩
    · exact .inl (by unfold mnI; split <;> omega)
    · rcases List.mem_cons.1 ha with rfl | ha
      · by_cases hx : y = x
        · exact .inl (by unfold mnI; split <;> omega)
        · exact .inl (by unfold mnI; split <;> omega)
      · exact .inr ⟨a, ha, h⟩
def wantH (c D : Nat) : Int := if c = 1 then 1000 else if D = 1 then 1 else 0
theorem least_hC {c D : Nat} (hc : 1 ≤ c) (hc2 : c ≤ 64) (hD : 1 ≤ D) (hD2 : D ≤ c) : leastC (putC (delC (hC c) (D : Int)) ((c : Int) + 1) 1000) 5000 = wantH c D := by
  have hmem : ∀ a : Int × Int, a ∈ putC (delC (hC c) (D : Int)) ((c : Int) + 1) 1000 ↔ (a ∈ hC c ∧ a.1 ≠ D) ∨ a = ((c : Int) + 1, 1000) := by
    intro a
    unfold putC delC
    rw [List.mem_append, List.mem_filter, List.mem_filter, List.mem_singleton]
    simp only [decide_eq_true_eq]
    constructor
    · rintro (⟨h, _⟩ | h)
      · exact .inl h
      · exact .inr h
    · rintro (⟨h1, h2⟩ | h)
      · have := hC_mem.1 h1
        exact .inl ⟨⟨h1, h2⟩, by omega⟩
      · exact .inr h
  unfold wantH
  refine least_iff (fun a ha => ?_) ?_ (.inr ?_)
  · rcases (hmem a).1 ha with ⟨h1, h2⟩ | rfl
    · have := hC_mem.1 h1
      split
      · omega
      · split <;> omega
    · show _ ≤ (1000 : Int)
      split
      · omega
      · split <;> omega
  · split
    · omega
    · split <;> omega
  · by_cases h1 : c = 1
    · rw [if_pos h1]
      exact ⟨((c : Int) + 1, 1000), (hmem _).2 (.inr rfl), rfl⟩
    · rw [if_neg h1]
      by_cases h2 : D = 1
      · rw [if_pos h2]
        exact ⟨(2, 1), (hmem _).2 (.inl ⟨hC_mem.2 ⟨by decide, by show (1 : Int) < c; omega, rfl⟩, by show (2 : Int) ≠ D; omega⟩), rfl⟩
      · rw [if_neg h2]
        exact ⟨(1, 0), (hmem _).2 (.inl ⟨hC_mem.2 ⟨by decide, by show (0 : Int) < c; omega, rfl⟩, by show (1 : Int) ≠ D; omega⟩), rfl⟩
theorem del_hC_len {c D : Nat} (hD : 1 ≤ D) (hD2 : D ≤ c) (h : NdC (hC c)) : (delC (hC c) (D : Int)).length + 1 = c := by
  have h1 := len_del h (D : Int)
  rw [hC_len] at h1
  have h2 : (findC (hC c) (D : Int)).isSome = true := find_some (a := ((D : Int), (D : Int) - 1)) (hC_mem.2 ⟨by show (0 : Int) ≤ D - 1; omega, by show (D : Int) - 1 < c; omega, by show (D : Int) = D - 1 + 1; omega⟩)
  rw [h2, if_pos rfl] at h1
  exact h1
theorem below_fr {G : Nat → Prop} {w a b : World} (h : Below w.heap.size w a) (hf : Fr G a b) (hG : ∀ k, G k → w.heap.size ≤ k) : Below w.heap.size w b := fr_below hG h hf
/-- Hold at the marks 0 .. i - 1 -/
theorem hold_hC {w : World} {p b n i : Nat} (h : MarksAt w p b n (hC (min i 64)) (min i 64 : Nat)) (hn : n < 1000000) :
    Calls Try.prog 27 #[.pointer (some ⟨p, 0, none⟩), .int .i64 (i : Int)] w fun e w' => e = .returned (.tuple #[.int .i64 (if i < 64 then (i : Int) + 1 else 0), .int .i64 (if i < 64 then 0 else 4)]) ∧ MarksAt w' p b (n + 1) (hC (min (i + 1) 64)) (min (i + 1) 64 : Nat) ∧ Fr (two p b) w w' := by
  refine (marks_hold h hn (i : Int) (by omega) (by omega)).mono ?_
  rintro e w' ⟨rfl, h1, h2⟩
  unfold holdN holdE holdC holdX at *
  rw [hC_len] at h1 ⊢
  by_cases hi : i < 64
  · rw [if_neg (by omega), if_neg (by omega), show min i 64 = i by omega, put_hC] at h1
    rw [if_neg (by omega), if_neg (by omega), if_pos hi, if_pos hi, show min i 64 = i by omega, show min (i + 1) 64 = i + 1 by omega]
    exact ⟨rfl, h1, h2⟩
  · rw [if_pos (by omega), if_pos (by omega), show min i 64 = 64 by omega] at h1
    rw [if_pos (by omega), if_pos (by omega), if_neg hi, if_neg hi, show min (i + 1) 64 = 64 by omega]
    exact ⟨rfl, h1, h2⟩
set_option maxHeartbeats 8000000 in
theorem holds_walk (n drop : Int) (w : World) : Calls Try.prog 4 #[.int .i64 n, .int .i64 drop] w fun e w' => e = .returned (.bool true) ∧ Below w.heap.size w w' := by
  obtain ⟨N, hN⟩ : ∃ N : Nat, n % 128 = (N : Int) := ⟨(n % 128).toNat, by omega⟩
  obtain ⟨D0, hD0⟩ : ∃ D0 : Nat, drop % 64 = (D0 : Int) := ⟨(drop % 64).toNat, by omega⟩
  have m1 : bits .and .i64 n 127 = (N : Int) := (and_127 n).trans hN
  have m2 : bits .and .i64 drop 63 = (D0 : Int) := (Tr.and_63 drop).trans hD0
  have hN2 : N < 128 := by omega
  have hD2 : D0 < 64 := by omega
  clear hN hD0
  have HHD := Aside0.mk (head17_any w)
  go_enter Try.func4, Try.ntmps4
  go_wp2_with (first
    | (go_at_call 25; refine HHD.out.mono ?_; rintro e w1 ⟨rfl, hb⟩; have HB1 := Aside0.mk hb; clear hb)
    | (go_at_call 26; refine (marks_new _).mono ?_; rintro e w2 ⟨rfl, hm, hb⟩; have HM2 := Aside0.mk hm; have HB2 := Aside0.mk (below_step HB1.out hb); clear hm hb))
  have hs1 := HB1.out.size
  clear HHD HB1
  generalize w1.heap.size = b at *
  go_loopg [6] (N + 1) (fun kq v6 wq => ∃ i : Nat, v6 = .int .i64 (i : Int) ∧ i ≤ N ∧ N - i < kq ∧ Aside0 (MarksAt wq (b + 1) b i (hC (min i 64)) (min i 64 : Nat)) ∧ Aside0 (Below w.heap.size w wq))
  case atStart => exact ⟨0, rfl, Nat.zero_le _, by omega, HM2, HB2⟩
  case round =>
    clear HM2 HB2
    obtain ⟨i, rfl, hi, hk, HM, HB⟩ := hrel
    by_cases hlt : i < N
    · have z1 : (i : Int) < (N : Int) := by omega
      have HO := Aside0.mk (hold_hC HM.out (by omega))
      by_cases h64 : i < 64
      · rw [if_pos h64, if_pos h64] at HO
        have d1 : decide ((i : Int) < 64) = true := decide_eq_true (by omega)
        have d2 : ((i : Int) + 1 != (i : Int) + 1) = false := by simp
        have d3 : decide ((64 : Int) ≤ (i : Int)) = false := decide_eq_false (by omega)
        go_wp2_with (go_at_call 27; refine HO.out.mono ?_; rintro e w3 ⟨rfl, hm, hf⟩; have HM3 := Aside0.mk hm; have HB3 := Aside0.mk (below_fr HB.out hf (fun k hk => by rcases hk with rfl | rfl <;> omega)); clear hm hf)
        go_roundg (gk - 1)
        case measure => omega
        case rel => exact ⟨i + 1, by go_num, by omega, by omega, HM3, HB3⟩
      · rw [if_neg h64, if_neg h64] at HO
        have d1 : decide ((i : Int) < 64) = false := decide_eq_false (by omega)
        have d3 : decide ((64 : Int) ≤ (i : Int)) = true := decide_eq_true (by omega)
        go_wp2_with (go_at_call 27; refine HO.out.mono ?_; rintro e w3 ⟨rfl, hm, hf⟩; have HM3 := Aside0.mk hm; have HB3 := Aside0.mk (below_fr HB.out hf (fun k hk => by rcases hk with rfl | rfl <;> omega)); clear hm hf)
        go_roundg (gk - 1)
        case measure => omega
        case rel => exact ⟨i + 1, by go_num, by omega, by omega, HM3, HB3⟩
    · obtain rfl : i = N := by omega
      by_cases h0 : i = 0
      · subst h0
        have HO : Aside0 (Calls Try.prog 28 #[.pointer (some ⟨b + 1, 0, none⟩), .int .i64 5] wr fun e w' => e = .returned (.int .i64 5) ∧ Below wr.heap.size wr w') := ⟨marks_least HM.out 5⟩
        clear m1
        go_wp2_with (go_at_call 28; refine HO.out.mono ?_; rintro e w3 ⟨rfl, hb⟩; have HB3 := Aside0.mk (below_step HB.out hb); clear hb)
        go_ret
        exact ⟨rfl, HB3.out⟩
      · obtain ⟨c, hc⟩ : ∃ c, c = min i 64 := ⟨_, rfl⟩
        have hc1 : 1 ≤ c := by omega
        have hc2 : c ≤ 64 := by omega
        rw [← hc] at HM
        have hmin : ∀ (ats : Array TypeId) (ty : TypeId) (wx : World), (Builtin.min_ ats ty #[.int .i64 (i : Int), .int .i64 64]).run Try.prog wx = .ok (.int .i64 (c : Int)) wx := fun ats ty wx => by
          rw [run_min]
          have : mnI (i : Int) 64 = (c : Int) := by unfold mnI; split <;> omega
          rw [this]
        have d0 : ((i : Int) == 0) = false := beq_eq_false_iff_ne.2 (by omega)
        obtain ⟨D, hD⟩ : ∃ D : Nat, D = D0 % c + 1 := ⟨_, rfl⟩
        have hDc : D0 % c < c := Nat.mod_lt _ hc1
        have E7 : Aside0 (wrap64 (1 + (D0 : Int) % (c : Int)) = (D : Int)) := ⟨by
          rw [w64 (by omega) (by omega), hD]
          omega⟩
        have hD1 : 1 ≤ D := by omega
        have hD3 : D ≤ c := by omega
        have HDR : Aside0 (Calls Try.prog 29 #[.pointer (some ⟨b + 1, 0, none⟩), .int .i64 (D : Int)] wr fun e w' => e = .returned (.int .i64 0) ∧ MarksAt w' (b + 1) b i (delC (hC c) (D : Int)) (c : Int) ∧ Fr (two (b + 1) b) wr w') := ⟨by
          have h := marks_drop HM.out (x := (D : Int)) (WalkArith.wf_i64 ⟨by omega, by omega⟩)
          have h2 : (findC (hC c) (D : Int)).isSome = true := find_some (a := ((D : Int), (D : Int) - 1)) (hC_mem.2 ⟨by show (0 : Int) ≤ D - 1; omega, by show (D : Int) - 1 < c; omega, by show (D : Int) = D - 1 + 1; omega⟩)
          unfold dropE at h
          rw [h2] at h
          exact h⟩
        have hlen := del_hC_len hD1 hD3 HM.out.map.nd
        have HHO : Aside0 (∀ W, MarksAt W (b + 1) b i (delC (hC c) (D : Int)) (c : Int) → Calls Try.prog 27 #[.pointer (some ⟨b + 1, 0, none⟩), .int .i64 1000] W fun e w' => e = .returned (.tuple #[.int .i64 ((c : Int) + 1), .int .i64 0]) ∧ MarksAt w' (b + 1) b (i + 1) (putC (delC (hC c) (D : Int)) ((c : Int) + 1) 1000) ((c : Int) + 1) ∧ Fr (two (b + 1) b) W w') := ⟨fun W hW => by
          have h := marks_hold hW (by omega) 1000 (by omega) (by omega)
          unfold holdN holdE holdC holdX at h
          rw [if_neg (by omega), if_neg (by omega), if_neg (by omega), if_neg (by omega)] at h
          exact h⟩
        have HLE : Aside0 (∀ W, MarksAt W (b + 1) b (i + 1) (putC (delC (hC c) (D : Int)) ((c : Int) + 1) 1000) ((c : Int) + 1) → Calls Try.prog 28 #[.pointer (some ⟨b + 1, 0, none⟩), .int .i64 5000] W fun e w' => e = .returned (.int .i64 (wantH c D)) ∧ Below W.heap.size W w') := ⟨fun W hW => by
          have h := marks_least hW 5000
          rw [least_hC hc1 hc2 hD1 hD3] at h
          exact h⟩
        have E8 : Aside0 (wrap64 ((c : Int) + 1) = (c : Int) + 1) := ⟨w64 (by omega) (by omega)⟩
        have HTW : Aside0 (∀ k, two (b + 1) b k → w.heap.size ≤ k) := ⟨fun k hk => by rcases hk with rfl | rfl <;> omega⟩
        clear m1 hc hlt hk hD hlen hDc
        unfold wantH at HLE
        by_cases hcc : c = 1
        · rw [if_pos hcc] at HLE
          obtain rfl : D = 1 := by omega
          subst hcc
          clear E8
          have e7 := E7.out
          go_wp2_with (first
            | (go_at_call 29; refine HDR.out.mono ?_; rintro e w3 ⟨rfl, hm, hf⟩; have HM3 := Aside0.mk hm; have HB3 := Aside0.mk (below_fr HB.out hf HTW.out); clear hm hf)
            | (go_at_call 27; refine (HHO.out _ HM3.out).mono ?_; rintro e w4 ⟨rfl, hm, hf⟩; have HM4 := Aside0.mk hm; have HB4 := Aside0.mk (below_fr HB3.out hf HTW.out); clear hm hf)
            | (go_at_call 28; refine (HLE.out _ HM4.out).mono ?_; rintro e w5 ⟨rfl, hb⟩; have HB5 := Aside0.mk (below_step HB4.out hb); clear hb))
          go_ret
          exact ⟨by simp, HB5.out⟩
        · rw [if_neg hcc] at HLE
          have dB : ((c : Int) == 1) = false := beq_eq_false_iff_ne.2 (by omega)
          by_cases hdd : D = 1
          · rw [if_pos hdd] at HLE
            subst hdd
            clear hcc
            have e7 := E7.out
            have e8 := E8.out
            go_wp2_with (first
              | (go_at_call 29; refine HDR.out.mono ?_; rintro e w3 ⟨rfl, hm, hf⟩; have HM3 := Aside0.mk hm; have HB3 := Aside0.mk (below_fr HB.out hf HTW.out); clear hm hf)
              | (go_at_call 27; refine (HHO.out _ HM3.out).mono ?_; rintro e w4 ⟨rfl, hm, hf⟩; have HM4 := Aside0.mk hm; have HB4 := Aside0.mk (below_fr HB3.out hf HTW.out); clear hm hf)
              | (go_at_call 28; refine (HLE.out _ HM4.out).mono ?_; rintro e w5 ⟨rfl, hb⟩; have HB5 := Aside0.mk (below_step HB4.out hb); clear hb))
            go_ret
            exact ⟨by simp, HB5.out⟩
          · rw [if_neg hdd] at HLE
            have dA : ((D : Int) == 1) = false := beq_eq_false_iff_ne.2 (by omega)
            clear hcc hdd
            have e7 := E7.out
            have e8 := E8.out
            go_wp2_with (first
              | (go_at_call 29; refine HDR.out.mono ?_; rintro e w3 ⟨rfl, hm, hf⟩; have HM3 := Aside0.mk hm; have HB3 := Aside0.mk (below_fr HB.out hf HTW.out); clear hm hf)
              | (go_at_call 27; refine (HHO.out _ HM3.out).mono ?_; rintro e w4 ⟨rfl, hm, hf⟩; have HM4 := Aside0.mk hm; have HB4 := Aside0.mk (below_fr HB3.out hf HTW.out); clear hm hf)
              | (go_at_call 28; refine (HLE.out _ HM4.out).mono ?_; rintro e w5 ⟨rfl, hb⟩; have HB5 := Aside0.mk (below_step HB4.out hb); clear hb))
            go_ret
            exact ⟨by simp, HB5.out⟩
theorem watchHolds_walk (n drop : Int) (w : World) (_ : (Lit.int .i64 n).wf = true) (_ : (Lit.int .i64 drop).wf = true) : Calls Try.prog 4 #[.int .i64 n, .int .i64 drop] w fun e w' => e = .returned (.bool true) ∧ Below w.heap.size w w' := holds_walk n drop w
end Go.Proofs.Ytmafibbnojdpjaa.St
end
