/- Lemmas that the proof needs, part 12. -/
import Derived.Test.YtmafibbnojdpjaaWWords
import Derived.Test.YtmafibbnojdpjaaWKept
import Derived.Deep.RegionHeld3
import Derived.Test.YtmafibbnojdpjaaTi1
import Derived.Test.YtmafibbnojdpjaaTi2
import Derived.Test.YtmafibbnojdpjaaTi3
import Derived.Test.YtmafibbnojdpjaaTi4
import Derived.Test.YtmafibbnojdpjaaTi5
import Derived.Test.YtmafibbnojdpjaaTi6
import Derived.Test.YtmafibbnojdpjaaTi7
import Derived.Test.YtmafibbnojdpjaaTi8
import Derived.Test.YtmafibbnojdpjaaTi9
import Derived.Test.YtmafibbnojdpjaaTi10
import Derived.Test.YtmafibbnojdpjaaTi11
section
set_option linter.unusedVariables false
set_option maxRecDepth 100000
set_option linter.unusedSimpArgs false
namespace Go.Proofs.Ytmafibbnojdpjaa.St
open Go.Proofs.Ytmafibbnojdpjaa.Tr Go.RowKit Go.Proofs.YtmafibbnojdpjaaW.PrintWords Go.Proofs.YtmafibbnojdpjaaW.PrintLast Go.Proofs.YtmafibbnojdpjaaW.PrintMore Go.Proofs.Ytmafibbnojdpjaa.P
/-- a row of one write, as it is made -/
theorem one_w {W : World} {b : Nat} (x : Wr) (hh : W.heap[b]? = some (.cells #[.string x.f0, .string x.f1, .bool x.f2] 31 (0, 0))) : Kd.C k31 W (some ⟨b, 0, none⟩) 1 [x] := by
  have h : Kd.R k31 31 W 0 (fun _ => True) (.slice (some ⟨b, 0, none⟩) 1 1) [x] := by
    refine ⟨fun _ _ => trivial, [.string x.f0, .string x.f1, .bool x.f2], ⟨rfl, .inr ⟨b, 1, _, rfl, Nat.zero_le _, hh, Nat.le_refl _, by simp [maxLen], rfl, rfl⟩⟩, ?_⟩
    exact (Reps.none (k31.M W 0 (fun k => True ∧ some k ≠ (Value.slice (some ⟨b, 0, none⟩) 1 1).ownBlock)) 3).snoc (k31_mkM W 0 _ x) rfl
  exact (Kd.R_reads' h).2.2
def hc1 : Cm := ⟨1, 0, [⟨⟨#[97]⟩, ⟨#[]⟩, false⟩]⟩
def hc2 : Cm := ⟨2, 0, [⟨⟨#[98]⟩, ⟨#[]⟩, false⟩]⟩
def hM0 : StM := newM 0 []
def hM1 : StM := comM hM0 hc1
def hM2 : StM := comM hM1 hc2
theorem hN0 : newOk 0 [] = true := by decide +kernel
theorem hG1 : goodC hM0 hc1 = true := by decide +kernel
theorem hI0 : Inv hM0 := inv_new hN0
theorem hI1 : Inv hM1 := inv_com hI0 hG1
theorem hL0 : hM0.hist.length ≤ 1000000 ∧ hM0.K.length ≤ 1000000 := by decide +kernel
theorem hW2 : ∀ c ∈ hM2.hist, c.f2.length ≤ 200 := by
  intro c hc
  have : c = hc1 ∨ c = hc2 := by
    have e : hM2.hist = [hc1, hc2] := rfl
    rw [e] at hc
    simpa using hc
  rcases this with rfl | rfl <;> decide
end Go.Proofs.Ytmafibbnojdpjaa.St
end
section
set_option linter.unusedVariables false
set_option maxRecDepth 100000
set_option linter.unusedSimpArgs false
namespace Go.Proofs.Ytmafibbnojdpjaa.St
open Go.Proofs.Ytmafibbnojdpjaa.Tr Go.RowKit Go.Proofs.YtmafibbnojdpjaaW.PrintWords Go.Proofs.YtmafibbnojdpjaaW.PrintLast Go.Proofs.YtmafibbnojdpjaaW.PrintMore Go.Proofs.Ytmafibbnojdpjaa.P
/-- a store of empty commits: n of them, the last one at 'last' -/
structure TmI (M : StM) (n : Nat) (last : Int) : Prop where
  inv : Inv M
  low : M.low = 0
  len : M.hist.length = n
  K : M.K = []
  at' : n = 0 ∨ lastAt M.hist = last
def tmGood (n : Nat) (last a : Int) : Bool := decide (0 ≤ a) && decide (a ≤ maxSeq) && (decide (n = 0) || decide (last ≤ a))
theorem TmI.lastM {M : StM} {n : Nat} {last : Int} (h : TmI M n last) : lastM M = (n : Int) := by
  unfold St.lastM
  rw [h.low, h.len]
  omega
theorem tm_good {M : StM} {n : Nat} {last : Int} (h : TmI M n last) (hn : n ≤ 1000) (a : Int) : goodC M ⟨(n : Int) + 1, a, []⟩ = tmGood n last a := by
  have hm : (n : Int) + 1 ≤ maxSeq := by unfold maxSeq; omega
  have hr : rightW [] = true := by decide +kernel
  rw [Bool.eq_iff_iff, goodC_iff, h.lastM]
  unfold tmGood
  simp only [Bool.and_eq_true, Bool.or_eq_true, decide_eq_true_eq]
  rw [h.len]
  constructor
  · rintro ⟨_, _, h1, h2, _, h3⟩
    refine ⟨⟨h1, h2⟩, ?_⟩
    rcases h.at' with h4 | h4
    · exact .inl h4
    · rw [h4] at h3; exact h3
  · rintro ⟨⟨h1, h2⟩, h3⟩
    refine ⟨by trivial, hm, h1, h2, hr, ?_⟩
    rcases h.at' with h4 | h4
    · exact .inl h4
    · rw [h4]; exact h3
theorem tm_step {M : StM} {n : Nat} {last : Int} (h : TmI M n last) (hn : n ≤ 1000) {a : Int} (hg : tmGood n last a = true) : TmI (comM M ⟨(n : Int) + 1, a, []⟩) (n + 1) a := by
  rw [← tm_good h hn] at hg
  refine ⟨inv_com h.inv hg, h.low, by simp [comM, h.len], h.K, .inr ?_⟩
  simp [comM, lastAt]
theorem tm_start : TmI hM0 0 0 := ⟨hI0, rfl, rfl, rfl, .inl rfl⟩
set_option maxHeartbeats 4000000 in
theorem times_big (HD : ∀ w, Calls Try.prog 34 #[] w fun e w' => e = .returned (.bool true) ∧ Below w.heap.size w w') (l : List Int) (A : Option Addr) (c : Nat) (w : World) (hn : ¬ l.length ≤ 40) :
    Calls Try.prog 7 #[.slice A l.length c] w fun e w' => e = .returned (.bool true) ∧ Below w.heap.size w w' := by
  have n1 : (40 : Int) < (l.length : Int) := by omega
  have HHD := Aside0.mk (HD w)
  go_enter Try.func7, Try.ntmps7
  go_wp2_with (first
    | (go_at_call 34; refine HHD.out.mono ?_; rintro e w1 ⟨rfl, hb⟩; have HB1 := Aside0.mk hb; clear hb))
  go_ret
  exact ⟨rfl, HB1.out⟩
set_option maxHeartbeats 8000000 in
theorem times_in (HD : ∀ w, Calls Try.prog 34 #[] w fun e w' => e = .returned (.bool true) ∧ Below w.heap.size w w') (l : List Int) (A : Option Addr) (c : Nat) (w : World) (hC : (Kd.int .i64).C w A l.length l) (hn : l.length ≤ 40) :
    Calls Try.prog 7 #[.slice A l.length c] w fun e w' => e = .returned (.bool true) ∧ Below w.heap.size w w' := by
  have n1 : ¬ (40 : Int) < (l.length : Int) := by omega
  have HHD := Aside0.mk (HD w)
  have HC := Aside0.mk hC
  have HNW : Aside0 (∀ W, Calls Try.prog 35 #[.int .i64 0, .slice none 0 0] W (newPost W 0 [])) := ⟨fun W => new_any 0 [] none 0 W (Kd.C_nil _ _) (Nat.le_refl _) (by decide)⟩
  clear hC HD
  go_enter Try.func7, Try.ntmps7
  go_wp2_with (first
    | (go_at_call 34; refine HHD.out.mono ?_; rintro e w1 ⟨rfl, hb⟩; have HB1 := Aside0.mk hb; clear hb)
    | (go_at_call 35; refine (HNW.out _).mono ?_; rintro e w2 ⟨hb, _, h1⟩; obtain ⟨s, rfl, hs⟩ := h1 hN0
       have HB2 := Aside0.mk (below_step HB1.out hb)
       have HS2 : Aside0 (StoreAt (fun k => w.heap.size ≤ k) w2 s hM0) := ⟨hs.turn (fun k _ h => Nat.le_trans HB1.out.size h)⟩
       clear hb h1 hs))
  clear HB1 HNW HHD
  go_loopg [24, 5, 6] (l.length + 1) (fun kq v24 v5 v6 wq => ∃ (i n : Nat) (last : Int) (M : StM), v24 = .int .i64 (i : Int) ∧ v5 = .int .i64 last ∧ v6 = .int .i64 (n : Int) ∧ i ≤ l.length ∧ n ≤ i ∧ l.length - i < kq ∧ Aside0 (TmI M n last) ∧ Aside0 (StoreAt (fun k => w.heap.size ≤ k) wq s M) ∧ Aside0 (Below w.heap.size w wq))
  case atStart => exact ⟨0, 0, 0, hM0, rfl, rfl, rfl, Nat.zero_le _, Nat.le_refl _, by omega, ⟨tm_start⟩, HS2, HB2⟩
  case round =>
    clear HS2 HB2
    obtain ⟨i, n, last, M, rfl, rfl, rfl, hi, hni, hk, HT, HS, HB⟩ := hrel
    have z0 : (0 : Int) ≤ (i : Int) := by omega
    by_cases hlt : i < l.length
    · have z1 : (i : Int) < (l.length : Int) := by omega
      obtain ⟨ad5, eA, f0⟩ := Kd.at_int (Kd.C_below HC.out HB.out) (i : Int) z0 z1
      rw [Int.toNat_natCast] at f0
      subst eA
      generalize rd l (i : Int) = a at *
      have hw1 : IntKind.i64.wrap ((n : Int) + 1) = (n : Int) + 1 := by rw [IntKind.wrap_i64]; omega
      have hw2 : wrap64 ((n : Int) + 1) = (n : Int) + 1 := w64 (by omega) (by omega)
      have HCM : Aside0 (∀ W, Below wr.heap.size wr W → Calls Try.prog 36 #[.pointer (some ⟨s, 0, none⟩), .agg #[.int .i64 ((n : Int) + 1), .int .i64 a, .slice none 0 0]] W fun e w' => e = .returned (.int .i64 (if tmGood n last a = true then 0 else 1)) ∧ StoreAt (fun k => w.heap.size ≤ k) w' s (if tmGood n last a = true then comM M ⟨(n : Int) + 1, a, []⟩ else M) ∧ Fr (fun k => w.heap.size ≤ k) W w') := ⟨fun W hW => by
        have := com_any (HS.out.below hW) HT.out.inv (fun k hk => Nat.le_trans HB.out.size (Nat.le_trans hW.size hk)) ⟨by rw [HT.out.len]; omega, by rw [HT.out.K]; exact Nat.zero_le _⟩ ⟨(n : Int) + 1, a, []⟩ none 0 (Kd.C_nil _ _) (Nat.le_refl _) (Nat.zero_lt_succ _)
        unfold errC stepM at this
        rw [tm_good HT.out (by omega)] at this
        exact this⟩
      have HG : Aside0 (tmGood n last a = (decide (0 ≤ a) && decide (a ≤ maxSeq) && (decide (n = 0) || decide (last ≤ a)))) := ⟨rfl⟩
      have HCl : Aside0 (tmGood n last a = true → TmI (comM M ⟨(n : Int) + 1, a, []⟩) (n + 1) a) := ⟨tm_step HT.out (by omega)⟩
      have hgd : tmGood n last a = true ∨ tmGood n last a = false := by cases tmGood n last a <;> simp
      by_cases ha : 0 ≤ a
      · by_cases hm : a ≤ 1099511627776
        · by_cases hz : n = 0
          · have hg : tmGood n last a = true := by rw [HG.out]; simp [ha, hm, hz, maxSeq]
            rw [hg] at HCM HCl
            rw [if_pos rfl, if_pos rfl] at HCM
            have HT1 := Aside0.mk (HCl.out rfl)
            clear HG HCl hg hgd
            have e0 : ((n : Int) == 0) = true := by simp [hz]
            clear hz
            go_wp2_with (first
              | (go_at_call 36; refine (HCM.out _ (by repeat (first | apply below_alloc | apply pw_below_drewN | apply below_drew1 | exact Below.refl _ _))).mono ?_; rintro e w5 ⟨rfl, hs5, hf5⟩
                 have HS5 := Aside0.mk hs5
                 have HB5 := Aside0.mk (fr_below (fun k hk => hk) (below_step HB.out (show Below wr.heap.size wr _ from by repeat (first | apply below_alloc | apply pw_below_drewN | apply below_drew1 | exact Below.refl _ _))) hf5)
                 clear hs5 hf5))
            go_roundg (gk - 1)
            case measure => omega
            case rel => exact ⟨i + 1, n + 1, a, _, by go_num, rfl, by go_num, by omega, by omega, by omega, HT1, HS5, HB5⟩
          · have e0 : ((n : Int) == 0) = false := beq_eq_false_iff_ne.2 (by omega)
            have e1 : ¬ (n : Int) = 0 := by omega
            by_cases hl : last ≤ a
            · have hg : tmGood n last a = true := by rw [HG.out]; simp [ha, hm, hl, maxSeq]
              rw [hg] at HCM HCl
              rw [if_pos rfl, if_pos rfl] at HCM
              have HT1 := Aside0.mk (HCl.out rfl)
              clear HG HCl hg hgd
              go_wp2_with (first
                | (go_at_call 36; refine (HCM.out _ (by repeat (first | apply below_alloc | apply pw_below_drewN | apply below_drew1 | exact Below.refl _ _))).mono ?_; rintro e w5 ⟨rfl, hs5, hf5⟩
                   have HS5 := Aside0.mk hs5
                   have HB5 := Aside0.mk (fr_below (fun k hk => hk) (below_step HB.out (show Below wr.heap.size wr _ from by repeat (first | apply below_alloc | apply pw_below_drewN | apply below_drew1 | exact Below.refl _ _))) hf5)
                   clear hs5 hf5))
              go_roundg (gk - 1)
              case measure => omega
              case rel => exact ⟨i + 1, n + 1, a, _, by go_num, rfl, by go_num, by omega, by omega, by omega, HT1, HS5, HB5⟩
            · have hg : tmGood n last a = false := by rw [HG.out]; simp [hl, hz]
              rw [hg] at HCM
              rw [if_neg (by decide), if_neg (by decide)] at HCM
              clear HG HCl hg hgd
              go_wp2_with (first
                | (go_at_call 36; refine (HCM.out _ (by repeat (first | apply below_alloc | apply pw_below_drewN | apply below_drew1 | exact Below.refl _ _))).mono ?_; rintro e w5 ⟨rfl, hs5, hf5⟩
                   have HS5 := Aside0.mk hs5
                   have HB5 := Aside0.mk (fr_below (fun k hk => hk) (below_step HB.out (show Below wr.heap.size wr _ from by repeat (first | apply below_alloc | apply pw_below_drewN | apply below_drew1 | exact Below.refl _ _))) hf5)
                   clear hs5 hf5))
              go_roundg (gk - 1)
              case measure => omega
              case rel => exact ⟨i + 1, n, last, _, by go_num, rfl, rfl, by omega, by omega, by omega, HT, HS5, HB5⟩
        · have hg : tmGood n last a = false := by rw [HG.out]; simp [hm, maxSeq]
          rw [hg] at HCM
          rw [if_neg (by decide), if_neg (by decide)] at HCM
          clear HG HCl hg hgd
          go_wp2_with (first
            | (go_at_call 36; refine (HCM.out _ (by repeat (first | apply below_alloc | apply pw_below_drewN | apply below_drew1 | exact Below.refl _ _))).mono ?_; rintro e w5 ⟨rfl, hs5, hf5⟩
               have HS5 := Aside0.mk hs5
               have HB5 := Aside0.mk (fr_below (fun k hk => hk) (below_step HB.out (show Below wr.heap.size wr _ from by repeat (first | apply below_alloc | apply pw_below_drewN | apply below_drew1 | exact Below.refl _ _))) hf5)
               clear hs5 hf5))
          go_roundg (gk - 1)
          case measure => omega
          case rel => exact ⟨i + 1, n, last, _, by go_num, rfl, rfl, by omega, by omega, by omega, HT, HS5, HB5⟩
      · have hg : tmGood n last a = false := by rw [HG.out]; simp [ha]
        rw [hg] at HCM
        rw [if_neg (by decide), if_neg (by decide)] at HCM
        clear HG HCl hg hgd
        go_wp2_with (first
          | (go_at_call 36; refine (HCM.out _ (by repeat (first | apply below_alloc | apply pw_below_drewN | apply below_drew1 | exact Below.refl _ _))).mono ?_; rintro e w5 ⟨rfl, hs5, hf5⟩
             have HS5 := Aside0.mk hs5
             have HB5 := Aside0.mk (fr_below (fun k hk => hk) (below_step HB.out (show Below wr.heap.size wr _ from by repeat (first | apply below_alloc | apply pw_below_drewN | apply below_drew1 | exact Below.refl _ _))) hf5)
             clear hs5 hf5))
        go_roundg (gk - 1)
        case measure => omega
        case rel => exact ⟨i + 1, n, last, _, by go_num, rfl, rfl, by omega, by omega, by omega, HT, HS5, HB5⟩
    · have hiz : i = l.length := by omega
      subst hiz
      have hlm := HT.out.lastM
      have HLA : Aside0 (Calls Try.prog 37 #[.pointer (some ⟨s, 0, none⟩)] wr fun e w' => e = .returned (.int .i64 (n : Int)) ∧ ∃ n, w' = wr.drewN n) := ⟨by
        obtain ⟨col, H, L, hs⟩ := HS.out
        have := last_any hs HT.out.inv.low HT.out.inv.last
        rw [hlm] at this
        exact this⟩
      clear hlm hi hlt
      go_wp2_with (first | (go_at_call 37; refine HLA.out.mono ?_; rintro e w5 ⟨rfl, nq, rfl⟩))
      go_ret
      exact ⟨rfl, pw_below_drewN HB.out _⟩
end Go.Proofs.Ytmafibbnojdpjaa.St
end
section
set_option linter.unusedVariables false
set_option maxRecDepth 100000
set_option linter.unusedSimpArgs false
namespace Go.Proofs.Ytmafibbnojdpjaa.ChQ
open Go.RowKit Go.Proofs.Ytmafibbnojdpjaa.C Go.Proofs.Ytmafibbnojdpjaa.P Go.Proofs.YtmafibbnojdpjaaW.PrintWords Go.Proofs.YtmafibbnojdpjaaW.PrintLast
def key (l : List S118) (i : Nat) : Int := (rd_T118 l (i : Int)).f0
theorem bs_spec (p : Nat → Bool) (n r : Nat) (hr : ∀ k, k < r → p k = true) (hs : ∀ k, r ≤ k → k < n → p k = false) :
    ∀ d i j, j - i = d → i ≤ r → r ≤ j → j ≤ n → bs p i j = r := by
  intro d
  induction d using Nat.strongRecOn with
  | _ d ih =>
    intro i j hd hir hrj hjn
    by_cases h : i < j
    · by_cases c : (i + j) / 2 < r
      · rw [bs_on p i j h (hr _ c)]
        exact ih (j - ((i + j) / 2 + 1)) (by omega) _ _ rfl (by omega) hrj hjn
      · rw [bs_back p i j h (hs _ (by omega) (by omega))]
        exact ih ((i + j) / 2 - i) (by omega) _ _ rfl hir (by omega) (by omega)
    · rw [bs_done p i j h]; omega
theorem cmp_lt (a b : Int) : cmpI a b < 0 ↔ a < b := by
  unfold cmpI
  by_cases h : a < b
  · simp [h]
  · by_cases h2 : b < a
    · simp [h, h2]
    · simp [h, h2]
theorem cmp_eq (a b : Int) : cmpI a b = 0 ↔ a = b := by
  unfold cmpI
  by_cases h : a < b
  · simp [h]; omega
  · by_cases h2 : b < a
    · simp [h, h2]; omega
    · simp [h, h2]; omega
theorem less_eq (l : List S118) (x : Int) (i : Nat) : less l x i = decide (key l i < x) := by
  unfold less key
  rw [decide_eq_decide]
  exact cmp_lt _ _
theorem srch_eq (l : List S118) (x : Int) (n : Nat) (hn : n ≤ l.length) (h1 : ∀ i, i < n → key l i < x) (h2 : ∀ i, n ≤ i → i < l.length → x ≤ key l i) : srch l x = n := by
  unfold srch
  refine bs_spec _ l.length n (fun k hk => ?_) (fun k hk hl => ?_) _ 0 _ rfl (Nat.zero_le _) hn (Nat.le_refl _)
  · rw [less_eq]; exact decide_eq_true (h1 k hk)
  · rw [less_eq]; exact decide_eq_false (by have := h2 k hk hl; omega)
theorem behind_eq (l : List S118) (x : Int) (hr : ∀ i j, i < j → j < l.length → key l i < key l j) (n : Nat) (hn : n ≤ l.length) (h1 : ∀ i, i < n → key l i ≤ x) (h2 : ∀ i, n ≤ i → i < l.length → x < key l i) : behindN l x = n := by
  unfold behindN
  by_cases c : 0 < n ∧ key l (n - 1) = x
  · have e : srch l x = n - 1 := srch_eq l x (n - 1) (by omega) (fun i hi => by have := hr i (n - 1) hi (by omega); omega) (fun i hi hl => by
      by_cases c2 : i = n - 1
      · subst c2; omega
      · have := h2 i (by omega) hl; omega)
    have f : fnd l x = true := by
      unfold fnd
      rw [e]
      exact decide_eq_true ⟨by omega, (cmp_eq _ _).2 c.2⟩
    rw [f, if_pos rfl, e]; omega
  · have e : srch l x = n := srch_eq l x n hn (fun i hi => by
      by_cases c2 : i = n - 1
      · subst c2
        have := h1 (n - 1) hi
        have : key l (n - 1) ≠ x := fun h => c ⟨by omega, h⟩
        omega
      · have a := hr i (n - 1) (by omega) (by omega)
        have b := h1 (n - 1) (by omega)
        omega) (fun i hi hl => by have := h2 i hi hl; omega)
    have f : fnd l x = false := by
      unfold fnd
      rw [e]
      refine decide_eq_false ?_
      rintro ⟨ha, hb⟩
      have := (cmp_eq _ _).1 hb
      have h := h2 n (Nat.le_refl _) ha
      unfold key at h
      omega
    rw [f, e]; rfl
end Go.Proofs.Ytmafibbnojdpjaa.ChQ
namespace Go.Proofs.Ytmafibbnojdpjaa.St
open Go.Proofs.Ytmafibbnojdpjaa.ChQ (key behind_eq)
open Go.Proofs.Ytmafibbnojdpjaa.C (behindN chain_Chain_behind.calls chain_Chain_behind.f)
open Go.Proofs.Ytmafibbnojdpjaa.Tr Go.RowKit Go.Proofs.YtmafibbnojdpjaaW.PrintWords Go.Proofs.YtmafibbnojdpjaaW.PrintLast Go.Proofs.YtmafibbnojdpjaaW.PrintMore Go.Proofs.Ytmafibbnojdpjaa.P
def upV (c : List Ver) : Prop := c.Pairwise fun a b => a.f0 < b.f0
def cutV (c : List Ver) (q : Int) : List Ver := c.filter fun v => decide (v.f0 ≤ q)
/-- what belonged to the key behind a commit -/
def atO (c : List Ver) (q : Int) : Option ByteArray := (cutV c q).getLast?.bind fun v => if v.f2 then none else some v.f1
theorem cut_split {c : List Ver} (h : upV c) (q : Int) : cutV c q = c.take (cutV c q).length ∧ ∀ v ∈ c.drop (cutV c q).length, q < v.f0 := by
  induction c with
  | nil => exact ⟨rfl, fun v hv => (by cases hv)⟩
  | cons a c ih =>
    obtain ⟨h1, h2⟩ := List.pairwise_cons.1 h
    obtain ⟨i1, i2⟩ := ih h2
    by_cases hk : a.f0 ≤ q
    · have e1 : cutV (a :: c) q = a :: cutV c q := by unfold cutV; rw [List.filter_cons_of_pos (by simpa using hk)]
      rw [e1, List.length_cons, List.take_succ_cons, List.drop_succ_cons, ← i1]
      exact ⟨rfl, i2⟩
    · have hno : ∀ b ∈ c, ¬ b.f0 ≤ q := fun b hb => by have := h1 b hb; omega
      have e1 : cutV (a :: c) q = [] := by
        unfold cutV
        rw [List.filter_eq_nil_iff]
        intro b hb
        rcases List.mem_cons.1 hb with rfl | hb
        · simpa using hk
        · simpa using hno b hb
      rw [e1]
      refine ⟨rfl, fun v hv => ?_⟩
      rcases List.mem_cons.1 hv with rfl | hv
      · omega
      · have := hno v hv; omega
theorem key_get {c : List Ver} {i : Nat} (h : i < c.length) : key c i = c[i].f0 := by simp [key, rd_T118, List.getD, h]
theorem cut_len (c : List Ver) (q : Int) : (cutV c q).length ≤ c.length := List.length_filter_le _ _
theorem behind_cut {c : List Ver} (h : upV c) (q : Int) : behindN c q = ((cutV c q).length : Int) := by
  obtain ⟨h1, h2⟩ := cut_split h q
  have hl := cut_len c q
  refine behind_eq c q (fun i j hij hj => ?_) _ hl (fun i hi => ?_) (fun i hi hil => ?_)
  · rw [key_get (by omega), key_get hj]
    exact List.pairwise_iff_getElem.1 h i j (by omega) hj hij
  · rw [key_get (by omega)]
    have hm : c[i] ∈ cutV c q := by
      rw [h1, List.mem_take_iff_getElem]
      exact ⟨i, by omega, rfl⟩
    have := (List.mem_filter.1 hm).2
    simpa using this
  · rw [key_get hil]
    refine h2 _ ?_
    rw [List.mem_drop_iff_getElem]
    exact ⟨i - (cutV c q).length, by omega, by congr 1; omega⟩
set_option maxHeartbeats 4000000 in
theorem at_any {c : List Ver} (h : upV c) (A : Option Addr) (cap : Nat) (q : Int) (w : World) (hr : Kd.C k118 w A c.length c) (hc : c.length ≤ cap) (hn : c.length < 4611686018427387904) :
    Calls Try.prog 83 #[.slice A c.length cap, .int .i64 q] w fun e w' => e = .returned (.tuple #[.string ((atO c q).getD ⟨#[]⟩), .bool (atO c q).isSome]) ∧ Below w.heap.size w w' := by
  have HBH := Aside0.mk (chain_Chain_behind.calls A cap c q ((cutV c q).length : Int) w hr hc (by unfold chain_Chain_behind.f; rw [if_pos hn, behind_cut h]))
  obtain ⟨e1, _⟩ := cut_split h q
  have hl := cut_len c q
  have HR := Aside0.mk hr
  by_cases h0 : (cutV c q).length = 0
  · have ea : atO c q = none := by unfold atO; rw [List.length_eq_zero_iff.1 h0]; rfl
    rw [h0] at HBH
    rw [ea]
    clear h0 ea hl e1 hr
    go_enter Try.func83, Try.ntmps83
    go_wp2_with (go_at_call 104; refine HBH.out.mono ?_; rintro e w1 ⟨rfl, hb⟩; have HB := Aside0.mk hb; clear hb)
    go_ret2
    exact ⟨rfl, HB.out⟩
  · obtain ⟨n, hn0⟩ : ∃ n, (cutV c q).length = n + 1 := ⟨(cutV c q).length - 1, by omega⟩
    have hnl : n < c.length := by omega
    have ea : atO c q = if (c[n]).f2 then none else some (c[n]).f1 := by
      unfold atO
      rw [e1, hn0, List.take_succ_eq_append_getElem hnl, List.getLast?_append]
      simp
    obtain ⟨ad, eA, _, f1, f2⟩ := at_T118 hr (n : Int) (by omega) (by omega)
    rw [show rd_T118 c (n : Int) = c[n] from by simp [rd_T118, List.getD, hnl], Int.toNat_natCast] at f1 f2
    rw [hn0] at HBH
    rw [ea]
    subst eA
    generalize c[n] = v at *
    have d0 : (((n + 1 : Nat) : Int) == 0) = false := beq_eq_false_iff_ne.2 (by omega)
    have e3 : IntKind.i64.wrap (((n + 1 : Nat) : Int) - 1) = (n : Int) := by rw [IntKind.wrap_i64]; omega
    have e4 : wrap64 (((n + 1 : Nat) : Int) - 1) = (n : Int) := by rw [w64 (by omega) (by omega)]; omega
    have z0 : (0 : Int) ≤ (n : Int) := by omega
    have z1 : (n : Int) < (c.length : Int) := by omega
    clear h0 ea e1 hr hl hn0
    cases hg : v.f2 with
    | true =>
      rw [hg] at f2
      go_enter Try.func83, Try.ntmps83
      go_wp2_with (go_at_call 104; refine HBH.out.mono ?_; rintro e w1 ⟨rfl, hb⟩; have f1 := up hb f1; have f2 := up hb f2; have HB := Aside0.mk hb; clear hb)
      go_ret2
      exact ⟨rfl, HB.out⟩
    | false =>
      rw [hg] at f2
      go_enter Try.func83, Try.ntmps83
      go_wp2_with (go_at_call 104; refine HBH.out.mono ?_; rintro e w1 ⟨rfl, hb⟩; have f1 := up hb f1; have f2 := up hb f2; have HB := Aside0.mk hb; clear hb)
      go_ret2
      exact ⟨rfl, HB.out⟩
end Go.Proofs.Ytmafibbnojdpjaa.St
end
