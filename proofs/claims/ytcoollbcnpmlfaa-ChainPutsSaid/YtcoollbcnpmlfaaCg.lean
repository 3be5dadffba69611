/- Contracts by hand: cmp.Compare and slices.BinarySearchFunc at chain.Chain, Chain.behind, Chain.Put, Chain.Cut. -/
import Derived.Test.YtcoollbcnpmlfaaCx0
import Derived.Outline
set_option linter.unusedVariables false
set_option linter.unusedSimpArgs false
namespace Go.Proofs.Ytcoollbcnpmlfaa.C
open Go.RowKit Go.Proofs.YtcoollbcnpmlfaaW.PrintWords Go.Proofs.YtcoollbcnpmlfaaW.PrintLast Go.Proofs.YtcoollbcnpmlfaaW.PrintMore

theorem isNaN_any (x : Int) (w : World) : Calls Try.prog 43 #[.int .i64 x] w fun e w' => e = .returned (.bool false) ∧ w = w' := by
  go_enter Try.func43, Try.ntmps43
  go_wp2
  go_ret
  exact ⟨by simp, rfl⟩
def cmpI (a b : Int) : Int := if a < b then -1 else if b < a then 1 else 0
set_option maxHeartbeats 400000 in
theorem compare_any (x y : Int) (w : World) : Calls Try.prog 39 #[.int .i64 x, .int .i64 y] w fun e w' => e = .returned (.int .i64 (cmpI x y)) ∧ w = w' := by
  rcases Int.lt_trichotomy x y with h | h | h
  · have e : cmpI x y = -1 := by unfold cmpI; rw [if_pos h]
    rw [e]
    clear e
    go_enter Try.func39, Try.ntmps39
    go_wp2_with (go_at_call 43; refine (isNaN_any _ _).mono ?_; rintro e w' ⟨rfl, rfl⟩)
    go_ret
    exact ⟨rfl, rfl⟩
  · subst h
    have e : cmpI x x = 0 := by unfold cmpI; rw [if_neg (by omega), if_neg (by omega)]
    rw [e]
    clear e
    go_enter Try.func39, Try.ntmps39
    go_wp2_with (go_at_call 43; refine (isNaN_any _ _).mono ?_; rintro e w' ⟨rfl, rfl⟩)
    go_ret
    exact ⟨rfl, rfl⟩
  · have e : cmpI x y = 1 := by unfold cmpI; rw [if_neg (by omega), if_pos h]
    rw [e]
    clear e
    have h2 : ¬ x < y := by omega
    go_enter Try.func39, Try.ntmps39
    go_wp2_with (go_at_call 43; refine (isNaN_any _ _).mono ?_; rintro e w' ⟨rfl, rfl⟩)
    go_ret
    exact ⟨rfl, rfl⟩
set_option maxHeartbeats 400000 in
theorem closure_any (v : S52) (x : Int) (w : World) : Calls Try.prog 38 #[.agg #[.int .i64 v.f0, .string v.f1, .bool v.f2], .int .i64 x] w fun e w' => e = .returned (.int .i64 (cmpI v.f0 x)) ∧ Below w.heap.size w w' := by
  go_enter Try.func38, Try.ntmps38
  go_wp2_with (go_at_call 39; refine (compare_any _ _ _).mono ?_; rintro e w' ⟨rfl, rfl⟩)
  go_ret
  exact ⟨rfl, (Below.refl _ _).alloc (Nat.le_refl _) _⟩
/-- Where the search between i and j ends: p says 'further on'. -/
def bs (p : Nat → Bool) (i j : Nat) : Nat := if h : i < j then (if p ((i + j) / 2) then bs p ((i + j) / 2 + 1) j else bs p i ((i + j) / 2)) else i
termination_by j - i
decreasing_by all_goals omega
theorem bs_done (p : Nat → Bool) (i j : Nat) (h : ¬ i < j) : bs p i j = i := by rw [bs]; simp [h]
theorem bs_on (p : Nat → Bool) (i j : Nat) (h : i < j) (hp : p ((i + j) / 2) = true) : bs p i j = bs p ((i + j) / 2 + 1) j := by rw [bs]; simp [h, hp]
theorem bs_back (p : Nat → Bool) (i j : Nat) (h : i < j) (hp : p ((i + j) / 2) = false) : bs p i j = bs p i ((i + j) / 2) := by rw [bs]; simp [h, hp]
theorem bs_range (p : Nat → Bool) (n : Nat) : ∀ d i j, j - i = d → i ≤ j → j ≤ n → i ≤ bs p i j ∧ bs p i j ≤ j := by
  intro d
  induction d using Nat.strongRecOn with
  | _ d ih =>
    intro i j hd hij hjn
    by_cases h : i < j
    · cases hp : p ((i + j) / 2) with
      | true =>
        rw [bs_on p i j h hp]
        have := ih (j - ((i + j) / 2 + 1)) (by omega) ((i + j) / 2 + 1) j rfl (by omega) hjn
        omega
      | false =>
        rw [bs_back p i j h hp]
        have := ih ((i + j) / 2 - i) (by omega) i ((i + j) / 2) rfl (by omega) (by omega)
        omega
    · rw [bs_done p i j h]; omega
def less (l : List S52) (x : Int) (i : Nat) : Bool := decide (cmpI (rd_T52 l (i : Int)).f0 x < 0)
def srch (l : List S52) (x : Int) : Nat := bs (less l x) 0 l.length
def fnd (l : List S52) (x : Int) : Bool := decide (srch l x < l.length ∧ cmpI (rd_T52 l (srch l x : Int)).f0 x = 0)
set_option maxHeartbeats 1000000 in
theorem search_any (A0 : Option Addr) (c0 : Nat) (l : List S52) (x : Int) (w : World) (hr0 : Kd.C k52 w A0 l.length l) (hc0 : l.length ≤ c0) (hn : l.length < 4611686018427387904) :
    Calls Try.prog 37 #[.slice A0 l.length c0, .int .i64 x, .func (.func 38) #[] #[]] w fun e w' => e = .returned (.tuple #[.int .i64 (srch l x : Int), .bool (fnd l x)]) ∧ Below w.heap.size w w' := by
  have hB := Below.refl w.heap.size w
  have HB := Aside0.mk hB
  clear hB
  have HR := Aside0.mk hr0
  have HC := Aside0.mk hc0
  clear hr0 hc0
  go_enter Try.func37, Try.ntmps37
  go_wp2
  go_loopg [9, 10] (l.length + 1) (fun kq v9 v10 w' => ∃ (i j : Nat), v9 = .int .i64 (i : Int) ∧ v10 = .int .i64 (j : Int) ∧ i ≤ j ∧ j ≤ l.length ∧ j - i < kq ∧ Aside0 (bs (less l x) i j = srch l x) ∧ Aside0 (Below w.heap.size w w'))
  case atStart => exact ⟨0, l.length, rfl, rfl, by omega, by omega, by omega, ⟨rfl⟩, HB⟩
  case round =>
    obtain ⟨i, j, rfl, rfl, hij, hjl, hk, HS, HB⟩ := hrel
    by_cases hlt : i < j
    · have hm : (i + j) / 2 < l.length := by omega
      obtain ⟨ad, e, h0, h1, h2⟩ := at_T52 HR.out (((i + j) / 2 : Nat) : Int) (by omega) (by omega)
      cases e
      simp only [Int.toNat_natCast] at h0 h1 h2
      replace h0 := (HB.out.cell (World.block_lt_of_cell? w _ h0)).trans h0
      replace h1 := (HB.out.cell (World.block_lt_of_cell? w _ h1)).trans h1
      replace h2 := (HB.out.cell (World.block_lt_of_cell? w _ h2)).trans h2
      obtain ⟨v, hv⟩ : ∃ v, v = rd_T52 l (((i + j) / 2 : Nat) : Int) := ⟨_, rfl⟩
      rw [← hv] at h0 h1 h2
      have HV := Aside0.mk hv
      clear hv
      cases hp : decide (cmpI v.f0 x < 0) with
      | true =>
        have HS' : Aside0 (bs (less l x) ((i + j) / 2 + 1) j = srch l x) := ⟨by
          rw [← HS.out, bs_on _ _ _ hlt]
          unfold less
          rw [← HV.out]
          exact hp⟩
        clear HS
        go_wp2_with (go_at_call 38; refine (closure_any v x _).mono ?_; rintro e w1 ⟨rfl, hb⟩; have HB1 := Aside0.mk (below_step HB.out hb); clear HB hb)
        go_roundg (gk - 1)
        case measure => omega
        case rel => exact ⟨(i + j) / 2 + 1, j, by go_num, rfl, by omega, by omega, by omega, HS', HB1⟩
      | false =>
        have HS' : Aside0 (bs (less l x) i ((i + j) / 2) = srch l x) := ⟨by
          rw [← HS.out, bs_back _ _ _ hlt]
          unfold less
          rw [← HV.out]
          exact hp⟩
        clear HS
        go_wp2_with (go_at_call 38; refine (closure_any v x _).mono ?_; rintro e w1 ⟨rfl, hb⟩; have HB1 := Aside0.mk (below_step HB.out hb); clear HB hb)
        go_roundg (gk - 1)
        case measure => omega
        case rel => exact ⟨i, (i + j) / 2, rfl, by go_num, by omega, by omega, by omega, HS', HB1⟩
    · obtain rfl : i = j := by omega
      have HS1 : Aside0 (srch l x = i) := ⟨by rw [← HS.out, bs_done _ _ _ hlt]⟩
      clear HS
      by_cases hn' : i < l.length
      · obtain ⟨ad, e, h0, h1, h2⟩ := at_T52 HR.out ((i : Nat) : Int) (by omega) (by omega)
        cases e
        simp only [Int.toNat_natCast] at h0 h1 h2
        replace h0 := (HB.out.cell (World.block_lt_of_cell? w _ h0)).trans h0
        replace h1 := (HB.out.cell (World.block_lt_of_cell? w _ h1)).trans h1
        replace h2 := (HB.out.cell (World.block_lt_of_cell? w _ h2)).trans h2
        obtain ⟨v, hv⟩ : ∃ v, v = rd_T52 l ((i : Nat) : Int) := ⟨_, rfl⟩
        rw [← hv] at h0 h1 h2
        have HV := Aside0.mk hv
        clear hv
        have HF : Aside0 (fnd l x = (cmpI v.f0 x == 0)) := ⟨by
          unfold fnd
          rw [HS1.out, ← HV.out, Bool.eq_iff_iff]
          simp [hn']⟩
        cases hp : (cmpI v.f0 x == 0) with
        | true =>
          have HF1 : Aside0 (fnd l x = true) := ⟨HF.out.trans hp⟩
          clear HF
          go_wp2_with (go_at_call 38; refine (closure_any v x _).mono ?_; rintro e w1 ⟨rfl, hb⟩; have HB1 := Aside0.mk (below_step HB.out hb); clear HB hb)
          go_ret2
          exact ⟨by rw [HS1.out, HF1.out]; try rfl, HB1.out⟩
        | false =>
          have HF1 : Aside0 (fnd l x = false) := ⟨HF.out.trans hp⟩
          clear HF
          go_wp2_with (go_at_call 38; refine (closure_any v x _).mono ?_; rintro e w1 ⟨rfl, hb⟩; have HB1 := Aside0.mk (below_step HB.out hb); clear HB hb)
          go_ret2
          exact ⟨by rw [HS1.out, HF1.out]; try rfl, HB1.out⟩
      · have HF1 : Aside0 (fnd l x = false) := ⟨by
          unfold fnd
          rw [HS1.out]
          simp [hn']⟩
        obtain rfl : i = l.length := by omega
        go_wp2
        go_ret2
        exact ⟨by rw [HS1.out, HF1.out]; try rfl, HB.out⟩
/-- How many versions are of a commit, or of one ahead of it. -/
def behindN (l : List S52) (x : Int) : Int := if fnd l x then (srch l x : Int) + 1 else (srch l x : Int)
def chain_Chain_behind.f (l0 : List S52) (a1 : Int) : Option Int := if l0.length < 4611686018427387904 then some (behindN l0 a1) else none
set_option maxHeartbeats 400000 in
theorem chain_Chain_behind.calls (A0 : Option Addr) (c0 : Nat) (l0 : List S52) (a1 : Int) (r : Int) (w : World) (hr0 : Kd.C k52 w A0 l0.length l0) (hc0 : l0.length ≤ c0) (h : chain_Chain_behind.f l0 a1 = some r) :
    Calls Try.prog 33 #[.slice A0 l0.length c0, .int .i64 a1] w fun e w' => e = .returned (.int .i64 r) ∧ Below w.heap.size w w' := by
  unfold chain_Chain_behind.f at h
  by_cases hn : l0.length < 4611686018427387904
  · rw [if_pos hn] at h
    obtain rfl := Option.some.inj h
    clear h
    have hr := (bs_range (less l0 a1) l0.length l0.length 0 l0.length rfl (by omega) (Nat.le_refl _)).2
    change srch l0 a1 ≤ l0.length at hr
    have HR := Aside0.mk hr0
    have HC := Aside0.mk hc0
    clear hr0 hc0
    cases hf : fnd l0 a1 with
    | true =>
      have e : behindN l0 a1 = (srch l0 a1 : Int) + 1 := by unfold behindN; rw [hf]; rfl
      rw [e]
      clear e
      have HF := Aside0.mk hf
      clear hf
      generalize hs : srch l0 a1 = s at *
      have HS := Aside0.mk hs
      clear hs
      go_enter Try.func33, Try.ntmps33
      go_wp2_with (go_at_call 37; refine (search_any A0 c0 l0 a1 _ HR.out HC.out hn).mono ?_; rintro e w1 ⟨rfl, hb⟩; rw [HF.out, HS.out]; have HB := Aside0.mk hb; clear hb)
      go_ret
      exact ⟨rfl, HB.out⟩
    | false =>
      have e : behindN l0 a1 = (srch l0 a1 : Int) := by unfold behindN; rw [hf]; rfl
      rw [e]
      clear e
      have HF := Aside0.mk hf
      clear hf
      generalize hs : srch l0 a1 = s at *
      have HS := Aside0.mk hs
      clear hs
      go_enter Try.func33, Try.ntmps33
      go_wp2_with (go_at_call 37; refine (search_any A0 c0 l0 a1 _ HR.out HC.out hn).mono ?_; rintro e w1 ⟨rfl, hb⟩; rw [HF.out, HS.out]; have HB := Aside0.mk hb; clear hb)
      go_ret
      exact ⟨rfl, HB.out⟩
  · rw [if_neg hn] at h
    cases h
end Go.Proofs.Ytcoollbcnpmlfaa.C
