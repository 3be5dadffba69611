/- Tree, by hand: string comparison, slices.BinarySearchFunc at items. The values that belong to keys are one cell each, whatever they are. -/
import Derived.Test.YtmpcmpanolnpfaaProg
import Derived.Test.YtmpcmpanolnpfaaWWords
import Derived.Test.YtmpcmpanolnpfaaWLast
import Derived.Test.YtmpcmpanolnpfaaWMore
import Derived.Tactics
import Derived.WalkKit
import Derived.Outline
import Derived.Deep.LoopGhost
import Derived.Deep.QuietTactic
import Derived.Lib.Bytealg
import Derived.Laws.Externs
import Derived.WalkLawsBesides
set_option linter.unusedVariables false
set_option linter.unusedSimpArgs false
namespace Go.Proofs.Ytmpcmpanolnpfaa.Tr
open Go.RowKit Go.Proofs.YtmpcmpanolnpfaaW.PrintWords Go.Proofs.YtmpcmpanolnpfaaW.PrintLast Go.Proofs.YtmpcmpanolnpfaaW.PrintMore

def cmpS (a b : ByteArray) : Int := Lib.compareBytes a.data.toList b.data.toList
set_option maxHeartbeats 1000000 in
theorem compareString_any (a b : ByteArray) (w : World) : Calls Try.prog 56 #[.string a, .string b] w fun e w' => e = .returned (.int .i64 (cmpS a b)) ∧ w' = w := by
  go_enter Try.func56, Try.ntmps56
  go_wp2
  rw [run_callFunc_extern Try.func63 (by kernel_rfl) (by kernel_rfl) (by kernel_rfl) (e := Extern.BytealgCompare.compare) (by kernel_rfl), Lib.run_compareString]
  simp only [Result.andThen]
  rw [Oper.upon_value]
  go_wp2
  go_ret
  exact ⟨rfl, rfl⟩
set_option maxHeartbeats 1000000 in
theorem compare_any (a b : ByteArray) (w : World) : Calls Try.prog 40 #[.string a, .string b] w fun e w' => e = .returned (.int .i64 (cmpS a b)) ∧ w' = w := by
  go_enter Try.func40, Try.ntmps40
  go_wp2_with (go_at_call 56; refine (compareString_any _ _ _).mono ?_; rintro e w' ⟨rfl, rfl⟩)
  go_ret
  exact ⟨rfl, rfl⟩
set_option maxHeartbeats 1000000 in
theorem closure_any (k : ByteArray) (v : Value) (x : ByteArray) (w : World) : Calls Try.prog 39 #[.agg #[.string k, v], .string x] w fun e w' => e = .returned (.int .i64 (cmpS k x)) ∧ Below w.heap.size w w' := by
  go_enter Try.func39, Try.ntmps39
  go_wp2_with (go_at_call 40; refine (compare_any _ _ _).mono ?_; rintro e w' ⟨rfl, rfl⟩)
  go_ret
  exact ⟨rfl, (Below.refl _ _).alloc (Nat.le_refl _) _⟩
abbrev Item := ByteArray × Value
def itm (l : List Item) (i : Nat) : Item := l.getD i (⟨#[]⟩, .int .i64 0)
/-- The row of items is l's. -/
def ItemsAt (w : World) (A : Option Addr) (l : List Item) : Prop := ∀ i, i < l.length → ∃ ad, A = some ad ∧ w.cell? (ad.add (i * 2)) = some (.string (itm l i).1) ∧ w.cell? ⟨(ad.add (i * 2)).block, (ad.add (i * 2)).off + 1, none⟩ = some (itm l i).2
/-- Where the search between i and j ends: p says 'further on'. -/
def bs (p : Nat → Bool) (i j : Nat) : Nat := if h : i < j then (if p ((i + j) / 2) then bs p ((i + j) / 2 + 1) j else bs p i ((i + j) / 2)) else i
  termination_by j - i
  decreasing_by all_goals omega
theorem bs_done (p : Nat → Bool) (i j : Nat) (h : ¬ i < j) : bs p i j = i := by rw [bs]; simp [h]
theorem bs_on (p : Nat → Bool) (i j : Nat) (h : i < j) (hp : p ((i + j) / 2) = true) : bs p i j = bs p ((i + j) / 2 + 1) j := by rw [bs]; simp [h, hp]
theorem bs_back (p : Nat → Bool) (i j : Nat) (h : i < j) (hp : p ((i + j) / 2) = false) : bs p i j = bs p i ((i + j) / 2) := by rw [bs]; simp [h, hp]
theorem bs_range (p : Nat → Bool) (n : Nat) : ∀ d i j, j - i = d → i ≤ j → j ≤ n → i ≤ bs p i j ∧ bs p i j ≤ j := by
  intro d
  induction d using Nat.strongRecOn with
  | _ d ih =>
    intro i j hd hij hjn
    by_cases h : i < j
    · cases hp : p ((i + j) / 2) with
      | true =>
        rw [bs_on p i j h hp]
        have := ih (j - ((i + j) / 2 + 1)) (by omega) ((i + j) / 2 + 1) j rfl (by omega) hjn
        omega
      | false =>
        rw [bs_back p i j h hp]
        have := ih ((i + j) / 2 - i) (by omega) i ((i + j) / 2) rfl (by omega) (by omega)
        omega
    · rw [bs_done p i j h]; omega
def less (l : List Item) (x : ByteArray) (i : Nat) : Bool := decide (cmpS (itm l i).1 x < 0)
def srch (l : List Item) (x : ByteArray) : Nat := bs (less l x) 0 l.length
def fnd (l : List Item) (x : ByteArray) : Bool := decide (srch l x < l.length ∧ cmpS (itm l (srch l x)).1 x = 0)
set_option maxHeartbeats 1000000 in
theorem search_any (A0 : Option Addr) (c0 : Nat) (l : List Item) (x : ByteArray) (w : World) (hr0 : ItemsAt w A0 l) (hc0 : l.length ≤ c0) (hn : l.length < 4611686018427387904) :
    Calls Try.prog 38 #[.slice A0 l.length c0, .string x, .func (.func 39) #[] #[]] w fun e w' => e = .returned (.tuple #[.int .i64 (srch l x : Int), .bool (fnd l x)]) ∧ Below w.heap.size w w' := by
  have hB := Below.refl w.heap.size w
  have HB := Aside0.mk hB
  clear hB
  have HR := Aside0.mk hr0
  have HC := Aside0.mk hc0
  clear hr0 hc0
  go_enter Try.func38, Try.ntmps38
  go_wp2
  go_loopg [9, 10] (l.length + 1) (fun kq v9 v10 w' => ∃ (i j : Nat), v9 = .int .i64 (i : Int) ∧ v10 = .int .i64 (j : Int) ∧ i ≤ j ∧ j ≤ l.length ∧ j - i < kq ∧ Aside0 (bs (less l x) i j = srch l x) ∧ Aside0 (Below w.heap.size w w'))
  case atStart => exact ⟨0, l.length, rfl, rfl, by omega, by omega, by omega, ⟨rfl⟩, HB⟩
  case round =>
    obtain ⟨i, j, rfl, rfl, hij, hjl, hk, HS, HB⟩ := hrel
    by_cases hlt : i < j
    · have hm : (i + j) / 2 < l.length := by omega
      obtain ⟨ad, e, h0, h1⟩ := HR.out ((i + j) / 2) hm
      cases e
      replace h0 := (HB.out.cell (World.block_lt_of_cell? w _ h0)).trans h0
      replace h1 := (HB.out.cell (World.block_lt_of_cell? w _ h1)).trans h1
      obtain ⟨v, hv⟩ : ∃ v, v = itm l ((i + j) / 2) := ⟨_, rfl⟩
      rw [← hv] at h0 h1
      have HV := Aside0.mk hv
      clear hv
      cases hp : decide (cmpS v.1 x < 0) with
      | true =>
        have HS' : Aside0 (bs (less l x) ((i + j) / 2 + 1) j = srch l x) := ⟨by
          rw [← HS.out, bs_on _ _ _ hlt]
          unfold less
          rw [← HV.out]
          exact hp⟩
        clear HS
        go_wp2_with (go_at_call 39; refine (closure_any v.1 v.2 x _).mono ?_; rintro e w1 ⟨rfl, hb⟩; have HB1 := Aside0.mk (below_step HB.out hb); clear HB hb)
        go_roundg (gk - 1)
        case measure => omega
        case rel => exact ⟨(i + j) / 2 + 1, j, by go_num, rfl, by omega, by omega, by omega, HS', HB1⟩
      | false =>
        have HS' : Aside0 (bs (less l x) i ((i + j) / 2) = srch l x) := ⟨by
          rw [← HS.out, bs_back _ _ _ hlt]
          unfold less
          rw [← HV.out]
          exact hp⟩
        clear HS
        go_wp2_with (go_at_call 39; refine (closure_any v.1 v.2 x _).mono ?_; rintro e w1 ⟨rfl, hb⟩; have HB1 := Aside0.mk (below_step HB.out hb); clear HB hb)
        go_roundg (gk - 1)
        case measure => omega
        case rel => exact ⟨i, (i + j) / 2, rfl, by go_num, by omega, by omega, by omega, HS', HB1⟩
    · obtain rfl : i = j := by omega
      have HS1 : Aside0 (srch l x = i) := ⟨by rw [← HS.out, bs_done _ _ _ hlt]⟩
      clear HS
      by_cases hn' : i < l.length
      · obtain ⟨ad, e, h0, h1⟩ := HR.out i hn'
        cases e
        replace h0 := (HB.out.cell (World.block_lt_of_cell? w _ h0)).trans h0
        replace h1 := (HB.out.cell (World.block_lt_of_cell? w _ h1)).trans h1
        obtain ⟨v, hv⟩ : ∃ v, v = itm l i := ⟨_, rfl⟩
        rw [← hv] at h0 h1
        have HV := Aside0.mk hv
        clear hv
        have HF : Aside0 (fnd l x = (cmpS v.1 x == 0)) := ⟨by
          unfold fnd
          rw [HS1.out, ← HV.out, Bool.eq_iff_iff]
          simp [hn']⟩
        cases hp : (cmpS v.1 x == 0) with
        | true =>
          have HF1 : Aside0 (fnd l x = true) := ⟨HF.out.trans hp⟩
          clear HF
          go_wp2_with (go_at_call 39; refine (closure_any v.1 v.2 x _).mono ?_; rintro e w1 ⟨rfl, hb⟩; have HB1 := Aside0.mk (below_step HB.out hb); clear HB hb)
          go_ret2
          exact ⟨by rw [HS1.out, HF1.out]; try rfl, HB1.out⟩
        | false =>
          have HF1 : Aside0 (fnd l x = false) := ⟨HF.out.trans hp⟩
          clear HF
          go_wp2_with (go_at_call 39; refine (closure_any v.1 v.2 x _).mono ?_; rintro e w1 ⟨rfl, hb⟩; have HB1 := Aside0.mk (below_step HB.out hb); clear HB hb)
          go_ret2
          exact ⟨by rw [HS1.out, HF1.out]; try rfl, HB1.out⟩
      · have HF1 : Aside0 (fnd l x = false) := ⟨by
          unfold fnd
          rw [HS1.out]
          simp [hn']⟩
        obtain rfl : i = l.length := by omega
        go_wp2
        go_ret2
        exact ⟨by rw [HS1.out, HF1.out]; try rfl, HB.out⟩
end Go.Proofs.Ytmpcmpanolnpfaa.Tr
