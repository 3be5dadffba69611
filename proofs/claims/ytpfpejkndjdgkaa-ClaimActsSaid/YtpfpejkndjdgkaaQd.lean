/- Claims, by hand: the document's example; ClaimAlone. -/
import Derived.Test.YtpfpejkndjdgkaaQc
set_option linter.unusedVariables false
set_option linter.unusedSimpArgs false
namespace Go.Proofs.Ytpfpejkndjdgkaa.Q
open Go.RowKit Go.Maps Go.WideMaps Go.Proofs.YtpfpejkndjdgkaaW.PrintWords Go.Proofs.YtpfpejkndjdgkaaW.PrintLast Go.Proofs.YtpfpejkndjdgkaaW.PrintMore
attribute [local go_sem] Oper.semAt_some

theorem up {w w1 : World} (hb : Below w.heap.size w w1) {a : Addr} {v : Value} (h : w.cell? a = some v) : w1.cell? a = some v := (hb.cell (World.block_lt_of_cell? w _ h)).trans h
theorem busy_made (q : Option Addr) (who : Int) (w : World) : Calls Try.prog 10 #[.pointer q, .int .i64 who] w fun e w' =>
    e = .returned (.func (.func 22) #[] #[.pointer (some ⟨w.heap.size, 0, none⟩), .pointer (some ⟨w.heap.size + 1, 0, none⟩)]) ∧ w'.cell? ⟨w.heap.size, 0, none⟩ = some (.pointer q) ∧ w'.cell? ⟨w.heap.size + 1, 0, none⟩ = some (.int .i64 who) ∧ Below w.heap.size w w' := by
  refine (busy_any q who w).mono ?_
  rintro e w' ⟨rfl, rfl⟩
  have h2 := Boxed.new (w.alloc (.cells #[.pointer q] 24)) 3 (.int .i64 who)
  rw [World.size_alloc] at h2
  exact ⟨rfl, ((Boxed.new w 24 (.pointer q)).alloc _).cell, h2.cell, ((Below.refl _ _).alloc (Nat.le_refl _) _).alloc (by simp) _⟩
theorem hd1 : takeC [] 1 ⟨#[97]⟩ = (true, [(⟨#[97]⟩, 1)]) := by decide +kernel
theorem hd2 : busyC [(⟨#[97]⟩, 1)] 2 ⟨#[97]⟩ = true := by decide +kernel
theorem hd3 : busyC [(⟨#[97]⟩, 1)] 1 ⟨#[97]⟩ = false := by decide +kernel
set_option maxRecDepth 100000 in
set_option maxHeartbeats 600000 in
theorem head_any (w : World) : Calls Try.prog 8 #[] w fun e w' => e = .returned (.bool true) ∧ Below w.heap.size w w' := by
  go_enter Try.func8, Try.ntmps8
  go_wp2_with (first
    | (go_at_call 9; refine (new_any _).mono ?_; rintro e w1 ⟨rfl, hc, hb⟩; have HC := Aside0.mk hc; have HB := Aside0.mk hb; clear hc hb)
    | (go_at_call 12; refine (take_any HC.out (by simp only [maxLen]; omega) 1 (by decide) (x := ⟨#[97]⟩) (by decide)).mono ?_; rw [hd1]; rintro e w2 ⟨rfl, hc, hg⟩
       have HC2 := Aside0.mk hc; have HB2 := Aside0.mk (HB.out.grown hg HB.out.size (fun k e => by cases e; exact Nat.le_refl _)); clear HC HB hc hg)
    | (go_at_call 10; refine (busy_made _ _ _).mono ?_; rintro e w3 ⟨rfl, b1, b2, hb⟩; have HC3 := Aside0.mk (HC2.out.below hb); have HB3 := Aside0.mk (HB2.out.trans (hb.mono HB2.out.size)); clear HC2 HB2 hb)
    | (go_at_call 22; refine (busy1_any HC3.out _ _ _ (x := ⟨#[97]⟩) (by decide) b1 b2).mono ?_; rw [hd2]; rintro e w4 ⟨rfl, rfl⟩; clear b1 b2)
    | (go_at_call 10; refine (busy_made _ _ _).mono ?_; rintro e w5 ⟨rfl, b1, b2, hb⟩; have HC5 := Aside0.mk (HC3.out.below hb); have HB5 := Aside0.mk (HB3.out.trans (hb.mono HB3.out.size)); clear hb)
    | (go_at_call 22; refine (busy1_any HC5.out _ _ _ (x := ⟨#[97]⟩) (by decide) b1 b2).mono ?_; rw [hd3]; rintro e w6 ⟨rfl, rfl⟩; clear b1 b2)
    | (go_at_call 13; refine (len_any HC5.out).mono ?_; rintro e w7 ⟨rfl, rfl⟩))
  go_ret
  exact ⟨by simp, HB5.out⟩
def StrA (w : World) (A : Option Addr) (l : List ByteArray) : Prop := ∀ i, i < l.length → ∃ ad, A = some ad ∧ w.cell? (ad.add i) = some (.string (l.getD i ⟨#[]⟩))
theorem StrA.up {w w1 : World} (hb : Below w.heap.size w w1) {A : Option Addr} {l : List ByteArray} (h : StrA w A l) : StrA w1 A l := fun i hi => by
  obtain ⟨ad, e, h0⟩ := h i hi
  exact ⟨ad, e, Q.up hb h0⟩
def kA (l : List ByteArray) (i : Nat) : ByteArray := l.getD i ⟨#[]⟩
theorem kA_mem {l : List ByteArray} {i : Nat} (h : i < l.length) : kA l i ∈ l := by
  simp [kA, List.getD, h]
/-- those who come turn by turn -/
def turnC (a b : Int) (ks : List ByteArray) : Nat → List Pair
  | 0 => []
  | i + 1 => (takeC (turnC a b ks i) (if i % 2 = 1 then b else a) (kA ks i)).2
theorem takeC_mem {C : List Pair} {who : Int} {x : ByteArray} {e : Pair} (h : e ∈ (takeC C who x).2) : e ∈ C ∨ e.2 = who := by
  unfold takeC at h
  split at h
  · exact .inl h
  · rcases List.mem_append.1 h with h | h
    · exact .inl h
    · rw [List.mem_singleton] at h
      exact .inr (by rw [h])
theorem takeC_has {C : List Pair} {who : Int} {x z : ByteArray} (h : hasC C z = true ∨ z = x) : hasC (takeC C who x).2 z = true := by
  unfold takeC
  by_cases hh : hasC C x = true
  · rw [if_pos hh]
    rcases h with h | rfl
    · exact h
    · exact hh
  · rw [if_neg hh]
    show hasC (C ++ [(x, who)]) z = true
    rw [hasC_add]
    rcases h with h | rfl
    · simp [h]
    · simp
theorem turn_vals (a b : Int) (ks : List ByteArray) : ∀ i, ∀ e ∈ turnC a b ks i, e.2 = a ∨ e.2 = b
  | 0, e, h => by cases h
  | i + 1, e, h => by
    rcases takeC_mem h with h | h
    · exact turn_vals a b ks i e h
    · rw [h]
      split
      · exact .inr rfl
      · exact .inl rfl
theorem turn_has (a b : Int) (ks : List ByteArray) : ∀ i j, j < i → hasC (turnC a b ks i) (kA ks j) = true
  | 0, j, h => absurd h (Nat.not_lt_zero _)
  | i + 1, j, h => by
    refine takeC_has ?_
    by_cases e : j = i
    · right; rw [e]
    · left; exact turn_has a b ks i j (by omega)
theorem val_mem {C : List Pair} (h : NdC C) {x : ByteArray} (hx : hasC C x = true) : (x, valC C x) ∈ C := by
  obtain ⟨e, he, rfl⟩ := hasC_iff.1 hx
  rw [valC_of h he]
  exact he
theorem busy_same {C : List Pair} (h : NdC C) {b : Int} (hb : ∀ e ∈ C, e.2 = b) (x : ByteArray) : busyC C b x = false := by
  unfold busyC
  cases hh : hasC C x with
  | false => rfl
  | true =>
    have e : valC C x = b := hb _ (val_mem h hh)
    simp [e]
theorem take_same {C : List Pair} (h : NdC C) {b : Int} (hb : ∀ e ∈ C, e.2 = b) (x : ByteArray) : (takeC C b x).1 = true := by
  unfold takeC
  by_cases hh : hasC C x = true
  · rw [if_pos hh]
    have e : valC C x = b := hb _ (val_mem h hh)
    simp [e]
  · rw [if_neg hh]
theorem of_none {C : List Pair} {a b : Int} (hb : ∀ e ∈ C, e.2 = b) (hab : ¬ a = b) : ofC C a = [] := by
  have : (ofC C a).length = 0 := by
    rw [of_length, List.length_eq_zero_iff, List.filter_eq_nil_iff]
    intro e he h
    exact hab ((by simpa using h : e.2 = a).symm.trans (hb e he))
  exact List.length_eq_zero_iff.1 this
theorem free_vals {C : List Pair} {a b : Int} (h : ∀ e ∈ C, e.2 = a ∨ e.2 = b) : ∀ e ∈ freeC C a, e.2 = b := by
  intro e he
  unfold freeC at he
  rw [List.mem_filter, decide_eq_true_eq] at he
  rcases h e he.1 with q | q
  · exact absurd q he.2
  · exact q
theorem turn_len (a b : Int) (ks : List ByteArray) : ∀ i, (turnC a b ks i).length ≤ i
  | 0 => Nat.le_refl _
  | i + 1 => by
    have := turn_len a b ks i
    unfold turnC takeC
    split
    · show (turnC a b ks i).length ≤ _
      omega
    · show (turnC a b ks i ++ [_]).length ≤ _
      rw [List.length_append, List.length_singleton]
      omega
theorem low_bits (n m : Int) (k : Nat) (hm : (BitVec.ofInt 64 m).toNat = 2 ^ k - 1) : bits .and .i64 n m = IntKind.i64.wrap (((n % 18446744073709551616).toNat % 2 ^ k : Nat) : Int) := by
  have h : (BitVec.ofInt 64 n &&& BitVec.ofInt 64 m).toNat = (n % 18446744073709551616).toNat % 2 ^ k := by
    rw [BitVec.toNat_and, hm, Nat.and_two_pow_sub_one_eq_mod, BitVec.toNat_ofInt]
    rfl
  rw [← h]
  rfl
theorem and_1 (n : Int) : bits .and .i64 n 1 = n % 2 := by
  rw [low_bits n 1 1 (by decide), IntKind.wrap_i64]
  omega
theorem and_15 (n : Int) : bits .and .i64 n 15 = n % 16 := by
  rw [low_bits n 15 4 (by decide), IntKind.wrap_i64]
  omega
theorem and_63 (n : Int) : bits .and .i64 n 63 = n % 64 := by
  rw [low_bits n 63 6 (by decide), IntKind.wrap_i64]
  omega
end Go.Proofs.Ytpfpejkndjdgkaa.Q
