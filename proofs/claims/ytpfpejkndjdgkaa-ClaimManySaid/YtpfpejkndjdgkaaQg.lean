/- ClaimMany: the plain law. -/
import Derived.Test.YtpfpejkndjdgkaaQd
import Derived.Laws.IdiomStrings
set_option linter.unusedVariables false
set_option linter.unusedSimpArgs false
namespace Go.Proofs.Ytpfpejkndjdgkaa.Q
open Go.RowKit Go.Maps Go.WideMaps Go.Proofs.YtpfpejkndjdgkaaW.PrintWords Go.Proofs.YtpfpejkndjdgkaaW.PrintLast Go.Proofs.YtpfpejkndjdgkaaW.PrintMore

def ky (i : Nat) : ByteArray := ⟨#[UInt8.ofNat i]⟩
theorem ky_inj {i j : Nat} (hi : i < 64) (hj : j < 64) (h : ky i = ky j) : i = j := by
  have h1 : UInt8.ofNat i = UInt8.ofNat j := by simpa [ky] using h
  have h2 := congrArg UInt8.toNat h1
  rw [UInt8.toNat_ofNat', UInt8.toNat_ofNat'] at h2
  omega
def manyC (n i : Nat) : List Pair := (List.range i).map fun j => (ky j, ((j % n : Nat) : Int))
theorem many_succ (n i : Nat) : manyC n (i + 1) = manyC n i ++ [(ky i, ((i % n : Nat) : Int))] := by
  unfold manyC
  rw [List.range_succ, List.map_append]
  rfl
theorem mem_many {n i : Nat} {a : Pair} : a ∈ manyC n i ↔ ∃ j, j < i ∧ a = (ky j, ((j % n : Nat) : Int)) := by
  unfold manyC
  rw [List.mem_map]
  constructor
  · rintro ⟨j, hj, rfl⟩
    exact ⟨j, List.mem_range.1 hj, rfl⟩
  · rintro ⟨j, hj, rfl⟩
    exact ⟨j, List.mem_range.2 hj, rfl⟩
theorem many_nd (n : Nat) : ∀ i, i ≤ 64 → NdC (manyC n i)
  | 0, _ => List.Pairwise.nil
  | i + 1, h => by
    rw [many_succ]
    refine ndC_add (many_nd n i (by omega)) _ ?_
    cases hh : hasC (manyC n i) (ky i) with
    | false => rfl
    | true =>
      obtain ⟨a, ha, e⟩ := hasC_iff.1 hh
      obtain ⟨j, hj, rfl⟩ := mem_many.1 ha
      have := ky_inj (by omega) (by omega) e
      omega
theorem many_has {n i j : Nat} (hi : i ≤ 64) (hj : j < 64) : hasC (manyC n i) (ky j) = decide (j < i) := by
  rw [Bool.eq_iff_iff, hasC_iff, decide_eq_true_eq]
  constructor
  · rintro ⟨a, ha, e⟩
    obtain ⟨t, ht, rfl⟩ := mem_many.1 ha
    have := ky_inj (by omega) hj e
    omega
  · intro h
    exact ⟨_, mem_many.2 ⟨j, h, rfl⟩, rfl⟩
theorem many_val {n i j : Nat} (hi : i ≤ 64) (hj : j < i) : valC (manyC n i) (ky j) = ((j % n : Nat) : Int) := valC_of (many_nd n i hi) (a := (ky j, ((j % n : Nat) : Int))) (mem_many.2 ⟨j, hj, rfl⟩)
theorem take_first {n i : Nat} (hi : i < 64) : takeC (manyC n i) ((i % n : Nat) : Int) (ky i) = (true, manyC n (i + 1)) := by
  unfold takeC
  rw [if_neg (by rw [many_has (by omega) hi]; simp), many_succ]
theorem turn_ne {n i v : Nat} (hv : 0 < v) (hn : v < n) : ¬ i % n = (i + v) % n := by
  intro h
  have h1 : (i + v) % n = (i % n + v) % n := by simp
  have h2 := Nat.mod_lt i (show 0 < n by omega)
  rw [h1] at h
  clear h1
  generalize i % n = r at *
  by_cases hc : r + v < n
  · rw [Nat.mod_eq_of_lt hc] at h
    omega
  · rw [Nat.mod_eq_sub_mod (by omega), Nat.mod_eq_of_lt (by omega)] at h
    omega
theorem take_later {n i v : Nat} (hi : i < 64) (hv : 0 < v) (hn : v < n) : takeC (manyC n (i + 1)) (((i + v) % n : Nat) : Int) (ky i) = (false, manyC n (i + 1)) := by
  unfold takeC
  rw [if_pos (by rw [many_has (by omega) hi]; simp), many_val (by omega) (Nat.lt_succ_self i)]
  have := turn_ne (i := i) hv hn
  have h2 : ¬ ((i % n : Nat) : Int) = (((i + v) % n : Nat) : Int) := fun e => this (Int.ofNat.inj e)
  rw [decide_eq_false h2]
def wantN (n g i : Nat) : Nat := ((List.range i).filter fun j => decide (j % n = g)).length
theorem want_succ (n g i : Nat) : wantN n g (i + 1) = wantN n g i + if i % n = g then 1 else 0 := by
  unfold wantN
  rw [List.range_succ, List.filter_append, List.length_append]
  by_cases h : i % n = g <;> simp [h]
theorem want_le (n g : Nat) : ∀ i, wantN n g i ≤ i
  | 0 => Nat.le_refl _
  | i + 1 => by
    have := want_le n g i
    rw [want_succ]
    split <;> omega
theorem many_of (n g : Nat) : ∀ i, ((manyC n i).filter fun a => decide (a.2 = (g : Int))).length = wantN n g i
  | 0 => rfl
  | i + 1 => by
    rw [many_succ, List.filter_append, List.length_append, many_of n g i, want_succ]
    congr 1
    by_cases h : i % n = g
    · rw [if_pos h, List.filter_cons_of_pos (by simp [h])]
      rfl
    · have h2 : ¬ ((i % n : Nat) : Int) = (g : Int) := fun e => h (Int.ofNat.inj e)
      rw [if_neg h, List.filter_cons_of_neg (by simpa using h2)]
      rfl
theorem many_len (n i : Nat) : (manyC n i).length = i := by simp [manyC]
theorem free_len (n g : Nat) (i : Nat) : (freeC (manyC n i) (g : Int)).length + wantN n g i = i := by
  have h1 := many_of n g i
  have h2 : ∀ (C : List Pair) (x : Int), (freeC C x).length + (C.filter fun a => decide (a.2 = x)).length = C.length := by
    intro C x
    unfold freeC
    induction C with
    | nil => rfl
    | cons a C ih =>
      by_cases h : a.2 = x
      · rw [List.filter_cons_of_neg (by simp [h]), List.filter_cons_of_pos (by simp [h]), List.length_cons, List.length_cons]
        omega
      · rw [List.filter_cons_of_pos (by simp [h]), List.filter_cons_of_neg (by simp [h]), List.length_cons, List.length_cons]
        omega
  have h3 := h2 (manyC n i) (g : Int)
  rw [h1, many_len] at h3
  exact h3
theorem busy_many {n g k i : Nat} (hk : k ≤ 64) (hi : i < k) (hn : 0 < n) : busyC (freeC (manyC n k) (g : Int)) (n : Int) (ky i) = decide (¬ i % n = g) := by
  have hnd := ndC_free (many_nd n k hk) (g : Int)
  by_cases h : i % n = g
  · have hh : hasC (freeC (manyC n k) (g : Int)) (ky i) = false := by
      cases hh : hasC (freeC (manyC n k) (g : Int)) (ky i) with
      | false => rfl
      | true =>
        obtain ⟨a, ha, e⟩ := hasC_iff.1 hh
        unfold freeC at ha
        rw [List.mem_filter, decide_eq_true_eq] at ha
        obtain ⟨j, hj, rfl⟩ := mem_many.1 ha.1
        have := ky_inj (by omega) (by omega) e
        subst this
        exact absurd (by rw [h]) ha.2
    unfold busyC
    rw [hh]
    simp [h]
  · have hm : (ky i, ((i % n : Nat) : Int)) ∈ freeC (manyC n k) (g : Int) := by
      unfold freeC
      rw [List.mem_filter, decide_eq_true_eq]
      exact ⟨mem_many.2 ⟨i, hi, rfl⟩, fun e => h (Int.ofNat.inj e)⟩
    have hh : hasC (freeC (manyC n k) (g : Int)) (ky i) = true := hasC_iff.2 ⟨_, hm, rfl⟩
    have hv : valC (freeC (manyC n k) (g : Int)) (ky i) = ((i % n : Nat) : Int) := valC_of hnd hm
    have hlt := Nat.mod_lt i hn
    have h2 : ¬ ((i % n : Nat) : Int) = (n : Int) := fun e => by have := Int.ofNat.inj e; omega
    unfold busyC
    rw [hh, hv, decide_eq_true h2, decide_eq_true h]
    rfl
theorem of_free (C : List Pair) (x : Int) : ofC (freeC C x) x = [] := by
  have : (ofC (freeC C x) x).length = 0 := by
    rw [of_length, List.length_eq_zero_iff, List.filter_eq_nil_iff]
    intro a ha h
    unfold freeC at ha
    rw [List.mem_filter, decide_eq_true_eq] at ha
    exact ha.2 (by simpa using h)
  exact List.length_eq_zero_iff.1 this
/-- string([]byte{byte(i)}) at a new block -/
theorem conv_ky (W : World) {i : Nat} (hi : i < 64) (bl : Nat) (hc : W.cell? ⟨bl, 0, none⟩ = some (.int .u8 (i : Int))) : (convert 39 9 (.slice (some ⟨bl, 0, none⟩) 1 1)).run Try.prog W = .ok (.string (ky i)) W :=
  run_convert_bytes_back (P := Try.prog) W 39 9 5 ⟨bl, 0, none⟩ 1 [UInt8.ofNat i] Try.underlying39 Try.underlying5 Try.underlying9 (fun j hj => by
    have hj2 : j = 0 := by simp at hj; omega
    subst hj2
    have h8 : (i : Int) = ((UInt8.ofNat i).toNat : Int) := by rw [UInt8.toNat_ofNat']; omega
    rw [h8] at hc
    simpa [Addr.add] using hc)
end Go.Proofs.Ytpfpejkndjdgkaa.Q
