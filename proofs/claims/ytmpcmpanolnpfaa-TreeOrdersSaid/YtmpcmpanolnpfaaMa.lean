/- TreeMany: the names. -/
import Derived.Test.YtmpcmpanolnpfaaTz
import Derived.Laws.IdiomStrings
set_option linter.unusedVariables false
set_option linter.unusedSimpArgs false
namespace Go.Proofs.Ytmpcmpanolnpfaa.Tr
open Go.RowKit Go.Proofs.YtmpcmpanolnpfaaW.PrintWords Go.Proofs.YtmpcmpanolnpfaaW.PrintLast Go.Proofs.YtmpcmpanolnpfaaW.PrintMore

def nm (k : Nat) : ByteArray := ⟨#[UInt8.ofNat (k / 256), UInt8.ofNat (k % 256)]⟩
set_option maxHeartbeats 1000000 in
set_option maxRecDepth 100000 in
theorem name_any (k : Nat) (hk : k < 1025) (w : World) : Calls Try.prog 10 #[.int .i64 (k : Int)] w fun e w' => e = .returned (.string (nm k)) ∧ Below w.heap.size w w' := by
  obtain ⟨q, hq⟩ : ∃ q, q = k / 256 := ⟨_, rfl⟩
  obtain ⟨r, hr⟩ : ∃ r, r = k % 256 := ⟨_, rfl⟩
  have a1 : (k : Int).tdiv 256 = (q : Int) := by rw [hq, Int.tdiv_eq_ediv_of_nonneg (by omega)]; omega
  have a2 : (k : Int).tmod 256 = (r : Int) := by rw [hr, Int.tmod_eq_emod_of_nonneg (by omega)]; omega
  have a3 : IntKind.i64.wrap (q : Int) = (q : Int) := by rw [IntKind.wrap_i64]; omega
  have a4 : IntKind.i64.wrap (r : Int) = (r : Int) := by rw [IntKind.wrap_i64]; omega
  have HQ := Aside0.mk hq
  have HR := Aside0.mk hr
  have hq5 : q < 5 := by omega
  have hr2 : r < 256 := by omega
  clear hq hr
  have hq8 : (q : Int) = ((UInt8.ofNat (k / 256)).toNat : Int) := by
    rw [UInt8.toNat_ofNat', HQ.out]; omega
  have hr8 : (r : Int) = ((UInt8.ofNat (k % 256)).toNat : Int) := by
    rw [UInt8.toNat_ofNat', HR.out]; omega
  have hconv : (convert 23 9 (.slice (some ⟨w.heap.size, 0, none⟩) 2 2)).run Try.prog (w.alloc (.cells #[.int .u8 (q : Int), .int .u8 (r : Int)] 5)) = .ok (.string (nm k)) (w.alloc (.cells #[.int .u8 (q : Int), .int .u8 (r : Int)] 5)) :=
    run_convert_bytes_back (P := Try.prog) _ 23 9 5 ⟨w.heap.size, 0, none⟩ 2 [UInt8.ofNat (k / 256), UInt8.ofNat (k % 256)] Try.underlying23 Try.underlying5 Try.underlying9 (fun j hj => by
      have hj2 : j = 0 ∨ j = 1 := by simp at hj; omega
      have hh := heap_alloc_new w (.cells #[.int .u8 (q : Int), .int .u8 (r : Int)] 5)
      rcases hj2 with rfl | rfl
      · refine cells_of_heap hh 0 0 _ ?_
        rw [hq8]; rfl
      · refine cells_of_heap hh 0 1 _ ?_
        rw [hr8]; rfl)
  clear hq8 hr8
  go_enter Try.func10, Try.ntmps10
  go_wp2
  go_ret
  exact ⟨rfl, below_alloc (Below.refl _ _) _⟩
theorem nm_lt {a b : Nat} (ha : a < 1024) (hb : b < 1024) : kl (nm a) (nm b) ↔ a < b := by
  unfold kl cmpS nm
  show Lib.compareBytes [UInt8.ofNat (a / 256), UInt8.ofNat (a % 256)] [UInt8.ofNat (b / 256), UInt8.ofNat (b % 256)] < 0 ↔ _
  have t1 : (UInt8.ofNat (a / 256)).toNat = a / 256 := by rw [UInt8.toNat_ofNat']; omega
  have t2 : (UInt8.ofNat (b / 256)).toNat = b / 256 := by rw [UInt8.toNat_ofNat']; omega
  have t3 : (UInt8.ofNat (a % 256)).toNat = a % 256 := by rw [UInt8.toNat_ofNat']; omega
  have t4 : (UInt8.ofNat (b % 256)).toNat = b % 256 := by rw [UInt8.toNat_ofNat']; omega
  simp only [Lib.compareBytes, UInt8.lt_iff_toNat_lt, t1, t2, t3, t4]
  split
  · omega
  · split
    · omega
    · split
      · omega
      · split <;> omega
theorem nm_inj {a b : Nat} (ha : a < 1024) (hb : b < 1024) (h : nm a = nm b) : a = b := by
  have h1 := nm_lt ha hb
  have h2 := nm_lt hb ha
  rw [h] at h1 h2
  have h0 := kl_irrefl (nm b)
  have n1 : ¬ a < b := fun q => h0 (h1.2 q)
  have n2 : ¬ b < a := fun q => h0 (h2.2 q)
  omega
/-- the numbers that p lets in, each under its name -/
def zs (p : Nat → Bool) : List Pair := ((List.range 1024).filter p).map fun k => (nm k, (k : Int))
theorem mem_zs {p : Nat → Bool} {a : Pair} : a ∈ zs p ↔ ∃ k, k < 1024 ∧ p k = true ∧ a = (nm k, (k : Int)) := by
  unfold zs
  simp only [List.mem_map, List.mem_filter, List.mem_range]
  constructor
  · rintro ⟨k, ⟨h1, h2⟩, rfl⟩; exact ⟨k, h1, h2, rfl⟩
  · rintro ⟨k, h1, h2, rfl⟩; exact ⟨k, ⟨h1, h2⟩, rfl⟩
theorem zs_congr {p q : Nat → Bool} (h : ∀ k, k < 1024 → p k = q k) : zs p = zs q := by
  unfold zs
  exact congrArg (List.map _) (List.filter_congr (fun k hk => h k (List.mem_range.1 hk)))
theorem filter_zs (p : Nat → Bool) (q : Pair → Bool) : (zs p).filter q = zs fun k => p k && q (nm k, (k : Int)) := by
  unfold zs
  rw [List.filter_map, List.filter_filter]
  exact congrArg (List.map _) (List.filter_congr (fun k _ => by simp [Bool.and_comm]))
theorem range_split {k : Nat} (hk : k < 1024) : List.range 1024 = List.range k ++ k :: (List.range (1023 - k)).map (fun i => k + 1 + i) := by
  rw [show (1024 : Nat) = k + (1 + (1023 - k)) by omega, List.range_add, List.range_add]
  simp [Nat.add_assoc]
theorem zs_split (p : Nat → Bool) {k : Nat} (hk : k < 1024) : zs p = (zs fun j => p j && decide (j < k)) ++ (if p k then [(nm k, (k : Int))] else []) ++ (zs fun j => p j && decide (k < j)) := by
  unfold zs
  have f1 : (List.range k).filter (fun j => p j && decide (j < k)) = (List.range k).filter p := List.filter_congr (fun j hj => by simp [List.mem_range.1 hj])
  have f2 : (List.range k).filter (fun j => p j && decide (k < j)) = [] := List.filter_eq_nil_iff.2 (fun j hj => by have := List.mem_range.1 hj; simp; omega)
  have f3 : ((List.range (1023 - k)).map (fun i => k + 1 + i)).filter (fun j => p j && decide (j < k)) = [] := List.filter_eq_nil_iff.2 (fun j hj => by obtain ⟨i, _, rfl⟩ := List.mem_map.1 hj; simp; omega)
  have f4 : ((List.range (1023 - k)).map (fun i => k + 1 + i)).filter (fun j => p j && decide (k < j)) = ((List.range (1023 - k)).map (fun i => k + 1 + i)).filter p := List.filter_congr (fun j hj => by obtain ⟨i, _, rfl⟩ := List.mem_map.1 hj; simp; omega)
  rw [range_split hk, List.filter_append, List.filter_append, List.filter_append, List.filter_cons, List.filter_cons, List.filter_cons, f1, f2, f3, f4]
  cases hp : p k <;> simp
theorem insZ_zs (p : Nat → Bool) {k : Nat} (hk : k < 1024) : insZ (zs p) (nm k) (k : Int) = zs fun j => p j || decide (j = k) := by
  unfold insZ belowZ aboveZ
  have e1 : zs (fun j => p j && decide (kl (nm j) (nm k))) = zs (fun j => (p j || decide (j = k)) && decide (j < k)) := zs_congr (fun j hj => by simp only [nm_lt hj hk]; by_cases h : j < k <;> simp [h]; omega)
  have e2 : zs (fun j => p j && decide (kl (nm k) (nm j))) = zs (fun j => (p j || decide (j = k)) && decide (k < j)) := zs_congr (fun j hj => by simp only [nm_lt hk hj]; by_cases h : k < j <;> simp [h]; omega)
  rw [filter_zs, filter_zs, zs_split (fun j => p j || decide (j = k)) hk, e1, e2, if_pos (by simp)]
theorem delZ_zs (p : Nat → Bool) {k : Nat} (hk : k < 1024) : delZ (zs p) (nm k) = zs fun j => p j && !decide (j = k) := by
  unfold delZ belowZ aboveZ
  have e1 : zs (fun j => p j && decide (kl (nm j) (nm k))) = zs (fun j => (p j && !decide (j = k)) && decide (j < k)) := zs_congr (fun j hj => by simp only [nm_lt hj hk]; by_cases h : j < k <;> simp [h]; omega)
  have e2 : zs (fun j => p j && decide (kl (nm k) (nm j))) = zs (fun j => (p j && !decide (j = k)) && decide (k < j)) := zs_congr (fun j hj => by simp only [nm_lt hk hj]; by_cases h : k < j <;> simp [h]; omega)
  rw [filter_zs, filter_zs, zs_split (fun j => p j && !decide (j = k)) hk, e1, e2, if_neg (by simp), List.append_nil]
theorem hasZ_zs (p : Nat → Bool) {k : Nat} (hk : k < 1024) : hasZ (zs p) (nm k) = p k := by
  rw [Bool.eq_iff_iff]
  unfold hasZ
  rw [List.any_eq_true]
  constructor
  · rintro ⟨a, ha, e⟩
    obtain ⟨j, hj, hp, rfl⟩ := mem_zs.1 ha
    rw [decide_eq_true_eq] at e
    rw [← nm_inj hj hk e]
    exact hp
  · intro hp
    exact ⟨_, mem_zs.2 ⟨k, hk, hp, rfl⟩, by simp⟩
theorem zs_len (p : Nat → Bool) : (zs p).length ≤ 1024 := by
  unfold zs
  rw [List.length_map]
  have := List.length_filter_le p (List.range 1024)
  rw [List.length_range] at this
  exact this
theorem zs_none : zs (fun _ => false) = [] := by
  unfold zs
  rw [List.filter_eq_nil_iff.2 (fun _ _ => by simp)]
  rfl
theorem fromL_zs (p : Nat → Bool) : fromL (zs p) ⟨#[]⟩ = zs p := by
  unfold fromL
  refine List.filter_eq_self.2 (fun a ha => ?_)
  obtain ⟨j, hj, hp, rfl⟩ := mem_zs.1 ha
  have : ¬ kl (nm j) ⟨#[]⟩ := by
    unfold kl cmpS nm
    show ¬ Lib.compareBytes [_, _] [] < 0
    simp [Lib.compareBytes]
  simpa using this
end Go.Proofs.Ytmpcmpanolnpfaa.Tr
