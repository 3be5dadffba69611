/- Tree, by hand: slices.Delete of one item; Insert, whichever road. -/
import Derived.Test.YtmpcmpanolnpfaaTj
set_option linter.unusedVariables false
set_option linter.unusedSimpArgs false
namespace Go.Proofs.Ytmpcmpanolnpfaa.Tr
open Go.RowKit Go.Proofs.YtmpcmpanolnpfaaW.PrintWords Go.Proofs.YtmpcmpanolnpfaaW.PrintLast Go.Proofs.YtmpcmpanolnpfaaW.PrintMore

theorem del_row (cur xs zs : List Value) (K N M : Nat) (hx : xs = cur.take N) (hl : xs.length = N) (hK : K + M ≤ N) (hc : N ≤ cur.length) (hz : zs.length = M) (r1 r2 : List Value)
    (h1 : r1 = cur.take K ++ xs.drop (K + M) ++ cur.drop (K + (xs.drop (K + M)).length)) (h2 : r2 = r1.take (N - M) ++ (zs ++ r1.drop (N - M + zs.length))) : r1.length = cur.length ∧ r2.length = cur.length ∧ r2.take (N - M) = xs.take K ++ xs.drop (K + M) := by
  have hd : (xs.drop (K + M)).length = N - (K + M) := by rw [List.length_drop, hl]
  have ht : (cur.take K).length = K := by rw [List.length_take]; omega
  have ex : xs.take K = cur.take K := by rw [hx, List.take_take, show min K N = K by omega]
  have l1 : r1.length = cur.length := by
    rw [h1, List.length_append, List.length_append, ht, hd, List.length_drop]; omega
  have e1 : r1.take (N - M) = xs.take K ++ xs.drop (K + M) := by
    rw [h1, ex, List.take_left' (by rw [List.length_append, ht, hd]; omega)]
  have le : (xs.take K ++ xs.drop (K + M)).length = N - M := by rw [List.length_append, hd, ex, ht]; omega
  refine ⟨l1, ?_, ?_⟩
  · rw [h2, e1, List.length_append, le, List.length_append, List.length_drop, l1, hz]; omega
  · rw [h2, e1, List.take_left' le]
set_option maxHeartbeats 1000000 in
set_option maxRecDepth 100000 in
theorem delete_any (base b n k cap0 : Nat) (xs : List Value) (w : World) (hown : w.ownsRow base 64 2 (.slice (some ⟨b, 0, none⟩) n cap0) n xs)
    (hk : k < n) (h1x : ∀ u ∈ xs, u.oneCell' = true) :
    Calls Try.prog 27 #[.slice (some ⟨b, 0, none⟩) n cap0, .int .i64 (k : Int), .int .i64 ((k + 1 : Nat) : Int)] w fun e w' => e = .returned (.slice (some ⟨b, 0, none⟩) (n - 1) cap0) ∧
      w'.ownsRow base 64 2 (.slice (some ⟨b, 0, none⟩) (n - 1) cap0) (n - 1) (xs.take (k * 2) ++ xs.drop ((k + 1) * 2)) ∧ w.grownBy w' (some b) := by
  obtain ⟨i0, hi0, hz0, hs0, hb0⟩ := info_parts info64
  obtain ⟨hxl, hO⟩ := hown
  rcases hO with ⟨e, _⟩ | ⟨g, cap, cur, e, hgb, hg, hnc, hcm, hcs, htk⟩
  · cases e
  cases e
  have hcm' : cap0 ≤ 9223372036854775807 := by simpa only [maxLen] using hcm
  obtain ⟨z, hz⟩ : ∃ z : Value, z = .agg #[.string ⟨#[]⟩, .int .i64 0] := ⟨_, rfl⟩
  obtain ⟨zs, hzs⟩ : ∃ zs : List Value, zs = [.string ⟨#[]⟩, .int .i64 0] := ⟨_, rfl⟩
  have hzc : (Builtin.zeroCells z.cells 1).toList = zs := by rw [Cpy.zeros_one, hz, hzs]; rfl
  have hzl : zs.length = 2 := by rw [hzs]; rfl
  have hz1 : ∀ v ∈ zs, v.oneCell' = true := by
    rw [hzs]
    intro v hv
    simp at hv
    rcases hv with rfl | rfl <;> rfl
  have HZ := Aside0.mk hzc
  rw [← hz] at hz0
  have hdl : (xs.drop ((k + 1) * 2)).length = (n - (k + 1)) * 2 := by rw [List.length_drop, hxl]; omega
  obtain ⟨A, hA, hsrc⟩ : ∃ A : Addr, (if cap0 = k + 1 then some (⟨b, 0, none⟩ : Addr) else some ⟨b, (k + 1) * 2, none⟩) = some A ∧ Aside0 (∀ t u, (xs.drop ((k + 1) * 2))[t]? = some u → w.drew.cell? (A.add t) = some u) := by
    by_cases h : cap0 = k + 1
    · refine ⟨⟨b, 0, none⟩, by simp [h], ⟨fun t u hu => ?_⟩⟩
      have h0 : (xs.drop ((k + 1) * 2)).length = 0 := by rw [hdl]; omega
      rw [List.length_eq_zero_iff.1 h0] at hu
      simp at hu
    · refine ⟨⟨b, (k + 1) * 2, none⟩, by simp [h], ⟨fun t u hu => ?_⟩⟩
      refine cells_of_heap (w := w.drew) hg _ _ _ ?_
      rw [List.getElem?_drop, ← htk, List.getElem?_take] at hu
      split at hu
      · simpa using hu
      · cases hu
  obtain ⟨row1, hr1⟩ : ∃ r : Array Value, r = (cur.toList.take (k * 2) ++ xs.drop ((k + 1) * 2) ++ cur.toList.drop (k * 2 + (xs.drop ((k + 1) * 2)).length)).toArray := ⟨_, rfl⟩
  obtain ⟨l1, l2, e2⟩ := del_row cur.toList xs zs (k * 2) (n * 2) 2 htk.symm hxl (by omega) (by rw [Array.length_toList, hcs]; omega) hzl row1.toList _ (by rw [hr1, show (k + 1) * 2 = k * 2 + 2 by omega]) rfl
  have Hg1 : (w.drew.setRow b row1).heap[b]? = some (.cells row1 64 (0, 0)) := setRow_heap w.drew b cur row1 64 (0, 0) hg
  have hcl : cur.toList.length = cap0 * 2 := by rw [Array.length_toList, hcs]
  rw [hcl] at l1 l2
  rw [Array.length_toList] at l1
  rw [show n * 2 - 2 = (n - 1) * 2 by omega, show k * 2 + 2 = (k + 1) * 2 by omega] at e2
  rw [show n * 2 - 2 = (n - 1) * 2 by omega] at l2
  have HE := Aside0.mk (And.intro l2 e2)
  have HR1 := Aside0.mk hr1
  clear hr1 l2 e2 htk hz hzs hzc
  have a1 : (0 : Int) ≤ (k : Int) := by omega
  have a2 : (k : Int) ≤ (n : Int) := by omega
  have a3 : (0 : Int) ≤ (k : Int) + 1 := by omega
  have a4 : (k : Int) + 1 ≤ (n : Int) := by omega
  have a5 : (k : Int) ≤ (k : Int) + 1 := by omega
  have a6 : (n : Int) ≤ (cap0 : Int) := by omega
  have a7 : ¬ ((k : Int) = (k : Int) + 1) := by omega
  have a8 : ((k : Int) == (k : Int) + 1) = false := by simp; omega
  have a9 : (k : Int) ≤ (cap0 : Int) := by omega
  have b1 : ¬ n = k := by omega
  have b2 : ((k + 1 : Nat) : Int) = (k : Int) + 1 := by omega
  have b3 : ((k : Int) + 1).toNat = k + 1 := by omega
  have b4 : (k : Int) + 1 ≤ (cap0 : Int) := by omega
  have b5 : k + (n - (k + 1)) = n - 1 := by omega
  have b6 : n - (n - 1) = 1 := by omega
  have b7 : ¬ cap0 = n - 1 := by omega
  have b8 : ((n - 1 : Nat) : Int) ≤ (n : Int) := by omega
  have b9 : (0 : Int) ≤ ((n - 1 : Nat) : Int) := by omega
  go_enter Try.func27, Try.ntmps27
  go_wp2
  go_region_law (refine Cpy.step_append_at rfl _ _ 65 rfl 64 i0 Try.underlying65 hi0 b k cap0 A (n - (k + 1)) (cap0 - (k + 1)) (by simp [Act.eval, Act.put]) (by simp [Act.eval, Act.put]) cur hg (xs.drop ((k + 1) * 2)) (by rw [hdl, hs0]) hsrc.out (fun u hu => h1x u (List.mem_of_mem_drop hu)) (by omega) (by rw [hs0, hdl, hcs]; omega) ?_; rw [hs0, ← HR1.out])
  go_wp2_with (first | (refine Cpy.wpList_clear_at rfl _ 65 rfl 64 z i0 Try.underlying65 hi0 hz0 b ((n - 1) * 2) 1 (cap0 - (n - 1)) rfl (by omega) row1 64 Hg1 zs HZ.out (by rw [hzl, l1]; omega) hz1 ?_))
  go_ret
  obtain ⟨l2, e2⟩ := HE.out
  rw [hzl] at l2 e2
  refine ⟨rfl, ⟨?_, .inr ⟨b, cap0, _, rfl, hgb, setRow_heap _ b row1 _ 64 (0, 0) Hg1, by omega, hcm, ?_, ?_⟩⟩, ?_⟩
  · rw [← e2, List.length_take, l2]; omega
  · rw [List.size_toArray]
    first | exact l2 | (rw [hzl]; exact l2)
  · first | exact e2 | (rw [hzl]; exact e2)
  · exact grownBy_trans (grownBy_trans (grownBy_drew w _) (grownBy_setRow _ _ _)) (grownBy_setRow _ _ _)
theorem below_grown {w w' : World} (h : Below w.heap.size w w') (r : Option Nat) : w.grownBy w' r := ⟨h.os, h.tape, h.output, h.size, fun k hk _ => h.block k hk⟩
theorem own_caps {w : World} {base e s b n cap0 : Nat} {xs : List Value} (h : w.ownsRow base e s (.slice (some ⟨b, 0, none⟩) n cap0) n xs) : n ≤ cap0 ∧ cap0 ≤ 9223372036854775807 ∧ xs.length = n * s ∧ b < w.heap.size ∧ base ≤ b := by
  obtain ⟨hxl, hO⟩ := h
  rcases hO with ⟨e, _⟩ | ⟨g, cap, cur, e, hgb, hg, hnc, hcm, hcs, htk⟩
  · cases e
  cases e
  exact ⟨hnc, by simpa only [maxLen] using hcm, hxl, (Array.getElem?_eq_some_iff.1 hg).1, hgb⟩
/-- Insert of one, anywhere -/
theorem insert_any (base b n k cap0 vb : Nat) (xs vs : List Value) (tv : TypeId) (w : World) (hown : w.ownsRow base 64 2 (.slice (some ⟨b, 0, none⟩) n cap0) n xs) (hbase : base ≤ w.heap.size)
    (hk : k ≤ n) (hn0 : 0 < n) (hbig : n ≤ 4398046511103) (hvl : vs.length = 2) (hv : w.heap[vb]? = some (.cells vs.toArray tv (0, 0))) (hvb : vb ≠ b) (h1 : ∀ u ∈ vs, u.oneCell' = true) (h1x : ∀ u ∈ xs, u.oneCell' = true) :
    Calls Try.prog 24 #[.slice (some ⟨b, 0, none⟩) n cap0, .int .i64 (k : Int), .slice (some ⟨vb, 0, none⟩) 1 1] w fun e w' => ∃ g cap, e = .returned (.slice (some ⟨g, 0, none⟩) (n + 1) cap) ∧
      w'.ownsRow base 64 2 (.slice (some ⟨g, 0, none⟩) (n + 1) cap) (n + 1) (xs.take (k * 2) ++ vs ++ xs.drop (k * 2)) ∧ w.grownBy w' (some b) ∧ (g = b ∨ w.heap.size ≤ g) := by
  obtain ⟨c1, c2, c3, c4, c5⟩ := own_caps hown
  by_cases hkn : k = n
  · subst hkn
    refine (insert_end base b k cap0 xs ⟨vb, 0, none⟩ 1 1 vs w hown hbase hn0 c1 c2 (by omega) (fun j u hj => cells_of_heap hv 0 j u (by simpa using hj)) h1 (by omega) (by omega)).mono ?_
    rintro e w' ⟨g, cap, he, ho, hg, hgb, _⟩
    refine ⟨g, cap, he, ?_, hg, ?_⟩
    · rw [List.take_of_length_le (by omega), List.drop_eq_nil_of_le (by omega), List.append_nil]; exact ho
    · rcases hgb with h | h
      · exact .inl h
      · exact .inr (by omega)
  · by_cases hr : n + 1 ≤ cap0
    · refine (insert_room base b n k cap0 vb xs vs tv w hown (by omega) hr hvl hv hvb h1 h1x).mono ?_
      rintro e w' ⟨he, ho, hg⟩
      exact ⟨b, cap0, he, ho, hg, .inl rfl⟩
    · refine (insert_grow base b n k cap0 vb xs vs tv w hown hbase (by omega) (by omega) (by omega) hvl hv h1 h1x).mono ?_
      rintro e w' ⟨cap, he, ho, hb⟩
      exact ⟨_, cap, he, ho, below_grown hb _, .inr (Nat.le_refl _)⟩
end Go.Proofs.Ytmpcmpanolnpfaa.Tr
