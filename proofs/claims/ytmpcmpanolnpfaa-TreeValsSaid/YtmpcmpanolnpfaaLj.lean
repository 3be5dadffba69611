/- Tree: slices.Insert and slices.Delete at leaves; written by a program out of the text at items. -/
import Derived.Test.YtmpcmpanolnpfaaTk
set_option linter.unusedVariables false
set_option linter.unusedSimpArgs false
namespace Go.Proofs.Ytmpcmpanolnpfaa.Tr
open Go.RowKit Go.Proofs.YtmpcmpanolnpfaaW.PrintWords Go.Proofs.YtmpcmpanolnpfaaW.PrintLast Go.Proofs.YtmpcmpanolnpfaaW.PrintMore

theorem info65 : (Try.prog.info? 65).map (fun i => (i.zero, i.size, i.bytes)) = some (some (.slice none 0 0), 1, 24) := by kernel_rfl
set_option maxHeartbeats 1000000 in
set_option maxRecDepth 100000 in
theorem insertL_end (base b n cap0 : Nat) (xs : List Value) (ad : Addr) (m c : Nat) (news : List Value) (w : World) (hown : w.ownsRow base 65 1 (.slice (some ⟨b, 0, none⟩) n cap0) n xs) (hbase : base ≤ w.heap.size)
    (hn0 : 0 < n) (hnc : n ≤ cap0) (hcap : cap0 ≤ 9223372036854775807) (hl : news.length = m) (hnews : ∀ j u, news[j]? = some u → w.cell? (ad.add j) = some u) (h1 : ∀ u ∈ news, u.oneCell' = true) (hm : 0 < m) (hb : n + m ≤ 4398046511104) :
    Calls Try.prog 26 #[.slice (some ⟨b, 0, none⟩) n cap0, .int .i64 (n : Int), .slice (some ad) m c] w fun e w' => ∃ g cap, e = .returned (.slice (some ⟨g, 0, none⟩) (n + m) cap) ∧
      w'.ownsRow base 65 1 (.slice (some ⟨g, 0, none⟩) (n + m) cap) (n + m) (xs ++ news) ∧ w.grownBy w' (some b) ∧ (g = b ∨ g = w.heap.size) ∧ g < w'.heap.size := by
  obtain ⟨i0, hi0, hz0, hs0, hb0⟩ := info_parts info65
  have hN := Aside0.mk hnews
  have HO := Aside0.mk hown
  clear hnews hown
  have a1 : (0 : Int) ≤ (n : Int) := by omega
  have a2 : (n : Int) ≤ (cap0 : Int) := by omega
  have a3 : ¬ (m : Int) = 0 := by omega
  have a4 : ((m : Int) == 0) = false := by simpa using (show ¬ m = 0 by omega)
  go_enter Try.func26, Try.ntmps26
  go_wp2_with (first | (refine wpList_append_lies _ rfl (.tmp 23) (.tmp 24) 26 rfl base 65 i0 _ 1 24 Try.underlying26 hi0 hz0 hs0 hb0 rfl (by decide) (.slice (some ⟨b, 0, none⟩) n cap0) n xs rfl HO.out ad m c news rfl (by rw [Nat.mul_one]; exact hl) hN.out h1 hm (by simp only [maxLen]; omega) (by omega) hbase _ rfl ?_; intro g cap w1 ho hg hat hlt))
  all_goals
    go_ret
    refine ⟨g, cap, rfl, ho, hg, ?_, hlt⟩
    rcases hat with h | h
    · left
      simp [Value.ownBlock] at h
      omega
    · exact .inr h
set_option maxHeartbeats 1000000 in
set_option maxRecDepth 100000 in
theorem insertL_room (base b n k cap0 vb : Nat) (xs vs : List Value) (tv : TypeId) (w : World) (hown : w.ownsRow base 65 1 (.slice (some ⟨b, 0, none⟩) n cap0) n xs)
    (hk : k < n) (hroom : n + 1 ≤ cap0) (hvl : vs.length = 1) (hv : w.heap[vb]? = some (.cells vs.toArray tv (0, 0))) (hvb : vb ≠ b) (h1 : ∀ u ∈ vs, u.oneCell' = true) (h1x : ∀ u ∈ xs, u.oneCell' = true) :
    Calls Try.prog 26 #[.slice (some ⟨b, 0, none⟩) n cap0, .int .i64 (k : Int), .slice (some ⟨vb, 0, none⟩) 1 1] w fun e w' => e = .returned (.slice (some ⟨b, 0, none⟩) (n + 1) cap0) ∧
      w'.ownsRow base 65 1 (.slice (some ⟨b, 0, none⟩) (n + 1) cap0) (n + 1) (xs.take (k) ++ vs ++ xs.drop (k)) ∧ w.grownBy w' (some b) := by
  obtain ⟨i0, hi0, hz0, hs0, hb0⟩ := info_parts info65
  have hsz : (Try.prog.info? 65).map (·.size) = some 1 := by rw [hi0]; simp [hs0]
  obtain ⟨hxl, hO⟩ := hown
  rcases hO with ⟨e, _⟩ | ⟨g, cap, cur, e, hgb, hg, hnc, hcm, hcs, htk⟩
  · cases e
  cases e
  simp only [Nat.mul_one] at hxl hcs htk
  have hcm' : cap0 ≤ 9223372036854775807 := by simpa only [maxLen] using hcm
  have hov : ∀ lb cb, (callFunc 43 #[.slice (some ⟨vb, 0, none⟩) 1 1, .slice (some ⟨b, (k + 1), none⟩) lb cb]).run Try.prog w = .ok (.value (.bool false)) w := fun lb cb => by
    rw [run_callFunc_extern Try.func43 (by kernel_rfl) (by kernel_rfl) (by kernel_rfl) (e := Extern.SlicesOverlaps.overlaps #[26, 26] #[4]) (by kernel_rfl),
      Lib.run_overlaps_apart w 26 4 65 Try.underlying26 1 (fun w => by simp [sizeOf, typeInfo, hi0, hs0]) ⟨vb, 0, none⟩ ⟨b, (k + 1), none⟩ 1 1 lb cb hvb tv 65 1 cur.size
        (by simp [World.shape?, hv, hvl]) (by simp [World.shape?, hg]) (by omega) (by simp [World.frozen?, hv]) (by simp [World.frozen?, hv])]
    rfl
  have hdl : (xs.drop (k)).length = (n - k) := by rw [List.length_drop, hxl]
  obtain ⟨row1, hr1⟩ : ∃ r : Array Value, r = (cur.toList.take ((k + 1)) ++ (xs.drop (k) ++ cur.toList.drop ((k + 1) + (xs.drop (k)).length))).toArray := ⟨_, rfl⟩
  obtain ⟨hl1, _, _⟩ := room_row cur.toList xs vs (k) (n) 1 htk.symm hxl (by omega) (by rw [Array.length_toList, hcs]; omega) hvl row1.toList _ (by rw [hr1, show (k + 1) = k + 1 by omega]) rfl
  have hl1' : row1.size = cur.size := by simpa using hl1
  have HX : ∀ j v, (xs.drop (k))[j]? = some v → w.drew.cell? ((⟨b, k, none⟩ : Addr).add j) = some v := fun j v hj => cells_of_heap (w := w.drew) hg _ _ _ (by
    rw [List.getElem?_drop, ← htk, List.getElem?_take] at hj
    split at hj
    · simpa using hj
    · cases hj)
  have HXa := Aside0.mk HX
  have Hg1 : (w.drew.setRow b row1).heap[b]? = some (.cells row1 65 (0, 0)) := setRow_heap w.drew b cur row1 65 (0, 0) hg
  have HV : ∀ j v, vs[j]? = some v → (w.drew.setRow b row1).cell? ((⟨vb, 0, none⟩ : Addr).add j) = some v := fun j v hj => by
    rw [Addr.add_lit, cell_setRow_other _ _ _ _ hvb]
    exact cell_of_row w vb _ vs.toArray tv (0, 0) hv |>.trans (by simpa using hj)
  have HVa := Aside0.mk HV
  have a1 : (0 : Int) ≤ (k : Int) := by omega
  have a2 : (k : Int) ≤ (n : Int) := by omega
  have a3 : ¬ (k : Int) = (n : Int) := by omega
  have a4 : ((k : Int) == (n : Int)) = false := by simp; omega
  have hw1 : IntKind.i64.wrap ((k : Int) + 1) = (k : Int) + 1 := by rw [IntKind.wrap_i64]; omega
  have a5 : ¬ (cap0 : Int) < (n : Int) + 1 := by omega
  have a6 : (n : Int) + 1 ≤ (cap0 : Int) := by omega
  have a7 : (0 : Int) ≤ (n : Int) + 1 := by omega
  have a8 : (0 : Int) ≤ (k : Int) + 1 := by omega
  have a9 : (k : Int) + 1 ≤ (n : Int) + 1 := by omega
  have b1 : (k : Int) ≤ (n : Int) + 1 := by omega
  have b2 : ¬ (cap0 = k + 1) := by omega
  have b3 : ¬ (cap0 = k) := by omega
  have b4 : (k : Int) ≤ (cap0 : Int) := by omega
  have htn : ((k : Int) + 1).toNat = k + 1 := by omega
  have htm : ((n : Int) + 1).toNat = n + 1 := by omega
  clear HX HV
  have HR1 := Aside0.mk hr1
  clear hr1
  have HTK := Aside0.mk htk.symm
  clear htk
  go_enter Try.func26, Try.ntmps26
  go_wp2_with (simp only [hov])
  go_region_law (refine Cpy.step_copy_at rfl _ _ 26 26 rfl 65 1 Try.underlying26 hsz b ((k + 1)) (n + 1 - (k + 1)) (cap0 - (k + 1)) ⟨b, k, none⟩ (n + 1 - k) (cap0 - k) (by simp [Act.eval, Act.put]) (by simp [Act.eval, Act.put]) cur 65 hg (xs.drop (k)) (by rw [hdl]; simp only [Nat.min_def]; split <;> omega) HXa.out (by rw [hdl, hcs]; omega) (fun u hu => h1x u (List.mem_of_mem_drop hu)) ?_; rw [← HR1.out])
  go_wp2_with (first | (refine Cpy.wpList_copy_at rfl _ _ 26 26 rfl 65 1 Try.underlying26 hsz b (k) (n + 1 - k) (cap0 - k) ⟨vb, 0, none⟩ 1 1 rfl rfl row1 65 Hg1 vs (by rw [hvl]; simp only [Nat.min_def]; split <;> omega) HVa.out (by rw [hvl, hl1', hcs]; omega) h1 ?_))
  go_ret
  obtain ⟨_, l2, e2⟩ := room_row cur.toList xs vs (k) (n) 1 HTK.out hxl (by omega) (by rw [Array.length_toList, hcs]; omega) hvl row1.toList _ (by rw [HR1.out, show (k + 1) = k + 1 by omega]) rfl
  refine ⟨rfl, ⟨?_, .inr ⟨b, cap0, _, rfl, hgb, setRow_heap _ b row1 _ 65 (0, 0) Hg1, hroom, hcm, ?_, ?_⟩⟩, ?_⟩
  · rw [← e2, List.length_take, l2, Array.length_toList, hcs]; omega
  · rw [List.size_toArray, l2, Array.length_toList, hcs]; omega
  · rw [Nat.mul_one]; exact e2
  · exact grownBy_trans (grownBy_trans (grownBy_drew w _) (grownBy_setRow _ _ _)) (grownBy_setRow _ _ _)
set_option maxHeartbeats 1000000 in
set_option maxRecDepth 100000 in
theorem insertL_grow (base b n k cap0 vb : Nat) (xs vs : List Value) (tv : TypeId) (w : World) (hown : w.ownsRow base 65 1 (.slice (some ⟨b, 0, none⟩) n cap0) n xs) (hbase : base ≤ w.heap.size)
    (hk : k < n) (hroom : cap0 < n + 1) (hbig : n ≤ 4398046511104) (hvl : vs.length = 1) (hv : w.heap[vb]? = some (.cells vs.toArray tv (0, 0))) (h1 : ∀ u ∈ vs, u.oneCell' = true) (h1x : ∀ u ∈ xs, u.oneCell' = true) :
    Calls Try.prog 26 #[.slice (some ⟨b, 0, none⟩) n cap0, .int .i64 (k : Int), .slice (some ⟨vb, 0, none⟩) 1 1] w fun e w' => ∃ cap, e = .returned (.slice (some ⟨w.heap.size, 0, none⟩) (n + 1) cap) ∧
      w'.ownsRow base 65 1 (.slice (some ⟨w.heap.size, 0, none⟩) (n + 1) cap) (n + 1) (xs.take (k) ++ vs ++ xs.drop (k)) ∧ Below w.heap.size w w' := by
  obtain ⟨i0, hi0, hz0, hs0, hb0⟩ := info_parts info65
  have hsz : (Try.prog.info? 65).map (·.size) = some 1 := by rw [hi0]; simp [hs0]
  obtain ⟨hxl, hO⟩ := hown
  rcases hO with ⟨e, _⟩ | ⟨g, cap, cur, e, hgb, hg, hnc, hcm, hcs, htk⟩
  · cases e
  cases e
  simp only [Nat.mul_one] at hxl hcs htk
  have hcells : ∀ j v, xs[j]? = some v → w.cell? ((⟨b, 0, none⟩ : Addr).add j) = some v := fun j v hj => cells_of_heap hg _ _ _ (by
    rw [← htk, List.getElem?_take] at hj
    split at hj
    · simpa using hj
    · cases hj)
  have hcm' : cap0 ≤ 9223372036854775807 := by simpa only [maxLen] using hcm
  have hbs : b < w.heap.size := (Array.getElem?_eq_some_iff.1 hg).1
  have hvs : vb < w.heap.size := (Array.getElem?_eq_some_iff.1 hv).1
  have hik : k + (n + 1 - k) = n + 1 := by omega
  have hkk : (n : Int) + 1 - (k : Int) = ((n + 1 - k : Nat) : Int) := by omega
  have hold : (Builtin.firstCells i0.size k (.slice (some ⟨b, 0, none⟩) k cap0)).run Try.prog w.drew = .ok (xs.take (k)).toArray w.drew := by
    rw [hs0]
    exact run_firstCells_some w.drew 1 k ⟨b, 0, none⟩ k cap0 (xs.take (k)) (by rw [List.length_take]; omega) (fun j v hj => by
      rw [List.getElem?_take] at hj
      split at hj
      · exact hcells j v hj
      · cases hj)
  obtain ⟨G, hG⟩ : ∃ G, G = grownCap w (n + 1) cap0 65 := ⟨_, rfl⟩
  obtain ⟨z, hz⟩ : ∃ z : Value, z = .slice none 0 0 := ⟨_, rfl⟩
  have hzc : z.cells.size = 1 := by rw [hz]; rfl
  rw [← hz] at hz0
  obtain ⟨row0, hr0⟩ : ∃ r : Array Value, r = (xs.take (k)).toArray ++ Builtin.zeroCells z.cells (n + 1 - k) ++ Builtin.zeroCells z.cells (G - (n + 1)) := ⟨_, rfl⟩
  have hrz : ∀ ty, (Builtin.append_ #[26, 3] ty #[.slice (some ⟨b, 0, none⟩) k cap0, .int .i64 ((n : Int) + 1 - (k : Int))]).run Try.prog w =
      .ok (.slice (some ⟨w.heap.size, 0, none⟩) (n + 1) G) (w.drew.alloc (.cells row0 65)) := fun ty => by
    have h := Lib.run_append_grow_zeros w 26 3 ty 65 i0 _ .i64 .i64 Try.underlying26 Try.underlying3 hi0 hz0 (some ⟨b, 0, none⟩) k cap0 _ hold (n + 1 - k) (by omega) (by omega) (by omega) (by omega) (by rw [hb0]; omega) (by rw [hb0, hik]; exact growslice_fits hroom (by omega))
    rw [hik, ← hG, ← hr0] at h
    rw [hkk]
    exact h
  have hGn : n + 1 ≤ G := by rw [hG]; exact grownCap_ge w _ _ _
  have hGm : G ≤ maxLen := by rw [hG]; exact grownCap_le_maxLen w (n + 1) cap0 65 (by unfold maxLen; omega)
  have hG63 : G ≤ 9223372036854775807 := by simpa only [maxLen] using hGm
  obtain ⟨row1, hr1⟩ : ∃ r : Array Value, r = (row0.toList.take (k) ++ (vs ++ row0.toList.drop (k + vs.length))).toArray := ⟨_, rfl⟩
  have hdl : (xs.drop (k)).length = (n - k) := by rw [List.length_drop, hxl]
  obtain ⟨l0, l1, l2, e2⟩ := grow_row xs vs (Builtin.zeroCells z.cells (n + 1 - k)).toList (Builtin.zeroCells z.cells (G - (n + 1))).toList (k) (n) 1 hxl (by omega) hvl (by rw [Array.length_toList, size_zeroCells, hzc]; omega) row0.toList row1.toList _ (by rw [hr0]; simp) (by rw [hr1, hvl]) rfl
  have hzl : n + 1 + (Builtin.zeroCells z.cells (G - (n + 1))).toList.length = G := by rw [Array.length_toList, size_zeroCells, hzc]; omega
  rw [hzl] at l0 l1 l2
  rw [Array.length_toList] at l0 l1
  have Hg0 : (w.drew.alloc (.cells row0 65)).heap[w.heap.size]? = some (.cells row0 65 (0, 0)) := heap_alloc_new w.drew _
  have Hg1 : ((w.drew.alloc (.cells row0 65)).setRow w.heap.size row1).heap[w.heap.size]? = some (.cells row1 65 (0, 0)) := setRow_heap _ _ _ row1 65 (0, 0) Hg0
  have HV : ∀ j v, vs[j]? = some v → (w.drew.alloc (.cells row0 65)).cell? ((⟨vb, 0, none⟩ : Addr).add j) = some v := fun j v hj =>
    cells_of_heap (t := tv) (fr := (0, 0)) ((heap_alloc_old w.drew (.cells row0 65) hvs).trans hv) 0 j v (by simpa using hj)
  have HX : ∀ j v, (xs.drop (k))[j]? = some v → ((w.drew.alloc (.cells row0 65)).setRow w.heap.size row1).cell? ((⟨b, k, none⟩ : Addr).add j) = some v := fun j v hj => by
    rw [Addr.add_lit, cell_setRow_other _ _ _ _ (by show b ≠ w.heap.size; omega)]
    rw [List.getElem?_drop] at hj
    have h := hcells _ v hj
    rw [Addr.add_lit, Nat.zero_add] at h
    exact up (below_alloc (Below.refl _ _) _) (w := w.drew) h
  have HVa := Aside0.mk HV
  have HXa := Aside0.mk HX
  have HRZ := Aside0.mk hrz
  have HR1 := Aside0.mk hr1
  rw [show k + 1 = (k + 1) by omega, hdl] at l2 e2
  rw [show n + 1 = (n + 1) by omega] at e2
  have HE := Aside0.mk (And.intro l2 e2)
  clear HV HX hrz hr1 hr0 hz hG hcells htk hold l2 e2 hkk hik hzl
  have a1 : (0 : Int) ≤ (k : Int) := by omega
  have a2 : (k : Int) ≤ (n : Int) := by omega
  have a3 : ¬ (k : Int) = (n : Int) := by omega
  have a4 : ((k : Int) == (n : Int)) = false := by simp; omega
  have hw1 : IntKind.i64.wrap ((k : Int) + 1) = (k : Int) + 1 := by rw [IntKind.wrap_i64]; omega
  have a5 : (cap0 : Int) < (n : Int) + 1 := by omega
  have a7 : (0 : Int) ≤ (n : Int) + 1 := by omega
  have a8 : (0 : Int) ≤ (k : Int) + 1 := by omega
  have a9 : (k : Int) + 1 ≤ (n : Int) + 1 := by omega
  have b1 : (k : Int) ≤ (n : Int) + 1 := by omega
  have b2 : ¬ (G = k + 1) := by omega
  have b3 : ¬ (G = k) := by omega
  have b4 : (k : Int) ≤ (cap0 : Int) := by omega
  have b5 : ¬ (cap0 = k) := by omega
  have htn : ((k : Int) + 1).toNat = k + 1 := by omega
  have htm : ((n : Int) + 1).toNat = n + 1 := by omega
  go_enter Try.func26, Try.ntmps26
  go_wp2_with (first
    | (refine Lib.wpList_append_run _ rfl _ _ 26 3 rfl _ _ rfl rfl _ _ (HRZ.out _) ?_)
    | (refine Cpy.wpList_copy_at rfl _ _ 26 26 rfl 65 1 Try.underlying26 hsz w.heap.size (k) (n + 1 - k) (G - k) ⟨vb, 0, none⟩ 1 1 rfl rfl row0 65 Hg0 vs (by rw [hvl]; simp only [Nat.min_def]; split <;> omega) HVa.out (by rw [hvl, l0]; omega) h1 ?_; rw [← HR1.out]))
  go_region_law (refine Cpy.step_copy_at rfl _ _ 26 26 rfl 65 1 Try.underlying26 hsz w.heap.size ((k + 1)) (n + 1 - (k + 1)) (G - (k + 1)) ⟨b, k, none⟩ (n - k) (cap0 - k) (by simp [Act.eval, Act.put]) (by simp [Act.eval, Act.put]) row1 65 Hg1 (xs.drop (k)) (by rw [hdl]; simp only [Nat.min_def]; split <;> omega) HXa.out (by rw [hdl, l1]; omega) (fun u hu => h1x u (List.mem_of_mem_drop hu)) ?_)
  go_wp2
  go_ret
  obtain ⟨l2, e2⟩ := HE.out
  refine ⟨G, rfl, ⟨?_, .inr ⟨w.heap.size, G, _, rfl, hbase, setRow_heap _ w.heap.size row1 _ 65 (0, 0) Hg1, hGn, hGm, ?_, ?_⟩⟩, ?_⟩
  · rw [← e2, List.length_take, l2]; omega
  · rw [List.size_toArray]
    first | exact l2 | exact l2.trans (Nat.mul_one _).symm | (rw [hdl]; exact l2)
  · rw [Nat.mul_one]; first | exact e2 | (rw [hdl]; exact e2)
  · exact below_setRow (belowDrew (below_setRow (belowDrew (below_alloc (Below.refl _ _) _)) (Nat.le_refl _) _)) (Nat.le_refl _) _
set_option maxHeartbeats 1000000 in
set_option maxRecDepth 100000 in
theorem deleteL_any (base b n k cap0 : Nat) (xs : List Value) (w : World) (hown : w.ownsRow base 65 1 (.slice (some ⟨b, 0, none⟩) n cap0) n xs)
    (hk : k < n) (h1x : ∀ u ∈ xs, u.oneCell' = true) :
    Calls Try.prog 28 #[.slice (some ⟨b, 0, none⟩) n cap0, .int .i64 (k : Int), .int .i64 ((k + 1 : Nat) : Int)] w fun e w' => e = .returned (.slice (some ⟨b, 0, none⟩) (n - 1) cap0) ∧
      w'.ownsRow base 65 1 (.slice (some ⟨b, 0, none⟩) (n - 1) cap0) (n - 1) (xs.take (k) ++ xs.drop ((k + 1))) ∧ w.grownBy w' (some b) := by
  obtain ⟨i0, hi0, hz0, hs0, hb0⟩ := info_parts info65
  obtain ⟨hxl, hO⟩ := hown
  rcases hO with ⟨e, _⟩ | ⟨g, cap, cur, e, hgb, hg, hnc, hcm, hcs, htk⟩
  · cases e
  cases e
  simp only [Nat.mul_one] at hxl hcs htk
  have hcm' : cap0 ≤ 9223372036854775807 := by simpa only [maxLen] using hcm
  obtain ⟨z, hz⟩ : ∃ z : Value, z = .slice none 0 0 := ⟨_, rfl⟩
  obtain ⟨zs, hzs⟩ : ∃ zs : List Value, zs = [.slice none 0 0] := ⟨_, rfl⟩
  have hzc : (Builtin.zeroCells z.cells 1).toList = zs := by rw [Cpy.zeros_one, hz, hzs]; rfl
  have hzl : zs.length = 1 := by rw [hzs]; rfl
  have hz1 : ∀ v ∈ zs, v.oneCell' = true := by
    rw [hzs]
    intro v hv
    simp at hv
    subst hv; rfl
  have HZ := Aside0.mk hzc
  rw [← hz] at hz0
  have hdl : (xs.drop ((k + 1))).length = (n - (k + 1)) := by rw [List.length_drop, hxl]
  obtain ⟨A, hA, hsrc⟩ : ∃ A : Addr, (if cap0 = k + 1 then some (⟨b, 0, none⟩ : Addr) else some ⟨b, (k + 1), none⟩) = some A ∧ Aside0 (∀ t u, (xs.drop ((k + 1)))[t]? = some u → w.drew.cell? (A.add t) = some u) := by
    by_cases h : cap0 = k + 1
    · refine ⟨⟨b, 0, none⟩, by simp [h], ⟨fun t u hu => ?_⟩⟩
      have h0 : (xs.drop ((k + 1))).length = 0 := by rw [hdl]; omega
      rw [List.length_eq_zero_iff.1 h0] at hu
      simp at hu
    · refine ⟨⟨b, (k + 1), none⟩, by simp [h], ⟨fun t u hu => ?_⟩⟩
      refine cells_of_heap (w := w.drew) hg _ _ _ ?_
      rw [List.getElem?_drop, ← htk, List.getElem?_take] at hu
      split at hu
      · simpa using hu
      · cases hu
  obtain ⟨row1, hr1⟩ : ∃ r : Array Value, r = (cur.toList.take (k) ++ xs.drop ((k + 1)) ++ cur.toList.drop (k + (xs.drop ((k + 1))).length)).toArray := ⟨_, rfl⟩
  obtain ⟨l1, l2, e2⟩ := del_row cur.toList xs zs (k) (n) 1 htk.symm hxl (by omega) (by rw [Array.length_toList, hcs]; omega) hzl row1.toList _ (by rw [hr1, show (k + 1) = k + 1 by omega]) rfl
  have Hg1 : (w.drew.setRow b row1).heap[b]? = some (.cells row1 65 (0, 0)) := setRow_heap w.drew b cur row1 65 (0, 0) hg
  have hcl : cur.toList.length = cap0 := by rw [Array.length_toList, hcs]
  rw [hcl] at l1 l2
  rw [Array.length_toList] at l1
  rw [show n - 1 = (n - 1) by omega, show k + 1 = (k + 1) by omega] at e2
  rw [show n - 1 = (n - 1) by omega] at l2
  have HE := Aside0.mk (And.intro l2 e2)
  have HR1 := Aside0.mk hr1
  clear hr1 l2 e2 htk hz hzs hzc
  have a1 : (0 : Int) ≤ (k : Int) := by omega
  have a2 : (k : Int) ≤ (n : Int) := by omega
  have a3 : (0 : Int) ≤ (k : Int) + 1 := by omega
  have a4 : (k : Int) + 1 ≤ (n : Int) := by omega
  have a5 : (k : Int) ≤ (k : Int) + 1 := by omega
  have a6 : (n : Int) ≤ (cap0 : Int) := by omega
  have a7 : ¬ ((k : Int) = (k : Int) + 1) := by omega
  have a8 : ((k : Int) == (k : Int) + 1) = false := by simp; omega
  have a9 : (k : Int) ≤ (cap0 : Int) := by omega
  have b1 : ¬ n = k := by omega
  have b2 : ((k + 1 : Nat) : Int) = (k : Int) + 1 := by omega
  have b3 : ((k : Int) + 1).toNat = k + 1 := by omega
  have b4 : (k : Int) + 1 ≤ (cap0 : Int) := by omega
  have b5 : k + (n - (k + 1)) = n - 1 := by omega
  have b6 : n - (n - 1) = 1 := by omega
  have b7 : ¬ cap0 = n - 1 := by omega
  have b8 : ((n - 1 : Nat) : Int) ≤ (n : Int) := by omega
  have b9 : (0 : Int) ≤ ((n - 1 : Nat) : Int) := by omega
  go_enter Try.func28, Try.ntmps28
  go_wp2
  go_region_law (refine Cpy.step_append_at rfl _ _ 26 rfl 65 i0 Try.underlying26 hi0 b k cap0 A (n - (k + 1)) (cap0 - (k + 1)) (by simp [Act.eval, Act.put]) (by simp [Act.eval, Act.put]) cur hg (xs.drop ((k + 1))) (by rw [hdl, hs0]; omega) hsrc.out (fun u hu => h1x u (List.mem_of_mem_drop hu)) (by omega) (by rw [hs0, hdl, hcs]; omega) ?_; rw [hs0, Nat.mul_one, ← HR1.out])
  go_wp2_with (first | (refine Cpy.wpList_clear_at rfl _ 26 rfl 65 z i0 Try.underlying26 hi0 hz0 b ((n - 1)) 1 (cap0 - (n - 1)) rfl (by omega) row1 65 Hg1 zs HZ.out (by rw [hzl, l1]; omega) hz1 ?_))
  go_ret
  obtain ⟨l2, e2⟩ := HE.out
  rw [hzl] at l2 e2
  refine ⟨rfl, ⟨?_, .inr ⟨b, cap0, _, rfl, hgb, setRow_heap _ b row1 _ 65 (0, 0) Hg1, by omega, hcm, ?_, ?_⟩⟩, ?_⟩
  · rw [← e2, List.length_take, l2]; omega
  · rw [List.size_toArray]
    first | exact l2 | exact l2.trans (Nat.mul_one _).symm | (rw [hzl]; exact l2)
  · rw [Nat.mul_one]; first | exact e2 | (rw [hzl]; exact e2)
  · exact grownBy_trans (grownBy_trans (grownBy_drew w _) (grownBy_setRow _ _ _)) (grownBy_setRow _ _ _)
set_option maxHeartbeats 1000000 in
set_option maxRecDepth 100000 in
theorem insertL_any (base b n k cap0 vb : Nat) (xs vs : List Value) (tv : TypeId) (w : World) (hown : w.ownsRow base 65 1 (.slice (some ⟨b, 0, none⟩) n cap0) n xs) (hbase : base ≤ w.heap.size)
    (hk : k ≤ n) (hn0 : 0 < n) (hbig : n ≤ 4398046511103) (hvl : vs.length = 1) (hv : w.heap[vb]? = some (.cells vs.toArray tv (0, 0))) (hvb : vb ≠ b) (h1 : ∀ u ∈ vs, u.oneCell' = true) (h1x : ∀ u ∈ xs, u.oneCell' = true) :
    Calls Try.prog 26 #[.slice (some ⟨b, 0, none⟩) n cap0, .int .i64 (k : Int), .slice (some ⟨vb, 0, none⟩) 1 1] w fun e w' => ∃ g cap, e = .returned (.slice (some ⟨g, 0, none⟩) (n + 1) cap) ∧
      w'.ownsRow base 65 1 (.slice (some ⟨g, 0, none⟩) (n + 1) cap) (n + 1) (xs.take (k) ++ vs ++ xs.drop (k)) ∧ w.grownBy w' (some b) ∧ (g = b ∨ w.heap.size ≤ g) := by
  obtain ⟨c1, c2, c3, c4, c5⟩ := own_caps hown
  by_cases hkn : k = n
  · subst hkn
    refine (insertL_end base b k cap0 xs ⟨vb, 0, none⟩ 1 1 vs w hown hbase hn0 c1 c2 (by omega) (fun j u hj => cells_of_heap hv 0 j u (by simpa using hj)) h1 (by omega) (by omega)).mono ?_
    rintro e w' ⟨g, cap, he, ho, hg, hgb, _⟩
    refine ⟨g, cap, he, ?_, hg, ?_⟩
    · rw [List.take_of_length_le (by omega), List.drop_eq_nil_of_le (by omega), List.append_nil]; exact ho
    · rcases hgb with h | h
      · exact .inl h
      · exact .inr (by omega)
  · by_cases hr : n + 1 ≤ cap0
    · refine (insertL_room base b n k cap0 vb xs vs tv w hown (by omega) hr hvl hv hvb h1 h1x).mono ?_
      rintro e w' ⟨he, ho, hg⟩
      exact ⟨b, cap0, he, ho, hg, .inl rfl⟩
    · refine (insertL_grow base b n k cap0 vb xs vs tv w hown hbase (by omega) (by omega) (by omega) hvl hv h1 h1x).mono ?_
      rintro e w' ⟨cap, he, ho, hb⟩
      exact ⟨_, cap, he, ho, below_grown hb _, .inr (Nat.le_refl _)⟩
end Go.Proofs.Ytmpcmpanolnpfaa.Tr
