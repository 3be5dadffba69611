/- Trees of strings: Lj, Ta, Tp, out of the texts for trees of ints by gen_str.py. -/
import Derived.Test.YtmpcmpanolnpfaaSa
set_option linter.unusedVariables false
set_option linter.unusedSimpArgs false
namespace Go.Proofs.Ytmpcmpanolnpfaa.Tr.Sr
open Go.RowKit Go.Proofs.YtmpcmpanolnpfaaW.PrintWords Go.Proofs.YtmpcmpanolnpfaaW.PrintLast Go.Proofs.YtmpcmpanolnpfaaW.PrintMore
section
theorem info75 : (Try.prog.info? 75).map (fun i => (i.zero, i.size, i.bytes)) = some (some (.slice none 0 0), 1, 24) := by kernel_rfl
set_option maxHeartbeats 1000000 in
set_option maxRecDepth 100000 in
theorem insertL_end (base b n cap0 : Nat) (xs : List Value) (ad : Addr) (m c : Nat) (news : List Value) (w : World) (hown : w.ownsRow base 75 1 (.slice (some ⟨b, 0, none⟩) n cap0) n xs) (hbase : base ≤ w.heap.size)
    (hn0 : 0 < n) (hnc : n ≤ cap0) (hcap : cap0 ≤ 9223372036854775807) (hl : news.length = m) (hnews : ∀ j u, news[j]? = some u → w.cell? (ad.add j) = some u) (h1 : ∀ u ∈ news, u.oneCell' = true) (hm : 0 < m) (hb : n + m ≤ 4398046511103) :
    Calls Try.prog 34 #[.slice (some ⟨b, 0, none⟩) n cap0, .int .i64 (n : Int), .slice (some ad) m c] w fun e w' => ∃ g cap, e = .returned (.slice (some ⟨g, 0, none⟩) (n + m) cap) ∧
      w'.ownsRow base 75 1 (.slice (some ⟨g, 0, none⟩) (n + m) cap) (n + m) (xs ++ news) ∧ w.grownBy w' (some b) ∧ (g = b ∨ g = w.heap.size) ∧ g < w'.heap.size := by
  obtain ⟨i0, hi0, hz0, hs0, hb0⟩ := info_parts info75
  have hN := Aside0.mk hnews
  have HO := Aside0.mk hown
  clear hnews hown
  have a1 : (0 : Int) ≤ (n : Int) := by omega
  have a2 : (n : Int) ≤ (cap0 : Int) := by omega
  have a3 : ¬ (m : Int) = 0 := by omega
  have a4 : ((m : Int) == 0) = false := by simpa using (show ¬ m = 0 by omega)
  go_enter Try.func34, Try.ntmps34
  go_wp2_with (first | (refine wpList_append_lies _ rfl (.tmp 23) (.tmp 24) 41 rfl base 75 i0 _ 1 24 Try.underlying41 hi0 hz0 hs0 hb0 rfl (by decide) (.slice (some ⟨b, 0, none⟩) n cap0) n xs rfl HO.out ad m c news rfl (by rw [Nat.mul_one]; exact hl) hN.out h1 hm (by simp only [maxLen]; omega) (by omega) hbase _ rfl ?_; intro g cap w1 ho hg hat hlt))
  all_goals
    go_ret
    refine ⟨g, cap, rfl, ho, hg, ?_, hlt⟩
    rcases hat with h | h
    · left
      simp [Value.ownBlock] at h
      omega
    · exact .inr h
set_option maxHeartbeats 1000000 in
set_option maxRecDepth 100000 in
theorem insertL_room (base b n k cap0 vb : Nat) (xs vs : List Value) (tv : TypeId) (w : World) (hown : w.ownsRow base 75 1 (.slice (some ⟨b, 0, none⟩) n cap0) n xs)
    (hk : k < n) (hroom : n + 1 ≤ cap0) (hvl : vs.length = 1) (hv : w.heap[vb]? = some (.cells vs.toArray tv (0, 0))) (hvb : vb ≠ b) (h1 : ∀ u ∈ vs, u.oneCell' = true) (h1x : ∀ u ∈ xs, u.oneCell' = true) :
    Calls Try.prog 34 #[.slice (some ⟨b, 0, none⟩) n cap0, .int .i64 (k : Int), .slice (some ⟨vb, 0, none⟩) 1 1] w fun e w' => e = .returned (.slice (some ⟨b, 0, none⟩) (n + 1) cap0) ∧
      w'.ownsRow base 75 1 (.slice (some ⟨b, 0, none⟩) (n + 1) cap0) (n + 1) (xs.take (k) ++ vs ++ xs.drop (k)) ∧ w.grownBy w' (some b) := by
  obtain ⟨i0, hi0, hz0, hs0, hb0⟩ := info_parts info75
  have hsz : (Try.prog.info? 75).map (·.size) = some 1 := by rw [hi0]; simp [hs0]
  obtain ⟨hxl, hO⟩ := hown
  rcases hO with ⟨e, _⟩ | ⟨g, cap, cur, e, hgb, hg, hnc, hcm, hcs, htk⟩
  · cases e
  cases e
  simp only [Nat.mul_one] at hxl hcs htk
  have hcm' : cap0 ≤ 9223372036854775807 := by simpa only [maxLen] using hcm
  have hov : ∀ lb cb, (callFunc 52 #[.slice (some ⟨vb, 0, none⟩) 1 1, .slice (some ⟨b, (k + 1), none⟩) lb cb]).run Try.prog w = .ok (.value (.bool false)) w := fun lb cb => by
    rw [run_callFunc_extern Try.func52 (by kernel_rfl) (by kernel_rfl) (by kernel_rfl) (e := Extern.SlicesOverlaps.overlaps #[41, 41] #[4]) (by kernel_rfl),
      Lib.run_overlaps_apart w 41 4 75 Try.underlying41 1 (fun w => by simp [sizeOf, typeInfo, hi0, hs0]) ⟨vb, 0, none⟩ ⟨b, (k + 1), none⟩ 1 1 lb cb hvb tv 75 1 cur.size
        (by simp [World.shape?, hv, hvl]) (by simp [World.shape?, hg]) (by omega) (by simp [World.frozen?, hv]) (by simp [World.frozen?, hv])]
    rfl
  have hdl : (xs.drop (k)).length = (n - k) := by rw [List.length_drop, hxl]
  obtain ⟨row1, hr1⟩ : ∃ r : Array Value, r = (cur.toList.take ((k + 1)) ++ (xs.drop (k) ++ cur.toList.drop ((k + 1) + (xs.drop (k)).length))).toArray := ⟨_, rfl⟩
  obtain ⟨hl1, _, _⟩ := room_row cur.toList xs vs (k) (n) 1 htk.symm hxl (by omega) (by rw [Array.length_toList, hcs]; omega) hvl row1.toList _ (by rw [hr1, show (k + 1) = k + 1 by omega]) rfl
  have hl1' : row1.size = cur.size := by simpa using hl1
  have HX : ∀ j v, (xs.drop (k))[j]? = some v → w.drew.cell? ((⟨b, k, none⟩ : Addr).add j) = some v := fun j v hj => cells_of_heap (w := w.drew) hg _ _ _ (by
    rw [List.getElem?_drop, ← htk, List.getElem?_take] at hj
    split at hj
    · simpa using hj
    · cases hj)
  have HXa := Aside0.mk HX
  have Hg1 : (w.drew.setRow b row1).heap[b]? = some (.cells row1 75 (0, 0)) := setRow_heap w.drew b cur row1 75 (0, 0) hg
  have HV : ∀ j v, vs[j]? = some v → (w.drew.setRow b row1).cell? ((⟨vb, 0, none⟩ : Addr).add j) = some v := fun j v hj => by
    rw [Addr.add_lit, cell_setRow_other _ _ _ _ hvb]
    exact cell_of_row w vb _ vs.toArray tv (0, 0) hv |>.trans (by simpa using hj)
  have HVa := Aside0.mk HV
  have a1 : (0 : Int) ≤ (k : Int) := by omega
  have a2 : (k : Int) ≤ (n : Int) := by omega
  have a3 : ¬ (k : Int) = (n : Int) := by omega
  have a4 : ((k : Int) == (n : Int)) = false := by simp; omega
  have hw1 : IntKind.i64.wrap ((k : Int) + 1) = (k : Int) + 1 := by rw [IntKind.wrap_i64]; omega
  have a5 : ¬ (cap0 : Int) < (n : Int) + 1 := by omega
  have a6 : (n : Int) + 1 ≤ (cap0 : Int) := by omega
  have a7 : (0 : Int) ≤ (n : Int) + 1 := by omega
  have a8 : (0 : Int) ≤ (k : Int) + 1 := by omega
  have a9 : (k : Int) + 1 ≤ (n : Int) + 1 := by omega
  have b1 : (k : Int) ≤ (n : Int) + 1 := by omega
  have b2 : ¬ (cap0 = k + 1) := by omega
  have b3 : ¬ (cap0 = k) := by omega
  have b4 : (k : Int) ≤ (cap0 : Int) := by omega
  have htn : ((k : Int) + 1).toNat = k + 1 := by omega
  have htm : ((n : Int) + 1).toNat = n + 1 := by omega
  clear HX HV
  have HR1 := Aside0.mk hr1
  clear hr1
  have HTK := Aside0.mk htk.symm
  clear htk
  go_enter Try.func34, Try.ntmps34
  go_wp2_with (simp only [hov])
  go_region_law (refine Cpy.step_copy_at rfl _ _ 41 41 rfl 75 1 Try.underlying41 hsz b ((k + 1)) (n + 1 - (k + 1)) (cap0 - (k + 1)) ⟨b, k, none⟩ (n + 1 - k) (cap0 - k) (by simp [Act.eval, Act.put]) (by simp [Act.eval, Act.put]) cur 75 hg (xs.drop (k)) (by rw [hdl]; simp only [Nat.min_def]; split <;> omega) HXa.out (by rw [hdl, hcs]; omega) (fun u hu => h1x u (List.mem_of_mem_drop hu)) ?_; rw [← HR1.out])
  go_wp2_with (first | (refine Cpy.wpList_copy_at rfl _ _ 41 41 rfl 75 1 Try.underlying41 hsz b (k) (n + 1 - k) (cap0 - k) ⟨vb, 0, none⟩ 1 1 rfl rfl row1 75 Hg1 vs (by rw [hvl]; simp only [Nat.min_def]; split <;> omega) HVa.out (by rw [hvl, hl1', hcs]; omega) h1 ?_))
  go_ret
  obtain ⟨_, l2, e2⟩ := room_row cur.toList xs vs (k) (n) 1 HTK.out hxl (by omega) (by rw [Array.length_toList, hcs]; omega) hvl row1.toList _ (by rw [HR1.out, show (k + 1) = k + 1 by omega]) rfl
  refine ⟨rfl, ⟨?_, .inr ⟨b, cap0, _, rfl, hgb, setRow_heap _ b row1 _ 75 (0, 0) Hg1, hroom, hcm, ?_, ?_⟩⟩, ?_⟩
  · rw [← e2, List.length_take, l2, Array.length_toList, hcs]; omega
  · rw [List.size_toArray, l2, Array.length_toList, hcs]; omega
  · rw [Nat.mul_one]; exact e2
  · exact grownBy_trans (grownBy_trans (grownBy_drew w _) (grownBy_setRow _ _ _)) (grownBy_setRow _ _ _)
set_option maxHeartbeats 1000000 in
set_option maxRecDepth 100000 in
theorem insertL_grow (base b n k cap0 vb : Nat) (xs vs : List Value) (tv : TypeId) (w : World) (hown : w.ownsRow base 75 1 (.slice (some ⟨b, 0, none⟩) n cap0) n xs) (hbase : base ≤ w.heap.size)
    (hk : k < n) (hroom : cap0 < n + 1) (hbig : n ≤ 4398046511103) (hvl : vs.length = 1) (hv : w.heap[vb]? = some (.cells vs.toArray tv (0, 0))) (h1 : ∀ u ∈ vs, u.oneCell' = true) (h1x : ∀ u ∈ xs, u.oneCell' = true) :
    Calls Try.prog 34 #[.slice (some ⟨b, 0, none⟩) n cap0, .int .i64 (k : Int), .slice (some ⟨vb, 0, none⟩) 1 1] w fun e w' => ∃ cap, e = .returned (.slice (some ⟨w.heap.size, 0, none⟩) (n + 1) cap) ∧
      w'.ownsRow base 75 1 (.slice (some ⟨w.heap.size, 0, none⟩) (n + 1) cap) (n + 1) (xs.take (k) ++ vs ++ xs.drop (k)) ∧ Below w.heap.size w w' := by
  obtain ⟨i0, hi0, hz0, hs0, hb0⟩ := info_parts info75
  have hsz : (Try.prog.info? 75).map (·.size) = some 1 := by rw [hi0]; simp [hs0]
  obtain ⟨hxl, hO⟩ := hown
  rcases hO with ⟨e, _⟩ | ⟨g, cap, cur, e, hgb, hg, hnc, hcm, hcs, htk⟩
  · cases e
  cases e
  simp only [Nat.mul_one] at hxl hcs htk
  have hcells : ∀ j v, xs[j]? = some v → w.cell? ((⟨b, 0, none⟩ : Addr).add j) = some v := fun j v hj => cells_of_heap hg _ _ _ (by
    rw [← htk, List.getElem?_take] at hj
    split at hj
    · simpa using hj
    · cases hj)
  have hcm' : cap0 ≤ 9223372036854775807 := by simpa only [maxLen] using hcm
  have hbs : b < w.heap.size := (Array.getElem?_eq_some_iff.1 hg).1
  have hvs : vb < w.heap.size := (Array.getElem?_eq_some_iff.1 hv).1
  have hik : k + (n + 1 - k) = n + 1 := by omega
  have hkk : (n : Int) + 1 - (k : Int) = ((n + 1 - k : Nat) : Int) := by omega
  have hold : (Builtin.firstCells i0.size k (.slice (some ⟨b, 0, none⟩) k cap0)).run Try.prog w.drew = .ok (xs.take (k)).toArray w.drew := by
    rw [hs0]
    exact run_firstCells_some w.drew 1 k ⟨b, 0, none⟩ k cap0 (xs.take (k)) (by rw [List.length_take]; omega) (fun j v hj => by
      rw [List.getElem?_take] at hj
      split at hj
      · exact hcells j v hj
      · cases hj)
  obtain ⟨G, hG⟩ : ∃ G, G = grownCap w (n + 1) cap0 75 := ⟨_, rfl⟩
  obtain ⟨z, hz⟩ : ∃ z : Value, z = .slice none 0 0 := ⟨_, rfl⟩
  have hzc : z.cells.size = 1 := by rw [hz]; rfl
  rw [← hz] at hz0
  obtain ⟨row0, hr0⟩ : ∃ r : Array Value, r = (xs.take (k)).toArray ++ Builtin.zeroCells z.cells (n + 1 - k) ++ Builtin.zeroCells z.cells (G - (n + 1)) := ⟨_, rfl⟩
  have hrz : ∀ ty, (Builtin.append_ #[41, 3] ty #[.slice (some ⟨b, 0, none⟩) k cap0, .int .i64 ((n : Int) + 1 - (k : Int))]).run Try.prog w =
      .ok (.slice (some ⟨w.heap.size, 0, none⟩) (n + 1) G) (w.drew.alloc (.cells row0 75)) := fun ty => by
    have h := Lib.run_append_grow_zeros w 41 3 ty 75 i0 _ .i64 .i64 Try.underlying41 Try.underlying3 hi0 hz0 (some ⟨b, 0, none⟩) k cap0 _ hold (n + 1 - k) (by omega) (by omega) (by omega) (by omega) (by rw [hb0]; omega) (by rw [hb0, hik]; exact growslice_fits hroom (by omega))
    rw [hik, ← hG, ← hr0] at h
    rw [hkk]
    exact h
  have hGn : n + 1 ≤ G := by rw [hG]; exact grownCap_ge w _ _ _
  have hGm : G ≤ maxLen := by rw [hG]; exact grownCap_le_maxLen w (n + 1) cap0 75 (by unfold maxLen; omega)
  have hG63 : G ≤ 9223372036854775807 := by simpa only [maxLen] using hGm
  obtain ⟨row1, hr1⟩ : ∃ r : Array Value, r = (row0.toList.take (k) ++ (vs ++ row0.toList.drop (k + vs.length))).toArray := ⟨_, rfl⟩
  have hdl : (xs.drop (k)).length = (n - k) := by rw [List.length_drop, hxl]
  obtain ⟨l0, l1, l2, e2⟩ := grow_row xs vs (Builtin.zeroCells z.cells (n + 1 - k)).toList (Builtin.zeroCells z.cells (G - (n + 1))).toList (k) (n) 1 hxl (by omega) hvl (by rw [Array.length_toList, size_zeroCells, hzc]; omega) row0.toList row1.toList _ (by rw [hr0]; simp) (by rw [hr1, hvl]) rfl
  have hzl : n + 1 + (Builtin.zeroCells z.cells (G - (n + 1))).toList.length = G := by rw [Array.length_toList, size_zeroCells, hzc]; omega
  rw [hzl] at l0 l1 l2
  rw [Array.length_toList] at l0 l1
  have Hg0 : (w.drew.alloc (.cells row0 75)).heap[w.heap.size]? = some (.cells row0 75 (0, 0)) := heap_alloc_new w.drew _
  have Hg1 : ((w.drew.alloc (.cells row0 75)).setRow w.heap.size row1).heap[w.heap.size]? = some (.cells row1 75 (0, 0)) := setRow_heap _ _ _ row1 75 (0, 0) Hg0
  have HV : ∀ j v, vs[j]? = some v → (w.drew.alloc (.cells row0 75)).cell? ((⟨vb, 0, none⟩ : Addr).add j) = some v := fun j v hj =>
    cells_of_heap (t := tv) (fr := (0, 0)) ((heap_alloc_old w.drew (.cells row0 75) hvs).trans hv) 0 j v (by simpa using hj)
  have HX : ∀ j v, (xs.drop (k))[j]? = some v → ((w.drew.alloc (.cells row0 75)).setRow w.heap.size row1).cell? ((⟨b, k, none⟩ : Addr).add j) = some v := fun j v hj => by
    rw [Addr.add_lit, cell_setRow_other _ _ _ _ (by show b ≠ w.heap.size; omega)]
    rw [List.getElem?_drop] at hj
    have h := hcells _ v hj
    rw [Addr.add_lit, Nat.zero_add] at h
    exact up (below_alloc (Below.refl _ _) _) (w := w.drew) h
  have HVa := Aside0.mk HV
  have HXa := Aside0.mk HX
  have HRZ := Aside0.mk hrz
  have HR1 := Aside0.mk hr1
  rw [show k + 1 = (k + 1) by omega, hdl] at l2 e2
  rw [show n + 1 = (n + 1) by omega] at e2
  have HE := Aside0.mk (And.intro l2 e2)
  clear HV HX hrz hr1 hr0 hz hG hcells htk hold l2 e2 hkk hik hzl
  have a1 : (0 : Int) ≤ (k : Int) := by omega
  have a2 : (k : Int) ≤ (n : Int) := by omega
  have a3 : ¬ (k : Int) = (n : Int) := by omega
  have a4 : ((k : Int) == (n : Int)) = false := by simp; omega
  have hw1 : IntKind.i64.wrap ((k : Int) + 1) = (k : Int) + 1 := by rw [IntKind.wrap_i64]; omega
  have a5 : (cap0 : Int) < (n : Int) + 1 := by omega
  have a7 : (0 : Int) ≤ (n : Int) + 1 := by omega
  have a8 : (0 : Int) ≤ (k : Int) + 1 := by omega
  have a9 : (k : Int) + 1 ≤ (n : Int) + 1 := by omega
  have b1 : (k : Int) ≤ (n : Int) + 1 := by omega
  have b2 : ¬ (G = k + 1) := by omega
  have b3 : ¬ (G = k) := by omega
  have b4 : (k : Int) ≤ (cap0 : Int) := by omega
  have b5 : ¬ (cap0 = k) := by omega
  have htn : ((k : Int) + 1).toNat = k + 1 := by omega
  have htm : ((n : Int) + 1).toNat = n + 1 := by omega
  go_enter Try.func34, Try.ntmps34
  go_wp2_with (first
    | (refine Lib.wpList_append_run _ rfl _ _ 41 3 rfl _ _ rfl rfl _ _ (HRZ.out _) ?_)
    | (refine Cpy.wpList_copy_at rfl _ _ 41 41 rfl 75 1 Try.underlying41 hsz w.heap.size (k) (n + 1 - k) (G - k) ⟨vb, 0, none⟩ 1 1 rfl rfl row0 75 Hg0 vs (by rw [hvl]; simp only [Nat.min_def]; split <;> omega) HVa.out (by rw [hvl, l0]; omega) h1 ?_; rw [← HR1.out]))
  go_region_law (refine Cpy.step_copy_at rfl _ _ 41 41 rfl 75 1 Try.underlying41 hsz w.heap.size ((k + 1)) (n + 1 - (k + 1)) (G - (k + 1)) ⟨b, k, none⟩ (n - k) (cap0 - k) (by simp [Act.eval, Act.put]) (by simp [Act.eval, Act.put]) row1 75 Hg1 (xs.drop (k)) (by rw [hdl]; simp only [Nat.min_def]; split <;> omega) HXa.out (by rw [hdl, l1]; omega) (fun u hu => h1x u (List.mem_of_mem_drop hu)) ?_)
  go_wp2
  go_ret
  obtain ⟨l2, e2⟩ := HE.out
  refine ⟨G, rfl, ⟨?_, .inr ⟨w.heap.size, G, _, rfl, hbase, setRow_heap _ w.heap.size row1 _ 75 (0, 0) Hg1, hGn, hGm, ?_, ?_⟩⟩, ?_⟩
  · rw [← e2, List.length_take, l2]; omega
  · rw [List.size_toArray]
    first | exact l2 | exact l2.trans (Nat.mul_one _).symm | (rw [hdl]; exact l2)
  · rw [Nat.mul_one]; first | exact e2 | (rw [hdl]; exact e2)
  · exact below_setRow (belowDrew (below_setRow (belowDrew (below_alloc (Below.refl _ _) _)) (Nat.le_refl _) _)) (Nat.le_refl _) _
set_option maxHeartbeats 1000000 in
set_option maxRecDepth 100000 in
theorem insertL_any (base b n k cap0 vb : Nat) (xs vs : List Value) (tv : TypeId) (w : World) (hown : w.ownsRow base 75 1 (.slice (some ⟨b, 0, none⟩) n cap0) n xs) (hbase : base ≤ w.heap.size)
    (hk : k ≤ n) (hn0 : 0 < n) (hbig : n ≤ 4398046511102) (hvl : vs.length = 1) (hv : w.heap[vb]? = some (.cells vs.toArray tv (0, 0))) (hvb : vb ≠ b) (h1 : ∀ u ∈ vs, u.oneCell' = true) (h1x : ∀ u ∈ xs, u.oneCell' = true) :
    Calls Try.prog 34 #[.slice (some ⟨b, 0, none⟩) n cap0, .int .i64 (k : Int), .slice (some ⟨vb, 0, none⟩) 1 1] w fun e w' => ∃ g cap, e = .returned (.slice (some ⟨g, 0, none⟩) (n + 1) cap) ∧
      w'.ownsRow base 75 1 (.slice (some ⟨g, 0, none⟩) (n + 1) cap) (n + 1) (xs.take (k) ++ vs ++ xs.drop (k)) ∧ w.grownBy w' (some b) ∧ (g = b ∨ w.heap.size ≤ g) := by
  obtain ⟨c1, c2, c3, c4, c5⟩ := own_caps hown
  by_cases hkn : k = n
  · subst hkn
    refine (insertL_end base b k cap0 xs ⟨vb, 0, none⟩ 1 1 vs w hown hbase hn0 c1 c2 (by omega) (fun j u hj => cells_of_heap hv 0 j u (by simpa using hj)) h1 (by omega) (by omega)).mono ?_
    rintro e w' ⟨g, cap, he, ho, hg, hgb, _⟩
    refine ⟨g, cap, he, ?_, hg, ?_⟩
    · rw [List.take_of_length_le (by omega), List.drop_eq_nil_of_le (by omega), List.append_nil]; exact ho
    · rcases hgb with h | h
      · exact .inl h
      · exact .inr (by omega)
  · by_cases hr : n + 1 ≤ cap0
    · refine (insertL_room base b n k cap0 vb xs vs tv w hown (by omega) hr hvl hv hvb h1 h1x).mono ?_
      rintro e w' ⟨he, ho, hg⟩
      exact ⟨b, cap0, he, ho, hg, .inl rfl⟩
    · refine (insertL_grow base b n k cap0 vb xs vs tv w hown hbase (by omega) (by omega) (by omega) hvl hv h1 h1x).mono ?_
      rintro e w' ⟨cap, he, ho, hb⟩
      exact ⟨_, cap, he, ho, below_grown hb _, .inr (Nat.le_refl _)⟩
end
section
structure LeafOk (F : Nat → Prop) (w : World) (g : Nat) (m : Leaf) : Prop where
  own : w.ownsRow 0 74 2 (lv m) m.2.2.length (flat m.2.2)
  inF : F m.1
  neg : m.1 ≠ g
  one : ∀ x ∈ m.2.2, x.2.oneCell' = true
structure TreeM (F : Nat → Prop) (w : World) (g : Nat) (S : Value) (M : List Leaf) (z : Int) : Prop where
  head : w.heap[g]? = some (.cells #[S, .int .i64 z] 43 (0, 0))
  inF : F g
  row : w.ownsRow 0 75 1 S M.length (M.map lv)
  apart : ∀ k, S.ownBlock = some k → F k ∧ k ≠ g ∧ ∀ m ∈ M, m.1 ≠ k
  leaf : ∀ m ∈ M, LeafOk F w g m
  nodup : (M.map (·.1)).Nodup
theorem Fr.below {F : Nat → Prop} {w w' : World} (h : Below w.heap.size w w') : Fr F w w' := ⟨h.os, h.tape, h.output, h.size, fun k hk _ => h.block k hk⟩
theorem Fr.alloc {F : Nat → Prop} (w : World) (o : Obj) : Fr F w (w.alloc o) := .below (below_alloc (Below.refl _ _) _)
section
variable {F : Nat → Prop} {w w' : World} {g : Nat} {S : Value} {M : List Leaf} {z : Int}
theorem TreeM.lt (h : TreeM F w g S M z) : g < w.heap.size := (Array.getElem?_eq_some_iff.1 h.head).1
theorem LeafOk.lt {m : Leaf} (h : LeafOk F w g m) : m.1 < w.heap.size := (own_caps h.own).2.2.2.1
theorem LeafOk.same {m : Leaf} (h : LeafOk F w g m) (hk : w'.heap[m.1]? = w.heap[m.1]?) : LeafOk F w' g m := ⟨ownsRow_same h.own (fun k e => by cases e; exact hk), h.inF, h.neg, h.one⟩
theorem TreeM.rowlt (h : TreeM F w g S M z) : ∀ k, S.ownBlock = some k → k < w.heap.size := fun k e => (h.row.lt k e).2
theorem TreeM.kept (h : TreeM F w g S M z) (hk : ∀ k, F k → k < w.heap.size → w'.heap[k]? = w.heap[k]?) : TreeM F w' g S M z :=
  ⟨(hk g h.inF h.lt).trans h.head, h.inF, ownsRow_same h.row (fun k e => hk k (h.apart k e).1 (h.rowlt k e)), h.apart, fun m hm => (h.leaf m hm).same (hk _ (h.leaf m hm).inF (h.leaf m hm).lt), h.nodup⟩
theorem TreeM.below (h : TreeM F w g S M z) (hb : Below w.heap.size w w') : TreeM F w' g S M z := h.kept fun k _ hl => hb.block k hl
theorem TreeM.c0 (h : TreeM F w g S M z) : w.cell? ⟨g, 0, none⟩ = some S := by simp [World.cell?, h.head]
theorem TreeM.c1 (h : TreeM F w g S M z) : w.cell? ⟨g, 1, none⟩ = some (.int .i64 z) := by simp [World.cell?, h.head]
theorem TreeM.fz (h : TreeM F w g S M z) (i : Nat) : w.frozen? ⟨g, i, none⟩ = false := by simp [World.frozen?, h.head]
theorem TreeM.setSize (h : TreeM F w g S M z) (z' : Int) : TreeM F (w.setCell ⟨g, 1, none⟩ (.int .i64 z')) g S M z' :=
  ⟨by rw [heap_setCell_at w g 1 _ _ _ _ h.head]; rfl, h.inF, ownsRow_same h.row (fun k e => Below.heap_setCell w _ _ k (h.apart k e).2.1), h.apart, fun m hm => (h.leaf m hm).same (Below.heap_setCell w _ _ _ (h.leaf m hm).neg), h.nodup⟩
/-- the row of leaves where there is one -/
theorem TreeM.rowAt (h : TreeM F w g S M z) (hM : M ≠ []) : ∃ sb c cur, S = .slice (some ⟨sb, 0, none⟩) M.length c ∧ w.heap[sb]? = some (.cells cur 75 (0, 0)) ∧ M.length ≤ c ∧ c ≤ maxLen ∧ cur.size = c ∧ cur.toList.take M.length = M.map lv := by
  obtain ⟨h0, h1⟩ := h.row
  rcases h1 with ⟨_, h1⟩ | ⟨sb, c, cur, e, _, hh, r1, r2, r3, r4⟩
  · exact absurd (List.length_eq_zero_iff.1 h1) hM
  · exact ⟨sb, c, cur, e, hh, r1, r2, by simpa using r3, by simpa using r4⟩
theorem TreeM.leafAt (h : TreeM F w g S M z) {i : Nat} {m : Leaf} (hm : M[i]? = some m) : ∃ sb c, S = .slice (some ⟨sb, 0, none⟩) M.length c ∧ M.length ≤ c ∧ w.cell? ⟨sb, i, none⟩ = some (lv m) ∧ w.frozen? ⟨sb, i, none⟩ = false ∧ sb < w.heap.size := by
  have hi : i < M.length := (List.getElem?_eq_some_iff.1 hm).1
  obtain ⟨sb, c, cur, e, hh, r1, r2, r3, r4⟩ := h.rowAt (by intro e; rw [e] at hi; cases hi)
  refine ⟨sb, c, e, r1, ?_, by simp [World.frozen?, hh], (Array.getElem?_eq_some_iff.1 hh).1⟩
  rw [cell_of_row w sb i cur _ _ hh]
  have := congrArg (fun l => l[i]?) r4
  simp only [List.getElem?_take, if_pos hi, List.getElem?_map, hm, Option.map_some] at this
  simpa using this
theorem LeafOk.items {m : Leaf} (h : LeafOk F w g m) : ItemsAt w (some ⟨m.1, 0, none⟩) m.2.2 := by
  intro i hi
  have c0 := h.own.cells (g := m.1) rfl (i * 2) _ (flat_get0 _ i hi)
  have c1 := h.own.cells (g := m.1) rfl (i * 2 + 1) _ (flat_get1 _ i hi)
  refine ⟨_, rfl, c0, ?_⟩
  rw [Addr.add_lit] at c1 ⊢
  rw [show 0 + (i * 2 + 1) = 0 + i * 2 + 1 by omega] at c1
  exact c1
theorem TreeM.leaves (h : TreeM F w g S M z) (hp : ∀ m ∈ M, 0 < m.2.2.length) : ∃ A c, S = .slice A (M.map (·.2.2)).length c ∧ LeavesAt w A (M.map (·.2.2)) := by
  by_cases hM : M = []
  · subst hM
    obtain ⟨h0, h1⟩ := h.row
    rcases h1 with ⟨e, h1⟩ | ⟨sb, c, cur, e, _, hh, r1, r2, r3, r4⟩
    · exact ⟨none, 0, e, fun i hi => by cases hi⟩
    · exact ⟨_, c, e, fun i hi => by cases hi⟩
  · obtain ⟨sb, c, cur, e, hh, r1, r2, r3, r4⟩ := h.rowAt hM
    refine ⟨_, c, by rw [e, List.length_map], fun i hi => ?_⟩
    have hi' : i < M.length := by simpa using hi
    have hm : M[i]? = some M[i] := List.getElem?_eq_getElem hi'
    obtain ⟨sb', c', e', _, hc, _, _⟩ := h.leafAt hm
    rw [e] at e'
    cases e'
    have ok := h.leaf _ (List.mem_of_getElem? hm)
    rw [lf_map hm]
    refine ⟨_, _, _, rfl, ?_, (own_caps ok.own).1, hp _ (List.mem_of_getElem? hm), ok.items⟩
    rw [Addr.add_lit, Nat.zero_add]
    exact hc
theorem TreeM.setLeaf (h : TreeM F w g S M z) {i : Nat} {m m' : Leaf} (hm : M[i]? = some m) {sb n c : Nat} (hS : S = .slice (some ⟨sb, 0, none⟩) n c) (hg : w.grownBy w' (some m.1))
    (hown : w'.ownsRow 0 74 2 (lv m') m'.2.2.length (flat m'.2.2)) (hone : ∀ x ∈ m'.2.2, x.2.oneCell' = true) (hF : F m'.1) (hb : m'.1 = m.1 ∨ w.heap.size ≤ m'.1) : TreeM F (w'.setCell ⟨sb, i, none⟩ (lv m')) g S (M.set i m') z := by
  have hmM := List.mem_of_getElem? hm
  have okm := h.leaf m hmM
  have hsb := h.apart sb (by rw [hS]; rfl)
  have hsl := h.rowlt sb (by rw [hS]; rfl)
  have hi : i < M.length := (List.getElem?_eq_some_iff.1 hm).1
  have hm'g : m'.1 ≠ g := by rcases hb with e | e; · rw [e]; exact okm.neg
                             · have := h.lt; omega
  have hm's : m'.1 ≠ sb := by rcases hb with e | e; · rw [e]; exact hsb.2.2 m hmM
                              · omega
  have hset : ∀ j a, (M.set i m')[j]? = some a → (j = i ∧ a = m') ∨ (j ≠ i ∧ M[j]? = some a) := by
    intro j a ha
    rw [List.getElem?_set] at ha
    by_cases hj : i = j
    · subst hj
      simp [hi] at ha
      exact .inl ⟨rfl, ha.symm⟩
    · simp [hj] at ha
      exact .inr ⟨fun e => hj e.symm, ha⟩
  have hmem : ∀ a ∈ M.set i m', a = m' ∨ (a ∈ M ∧ a.1 ≠ m.1) := by
    intro a ha
    obtain ⟨j, hj⟩ := List.getElem?_of_mem ha
    rcases hset j a hj with ⟨_, e⟩ | ⟨hji, e⟩
    · exact .inl e
    · exact .inr ⟨List.mem_of_getElem? e, nodup_ne h.nodup e hm hji⟩
  have keep : ∀ k, k < w.heap.size → k ≠ m.1 → k ≠ sb → (w'.setCell ⟨sb, i, none⟩ (lv m')).heap[k]? = w.heap[k]? := fun k hk h1 h2 => (Below.heap_setCell w' ⟨sb, i, none⟩ _ k h2).trans (hg.block k hk (fun e => h1 (by cases e; rfl)))
  refine ⟨(keep g h.lt (fun e => okm.neg e.symm) (fun e => hsb.2.1 e.symm)).trans h.head, h.inF, ?_, ?_, ?_, ?_⟩
  · obtain ⟨sb', c', cur, e, hh, r1, r2, r3, r4⟩ := h.rowAt (by intro e; rw [e] at hi; cases hi)
    rw [hS] at e
    cases e
    have hh' : w'.heap[sb]? = some (.cells cur 75 (0, 0)) := (hg.block sb hsl (fun e => hsb.2.2 m hmM (by cases e; rfl))).trans hh
    refine ⟨by simp, .inr ⟨sb, c, _, by rw [hS, List.length_set], Nat.zero_le _, heap_setCell_at w' sb i cur 75 (0, 0) _ hh', by rw [List.length_set]; exact r1, r2, by simpa using r3, ?_⟩⟩
    rw [List.length_set, Nat.mul_one, List.map_set, ← r4, Array.toList_setIfInBounds, List.take_set]
  · intro k hk
    refine ⟨(h.apart k hk).1, (h.apart k hk).2.1, fun a ha => ?_⟩
    rw [hS] at hk
    cases hk
    rcases hmem a ha with rfl | ⟨ha, _⟩
    · exact hm's
    · exact hsb.2.2 a ha
  · intro a ha
    rcases hmem a ha with rfl | ⟨ha, hne⟩
    · refine ⟨ownsRow_same hown (fun k e => ?_), hF, hm'g, hone⟩
      cases e
      exact Below.heap_setCell w' _ _ _ hm's
    · have ok := h.leaf a ha
      exact ok.same (keep _ ok.lt hne (hsb.2.2 a ha))
  · rw [List.map_set]
    rcases hb with e | e
    · have : (M.map (·.1)).set i m'.1 = M.map (·.1) := by
        apply List.ext_getElem?
        intro j
        rw [List.getElem?_set]
        split
        · rename_i hj
          subst hj
          rw [List.getElem?_map, hm, e]
          simp [hi]
        · rfl
      rw [this]
      exact h.nodup
    · have old : m'.1 ∉ M.map (·.1) := by
        intro q
        obtain ⟨a, ha, he⟩ := List.mem_map.1 q
        have := (h.leaf a ha).lt
        omega
      exact nodup_set h.nodup old
/-- a new row of leaves, stored -/
theorem TreeM.setRow (h : TreeM F w g S M z) {S' : Value} {M' : List Leaf} (hg : w'.heap[g]? = w.heap[g]?) (hrow : w'.ownsRow 0 75 1 S' M'.length (M'.map lv)) (hap : ∀ k, S'.ownBlock = some k → F k ∧ k ≠ g ∧ ∀ m ∈ M', m.1 ≠ k)
    (hl : ∀ m ∈ M', LeafOk F w' g m) (hn : (M'.map (·.1)).Nodup) : TreeM F (w'.setCell ⟨g, 0, none⟩ S') g S' M' z :=
  ⟨by rw [heap_setCell_at w' g 0 _ _ _ _ (hg.trans h.head)]; rfl, h.inF, ownsRow_same hrow (fun k e => Below.heap_setCell w' _ _ k (hap k e).2.1), hap, fun m hm => (hl m hm).same (Below.heap_setCell w' _ _ _ (hl m hm).neg), hn⟩
theorem TreeM.insertRow (h : TreeM F w g S M z) {sb n c : Nat} (hS : S = .slice (some ⟨sb, 0, none⟩) n c) {k gs cap : Nat} {m2 : Leaf} (h2 : LeafOk F w g m2) (hne : ∀ m ∈ M, m.1 ≠ m2.1) (h2s : m2.1 ≠ sb)
    (hown : w'.ownsRow 0 75 1 (.slice (some ⟨gs, 0, none⟩) (M.length + 1) cap) (M.length + 1) ((M.map lv).take k ++ [lv m2] ++ (M.map lv).drop k)) (hg : w.grownBy w' (some sb)) (hgs : gs = sb ∨ w.heap.size ≤ gs) (hF : F gs) :
    TreeM F (w'.setCell ⟨g, 0, none⟩ (.slice (some ⟨gs, 0, none⟩) (M.length + 1) cap)) g (.slice (some ⟨gs, 0, none⟩) (M.length + 1) cap) (M.take k ++ [m2] ++ M.drop k) z := by
  have hsb := h.apart sb (by rw [hS]; rfl)
  have hlen : (M.take k ++ [m2] ++ M.drop k).length = M.length + 1 := by simp; omega
  have hmem : ∀ a ∈ M.take k ++ [m2] ++ M.drop k, a = m2 ∨ a ∈ M := by
    intro a ha
    simp only [List.mem_append, List.mem_singleton] at ha
    rcases ha with (ha | ha) | ha
    · exact .inr (List.mem_of_mem_take ha)
    · exact .inl ha
    · exact .inr (List.mem_of_mem_drop ha)
  have ok : ∀ a ∈ M.take k ++ [m2] ++ M.drop k, LeafOk F w g a ∧ a.1 ≠ sb := by
    intro a ha
    rcases hmem a ha with rfl | ha
    · exact ⟨h2, h2s⟩
    · exact ⟨h.leaf a ha, hsb.2.2 a ha⟩
  refine h.setRow (hg.block g h.lt (fun e => hsb.2.1 (by cases e; rfl))) ?_ ?_ ?_ ?_
  · rw [hlen]
    simpa using hown
  · intro q hq
    cases hq
    refine ⟨hF, ?_, fun a ha => ?_⟩
    · have := h.lt
      have := hsb.2.1
      rcases hgs with e | e
      · show gs ≠ g; omega
      · show gs ≠ g; omega
    · have h1 := (ok a ha).1.lt
      have h2 := (ok a ha).2
      rcases hgs with e | e
      · show a.1 ≠ gs; omega
      · show a.1 ≠ gs; omega
  · intro a ha
    exact (ok a ha).1.same (hg.block _ (ok a ha).1.lt (fun e => (ok a ha).2 (by cases e; rfl)))
  · have hp : ((M.take k ++ [m2] ++ M.drop k).map (·.1)).Perm (m2.1 :: M.map (·.1)) := by
      rw [show m2.1 :: M.map (·.1) = (m2 :: M).map (·.1) from rfl]
      apply List.Perm.map
      have : (M.take k ++ [m2] ++ M.drop k).Perm (m2 :: (M.take k ++ M.drop k)) := by
        rw [List.append_assoc]; exact List.perm_middle
      rwa [List.take_append_drop] at this
    rw [hp.nodup_iff]
    refine List.nodup_cons.2 ⟨fun e => ?_, h.nodup⟩
    obtain ⟨a, ha, he⟩ := List.mem_map.1 e
    exact hne a ha he
end
end
section
variable {F : Nat → Prop} {w : World} {g : Nat} {S : Value} {M : List Leaf} {z : Int}
theorem findM (h : TreeM F w g S M z) (hs : Small M) (x : ByteArray) :
    Calls Try.prog 31 #[.pointer (some ⟨g, 0, none⟩), .string x] w fun e w' => e = .returned (.tuple #[.int .i64 ((findT (tl M) x).1 : Int), .int .i64 ((findT (tl M) x).2.1 : Int), .bool (findT (tl M) x).2.2]) ∧ Below w.heap.size w w' := by
  obtain ⟨A, c, e, hl⟩ := h.leaves hs.pos
  have c0 := h.c0
  rw [e] at c0
  exact find_any g c A (tl M) x w (by have := hs.len; simp [tl]; omega) hs.lf hl c0
/-- one value in a leaf -/
theorem TreeM.setVal (h : TreeM F w g S M z) {i b cap k : Nat} {l : List Item} (hm : M[i]? = some (b, cap, l)) (hk : k < l.length) {v : Value} (hv : v.oneCell' = true) : TreeM F (w.setCell ⟨b, k * 2 + 1, none⟩ v) g S (M.set i (b, cap, l.set k ((itm l k).1, v))) z := by
  have ok := h.leaf _ (List.mem_of_getElem? hm)
  obtain ⟨sb, c, e1, e2, e3, e4, e5⟩ := h.leafAt hm
  have hne : sb ≠ b := fun e => (h.apart sb (by rw [e1]; rfl)).2.2 _ (List.mem_of_getElem? hm) (by rw [e])
  obtain ⟨o1, o2⟩ := World.ownsRow.stored ok.own (k * 2 + 1) v
  have h2 := h.setLeaf (m' := (b, cap, l.set k ((itm l k).1, v))) hm e1 o2 (by
    rw [flat_set1 l v k hk]
    simpa [lv] using o1) (by
    intro x hx
    rcases List.mem_or_eq_of_mem_set hx with hx | rfl
    · exact ok.one x hx
    · exact hv) ok.inF (.inl rfl)
  have e : lv (b, cap, l.set k ((itm l k).1, v)) = lv (b, cap, l) := by simp [lv]
  rw [e, setCell_same] at h2
  · exact h2
  · rw [World.cell?_of_block (Below.heap_setCell w _ _ _ hne)]
    exact e3
set_option maxHeartbeats 1000000 in
set_option maxRecDepth 100000 in
theorem put_there (h : TreeM F w g S M z) (hs : Small M) (x : ByteArray) (y : ByteArray) (ht : (findT (tl M) x).2.2 = true) (b cap : Nat) (l : List Item) (hm : M[(findT (tl M) x).1]? = some (b, cap, l)) :
    Calls Try.prog 15 #[.pointer (some ⟨g, 0, none⟩), .string x, .string y] w fun e w' => e = .returned (.bool true) ∧ TreeM F w' g S (M.set (findT (tl M) x).1 (b, cap, l.set (findT (tl M) x).2.1 ((itm l (findT (tl M) x).2.1).1, .string y))) z ∧ Fr F w w' := by
  have hf := findM h hs x
  obtain ⟨t1, t2, _⟩ := findT_there (tl M) x ht
  rw [lf_tl hm] at t2
  rw [ht] at hf
  generalize (findT (tl M) x).1 = i at *
  generalize (findT (tl M) x).2.1 = k at *
  have HF := Aside0.mk hf
  have H := Aside0.mk h
  obtain ⟨sb, c, e1, e2, e3, e4, e5⟩ := h.leafAt hm
  have ok := h.leaf _ (List.mem_of_getElem? hm)
  have hi : i < M.length := (List.getElem?_eq_some_iff.1 hm).1
  have hit := ok.items k t2
  obtain ⟨ad, ea, f0, f1⟩ := hit
  cases ea
  rw [Addr.add_lit, Nat.zero_add] at f0 f1
  have c0 := h.c0
  rw [e1] at c0
  have hfz : w.frozen? ⟨b, k * 2 + 1, none⟩ = false := World.ownsRow.frozenAt ok.own (k * 2 + 1)
  have hbl : b < w.heap.size := ok.lt
  obtain ⟨o1, o2, _⟩ := own_caps ok.own
  change w.cell? _ = some (.slice (some ⟨b, 0, none⟩) l.length cap) at e3
  change w.cell? ⟨b, _, none⟩ = _ at f0
  change w.cell? ⟨b, _, none⟩ = some (itm l k).2 at f1
  change k < l.length at t2
  have E1 := Aside0.mk e1
  have OK := Aside0.mk ok
  have HM := Aside0.mk hm
  have HT := Aside0.mk ht
  have HSm := Aside0.mk hs
  clear hf h e1 ok hm ht hs f0
  go_enter Try.func15, Try.ntmps15
  go_wp2_with (go_at_call 31; refine HF.out.mono ?_; rintro e w1 ⟨rfl, hb⟩; have c0 := up hb c0; have e3 := up hb e3; have f1 := up hb f1; have hfz := upf hb hbl hfz; have HB := Aside0.mk hb; clear hb)
  go_ret
  refine ⟨rfl, (H.out.below HB.out).setVal HM.out t2 rfl, (Fr.below HB.out).trans (Fr.setCell _ _ _ _ OK.out.inF)⟩
set_option maxHeartbeats 1000000 in
set_option maxRecDepth 100000 in
theorem put_first (h : TreeM F w g S [] z) (hF : ∀ k, w.heap.size ≤ k → F k) (hz0 : 0 ≤ z) (hz1 : z ≤ 4398046511000) (x : ByteArray) (y : ByteArray) :
    Calls Try.prog 15 #[.pointer (some ⟨g, 0, none⟩), .string x, .string y] w fun e w' => e = .returned (.bool false) ∧ (∃ S' b, TreeM F w' g S' [(b, 1, [(x, .string y)])] (z + 1)) ∧ Fr F w w' := by
  have hs : Small [] := ⟨by simp, by simp, by simp⟩
  have hf := findM h hs x
  rw [show findT (tl []) x = (0, 0, false) from rfl] at hf
  have HF := Aside0.mk hf
  have H := Aside0.mk h
  obtain ⟨A, c, e1, _⟩ := h.leaves hs.pos
  have c0 := h.c0
  have c1 := h.c1
  have z0 := h.fz 0
  have z1 := h.fz 1
  have hgl := h.lt
  rw [e1] at c0
  have hw : IntKind.i64.wrap (z + 1) = z + 1 := by rw [IntKind.wrap_i64]; omega
  have HFa := Aside0.mk hF
  have E1 := Aside0.mk e1
  clear hf h hF hs e1
  go_enter Try.func15, Try.ntmps15
  go_wp2_with (go_at_call 31; refine HF.out.mono ?_; rintro e w1 ⟨rfl, hb⟩; have c0 := up hb c0; have c1 := up hb c1; have z0 := upf hb hgl z0; have z1 := upf hb hgl z1; have HB := Aside0.mk hb; have h1 := (H.out.below hb).setSize (z + 1); have h3 := (h1.below (below_alloc (Below.refl _ _) (.cells #[.string x, .string y] 74))).below (below_alloc (Below.refl _ _) (.cells #[.slice (some ⟨w1.heap.size, 0, none⟩) 1 1] 75)); have p0 := h3.c0; rw [E1.out] at p0; have pf := h3.fz 0; have H3 := Aside0.mk h3; clear h1 h3 hb)
  go_ret
  have hsz : w.heap.size ≤ w1.heap.size := HB.out.size
  have hg1 : g < w1.heap.size := by omega
  refine ⟨rfl, ⟨_, w1.heap.size, H3.out.setRow (S' := .slice (some ⟨w1.heap.size + 1, 0, none⟩) 1 1) (M' := [(w1.heap.size, 1, [(x, .string y)])]) rfl ?_ ?_ ?_ ?_⟩, ?_⟩
  · have := World.ownsRow_lit (base := 0) (e := 75) (size := 1) ((w1.setCell ⟨g, 1, none⟩ (.int .i64 (z + 1))).alloc (.cells #[.string x, .string y] 74)) #[.slice (some ⟨w1.heap.size, 0, none⟩) 1 1] 1 (Nat.zero_le _) (by decide) rfl
    rw [World.size_alloc, size_setCell] at this
    exact this
  · intro k hk
    cases hk
    refine ⟨HFa.out _ (by show w.heap.size ≤ w1.heap.size + 1; omega), by show w1.heap.size + 1 ≠ g; omega, ?_⟩
    intro m hm
    simp at hm
    subst hm
    show w1.heap.size ≠ w1.heap.size + 1
    omega
  · intro m hm
    simp at hm
    subst hm
    refine ⟨?_, HFa.out _ hsz, by show w1.heap.size ≠ g; omega, ?_⟩
    · have := World.ownsRow_lit (base := 0) (e := 74) (size := 2) (w1.setCell ⟨g, 1, none⟩ (.int .i64 (z + 1))) #[.string x, .string y] 1 (Nat.zero_le _) (by decide) rfl
      rw [size_setCell] at this
      exact this.alloc _
    · intro a ha
      simp at ha
      subst ha
      rfl
  · simp
  · exact (((Fr.below HB.out).trans (Fr.setCell _ _ _ _ H.out.inF)).trans (Fr.alloc _ _)).trans ((Fr.alloc _ _).trans (Fr.setCell _ _ _ _ H.out.inF))
/-- what the store of a leaf finds, when the leaf's block alone has been turned -/
theorem TreeM.after (h : TreeM F w g S M z) {i : Nat} {m : Leaf} (hm : M[i]? = some m) {sb n c : Nat} (hS : S = .slice (some ⟨sb, 0, none⟩) n c) {w' : World} (hg : w.grownBy w' (some m.1)) :
    w'.cell? ⟨g, 0, none⟩ = some S ∧ w'.cell? ⟨sb, i, none⟩ = some (lv m) ∧ w'.frozen? ⟨sb, i, none⟩ = false ∧ w'.frozen? ⟨g, 0, none⟩ = false ∧ M.length = n := by
  have okm := h.leaf m (List.mem_of_getElem? hm)
  have hsb := h.apart sb (by rw [hS]; rfl)
  obtain ⟨sb', c', e1, _, e3, e4, e5⟩ := h.leafAt hm
  rw [hS] at e1
  cases e1
  have hne : m.1 ≠ sb := hsb.2.2 m (List.mem_of_getElem? hm)
  have n1 : some g ≠ some m.1 := fun e => okm.neg (by cases e; rfl)
  have n2 : some sb ≠ some m.1 := fun e => hne (by cases e; rfl)
  exact ⟨hg.cell h.c0 n1, hg.cell e3 n2, (World.frozen?_of_block (hg.block sb e5 n2)).trans e4, (World.frozen?_of_block (hg.block g h.lt n1)).trans (h.fz 0), rfl⟩
set_option maxHeartbeats 1000000 in
set_option maxRecDepth 100000 in
theorem put_in (h : TreeM F w g S M z) (hs : Small M) (hF : ∀ k, w.heap.size ≤ k → F k) (hz0 : 0 ≤ z) (hz1 : z ≤ 4398046511000) (x : ByteArray) (y : ByteArray) (ht : (findT (tl M) x).2.2 = false)
    (b cap : Nat) (l : List Item) (hm : M[(findT (tl M) x).1]? = some (b, cap, l)) (hk : (findT (tl M) x).2.1 ≤ l.length) (h8 : l.length + 1 ≤ 8) :
    Calls Try.prog 15 #[.pointer (some ⟨g, 0, none⟩), .string x, .string y] w fun e w' => e = .returned (.bool false) ∧
      (∃ b' cap', TreeM F w' g S (M.set (findT (tl M) x).1 (b', cap', l.take (findT (tl M) x).2.1 ++ [(x, .string y)] ++ l.drop (findT (tl M) x).2.1)) (z + 1)) ∧ Fr F w w' := by
  have hf := findM h hs x
  rw [ht] at hf
  generalize (findT (tl M) x).1 = i at *
  generalize (findT (tl M) x).2.1 = k at *
  obtain ⟨l', hl'⟩ : ∃ l' : List Item, l' = l.take k ++ [(x, .string y)] ++ l.drop k := ⟨_, rfl⟩
  have hlen : l'.length = l.length + 1 := by rw [hl']; simp; omega
  have hfl : flat l' = (flat l).take (k * 2) ++ [.string x, .string y] ++ (flat l).drop (k * 2) := by rw [hl', flat_append, flat_append, flat_take, flat_drop]; rfl
  rw [← hl']
  have HF := Aside0.mk hf
  have H := Aside0.mk h
  obtain ⟨sb, c, e1, e2, e3, e4, e5⟩ := h.leafAt hm
  have ok := h.leaf _ (List.mem_of_getElem? hm)
  have hi : i < M.length := (List.getElem?_eq_some_iff.1 hm).1
  have hpos := hs.pos _ (List.mem_of_getElem? hm)
  change 0 < l.length at hpos
  have c0 := h.c0
  rw [e1] at c0
  have c1 := h.c1
  have z0 := h.fz 0
  have z1 := h.fz 1
  have hgl := h.lt
  have hbl : b < w.heap.size := ok.lt
  change w.cell? _ = some (.slice (some ⟨b, 0, none⟩) l.length cap) at e3
  have hw : IntKind.i64.wrap (z + 1) = z + 1 := by rw [IntKind.wrap_i64]; omega
  have hsbg : sb ≠ g := (h.apart sb (by rw [e1]; rfl)).2.1
  have hsbb : b ≠ sb := (h.apart sb (by rw [e1]; rfl)).2.2 _ (List.mem_of_getElem? hm)
  have hbg : b ≠ g := ok.neg
  have hM0 : ¬ M.length = 0 := by omega
  have a0 : (0 : Int) ≤ (i : Int) := by omega
  have a1 : (i : Int) < (M.length : Int) := by omega
  have hMne : M ≠ [] := by intro e; rw [e] at hi; cases hi
  have a3 : ((M.length : Int) == 0) = false := by simpa using hMne
  have a4 : ¬ (8 : Int) < (l.length : Int) + 1 := by omega
  have E1 := Aside0.mk e1
  have OK := Aside0.mk ok
  have HM := Aside0.mk hm
  have HFa := Aside0.mk hF
  have HL := Aside0.mk hl'
  have HSm := Aside0.mk hs
  have HFL := Aside0.mk hfl
  have HLE := Aside0.mk hlen
  clear hf h e1 ok hm ht hs hF hl' hfl hlen
  go_enter Try.func15, Try.ntmps15
  go_wp2_with (first
    | (go_at_call 31; refine HF.out.mono ?_; rintro e w1 ⟨rfl, hb⟩; have hsz := hb.size; have h1 := (H.out.below hb).setSize (z + 1); have h2 := h1.below (below_alloc (Below.refl _ _) (.cells #[.string x, .string y] 74)); have c0 := up hb c0; have c1 := up hb c1; have z0 := upf hb hgl z0; have z1 := upf hb hgl z1; have e3 := up hb e3; have e4 := upf hb e5 e4; have HB := Aside0.mk hb;
       have p0 : (w1.setCell ⟨g, 1, none⟩ (.int .i64 (z + 1))).cell? ⟨g, 0, none⟩ = _ := h1.c0; rw [E1.out] at p0;
       have p3 : (w1.setCell ⟨g, 1, none⟩ (.int .i64 (z + 1))).cell? ⟨sb, i, none⟩ = _ := (World.cell?_of_block (Below.heap_setCell w1 _ _ _ hsbg)).trans e3;
       have hv := heap_alloc_new (w1.setCell ⟨g, 1, none⟩ (.int .i64 (z + 1))) (.cells #[.string x, .string y] 74); rw [size_setCell] at hv; have HV := Aside0.mk hv; have hvb : w1.heap.size ≠ b := (by omega);
       have H2 := Aside0.mk h2; clear h1 h2 hb hv)
    | (go_at_call 32; refine (insert_any 0 b l.length k cap w1.heap.size (flat l) [.string x, .string y] 74 _ (H2.out.leaf _ (List.mem_of_getElem? HM.out)).own (Nat.zero_le _) hk hpos (by omega) rfl HV.out hvb (by intro u hu; simp at hu; rcases hu with rfl | rfl <;> rfl) (flat_one (H2.out.leaf _ (List.mem_of_getElem? HM.out)).one)).mono ?_;
       rintro e w2 ⟨gb, cap2, rfl, ho, hg, hgb⟩; obtain ⟨q0, q3, q4, _, _⟩ := H2.out.after HM.out E1.out hg; rw [E1.out] at q0; have HO := Aside0.mk ho; have HG := Aside0.mk hg; have HGB := Aside0.mk hgb; clear ho hg hgb))
  go_ret
  have hone : ∀ a ∈ l', a.2.oneCell' = true := by
    intro a ha
    rw [HL.out] at ha
    simp only [List.mem_append, List.mem_singleton] at ha
    rcases ha with (ha | ha) | ha
    · exact OK.out.one a (List.mem_of_mem_take ha)
    · subst ha; rfl
    · exact OK.out.one a (List.mem_of_mem_drop ha)
  have hFg : F gb := by
    rcases HGB.out with e | e
    · rw [e]; exact OK.out.inF
    · refine HFa.out _ (Nat.le_trans hsz (Nat.le_trans ?_ e))
      rw [World.size_alloc, size_setCell]
      exact Nat.le_succ _
  have h3 := H2.out.setLeaf (m' := (gb, cap2, l')) HM.out E1.out HG.out (by
    rw [HFL.out]
    show w2.ownsRow 0 74 2 (.slice (some ⟨gb, 0, none⟩) l'.length cap2) l'.length _
    rw [HLE.out]
    exact HO.out) hone hFg HGB.out
  rw [show lv (gb, cap2, l') = .slice (some ⟨gb, 0, none⟩) (l.length + 1) cap2 by simp [lv, HLE.out]] at h3
  exact ⟨rfl, ⟨gb, cap2, h3⟩, (((Fr.below HB.out).trans (Fr.setCell _ _ _ _ H.out.inF)).trans (Fr.alloc _ _)).trans ((Fr.grown HG.out OK.out.inF).trans (Fr.setCell _ _ _ _ (H.out.apart sb (by rw [E1.out]; rfl)).1))⟩
end
end Go.Proofs.Ytmpcmpanolnpfaa.Tr.Sr
