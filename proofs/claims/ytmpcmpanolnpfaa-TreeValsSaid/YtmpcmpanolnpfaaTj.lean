/- Tree, by hand: slices.Insert at items, ahead of others: in place, and into a new row. -/
import Derived.Test.YtmpcmpanolnpfaaTi
import Derived.Test.YtmpcmpanolnpfaaCpy
import Derived.Lib.Overlaps
import Derived.Lib.AppendZerosOnto
set_option linter.unusedVariables false
set_option linter.unusedSimpArgs false
namespace Go.Proofs.Ytmpcmpanolnpfaa.Tr
open Go.RowKit Go.Proofs.YtmpcmpanolnpfaaW.PrintWords Go.Proofs.YtmpcmpanolnpfaaW.PrintLast Go.Proofs.YtmpcmpanolnpfaaW.PrintMore

theorem belowDrew {B : Nat} {w w1 : World} (h : Below B w w1) : Below B w w1.drew := ⟨h.os, h.tape, h.output, h.size, h.block⟩
theorem grownBy_setRow (w : World) (g : Nat) (cs : Array Value) : w.grownBy (w.setRow g cs) (some g) := ⟨rfl, rfl, rfl, by simp, fun k hk hne => setRow_other w g k cs (fun e => hne (by rw [e]))⟩
theorem grownBy_drew (w : World) (r : Option Nat) : w.grownBy w.drew r := ⟨rfl, rfl, rfl, Nat.le_refl _, fun _ _ _ => rfl⟩
theorem grownBy_trans {a b c : World} {r : Option Nat} (h : a.grownBy b r) (h2 : b.grownBy c r) : a.grownBy c r := ⟨h2.os.trans h.os, h2.tape.trans h.tape, h2.output.trans h.output, Nat.le_trans h.size h2.size, fun k hk hne => (h2.block k (Nat.lt_of_lt_of_le hk h.size) hne).trans (h.block k hk hne)⟩
theorem cells_of_heap {w : World} {b : Nat} {cur : Array Value} {t : TypeId} {fr : Nat × Nat} (h : w.heap[b]? = some (.cells cur t fr)) (o j : Nat) (v : Value) (hv : cur[o + j]? = some v) : w.cell? ((⟨b, o, none⟩ : Addr).add j) = some v := by
  rw [Addr.add_lit, cell_of_row w b (o + j) cur t fr h]
  exact hv
theorem room_row (cur xs vs : List Value) (K N M : Nat) (hx : xs = cur.take N) (hl : xs.length = N) (hK : K ≤ N) (hc : N + M ≤ cur.length) (hv : vs.length = M) (r1 r2 : List Value)
    (h1 : r1 = cur.take (K + M) ++ (xs.drop K ++ cur.drop (K + M + (xs.drop K).length))) (h2 : r2 = r1.take K ++ (vs ++ r1.drop (K + M))) : r1.length = cur.length ∧ r2.length = cur.length ∧ r2.take (N + M) = xs.take K ++ vs ++ xs.drop K := by
  have hd : (xs.drop K).length = N - K := by rw [List.length_drop, hl]
  have ht : (cur.take (K + M)).length = K + M := by rw [List.length_take]; omega
  have e1 : r1.drop (K + M) = xs.drop K ++ cur.drop (N + M) := by
    rw [h1, List.drop_left' ht, hd, show K + M + (N - K) = N + M by omega]
  have e2 : r1.take K = xs.take K := by
    rw [h1, List.take_append_of_le_length (by omega), List.take_take, hx, List.take_take, show min K (K + M) = K by omega, show min K N = K by omega]
  have l1 : r1.length = cur.length := by
    rw [h1, List.length_append, List.length_append, ht, hd, List.length_drop]; omega
  refine ⟨l1, ?_, ?_⟩
  · rw [h2, e1, e2, List.length_append, List.length_append, List.length_append, hd, hv, List.length_take, hl, List.length_drop]; omega
  · rw [h2, e1, e2, ← List.append_assoc, ← List.append_assoc, List.take_left' (by rw [List.length_append, List.length_append, hd, hv, List.length_take, hl]; omega)]
set_option maxHeartbeats 1000000 in
set_option maxRecDepth 100000 in
/-- there is room -/
theorem insert_room (base b n k cap0 vb : Nat) (xs vs : List Value) (tv : TypeId) (w : World) (hown : w.ownsRow base 64 2 (.slice (some ⟨b, 0, none⟩) n cap0) n xs)
    (hk : k < n) (hroom : n + 1 ≤ cap0) (hvl : vs.length = 2) (hv : w.heap[vb]? = some (.cells vs.toArray tv (0, 0))) (hvb : vb ≠ b) (h1 : ∀ u ∈ vs, u.oneCell' = true) (h1x : ∀ u ∈ xs, u.oneCell' = true) :
    Calls Try.prog 24 #[.slice (some ⟨b, 0, none⟩) n cap0, .int .i64 (k : Int), .slice (some ⟨vb, 0, none⟩) 1 1] w fun e w' => e = .returned (.slice (some ⟨b, 0, none⟩) (n + 1) cap0) ∧
      w'.ownsRow base 64 2 (.slice (some ⟨b, 0, none⟩) (n + 1) cap0) (n + 1) (xs.take (k * 2) ++ vs ++ xs.drop (k * 2)) ∧ w.grownBy w' (some b) := by
  obtain ⟨i0, hi0, hz0, hs0, hb0⟩ := info_parts info64
  have hsz : (Try.prog.info? 64).map (·.size) = some 2 := by rw [hi0]; simp [hs0]
  obtain ⟨hxl, hO⟩ := hown
  rcases hO with ⟨e, _⟩ | ⟨g, cap, cur, e, hgb, hg, hnc, hcm, hcs, htk⟩
  · cases e
  cases e
  have hcm' : cap0 ≤ 9223372036854775807 := by simpa only [maxLen] using hcm
  have hov : ∀ lb cb, (callFunc 41 #[.slice (some ⟨vb, 0, none⟩) 1 1, .slice (some ⟨b, (k + 1) * 2, none⟩) lb cb]).run Try.prog w = .ok (.value (.bool false)) w := fun lb cb => by
    rw [run_callFunc_extern Try.func41 (by kernel_rfl) (by kernel_rfl) (by kernel_rfl) (e := Extern.SlicesOverlaps.overlaps #[65, 65] #[4]) (by kernel_rfl),
      Lib.run_overlaps_apart w 65 4 64 Try.underlying65 2 (fun w => by simp [sizeOf, typeInfo, hi0, hs0]) ⟨vb, 0, none⟩ ⟨b, (k + 1) * 2, none⟩ 1 1 lb cb hvb tv 64 2 cur.size
        (by simp [World.shape?, hv, hvl]) (by simp [World.shape?, hg]) (by omega) (by simp [World.frozen?, hv]) (by simp [World.frozen?, hv])]
    rfl
  have hdl : (xs.drop (k * 2)).length = (n - k) * 2 := by rw [List.length_drop, hxl]; omega
  obtain ⟨row1, hr1⟩ : ∃ r : Array Value, r = (cur.toList.take ((k + 1) * 2) ++ (xs.drop (k * 2) ++ cur.toList.drop ((k + 1) * 2 + (xs.drop (k * 2)).length))).toArray := ⟨_, rfl⟩
  obtain ⟨hl1, _, _⟩ := room_row cur.toList xs vs (k * 2) (n * 2) 2 htk.symm hxl (by omega) (by rw [Array.length_toList, hcs]; omega) hvl row1.toList _ (by rw [hr1, show (k + 1) * 2 = k * 2 + 2 by omega]) rfl
  have hl1' : row1.size = cur.size := by simpa using hl1
  have HX : ∀ j v, (xs.drop (k * 2))[j]? = some v → w.drew.cell? ((⟨b, k * 2, none⟩ : Addr).add j) = some v := fun j v hj => cells_of_heap (w := w.drew) hg _ _ _ (by
    rw [List.getElem?_drop, ← htk, List.getElem?_take] at hj
    split at hj
    · simpa using hj
    · cases hj)
  have HXa := Aside0.mk HX
  have Hg1 : (w.drew.setRow b row1).heap[b]? = some (.cells row1 64 (0, 0)) := setRow_heap w.drew b cur row1 64 (0, 0) hg
  have HV : ∀ j v, vs[j]? = some v → (w.drew.setRow b row1).cell? ((⟨vb, 0, none⟩ : Addr).add j) = some v := fun j v hj => by
    rw [Addr.add_lit, cell_setRow_other _ _ _ _ hvb]
    exact cell_of_row w vb _ vs.toArray tv (0, 0) hv |>.trans (by simpa using hj)
  have HVa := Aside0.mk HV
  have a1 : (0 : Int) ≤ (k : Int) := by omega
  have a2 : (k : Int) ≤ (n : Int) := by omega
  have a3 : ¬ (k : Int) = (n : Int) := by omega
  have a4 : ((k : Int) == (n : Int)) = false := by simp; omega
  have hw1 : IntKind.i64.wrap ((k : Int) + 1) = (k : Int) + 1 := by rw [IntKind.wrap_i64]; omega
  have a5 : ¬ (cap0 : Int) < (n : Int) + 1 := by omega
  have a6 : (n : Int) + 1 ≤ (cap0 : Int) := by omega
  have a7 : (0 : Int) ≤ (n : Int) + 1 := by omega
  have a8 : (0 : Int) ≤ (k : Int) + 1 := by omega
  have a9 : (k : Int) + 1 ≤ (n : Int) + 1 := by omega
  have b1 : (k : Int) ≤ (n : Int) + 1 := by omega
  have b2 : ¬ (cap0 = k + 1) := by omega
  have b3 : ¬ (cap0 = k) := by omega
  have b4 : (k : Int) ≤ (cap0 : Int) := by omega
  have htn : ((k : Int) + 1).toNat = k + 1 := by omega
  have htm : ((n : Int) + 1).toNat = n + 1 := by omega
  clear HX HV
  have HR1 := Aside0.mk hr1
  clear hr1
  have HTK := Aside0.mk htk.symm
  clear htk
  go_enter Try.func24, Try.ntmps24
  go_wp2_with (simp only [hov])
  go_region_law (refine Cpy.step_copy_at rfl _ _ 65 65 rfl 64 2 Try.underlying65 hsz b ((k + 1) * 2) (n + 1 - (k + 1)) (cap0 - (k + 1)) ⟨b, k * 2, none⟩ (n + 1 - k) (cap0 - k) (by simp [Act.eval, Act.put]) (by simp [Act.eval, Act.put]) cur 64 hg (xs.drop (k * 2)) (by rw [hdl]; simp only [Nat.min_def]; split <;> omega) HXa.out (by rw [hdl, hcs]; omega) (fun u hu => h1x u (List.mem_of_mem_drop hu)) ?_; rw [← HR1.out])
  go_wp2_with (first | (refine Cpy.wpList_copy_at rfl _ _ 65 65 rfl 64 2 Try.underlying65 hsz b (k * 2) (n + 1 - k) (cap0 - k) ⟨vb, 0, none⟩ 1 1 rfl rfl row1 64 Hg1 vs (by rw [hvl]; simp only [Nat.min_def]; split <;> omega) HVa.out (by rw [hvl, hl1', hcs]; omega) h1 ?_))
  go_ret
  obtain ⟨_, l2, e2⟩ := room_row cur.toList xs vs (k * 2) (n * 2) 2 HTK.out hxl (by omega) (by rw [Array.length_toList, hcs]; omega) hvl row1.toList _ (by rw [HR1.out, show (k + 1) * 2 = k * 2 + 2 by omega]) rfl
  refine ⟨rfl, ⟨?_, .inr ⟨b, cap0, _, rfl, hgb, setRow_heap _ b row1 _ 64 (0, 0) Hg1, hroom, hcm, ?_, ?_⟩⟩, ?_⟩
  · rw [← e2, List.length_take, l2, Array.length_toList, hcs]; omega
  · rw [List.size_toArray, l2, Array.length_toList, hcs]
  · rw [show (n + 1) * 2 = n * 2 + 2 by omega]; exact e2
  · exact grownBy_trans (grownBy_trans (grownBy_drew w _) (grownBy_setRow _ _ _)) (grownBy_setRow _ _ _)
theorem grow_row (xs vs z1 z2 : List Value) (K N M : Nat) (hl : xs.length = N) (hK : K ≤ N) (hv : vs.length = M) (hz : z1.length = N + M - K) (r0 r1 r2 : List Value)
    (h0 : r0 = xs.take K ++ z1 ++ z2) (h1 : r1 = r0.take K ++ (vs ++ r0.drop (K + M))) (h2 : r2 = r1.take (K + M) ++ (xs.drop K ++ r1.drop (K + M + (xs.drop K).length))) :
    r0.length = N + M + z2.length ∧ r1.length = N + M + z2.length ∧ r2.length = N + M + z2.length ∧ r2.take (N + M) = xs.take K ++ vs ++ xs.drop K := by
  have hd : (xs.drop K).length = N - K := by rw [List.length_drop, hl]
  have ht : (xs.take K).length = K := by rw [List.length_take, hl]; omega
  have l0 : r0.length = N + M + z2.length := by rw [h0, List.length_append, List.length_append, ht, hz]; omega
  have e0 : r0.take K = xs.take K := by rw [h0, List.append_assoc, List.take_left' ht]
  have l1 : r1.length = N + M + z2.length := by rw [h1, e0, List.length_append, List.length_append, ht, hv, List.length_drop, l0]; omega
  have e1 : r1.take (K + M) = xs.take K ++ vs := by rw [h1, e0, ← List.append_assoc, List.take_left' (by rw [List.length_append, ht, hv])]
  refine ⟨l0, l1, ?_, ?_⟩
  · rw [h2, e1, List.length_append, List.length_append, List.length_append, ht, hv, hd, List.length_drop, l1]; omega
  · rw [h2, e1, ← List.append_assoc, List.take_left' (by rw [List.length_append, List.length_append, ht, hv, hd]; omega)]
set_option maxHeartbeats 1000000 in
set_option maxRecDepth 100000 in
/-- there is none -/
theorem insert_grow (base b n k cap0 vb : Nat) (xs vs : List Value) (tv : TypeId) (w : World) (hown : w.ownsRow base 64 2 (.slice (some ⟨b, 0, none⟩) n cap0) n xs) (hbase : base ≤ w.heap.size)
    (hk : k < n) (hroom : cap0 < n + 1) (hbig : n ≤ 4398046511104) (hvl : vs.length = 2) (hv : w.heap[vb]? = some (.cells vs.toArray tv (0, 0))) (h1 : ∀ u ∈ vs, u.oneCell' = true) (h1x : ∀ u ∈ xs, u.oneCell' = true) :
    Calls Try.prog 24 #[.slice (some ⟨b, 0, none⟩) n cap0, .int .i64 (k : Int), .slice (some ⟨vb, 0, none⟩) 1 1] w fun e w' => ∃ cap, e = .returned (.slice (some ⟨w.heap.size, 0, none⟩) (n + 1) cap) ∧
      w'.ownsRow base 64 2 (.slice (some ⟨w.heap.size, 0, none⟩) (n + 1) cap) (n + 1) (xs.take (k * 2) ++ vs ++ xs.drop (k * 2)) ∧ Below w.heap.size w w' := by
  obtain ⟨i0, hi0, hz0, hs0, hb0⟩ := info_parts info64
  have hsz : (Try.prog.info? 64).map (·.size) = some 2 := by rw [hi0]; simp [hs0]
  obtain ⟨hxl, hO⟩ := hown
  rcases hO with ⟨e, _⟩ | ⟨g, cap, cur, e, hgb, hg, hnc, hcm, hcs, htk⟩
  · cases e
  cases e
  have hcells : ∀ j v, xs[j]? = some v → w.cell? ((⟨b, 0, none⟩ : Addr).add j) = some v := fun j v hj => cells_of_heap hg _ _ _ (by
    rw [← htk, List.getElem?_take] at hj
    split at hj
    · simpa using hj
    · cases hj)
  have hcm' : cap0 ≤ 9223372036854775807 := by simpa only [maxLen] using hcm
  have hbs : b < w.heap.size := (Array.getElem?_eq_some_iff.1 hg).1
  have hvs : vb < w.heap.size := (Array.getElem?_eq_some_iff.1 hv).1
  have hik : k + (n + 1 - k) = n + 1 := by omega
  have hkk : (n : Int) + 1 - (k : Int) = ((n + 1 - k : Nat) : Int) := by omega
  have hold : (Builtin.firstCells i0.size k (.slice (some ⟨b, 0, none⟩) k cap0)).run Try.prog w.drew = .ok (xs.take (k * 2)).toArray w.drew := by
    rw [hs0]
    exact run_firstCells_some w.drew 2 k ⟨b, 0, none⟩ k cap0 (xs.take (k * 2)) (by rw [List.length_take]; omega) (fun j v hj => by
      rw [List.getElem?_take] at hj
      split at hj
      · exact hcells j v hj
      · cases hj)
  obtain ⟨G, hG⟩ : ∃ G, G = grownCap w (n + 1) cap0 64 := ⟨_, rfl⟩
  obtain ⟨z, hz⟩ : ∃ z : Value, z = .agg #[.string ⟨#[]⟩, .int .i64 0] := ⟨_, rfl⟩
  have hzc : z.cells.size = 2 := by rw [hz]; rfl
  rw [← hz] at hz0
  obtain ⟨row0, hr0⟩ : ∃ r : Array Value, r = (xs.take (k * 2)).toArray ++ Builtin.zeroCells z.cells (n + 1 - k) ++ Builtin.zeroCells z.cells (G - (n + 1)) := ⟨_, rfl⟩
  have hrz : ∀ ty, (Builtin.append_ #[65, 3] ty #[.slice (some ⟨b, 0, none⟩) k cap0, .int .i64 ((n : Int) + 1 - (k : Int))]).run Try.prog w =
      .ok (.slice (some ⟨w.heap.size, 0, none⟩) (n + 1) G) (w.drew.alloc (.cells row0 64)) := fun ty => by
    have h := Lib.run_append_grow_zeros w 65 3 ty 64 i0 _ .i64 .i64 Try.underlying65 Try.underlying3 hi0 hz0 (some ⟨b, 0, none⟩) k cap0 _ hold (n + 1 - k) (by omega) (by omega) (by omega) (by omega) (by rw [hb0]; omega) (by rw [hb0, hik]; exact growslice_fits hroom (by omega))
    rw [hik, ← hG, ← hr0] at h
    rw [hkk]
    exact h
  have hGn : n + 1 ≤ G := by rw [hG]; exact grownCap_ge w _ _ _
  have hGm : G ≤ maxLen := by rw [hG]; exact grownCap_le_maxLen w (n + 1) cap0 64 (by unfold maxLen; omega)
  have hG63 : G ≤ 9223372036854775807 := by simpa only [maxLen] using hGm
  obtain ⟨row1, hr1⟩ : ∃ r : Array Value, r = (row0.toList.take (k * 2) ++ (vs ++ row0.toList.drop (k * 2 + vs.length))).toArray := ⟨_, rfl⟩
  have hdl : (xs.drop (k * 2)).length = (n - k) * 2 := by rw [List.length_drop, hxl]; omega
  obtain ⟨l0, l1, l2, e2⟩ := grow_row xs vs (Builtin.zeroCells z.cells (n + 1 - k)).toList (Builtin.zeroCells z.cells (G - (n + 1))).toList (k * 2) (n * 2) 2 hxl (by omega) hvl (by rw [Array.length_toList, size_zeroCells, hzc]; omega) row0.toList row1.toList _ (by rw [hr0]; simp) (by rw [hr1, hvl]) rfl
  have hzl : n * 2 + 2 + (Builtin.zeroCells z.cells (G - (n + 1))).toList.length = G * 2 := by rw [Array.length_toList, size_zeroCells, hzc]; omega
  rw [hzl] at l0 l1 l2
  rw [Array.length_toList] at l0 l1
  have Hg0 : (w.drew.alloc (.cells row0 64)).heap[w.heap.size]? = some (.cells row0 64 (0, 0)) := heap_alloc_new w.drew _
  have Hg1 : ((w.drew.alloc (.cells row0 64)).setRow w.heap.size row1).heap[w.heap.size]? = some (.cells row1 64 (0, 0)) := setRow_heap _ _ _ row1 64 (0, 0) Hg0
  have HV : ∀ j v, vs[j]? = some v → (w.drew.alloc (.cells row0 64)).cell? ((⟨vb, 0, none⟩ : Addr).add j) = some v := fun j v hj =>
    cells_of_heap (t := tv) (fr := (0, 0)) ((heap_alloc_old w.drew (.cells row0 64) hvs).trans hv) 0 j v (by simpa using hj)
  have HX : ∀ j v, (xs.drop (k * 2))[j]? = some v → ((w.drew.alloc (.cells row0 64)).setRow w.heap.size row1).cell? ((⟨b, k * 2, none⟩ : Addr).add j) = some v := fun j v hj => by
    rw [Addr.add_lit, cell_setRow_other _ _ _ _ (by show b ≠ w.heap.size; omega)]
    rw [List.getElem?_drop] at hj
    have h := hcells _ v hj
    rw [Addr.add_lit, Nat.zero_add] at h
    exact up (below_alloc (Below.refl _ _) _) (w := w.drew) h
  have HVa := Aside0.mk HV
  have HXa := Aside0.mk HX
  have HRZ := Aside0.mk hrz
  have HR1 := Aside0.mk hr1
  rw [show k * 2 + 2 = (k + 1) * 2 by omega, hdl] at l2 e2
  rw [show n * 2 + 2 = (n + 1) * 2 by omega] at e2
  have HE := Aside0.mk (And.intro l2 e2)
  clear HV HX hrz hr1 hr0 hz hG hcells htk hold l2 e2 hkk hik hzl
  have a1 : (0 : Int) ≤ (k : Int) := by omega
  have a2 : (k : Int) ≤ (n : Int) := by omega
  have a3 : ¬ (k : Int) = (n : Int) := by omega
  have a4 : ((k : Int) == (n : Int)) = false := by simp; omega
  have hw1 : IntKind.i64.wrap ((k : Int) + 1) = (k : Int) + 1 := by rw [IntKind.wrap_i64]; omega
  have a5 : (cap0 : Int) < (n : Int) + 1 := by omega
  have a7 : (0 : Int) ≤ (n : Int) + 1 := by omega
  have a8 : (0 : Int) ≤ (k : Int) + 1 := by omega
  have a9 : (k : Int) + 1 ≤ (n : Int) + 1 := by omega
  have b1 : (k : Int) ≤ (n : Int) + 1 := by omega
  have b2 : ¬ (G = k + 1) := by omega
  have b3 : ¬ (G = k) := by omega
  have b4 : (k : Int) ≤ (cap0 : Int) := by omega
  have b5 : ¬ (cap0 = k) := by omega
  have htn : ((k : Int) + 1).toNat = k + 1 := by omega
  have htm : ((n : Int) + 1).toNat = n + 1 := by omega
  go_enter Try.func24, Try.ntmps24
  go_wp2_with (first
    | (refine Lib.wpList_append_run _ rfl _ _ 65 3 rfl _ _ rfl rfl _ _ (HRZ.out _) ?_)
    | (refine Cpy.wpList_copy_at rfl _ _ 65 65 rfl 64 2 Try.underlying65 hsz w.heap.size (k * 2) (n + 1 - k) (G - k) ⟨vb, 0, none⟩ 1 1 rfl rfl row0 64 Hg0 vs (by rw [hvl]; simp only [Nat.min_def]; split <;> omega) HVa.out (by rw [hvl, l0]; omega) h1 ?_; rw [← HR1.out]))
  go_region_law (refine Cpy.step_copy_at rfl _ _ 65 65 rfl 64 2 Try.underlying65 hsz w.heap.size ((k + 1) * 2) (n + 1 - (k + 1)) (G - (k + 1)) ⟨b, k * 2, none⟩ (n - k) (cap0 - k) (by simp [Act.eval, Act.put]) (by simp [Act.eval, Act.put]) row1 64 Hg1 (xs.drop (k * 2)) (by rw [hdl]; simp only [Nat.min_def]; split <;> omega) HXa.out (by rw [hdl, l1]; omega) (fun u hu => h1x u (List.mem_of_mem_drop hu)) ?_)
  go_wp2
  go_ret
  obtain ⟨l2, e2⟩ := HE.out
  refine ⟨G, rfl, ⟨?_, .inr ⟨w.heap.size, G, _, rfl, hbase, setRow_heap _ w.heap.size row1 _ 64 (0, 0) Hg1, hGn, hGm, ?_, ?_⟩⟩, ?_⟩
  · rw [← e2, List.length_take, l2]; omega
  · rw [List.size_toArray]
    first | exact l2 | (rw [hdl]; exact l2)
  · first | exact e2 | (rw [hdl]; exact e2)
  · exact below_setRow (belowDrew (below_setRow (belowDrew (below_alloc (Below.refl _ _) _)) (Nat.le_refl _) _)) (Nat.le_refl _) _
end Go.Proofs.Ytmpcmpanolnpfaa.Tr
