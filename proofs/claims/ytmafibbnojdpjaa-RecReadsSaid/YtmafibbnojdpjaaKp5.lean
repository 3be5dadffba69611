/- Lemmas that the proof needs, part 5. -/
import Derived.Lib.Overlaps
import Derived.Lib.AppendZerosOnto
import Derived.Deep.RegionHeld3
import Derived.Test.YtmafibbnojdpjaaKp2
import Derived.Test.YtmafibbnojdpjaaKp3
import Derived.Test.YtmafibbnojdpjaaKp4
section
set_option linter.unusedVariables false
set_option maxRecDepth 100000
set_option linter.unusedSimpArgs false
namespace Go.Proofs.Ytmafibbnojdpjaa.Tr
open Go.RowKit Go.Proofs.YtmafibbnojdpjaaW.PrintWords Go.Proofs.YtmafibbnojdpjaaW.PrintLast Go.Proofs.YtmafibbnojdpjaaW.PrintMore
theorem belowDrew {B : Nat} {w w1 : World} (h : Below B w w1) : Below B w w1.drew := ⟨h.os, h.tape, h.output, h.size, h.block⟩
theorem grownBy_setRow (w : World) (g : Nat) (cs : Array Value) : w.grownBy (w.setRow g cs) (some g) := ⟨rfl, rfl, rfl, by simp, fun k hk hne => setRow_other w g k cs (fun e => hne (by rw [e]))⟩
theorem grownBy_drew (w : World) (r : Option Nat) : w.grownBy w.drew r := ⟨rfl, rfl, rfl, Nat.le_refl _, fun _ _ _ => rfl⟩
theorem grownBy_trans {a b c : World} {r : Option Nat} (h : a.grownBy b r) (h2 : b.grownBy c r) : a.grownBy c r := ⟨h2.os.trans h.os, h2.tape.trans h.tape, h2.output.trans h.output, Nat.le_trans h.size h2.size, fun k hk hne => (h2.block k (Nat.lt_of_lt_of_le hk h.size) hne).trans (h.block k hk hne)⟩
theorem cells_of_heap {w : World} {b : Nat} {cur : Array Value} {t : TypeId} {fr : Nat × Nat} (h : w.heap[b]? = some (.cells cur t fr)) (o j : Nat) (v : Value) (hv : cur[o + j]? = some v) : w.cell? ((⟨b, o, none⟩ : Addr).add j) = some v := by
  rw [Addr.add_lit, cell_of_row w b (o + j) cur t fr h]
  exact hv
theorem room_row (cur xs vs : List Value) (K N M : Nat) (hx : xs = cur.take N) (hl : xs.length = N) (hK : K ≤ N) (hc : N + M ≤ cur.length) (hv : vs.length = M) (r1 r2 : List Value)
    (h1 : r1 = cur.take (K + M) ++ (xs.drop K ++ cur.drop (K + M + (xs.drop K).length))) (h2 : r2 = r1.take K ++ (vs ++ r1.drop (K + M))) : r1.length = cur.length ∧ r2.length = cur.length ∧ r2.take (N + M) = xs.take K ++ vs ++ xs.drop K := by
  have hd : (xs.drop K).length = N - K := by rw [List.length_drop, hl]
  have ht : (cur.take (K + M)).length = K + M := by rw [List.length_take]; omega
  have e1 : r1.drop (K + M) = xs.drop K ++ cur.drop (N + M) := by
    rw [h1, List.drop_left' ht, hd, show K + M + (N - K) = N + M by omega]
  have e2 : r1.take K = xs.take K := by
    rw [h1, List.take_append_of_le_length (by omega), List.take_take, hx, List.take_take, show min K (K + M) = K by omega, show min K N = K by omega]
  have l1 : r1.length = cur.length := by
    rw [h1, List.length_append, List.length_append, ht, hd, List.length_drop]; omega
  refine ⟨l1, ?_, ?_⟩
  · rw [h2, e1, e2, List.length_append, List.length_append, List.length_append, hd, hv, List.length_take, hl, List.length_drop]; omega
  · rw [h2, e1, e2, ← List.append_assoc, ← List.append_assoc, List.take_left' (by rw [List.length_append, List.length_append, hd, hv, List.length_take, hl]; omega)]
set_option maxHeartbeats 1000000 in
set_option maxRecDepth 100000 in
/-- there is room -/
theorem insert_room (base b n k cap0 vb : Nat) (xs vs : List Value) (tv : TypeId) (w : World) (hown : w.ownsRow base 153 2 (.slice (some ⟨b, 0, none⟩) n cap0) n xs)
    (hk : k < n) (hroom : n + 1 ≤ cap0) (hvl : vs.length = 2) (hv : w.heap[vb]? = some (.cells vs.toArray tv (0, 0))) (hvb : vb ≠ b) (h1 : ∀ u ∈ vs, u.oneCell' = true) (h1x : ∀ u ∈ xs, u.oneCell' = true) :
    Calls Try.prog 93 #[.slice (some ⟨b, 0, none⟩) n cap0, .int .i64 (k : Int), .slice (some ⟨vb, 0, none⟩) 1 1] w fun e w' => e = .returned (.slice (some ⟨b, 0, none⟩) (n + 1) cap0) ∧
      w'.ownsRow base 153 2 (.slice (some ⟨b, 0, none⟩) (n + 1) cap0) (n + 1) (xs.take (k * 2) ++ vs ++ xs.drop (k * 2)) ∧ w.grownBy w' (some b) := by
  obtain ⟨i0, hi0, hz0, hs0, hb0⟩ := info_parts info153
  have hsz : (Try.prog.info? 153).map (·.size) = some 2 := by rw [hi0]; simp [hs0]
  obtain ⟨hxl, hO⟩ := hown
  rcases hO with ⟨e, _⟩ | ⟨g, cap, cur, e, hgb, hg, hnc, hcm, hcs, htk⟩
  · cases e
  cases e
  have hcm' : cap0 ≤ 9223372036854775807 := by simpa only [maxLen] using hcm
  have hov : ∀ lb cb, (callFunc 114 #[.slice (some ⟨vb, 0, none⟩) 1 1, .slice (some ⟨b, (k + 1) * 2, none⟩) lb cb]).run Try.prog w = .ok (.value (.bool false)) w := fun lb cb => by
    rw [run_callFunc_extern Try.func114 (by kernel_rfl) (by kernel_rfl) (by kernel_rfl) (e := Extern.SlicesOverlaps.overlaps #[154, 154] #[4]) (by kernel_rfl),
      Lib.run_overlaps_apart w 154 4 153 Try.underlying154 2 (fun w => by simp [sizeOf, typeInfo, hi0, hs0]) ⟨vb, 0, none⟩ ⟨b, (k + 1) * 2, none⟩ 1 1 lb cb hvb tv 153 2 cur.size
        (by simp [World.shape?, hv, hvl]) (by simp [World.shape?, hg]) (by omega) (by simp [World.frozen?, hv]) (by simp [World.frozen?, hv])]
    rfl
  have hdl : (xs.drop (k * 2)).length = (n - k) * 2 := by rw [List.length_drop, hxl]; omega
  obtain ⟨row1, hr1⟩ : ∃ r : Array Value, r = (cur.toList.take ((k + 1) * 2) ++ (xs.drop (k * 2) ++ cur.toList.drop ((k + 1) * 2 + (xs.drop (k * 2)).length))).toArray := ⟨_, rfl⟩
  obtain ⟨hl1, _, _⟩ := room_row cur.toList xs vs (k * 2) (n * 2) 2 htk.symm hxl (by omega) (by rw [Array.length_toList, hcs]; omega) hvl row1.toList _ (by rw [hr1, show (k + 1) * 2 = k * 2 + 2 by omega]) rfl
  have hl1' : row1.size = cur.size := by simpa using hl1
  have HX : ∀ j v, (xs.drop (k * 2))[j]? = some v → w.drew.cell? ((⟨b, k * 2, none⟩ : Addr).add j) = some v := fun j v hj => cells_of_heap (w := w.drew) hg _ _ _ (by
    rw [List.getElem?_drop, ← htk, List.getElem?_take] at hj
    split at hj
    · simpa using hj
    · cases hj)
  have HXa := Aside0.mk HX
  have Hg1 : (w.drew.setRow b row1).heap[b]? = some (.cells row1 153 (0, 0)) := setRow_heap w.drew b cur row1 153 (0, 0) hg
  have HV : ∀ j v, vs[j]? = some v → (w.drew.setRow b row1).cell? ((⟨vb, 0, none⟩ : Addr).add j) = some v := fun j v hj => by
    rw [Addr.add_lit, cell_setRow_other _ _ _ _ hvb]
    exact cell_of_row w vb _ vs.toArray tv (0, 0) hv |>.trans (by simpa using hj)
  have HVa := Aside0.mk HV
  have a1 : (0 : Int) ≤ (k : Int) := by omega
  have a2 : (k : Int) ≤ (n : Int) := by omega
  have a3 : ¬ (k : Int) = (n : Int) := by omega
  have a4 : ((k : Int) == (n : Int)) = false := by simp; omega
  have hw1 : IntKind.i64.wrap ((k : Int) + 1) = (k : Int) + 1 := by rw [IntKind.wrap_i64]; omega
  have a5 : ¬ (cap0 : Int) < (n : Int) + 1 := by omega
  have a6 : (n : Int) + 1 ≤ (cap0 : Int) := by omega
  have a7 : (0 : Int) ≤ (n : Int) + 1 := by omega
  have a8 : (0 : Int) ≤ (k : Int) + 1 := by omega
  have a9 : (k : Int) + 1 ≤ (n : Int) + 1 := by omega
  have b1 : (k : Int) ≤ (n : Int) + 1 := by omega
  have b2 : ¬ (cap0 = k + 1) := by omega
  have b3 : ¬ (cap0 = k) := by omega
  have b4 : (k : Int) ≤ (cap0 : Int) := by omega
  have htn : ((k : Int) + 1).toNat = k + 1 := by omega
  have htm : ((n : Int) + 1).toNat = n + 1 := by omega
  clear HX HV
  have HR1 := Aside0.mk hr1
  clear hr1
  have HTK := Aside0.mk htk.symm
  clear htk
  go_enter Try.func93, Try.ntmps93
  go_wp2_with (simp only [hov])
  go_region_law (refine Cpy.step_copy_at rfl _ _ 154 154 rfl 153 2 Try.underlying154 hsz b ((k + 1) * 2) (n + 1 - (k + 1)) (cap0 - (k + 1)) ⟨b, k * 2, none⟩ (n + 1 - k) (cap0 - k) (by simp [Act.eval, Act.put]) (by simp [Act.eval, Act.put]) cur 153 hg (xs.drop (k * 2)) (by rw [hdl]; simp only [Nat.min_def]; split <;> omega) HXa.out (by rw [hdl, hcs]; omega) (fun u hu => h1x u (List.mem_of_mem_drop hu)) ?_; rw [← HR1.out])
  go_wp2_with (first | (refine Cpy.wpList_copy_at rfl _ _ 154 154 rfl 153 2 Try.underlying154 hsz b (k * 2) (n + 1 - k) (cap0 - k) ⟨vb, 0, none⟩ 1 1 rfl rfl row1 153 Hg1 vs (by rw [hvl]; simp only [Nat.min_def]; split <;> omega) HVa.out (by rw [hvl, hl1', hcs]; omega) h1 ?_))
  go_ret
  obtain ⟨_, l2, e2⟩ := room_row cur.toList xs vs (k * 2) (n * 2) 2 HTK.out hxl (by omega) (by rw [Array.length_toList, hcs]; omega) hvl row1.toList _ (by rw [HR1.out, show (k + 1) * 2 = k * 2 + 2 by omega]) rfl
  refine ⟨rfl, ⟨?_, .inr ⟨b, cap0, _, rfl, hgb, setRow_heap _ b row1 _ 153 (0, 0) Hg1, hroom, hcm, ?_, ?_⟩⟩, ?_⟩
  · rw [← e2, List.length_take, l2, Array.length_toList, hcs]; omega
  · rw [List.size_toArray, l2, Array.length_toList, hcs]
  · rw [show (n + 1) * 2 = n * 2 + 2 by omega]; exact e2
  · exact grownBy_trans (grownBy_trans (grownBy_drew w _) (grownBy_setRow _ _ _)) (grownBy_setRow _ _ _)
theorem grow_row (xs vs z1 z2 : List Value) (K N M : Nat) (hl : xs.length = N) (hK : K ≤ N) (hv : vs.length = M) (hz : z1.length = N + M - K) (r0 r1 r2 : List Value)
    (h0 : r0 = xs.take K ++ z1 ++ z2) (h1 : r1 = r0.take K ++ (vs ++ r0.drop (K + M))) (h2 : r2 = r1.take (K + M) ++ (xs.drop K ++ r1.drop (K + M + (xs.drop K).length))) :
    r0.length = N + M + z2.length ∧ r1.length = N + M + z2.length ∧ r2.length = N + M + z2.length ∧ r2.take (N + M) = xs.take K ++ vs ++ xs.drop K := by
  have hd : (xs.drop K).length = N - K := by rw [List.length_drop, hl]
  have ht : (xs.take K).length = K := by rw [List.length_take, hl]; omega
  have l0 : r0.length = N + M + z2.length := by rw [h0, List.length_append, List.length_append, ht, hz]; omega
  have e0 : r0.take K = xs.take K := by rw [h0, List.append_assoc, List.take_left' ht]
  have l1 : r1.length = N + M + z2.length := by rw [h1, e0, List.length_append, List.length_append, ht, hv, List.length_drop, l0]; omega
  have e1 : r1.take (K + M) = xs.take K ++ vs := by rw [h1, e0, ← List.append_assoc, List.take_left' (by rw [List.length_append, ht, hv])]
  refine ⟨l0, l1, ?_, ?_⟩
  · rw [h2, e1, List.length_append, List.length_append, List.length_append, ht, hv, hd, List.length_drop, l1]; omega
  · rw [h2, e1, ← List.append_assoc, List.take_left' (by rw [List.length_append, List.length_append, ht, hv, hd]; omega)]
set_option maxHeartbeats 1000000 in
set_option maxRecDepth 100000 in
/-- there is none -/
theorem insert_grow (base b n k cap0 vb : Nat) (xs vs : List Value) (tv : TypeId) (w : World) (hown : w.ownsRow base 153 2 (.slice (some ⟨b, 0, none⟩) n cap0) n xs) (hbase : base ≤ w.heap.size)
    (hk : k < n) (hroom : cap0 < n + 1) (hbig : n ≤ 1700000000001) (hvl : vs.length = 2) (hv : w.heap[vb]? = some (.cells vs.toArray tv (0, 0))) (h1 : ∀ u ∈ vs, u.oneCell' = true) (h1x : ∀ u ∈ xs, u.oneCell' = true) :
    Calls Try.prog 93 #[.slice (some ⟨b, 0, none⟩) n cap0, .int .i64 (k : Int), .slice (some ⟨vb, 0, none⟩) 1 1] w fun e w' => ∃ cap, e = .returned (.slice (some ⟨w.heap.size, 0, none⟩) (n + 1) cap) ∧
      w'.ownsRow base 153 2 (.slice (some ⟨w.heap.size, 0, none⟩) (n + 1) cap) (n + 1) (xs.take (k * 2) ++ vs ++ xs.drop (k * 2)) ∧ Below w.heap.size w w' := by
  obtain ⟨i0, hi0, hz0, hs0, hb0⟩ := info_parts info153
  have hsz : (Try.prog.info? 153).map (·.size) = some 2 := by rw [hi0]; simp [hs0]
  obtain ⟨hxl, hO⟩ := hown
  rcases hO with ⟨e, _⟩ | ⟨g, cap, cur, e, hgb, hg, hnc, hcm, hcs, htk⟩
  · cases e
  cases e
  have hcells : ∀ j v, xs[j]? = some v → w.cell? ((⟨b, 0, none⟩ : Addr).add j) = some v := fun j v hj => cells_of_heap hg _ _ _ (by
    rw [← htk, List.getElem?_take] at hj
    split at hj
    · simpa using hj
    · cases hj)
  have hcm' : cap0 ≤ 9223372036854775807 := by simpa only [maxLen] using hcm
  have hbs : b < w.heap.size := (Array.getElem?_eq_some_iff.1 hg).1
  have hvs : vb < w.heap.size := (Array.getElem?_eq_some_iff.1 hv).1
  have hik : k + (n + 1 - k) = n + 1 := by omega
  have hkk : (n : Int) + 1 - (k : Int) = ((n + 1 - k : Nat) : Int) := by omega
  have hold : (Builtin.firstCells i0.size k (.slice (some ⟨b, 0, none⟩) k cap0)).run Try.prog w.drew = .ok (xs.take (k * 2)).toArray w.drew := by
    rw [hs0]
    exact run_firstCells_some w.drew 2 k ⟨b, 0, none⟩ k cap0 (xs.take (k * 2)) (by rw [List.length_take]; omega) (fun j v hj => by
      rw [List.getElem?_take] at hj
      split at hj
      · exact hcells j v hj
      · cases hj)
  obtain ⟨G, hG⟩ : ∃ G, G = grownCap w (n + 1) cap0 153 := ⟨_, rfl⟩
  obtain ⟨z, hz⟩ : ∃ z : Value, z = .agg #[.string ⟨#[]⟩, .slice none 0 0] := ⟨_, rfl⟩
  have hzc : z.cells.size = 2 := by rw [hz]; rfl
  rw [← hz] at hz0
  obtain ⟨row0, hr0⟩ : ∃ r : Array Value, r = (xs.take (k * 2)).toArray ++ Builtin.zeroCells z.cells (n + 1 - k) ++ Builtin.zeroCells z.cells (G - (n + 1)) := ⟨_, rfl⟩
  have hrz : ∀ ty, (Builtin.append_ #[154, 3] ty #[.slice (some ⟨b, 0, none⟩) k cap0, .int .i64 ((n : Int) + 1 - (k : Int))]).run Try.prog w =
      .ok (.slice (some ⟨w.heap.size, 0, none⟩) (n + 1) G) (w.drew.alloc (.cells row0 153)) := fun ty => by
    have h := Lib.run_append_grow_zeros w 154 3 ty 153 i0 _ .i64 .i64 Try.underlying154 Try.underlying3 hi0 hz0 (some ⟨b, 0, none⟩) k cap0 _ hold (n + 1 - k) (by omega) (by omega) (by omega) (by omega) (by rw [hb0]; omega) (by rw [hb0, hik]; exact growslice_fits hroom (by omega))
    rw [hik, ← hG, ← hr0] at h
    rw [hkk]
    exact h
  have hGn : n + 1 ≤ G := by rw [hG]; exact grownCap_ge w _ _ _
  have hGm : G ≤ maxLen := by rw [hG]; exact grownCap_le_maxLen w (n + 1) cap0 153 (by unfold maxLen; omega)
  have hG63 : G ≤ 9223372036854775807 := by simpa only [maxLen] using hGm
  obtain ⟨row1, hr1⟩ : ∃ r : Array Value, r = (row0.toList.take (k * 2) ++ (vs ++ row0.toList.drop (k * 2 + vs.length))).toArray := ⟨_, rfl⟩
  have hdl : (xs.drop (k * 2)).length = (n - k) * 2 := by rw [List.length_drop, hxl]; omega
  obtain ⟨l0, l1, l2, e2⟩ := grow_row xs vs (Builtin.zeroCells z.cells (n + 1 - k)).toList (Builtin.zeroCells z.cells (G - (n + 1))).toList (k * 2) (n * 2) 2 hxl (by omega) hvl (by rw [Array.length_toList, size_zeroCells, hzc]; omega) row0.toList row1.toList _ (by rw [hr0]; simp) (by rw [hr1, hvl]) rfl
  have hzl : n * 2 + 2 + (Builtin.zeroCells z.cells (G - (n + 1))).toList.length = G * 2 := by rw [Array.length_toList, size_zeroCells, hzc]; omega
  rw [hzl] at l0 l1 l2
  rw [Array.length_toList] at l0 l1
  have Hg0 : (w.drew.alloc (.cells row0 153)).heap[w.heap.size]? = some (.cells row0 153 (0, 0)) := heap_alloc_new w.drew _
  have Hg1 : ((w.drew.alloc (.cells row0 153)).setRow w.heap.size row1).heap[w.heap.size]? = some (.cells row1 153 (0, 0)) := setRow_heap _ _ _ row1 153 (0, 0) Hg0
  have HV : ∀ j v, vs[j]? = some v → (w.drew.alloc (.cells row0 153)).cell? ((⟨vb, 0, none⟩ : Addr).add j) = some v := fun j v hj =>
    cells_of_heap (t := tv) (fr := (0, 0)) ((heap_alloc_old w.drew (.cells row0 153) hvs).trans hv) 0 j v (by simpa using hj)
  have HX : ∀ j v, (xs.drop (k * 2))[j]? = some v → ((w.drew.alloc (.cells row0 153)).setRow w.heap.size row1).cell? ((⟨b, k * 2, none⟩ : Addr).add j) = some v := fun j v hj => by
    rw [Addr.add_lit, cell_setRow_other _ _ _ _ (by show b ≠ w.heap.size; omega)]
    rw [List.getElem?_drop] at hj
    have h := hcells _ v hj
    rw [Addr.add_lit, Nat.zero_add] at h
    exact up (below_alloc (Below.refl _ _) _) (w := w.drew) h
  have HVa := Aside0.mk HV
  have HXa := Aside0.mk HX
  have HRZ := Aside0.mk hrz
  have HR1 := Aside0.mk hr1
  rw [show k * 2 + 2 = (k + 1) * 2 by omega, hdl] at l2 e2
  rw [show n * 2 + 2 = (n + 1) * 2 by omega] at e2
  have HE := Aside0.mk (And.intro l2 e2)
  clear HV HX hrz hr1 hr0 hz hG hcells htk hold l2 e2 hkk hik hzl
  have a1 : (0 : Int) ≤ (k : Int) := by omega
  have a2 : (k : Int) ≤ (n : Int) := by omega
  have a3 : ¬ (k : Int) = (n : Int) := by omega
  have a4 : ((k : Int) == (n : Int)) = false := by simp; omega
  have hw1 : IntKind.i64.wrap ((k : Int) + 1) = (k : Int) + 1 := by rw [IntKind.wrap_i64]; omega
  have a5 : (cap0 : Int) < (n : Int) + 1 := by omega
  have a7 : (0 : Int) ≤ (n : Int) + 1 := by omega
  have a8 : (0 : Int) ≤ (k : Int) + 1 := by omega
  have a9 : (k : Int) + 1 ≤ (n : Int) + 1 := by omega
  have b1 : (k : Int) ≤ (n : Int) + 1 := by omega
  have b2 : ¬ (G = k + 1) := by omega
  have b3 : ¬ (G = k) := by omega
  have b4 : (k : Int) ≤ (cap0 : Int) := by omega
  have b5 : ¬ (cap0 = k) := by omega
  have htn : ((k : Int) + 1).toNat = k + 1 := by omega
  have htm : ((n : Int) + 1).toNat = n + 1 := by omega
  go_enter Try.func93, Try.ntmps93
  go_wp2_with (first
    | (refine Lib.wpList_append_run _ rfl _ _ 154 3 rfl _ _ rfl rfl _ _ (HRZ.out _) ?_)
    | (refine Cpy.wpList_copy_at rfl _ _ 154 154 rfl 153 2 Try.underlying154 hsz w.heap.size (k * 2) (n + 1 - k) (G - k) ⟨vb, 0, none⟩ 1 1 rfl rfl row0 153 Hg0 vs (by rw [hvl]; simp only [Nat.min_def]; split <;> omega) HVa.out (by rw [hvl, l0]; omega) h1 ?_; rw [← HR1.out]))
  go_region_law (refine Cpy.step_copy_at rfl _ _ 154 154 rfl 153 2 Try.underlying154 hsz w.heap.size ((k + 1) * 2) (n + 1 - (k + 1)) (G - (k + 1)) ⟨b, k * 2, none⟩ (n - k) (cap0 - k) (by simp [Act.eval, Act.put]) (by simp [Act.eval, Act.put]) row1 153 Hg1 (xs.drop (k * 2)) (by rw [hdl]; simp only [Nat.min_def]; split <;> omega) HXa.out (by rw [hdl, l1]; omega) (fun u hu => h1x u (List.mem_of_mem_drop hu)) ?_)
  go_wp2
  go_ret
  obtain ⟨l2, e2⟩ := HE.out
  refine ⟨G, rfl, ⟨?_, .inr ⟨w.heap.size, G, _, rfl, hbase, setRow_heap _ w.heap.size row1 _ 153 (0, 0) Hg1, hGn, hGm, ?_, ?_⟩⟩, ?_⟩
  · rw [← e2, List.length_take, l2]; omega
  · rw [List.size_toArray]
    first | exact l2 | (rw [hdl]; exact l2)
  · first | exact e2 | (rw [hdl]; exact e2)
  · exact below_setRow (belowDrew (below_setRow (belowDrew (below_alloc (Below.refl _ _) _)) (Nat.le_refl _) _)) (Nat.le_refl _) _
end Go.Proofs.Ytmafibbnojdpjaa.Tr
end
section
set_option linter.unusedVariables false
set_option maxRecDepth 100000
set_option linter.unusedSimpArgs false
namespace Go.Proofs.Ytmafibbnojdpjaa.Tr
open Go.RowKit Go.Proofs.YtmafibbnojdpjaaW.PrintWords Go.Proofs.YtmafibbnojdpjaaW.PrintLast Go.Proofs.YtmafibbnojdpjaaW.PrintMore
theorem below_grown {w w' : World} (h : Below w.heap.size w w') (r : Option Nat) : w.grownBy w' r := ⟨h.os, h.tape, h.output, h.size, fun k hk _ => h.block k hk⟩
theorem own_caps {w : World} {base e s b n cap0 : Nat} {xs : List Value} (h : w.ownsRow base e s (.slice (some ⟨b, 0, none⟩) n cap0) n xs) : n ≤ cap0 ∧ cap0 ≤ 9223372036854775807 ∧ xs.length = n * s ∧ b < w.heap.size ∧ base ≤ b := by
  obtain ⟨hxl, hO⟩ := h
  rcases hO with ⟨e, _⟩ | ⟨g, cap, cur, e, hgb, hg, hnc, hcm, hcs, htk⟩
  · cases e
  cases e
  exact ⟨hnc, by simpa only [maxLen] using hcm, hxl, (Array.getElem?_eq_some_iff.1 hg).1, hgb⟩
/-- Insert of one, anywhere -/
theorem insert_any (base b n k cap0 vb : Nat) (xs vs : List Value) (tv : TypeId) (w : World) (hown : w.ownsRow base 153 2 (.slice (some ⟨b, 0, none⟩) n cap0) n xs) (hbase : base ≤ w.heap.size)
    (hk : k ≤ n) (hn0 : 0 < n) (hbig : n ≤ 1700000000000) (hvl : vs.length = 2) (hv : w.heap[vb]? = some (.cells vs.toArray tv (0, 0))) (hvb : vb ≠ b) (h1 : ∀ u ∈ vs, u.oneCell' = true) (h1x : ∀ u ∈ xs, u.oneCell' = true) :
    Calls Try.prog 93 #[.slice (some ⟨b, 0, none⟩) n cap0, .int .i64 (k : Int), .slice (some ⟨vb, 0, none⟩) 1 1] w fun e w' => ∃ g cap, e = .returned (.slice (some ⟨g, 0, none⟩) (n + 1) cap) ∧
      w'.ownsRow base 153 2 (.slice (some ⟨g, 0, none⟩) (n + 1) cap) (n + 1) (xs.take (k * 2) ++ vs ++ xs.drop (k * 2)) ∧ w.grownBy w' (some b) ∧ (g = b ∨ w.heap.size ≤ g) := by
  obtain ⟨c1, c2, c3, c4, c5⟩ := own_caps hown
  by_cases hkn : k = n
  · subst hkn
    refine (insert_end base b k cap0 xs ⟨vb, 0, none⟩ 1 1 vs w hown hbase hn0 c1 c2 (by omega) (fun j u hj => cells_of_heap hv 0 j u (by simpa using hj)) h1 (by omega) (by omega)).mono ?_
    rintro e w' ⟨g, cap, he, ho, hg, hgb, _⟩
    refine ⟨g, cap, he, ?_, hg, ?_⟩
    · rw [List.take_of_length_le (by omega), List.drop_eq_nil_of_le (by omega), List.append_nil]; exact ho
    · rcases hgb with h | h
      · exact .inl h
      · exact .inr (by omega)
  · by_cases hr : n + 1 ≤ cap0
    · refine (insert_room base b n k cap0 vb xs vs tv w hown (by omega) hr hvl hv hvb h1 h1x).mono ?_
      rintro e w' ⟨he, ho, hg⟩
      exact ⟨b, cap0, he, ho, hg, .inl rfl⟩
    · refine (insert_grow base b n k cap0 vb xs vs tv w hown hbase (by omega) (by omega) (by omega) hvl hv h1 h1x).mono ?_
      rintro e w' ⟨cap, he, ho, hb⟩
      exact ⟨_, cap, he, ho, below_grown hb _, .inr (Nat.le_refl _)⟩
end Go.Proofs.Ytmafibbnojdpjaa.Tr
end
section
set_option linter.unusedVariables false
set_option maxRecDepth 100000
set_option linter.unusedSimpArgs false
namespace Go.Proofs.Ytmafibbnojdpjaa.Tr
open Go.RowKit Go.Proofs.YtmafibbnojdpjaaW.PrintWords Go.Proofs.YtmafibbnojdpjaaW.PrintLast Go.Proofs.YtmafibbnojdpjaaW.PrintMore
theorem info154 : (Try.prog.info? 154).map (fun i => (i.zero, i.size, i.bytes)) = some (some (.slice none 0 0), 1, 24) := by kernel_rfl
set_option maxHeartbeats 1000000 in
set_option maxRecDepth 100000 in
theorem insertL_end (base b n cap0 : Nat) (xs : List Value) (ad : Addr) (m c : Nat) (news : List Value) (w : World) (hown : w.ownsRow base 154 1 (.slice (some ⟨b, 0, none⟩) n cap0) n xs) (hbase : base ≤ w.heap.size)
    (hn0 : 0 < n) (hnc : n ≤ cap0) (hcap : cap0 ≤ 9223372036854775807) (hl : news.length = m) (hnews : ∀ j u, news[j]? = some u → w.cell? (ad.add j) = some u) (h1 : ∀ u ∈ news, u.oneCell' = true) (hm : 0 < m) (hb : n + m ≤ 1700000000001) :
    Calls Try.prog 95 #[.slice (some ⟨b, 0, none⟩) n cap0, .int .i64 (n : Int), .slice (some ad) m c] w fun e w' => ∃ g cap, e = .returned (.slice (some ⟨g, 0, none⟩) (n + m) cap) ∧
      w'.ownsRow base 154 1 (.slice (some ⟨g, 0, none⟩) (n + m) cap) (n + m) (xs ++ news) ∧ w.grownBy w' (some b) ∧ (g = b ∨ g = w.heap.size) ∧ g < w'.heap.size := by
  obtain ⟨i0, hi0, hz0, hs0, hb0⟩ := info_parts info154
  have hN := Aside0.mk hnews
  have HO := Aside0.mk hown
  clear hnews hown
  have a1 : (0 : Int) ≤ (n : Int) := by omega
  have a2 : (n : Int) ≤ (cap0 : Int) := by omega
  have a3 : ¬ (m : Int) = 0 := by omega
  have a4 : ((m : Int) == 0) = false := by simpa using (show ¬ m = 0 by omega)
  go_enter Try.func95, Try.ntmps95
  go_wp2_with (first | (refine wpList_append_lies _ rfl (.tmp 23) (.tmp 24) 109 rfl base 154 i0 _ 1 24 Try.underlying109 hi0 hz0 hs0 hb0 rfl (by decide) (.slice (some ⟨b, 0, none⟩) n cap0) n xs rfl HO.out ad m c news rfl (by rw [Nat.mul_one]; exact hl) hN.out h1 hm (by simp only [maxLen]; omega) (by omega) hbase _ rfl ?_; intro g cap w1 ho hg hat hlt))
  all_goals
    go_ret
    refine ⟨g, cap, rfl, ho, hg, ?_, hlt⟩
    rcases hat with h | h
    · left
      simp [Value.ownBlock] at h
      omega
    · exact .inr h
set_option maxHeartbeats 1000000 in
set_option maxRecDepth 100000 in
theorem insertL_room (base b n k cap0 vb : Nat) (xs vs : List Value) (tv : TypeId) (w : World) (hown : w.ownsRow base 154 1 (.slice (some ⟨b, 0, none⟩) n cap0) n xs)
    (hk : k < n) (hroom : n + 1 ≤ cap0) (hvl : vs.length = 1) (hv : w.heap[vb]? = some (.cells vs.toArray tv (0, 0))) (hvb : vb ≠ b) (h1 : ∀ u ∈ vs, u.oneCell' = true) (h1x : ∀ u ∈ xs, u.oneCell' = true) :
    Calls Try.prog 95 #[.slice (some ⟨b, 0, none⟩) n cap0, .int .i64 (k : Int), .slice (some ⟨vb, 0, none⟩) 1 1] w fun e w' => e = .returned (.slice (some ⟨b, 0, none⟩) (n + 1) cap0) ∧
      w'.ownsRow base 154 1 (.slice (some ⟨b, 0, none⟩) (n + 1) cap0) (n + 1) (xs.take (k) ++ vs ++ xs.drop (k)) ∧ w.grownBy w' (some b) := by
  obtain ⟨i0, hi0, hz0, hs0, hb0⟩ := info_parts info154
  have hsz : (Try.prog.info? 154).map (·.size) = some 1 := by rw [hi0]; simp [hs0]
  obtain ⟨hxl, hO⟩ := hown
  rcases hO with ⟨e, _⟩ | ⟨g, cap, cur, e, hgb, hg, hnc, hcm, hcs, htk⟩
  · cases e
  cases e
  simp only [Nat.mul_one] at hxl hcs htk
  have hcm' : cap0 ≤ 9223372036854775807 := by simpa only [maxLen] using hcm
  have hov : ∀ lb cb, (callFunc 117 #[.slice (some ⟨vb, 0, none⟩) 1 1, .slice (some ⟨b, (k + 1), none⟩) lb cb]).run Try.prog w = .ok (.value (.bool false)) w := fun lb cb => by
    rw [run_callFunc_extern Try.func117 (by kernel_rfl) (by kernel_rfl) (by kernel_rfl) (e := Extern.SlicesOverlaps.overlaps #[109, 109] #[4]) (by kernel_rfl),
      Lib.run_overlaps_apart w 109 4 154 Try.underlying109 1 (fun w => by simp [sizeOf, typeInfo, hi0, hs0]) ⟨vb, 0, none⟩ ⟨b, (k + 1), none⟩ 1 1 lb cb hvb tv 154 1 cur.size
        (by simp [World.shape?, hv, hvl]) (by simp [World.shape?, hg]) (by omega) (by simp [World.frozen?, hv]) (by simp [World.frozen?, hv])]
    rfl
  have hdl : (xs.drop (k)).length = (n - k) := by rw [List.length_drop, hxl]
  obtain ⟨row1, hr1⟩ : ∃ r : Array Value, r = (cur.toList.take ((k + 1)) ++ (xs.drop (k) ++ cur.toList.drop ((k + 1) + (xs.drop (k)).length))).toArray := ⟨_, rfl⟩
  obtain ⟨hl1, _, _⟩ := room_row cur.toList xs vs (k) (n) 1 htk.symm hxl (by omega) (by rw [Array.length_toList, hcs]; omega) hvl row1.toList _ (by rw [hr1, show (k + 1) = k + 1 by omega]) rfl
  have hl1' : row1.size = cur.size := by simpa using hl1
  have HX : ∀ j v, (xs.drop (k))[j]? = some v → w.drew.cell? ((⟨b, k, none⟩ : Addr).add j) = some v := fun j v hj => cells_of_heap (w := w.drew) hg _ _ _ (by
    rw [List.getElem?_drop, ← htk, List.getElem?_take] at hj
    split at hj
    · simpa using hj
    · cases hj)
  have HXa := Aside0.mk HX
  have Hg1 : (w.drew.setRow b row1).heap[b]? = some (.cells row1 154 (0, 0)) := setRow_heap w.drew b cur row1 154 (0, 0) hg
  have HV : ∀ j v, vs[j]? = some v → (w.drew.setRow b row1).cell? ((⟨vb, 0, none⟩ : Addr).add j) = some v := fun j v hj => by
    rw [Addr.add_lit, cell_setRow_other _ _ _ _ hvb]
    exact cell_of_row w vb _ vs.toArray tv (0, 0) hv |>.trans (by simpa using hj)
  have HVa := Aside0.mk HV
  have a1 : (0 : Int) ≤ (k : Int) := by omega
  have a2 : (k : Int) ≤ (n : Int) := by omega
  have a3 : ¬ (k : Int) = (n : Int) := by omega
  have a4 : ((k : Int) == (n : Int)) = false := by simp; omega
  have hw1 : IntKind.i64.wrap ((k : Int) + 1) = (k : Int) + 1 := by rw [IntKind.wrap_i64]; omega
  have a5 : ¬ (cap0 : Int) < (n : Int) + 1 := by omega
  have a6 : (n : Int) + 1 ≤ (cap0 : Int) := by omega
  have a7 : (0 : Int) ≤ (n : Int) + 1 := by omega
  have a8 : (0 : Int) ≤ (k : Int) + 1 := by omega
  have a9 : (k : Int) + 1 ≤ (n : Int) + 1 := by omega
  have b1 : (k : Int) ≤ (n : Int) + 1 := by omega
  have b2 : ¬ (cap0 = k + 1) := by omega
  have b3 : ¬ (cap0 = k) := by omega
  have b4 : (k : Int) ≤ (cap0 : Int) := by omega
  have htn : ((k : Int) + 1).toNat = k + 1 := by omega
  have htm : ((n : Int) + 1).toNat = n + 1 := by omega
  clear HX HV
  have HR1 := Aside0.mk hr1
  clear hr1
  have HTK := Aside0.mk htk.symm
  clear htk
  go_enter Try.func95, Try.ntmps95
  go_wp2_with (simp only [hov])
  go_region_law (refine Cpy.step_copy_at rfl _ _ 109 109 rfl 154 1 Try.underlying109 hsz b ((k + 1)) (n + 1 - (k + 1)) (cap0 - (k + 1)) ⟨b, k, none⟩ (n + 1 - k) (cap0 - k) (by simp [Act.eval, Act.put]) (by simp [Act.eval, Act.put]) cur 154 hg (xs.drop (k)) (by rw [hdl]; simp only [Nat.min_def]; split <;> omega) HXa.out (by rw [hdl, hcs]; omega) (fun u hu => h1x u (List.mem_of_mem_drop hu)) ?_; rw [← HR1.out])
  go_wp2_with (first | (refine Cpy.wpList_copy_at rfl _ _ 109 109 rfl 154 1 Try.underlying109 hsz b (k) (n + 1 - k) (cap0 - k) ⟨vb, 0, none⟩ 1 1 rfl rfl row1 154 Hg1 vs (by rw [hvl]; simp only [Nat.min_def]; split <;> omega) HVa.out (by rw [hvl, hl1', hcs]; omega) h1 ?_))
  go_ret
  obtain ⟨_, l2, e2⟩ := room_row cur.toList xs vs (k) (n) 1 HTK.out hxl (by omega) (by rw [Array.length_toList, hcs]; omega) hvl row1.toList _ (by rw [HR1.out, show (k + 1) = k + 1 by omega]) rfl
  refine ⟨rfl, ⟨?_, .inr ⟨b, cap0, _, rfl, hgb, setRow_heap _ b row1 _ 154 (0, 0) Hg1, hroom, hcm, ?_, ?_⟩⟩, ?_⟩
  · rw [← e2, List.length_take, l2, Array.length_toList, hcs]; omega
  · rw [List.size_toArray, l2, Array.length_toList, hcs]; omega
  · rw [Nat.mul_one]; exact e2
  · exact grownBy_trans (grownBy_trans (grownBy_drew w _) (grownBy_setRow _ _ _)) (grownBy_setRow _ _ _)
set_option maxHeartbeats 1000000 in
set_option maxRecDepth 100000 in
theorem insertL_grow (base b n k cap0 vb : Nat) (xs vs : List Value) (tv : TypeId) (w : World) (hown : w.ownsRow base 154 1 (.slice (some ⟨b, 0, none⟩) n cap0) n xs) (hbase : base ≤ w.heap.size)
    (hk : k < n) (hroom : cap0 < n + 1) (hbig : n ≤ 1700000000001) (hvl : vs.length = 1) (hv : w.heap[vb]? = some (.cells vs.toArray tv (0, 0))) (h1 : ∀ u ∈ vs, u.oneCell' = true) (h1x : ∀ u ∈ xs, u.oneCell' = true) :
    Calls Try.prog 95 #[.slice (some ⟨b, 0, none⟩) n cap0, .int .i64 (k : Int), .slice (some ⟨vb, 0, none⟩) 1 1] w fun e w' => ∃ cap, e = .returned (.slice (some ⟨w.heap.size, 0, none⟩) (n + 1) cap) ∧
      w'.ownsRow base 154 1 (.slice (some ⟨w.heap.size, 0, none⟩) (n + 1) cap) (n + 1) (xs.take (k) ++ vs ++ xs.drop (k)) ∧ Below w.heap.size w w' := by
  obtain ⟨i0, hi0, hz0, hs0, hb0⟩ := info_parts info154
  have hsz : (Try.prog.info? 154).map (·.size) = some 1 := by rw [hi0]; simp [hs0]
  obtain ⟨hxl, hO⟩ := hown
  rcases hO with ⟨e, _⟩ | ⟨g, cap, cur, e, hgb, hg, hnc, hcm, hcs, htk⟩
  · cases e
  cases e
  simp only [Nat.mul_one] at hxl hcs htk
  have hcells : ∀ j v, xs[j]? = some v → w.cell? ((⟨b, 0, none⟩ : Addr).add j) = some v := fun j v hj => cells_of_heap hg _ _ _ (by
    rw [← htk, List.getElem?_take] at hj
    split at hj
    · simpa using hj
    · cases hj)
  have hcm' : cap0 ≤ 9223372036854775807 := by simpa only [maxLen] using hcm
  have hbs : b < w.heap.size := (Array.getElem?_eq_some_iff.1 hg).1
  have hvs : vb < w.heap.size := (Array.getElem?_eq_some_iff.1 hv).1
  have hik : k + (n + 1 - k) = n + 1 := by omega
  have hkk : (n : Int) + 1 - (k : Int) = ((n + 1 - k : Nat) : Int) := by omega
  have hold : (Builtin.firstCells i0.size k (.slice (some ⟨b, 0, none⟩) k cap0)).run Try.prog w.drew = .ok (xs.take (k)).toArray w.drew := by
    rw [hs0]
    exact run_firstCells_some w.drew 1 k ⟨b, 0, none⟩ k cap0 (xs.take (k)) (by rw [List.length_take]; omega) (fun j v hj => by
      rw [List.getElem?_take] at hj
      split at hj
      · exact hcells j v hj
      · cases hj)
  obtain ⟨G, hG⟩ : ∃ G, G = grownCap w (n + 1) cap0 154 := ⟨_, rfl⟩
  obtain ⟨z, hz⟩ : ∃ z : Value, z = .slice none 0 0 := ⟨_, rfl⟩
  have hzc : z.cells.size = 1 := by rw [hz]; rfl
  rw [← hz] at hz0
  obtain ⟨row0, hr0⟩ : ∃ r : Array Value, r = (xs.take (k)).toArray ++ Builtin.zeroCells z.cells (n + 1 - k) ++ Builtin.zeroCells z.cells (G - (n + 1)) := ⟨_, rfl⟩
  have hrz : ∀ ty, (Builtin.append_ #[109, 3] ty #[.slice (some ⟨b, 0, none⟩) k cap0, .int .i64 ((n : Int) + 1 - (k : Int))]).run Try.prog w =
      .ok (.slice (some ⟨w.heap.size, 0, none⟩) (n + 1) G) (w.drew.alloc (.cells row0 154)) := fun ty => by
    have h := Lib.run_append_grow_zeros w 109 3 ty 154 i0 _ .i64 .i64 Try.underlying109 Try.underlying3 hi0 hz0 (some ⟨b, 0, none⟩) k cap0 _ hold (n + 1 - k) (by omega) (by omega) (by omega) (by omega) (by rw [hb0]; omega) (by rw [hb0, hik]; exact growslice_fits hroom (by omega))
    rw [hik, ← hG, ← hr0] at h
    rw [hkk]
    exact h
  have hGn : n + 1 ≤ G := by rw [hG]; exact grownCap_ge w _ _ _
  have hGm : G ≤ maxLen := by rw [hG]; exact grownCap_le_maxLen w (n + 1) cap0 154 (by unfold maxLen; omega)
  have hG63 : G ≤ 9223372036854775807 := by simpa only [maxLen] using hGm
  obtain ⟨row1, hr1⟩ : ∃ r : Array Value, r = (row0.toList.take (k) ++ (vs ++ row0.toList.drop (k + vs.length))).toArray := ⟨_, rfl⟩
  have hdl : (xs.drop (k)).length = (n - k) := by rw [List.length_drop, hxl]
  obtain ⟨l0, l1, l2, e2⟩ := grow_row xs vs (Builtin.zeroCells z.cells (n + 1 - k)).toList (Builtin.zeroCells z.cells (G - (n + 1))).toList (k) (n) 1 hxl (by omega) hvl (by rw [Array.length_toList, size_zeroCells, hzc]; omega) row0.toList row1.toList _ (by rw [hr0]; simp) (by rw [hr1, hvl]) rfl
  have hzl : n + 1 + (Builtin.zeroCells z.cells (G - (n + 1))).toList.length = G := by rw [Array.length_toList, size_zeroCells, hzc]; omega
  rw [hzl] at l0 l1 l2
  rw [Array.length_toList] at l0 l1
  have Hg0 : (w.drew.alloc (.cells row0 154)).heap[w.heap.size]? = some (.cells row0 154 (0, 0)) := heap_alloc_new w.drew _
  have Hg1 : ((w.drew.alloc (.cells row0 154)).setRow w.heap.size row1).heap[w.heap.size]? = some (.cells row1 154 (0, 0)) := setRow_heap _ _ _ row1 154 (0, 0) Hg0
  have HV : ∀ j v, vs[j]? = some v → (w.drew.alloc (.cells row0 154)).cell? ((⟨vb, 0, none⟩ : Addr).add j) = some v := fun j v hj =>
    cells_of_heap (t := tv) (fr := (0, 0)) ((heap_alloc_old w.drew (.cells row0 154) hvs).trans hv) 0 j v (by simpa using hj)
  have HX : ∀ j v, (xs.drop (k))[j]? = some v → ((w.drew.alloc (.cells row0 154)).setRow w.heap.size row1).cell? ((⟨b, k, none⟩ : Addr).add j) = some v := fun j v hj => by
    rw [Addr.add_lit, cell_setRow_other _ _ _ _ (by show b ≠ w.heap.size; omega)]
    rw [List.getElem?_drop] at hj
    have h := hcells _ v hj
    rw [Addr.add_lit, Nat.zero_add] at h
    exact up (below_alloc (Below.refl _ _) _) (w := w.drew) h
  have HVa := Aside0.mk HV
  have HXa := Aside0.mk HX
  have HRZ := Aside0.mk hrz
  have HR1 := Aside0.mk hr1
  rw [show k + 1 = (k + 1) by omega, hdl] at l2 e2
  rw [show n + 1 = (n + 1) by omega] at e2
  have HE := Aside0.mk (And.intro l2 e2)
  clear HV HX hrz hr1 hr0 hz hG hcells htk hold l2 e2 hkk hik hzl
  have a1 : (0 : Int) ≤ (k : Int) := by omega
  have a2 : (k : Int) ≤ (n : Int) := by omega
  have a3 : ¬ (k : Int) = (n : Int) := by omega
  have a4 : ((k : Int) == (n : Int)) = false := by simp; omega
  have hw1 : IntKind.i64.wrap ((k : Int) + 1) = (k : Int) + 1 := by rw [IntKind.wrap_i64]; omega
  have a5 : (cap0 : Int) < (n : Int) + 1 := by omega
  have a7 : (0 : Int) ≤ (n : Int) + 1 := by omega
  have a8 : (0 : Int) ≤ (k : Int) + 1 := by omega
  have a9 : (k : Int) + 1 ≤ (n : Int) + 1 := by omega
  have b1 : (k : Int) ≤ (n : Int) + 1 := by omega
  have b2 : ¬ (G = k + 1) := by omega
  have b3 : ¬ (G = k) := by omega
  have b4 : (k : Int) ≤ (cap0 : Int) := by omega
  have b5 : ¬ (cap0 = k) := by omega
  have htn : ((k : Int) + 1).toNat = k + 1 := by omega
  have htm : ((n : Int) + 1).toNat = n + 1 := by omega
  go_enter Try.func95, Try.ntmps95
  go_wp2_with (first
    | (refine Lib.wpList_append_run _ rfl _ _ 109 3 rfl _ _ rfl rfl _ _ (HRZ.out _) ?_)
    | (refine Cpy.wpList_copy_at rfl _ _ 109 109 rfl 154 1 Try.underlying109 hsz w.heap.size (k) (n + 1 - k) (G - k) ⟨vb, 0, none⟩ 1 1 rfl rfl row0 154 Hg0 vs (by rw [hvl]; simp only [Nat.min_def]; split <;> omega) HVa.out (by rw [hvl, l0]; omega) h1 ?_; rw [← HR1.out]))
  go_region_law (refine Cpy.step_copy_at rfl _ _ 109 109 rfl 154 1 Try.underlying109 hsz w.heap.size ((k + 1)) (n + 1 - (k + 1)) (G - (k + 1)) ⟨b, k, none⟩ (n - k) (cap0 - k) (by simp [Act.eval, Act.put]) (by simp [Act.eval, Act.put]) row1 154 Hg1 (xs.drop (k)) (by rw [hdl]; simp only [Nat.min_def]; split <;> omega) HXa.out (by rw [hdl, l1]; omega) (fun u hu => h1x u (List.mem_of_mem_drop hu)) ?_)
  go_wp2
  go_ret
  obtain ⟨l2, e2⟩ := HE.out
  refine ⟨G, rfl, ⟨?_, .inr ⟨w.heap.size, G, _, rfl, hbase, setRow_heap _ w.heap.size row1 _ 154 (0, 0) Hg1, hGn, hGm, ?_, ?_⟩⟩, ?_⟩
  · rw [← e2, List.length_take, l2]; omega
  · rw [List.size_toArray]
    first | exact l2 | exact l2.trans (Nat.mul_one _).symm | (rw [hdl]; exact l2)
  · rw [Nat.mul_one]; first | exact e2 | (rw [hdl]; exact e2)
  · exact below_setRow (belowDrew (below_setRow (belowDrew (below_alloc (Below.refl _ _) _)) (Nat.le_refl _) _)) (Nat.le_refl _) _
set_option maxHeartbeats 1000000 in
set_option maxRecDepth 100000 in
theorem insertL_any (base b n k cap0 vb : Nat) (xs vs : List Value) (tv : TypeId) (w : World) (hown : w.ownsRow base 154 1 (.slice (some ⟨b, 0, none⟩) n cap0) n xs) (hbase : base ≤ w.heap.size)
    (hk : k ≤ n) (hn0 : 0 < n) (hbig : n ≤ 1700000000000) (hvl : vs.length = 1) (hv : w.heap[vb]? = some (.cells vs.toArray tv (0, 0))) (hvb : vb ≠ b) (h1 : ∀ u ∈ vs, u.oneCell' = true) (h1x : ∀ u ∈ xs, u.oneCell' = true) :
    Calls Try.prog 95 #[.slice (some ⟨b, 0, none⟩) n cap0, .int .i64 (k : Int), .slice (some ⟨vb, 0, none⟩) 1 1] w fun e w' => ∃ g cap, e = .returned (.slice (some ⟨g, 0, none⟩) (n + 1) cap) ∧
      w'.ownsRow base 154 1 (.slice (some ⟨g, 0, none⟩) (n + 1) cap) (n + 1) (xs.take (k) ++ vs ++ xs.drop (k)) ∧ w.grownBy w' (some b) ∧ (g = b ∨ w.heap.size ≤ g) := by
  obtain ⟨c1, c2, c3, c4, c5⟩ := own_caps hown
  by_cases hkn : k = n
  · subst hkn
    refine (insertL_end base b k cap0 xs ⟨vb, 0, none⟩ 1 1 vs w hown hbase hn0 c1 c2 (by omega) (fun j u hj => cells_of_heap hv 0 j u (by simpa using hj)) h1 (by omega) (by omega)).mono ?_
    rintro e w' ⟨g, cap, he, ho, hg, hgb, _⟩
    refine ⟨g, cap, he, ?_, hg, ?_⟩
    · rw [List.take_of_length_le (by omega), List.drop_eq_nil_of_le (by omega), List.append_nil]; exact ho
    · rcases hgb with h | h
      · exact .inl h
      · exact .inr (by omega)
  · by_cases hr : n + 1 ≤ cap0
    · refine (insertL_room base b n k cap0 vb xs vs tv w hown (by omega) hr hvl hv hvb h1 h1x).mono ?_
      rintro e w' ⟨he, ho, hg⟩
      exact ⟨b, cap0, he, ho, hg, .inl rfl⟩
    · refine (insertL_grow base b n k cap0 vb xs vs tv w hown hbase (by omega) (by omega) (by omega) hvl hv h1 h1x).mono ?_
      rintro e w' ⟨cap, he, ho, hb⟩
      exact ⟨_, cap, he, ho, below_grown hb _, .inr (Nat.le_refl _)⟩
end Go.Proofs.Ytmafibbnojdpjaa.Tr
end
section
set_option linter.unusedVariables false
set_option maxRecDepth 100000
set_option linter.unusedSimpArgs false
namespace Go.Proofs.Ytmafibbnojdpjaa.Tr
open Go.RowKit Go.Proofs.YtmafibbnojdpjaaW.PrintWords Go.Proofs.YtmafibbnojdpjaaW.PrintLast Go.Proofs.YtmafibbnojdpjaaW.PrintMore
def flat (l : List Item) : List Value := l.flatMap fun x => [.string x.1, x.2]
theorem flat_cons (x : Item) (l : List Item) : flat (x :: l) = .string x.1 :: x.2 :: flat l := rfl
theorem flat_append (a b : List Item) : flat (a ++ b) = flat a ++ flat b := by simp [flat]
theorem flat_length (l : List Item) : (flat l).length = l.length * 2 := by
  induction l with
  | nil => rfl
  | cons x l ih => rw [flat_cons, List.length_cons, List.length_cons, ih, List.length_cons]; omega
theorem flat_take (l : List Item) : ∀ k, flat (l.take k) = (flat l).take (k * 2) := by
  induction l with
  | nil => intro k; simp [flat]
  | cons x l ih =>
    intro k
    cases k with
    | zero => simp [flat]
    | succ k => rw [List.take_succ_cons, flat_cons, flat_cons, ih k, show (k + 1) * 2 = k * 2 + 1 + 1 by omega, List.take_succ_cons, List.take_succ_cons]
theorem flat_drop (l : List Item) : ∀ k, flat (l.drop k) = (flat l).drop (k * 2) := by
  induction l with
  | nil => intro k; simp [flat]
  | cons x l ih =>
    intro k
    cases k with
    | zero => simp [flat]
    | succ k => rw [List.drop_succ_cons, flat_cons, ih k, show (k + 1) * 2 = k * 2 + 1 + 1 by omega, List.drop_succ_cons, List.drop_succ_cons]
theorem flat_get0 (l : List Item) : ∀ i, i < l.length → (flat l)[i * 2]? = some (.string (itm l i).1) := by
  induction l with
  | nil => intro i h; cases h
  | cons x l ih =>
    intro i h
    cases i with
    | zero => rfl
    | succ i =>
      rw [flat_cons, show (i + 1) * 2 = i * 2 + 1 + 1 by omega, List.getElem?_cons_succ, List.getElem?_cons_succ, ih i (by simpa using h)]
      rfl
theorem flat_get1 (l : List Item) : ∀ i, i < l.length → (flat l)[i * 2 + 1]? = some (itm l i).2 := by
  induction l with
  | nil => intro i h; cases h
  | cons x l ih =>
    intro i h
    cases i with
    | zero => rfl
    | succ i =>
      rw [flat_cons, show (i + 1) * 2 + 1 = i * 2 + 1 + 1 + 1 by omega, List.getElem?_cons_succ, List.getElem?_cons_succ, ih i (by simpa using h)]
      rfl
theorem flat_one {l : List Item} (h : ∀ x ∈ l, x.2.oneCell' = true) : ∀ u ∈ flat l, u.oneCell' = true := by
  intro u hu
  simp only [flat, List.mem_flatMap] at hu
  obtain ⟨x, hx, hu⟩ := hu
  simp at hu
  rcases hu with rfl | rfl
  · rfl
  · exact h x hx
theorem flat_set1 (l : List Item) (v : Value) : ∀ i, i < l.length → flat (l.set i ((itm l i).1, v)) = (flat l).set (i * 2 + 1) v := by
  induction l with
  | nil => intro i h; cases h
  | cons x l ih =>
    intro i h
    cases i with
    | zero => rfl
    | succ i =>
      rw [List.set_cons_succ, flat_cons, flat_cons, show (i + 1) * 2 + 1 = i * 2 + 1 + 1 + 1 by omega, List.set_cons_succ, List.set_cons_succ, ← ih i (by simpa using h)]
      rfl
abbrev Leaf := Nat × Nat × List Item
def lv (m : Leaf) : Value := .slice (some ⟨m.1, 0, none⟩) m.2.2.length m.2.1
theorem ownsRow_same {w w' : World} {base e s n : Nat} {v : Value} {xs : List Value} (h : w.ownsRow base e s v n xs) (hk : ∀ k, v.ownBlock = some k → w'.heap[k]? = w.heap[k]?) : w'.ownsRow base e s v n xs := by
  obtain ⟨h0, h1⟩ := h
  refine ⟨h0, ?_⟩
  rcases h1 with h1 | ⟨g, cap, cur, rfl, hg, hh, r⟩
  · exact .inl h1
  · exact .inr ⟨g, cap, cur, rfl, hg, (hk g rfl).trans hh, r⟩
structure LeafOk (F : Nat → Prop) (w : World) (g : Nat) (m : Leaf) : Prop where
  own : w.ownsRow 0 153 2 (lv m) m.2.2.length (flat m.2.2)
  inF : F m.1
  neg : m.1 ≠ g
  one : ∀ x ∈ m.2.2, x.2.oneCell' = true
structure TreeM (R : Value × Value) (F : Nat → Prop) (w : World) (g : Nat) (S : Value) (M : List Leaf) (z : Int) : Prop where
  head : w.heap[g]? = some (.cells #[S, .int .i64 z, R.1, R.2] 113 (0, 0))
  inF : F g
  row : w.ownsRow 0 154 1 S M.length (M.map lv)
  apart : ∀ k, S.ownBlock = some k → F k ∧ k ≠ g ∧ ∀ m ∈ M, m.1 ≠ k
  leaf : ∀ m ∈ M, LeafOk F w g m
  nodup : (M.map (·.1)).Nodup
/-- Nothing has changed but the blocks of F, and what is new. -/
structure Fr (F : Nat → Prop) (w w' : World) : Prop where
  os : w'.os = w.os
  tape : w'.tape = w.tape
  output : w'.output = w.output
  size : w.heap.size ≤ w'.heap.size
  block : ∀ k, k < w.heap.size → ¬ F k → w'.heap[k]? = w.heap[k]?
theorem Fr.refl (F : Nat → Prop) (w : World) : Fr F w w := ⟨rfl, rfl, rfl, Nat.le_refl _, fun _ _ _ => rfl⟩
theorem Fr.trans {F : Nat → Prop} {a b c : World} (h : Fr F a b) (k : Fr F b c) : Fr F a c := ⟨k.os.trans h.os, k.tape.trans h.tape, k.output.trans h.output, Nat.le_trans h.size k.size, fun i hi hn => (k.block i (Nat.lt_of_lt_of_le hi h.size) hn).trans (h.block i hi hn)⟩
theorem Fr.below {F : Nat → Prop} {w w' : World} (h : Below w.heap.size w w') : Fr F w w' := ⟨h.os, h.tape, h.output, h.size, fun k hk _ => h.block k hk⟩
theorem Fr.grown {F : Nat → Prop} {w w' : World} {b : Nat} (h : w.grownBy w' (some b)) (hb : F b) : Fr F w w' := ⟨h.os, h.tape, h.output, h.size, fun k hk hn => h.block k hk (fun e => hn (by cases e; exact hb))⟩
theorem Fr.setCell {F : Nat → Prop} (w : World) (b i : Nat) (v : Value) (hb : F b) : Fr F w (w.setCell ⟨b, i, none⟩ v) := ⟨rfl, rfl, rfl, by simp [World.setCell], fun k hk hn => Below.heap_setCell w _ _ k (fun e => hn (by rw [e]; exact hb))⟩
theorem Fr.alloc {F : Nat → Prop} (w : World) (o : Obj) : Fr F w (w.alloc o) := .below (below_alloc (Below.refl _ _) _)
theorem Fr.drew {F : Nat → Prop} (w : World) : Fr F w w.drew := ⟨rfl, rfl, rfl, Nat.le_refl _, fun _ _ _ => rfl⟩
theorem Fr.mono {F G : Nat → Prop} {w w' : World} (h : Fr F w w') (hFG : ∀ k, k < w.heap.size → F k → G k) : Fr G w w' := ⟨h.os, h.tape, h.output, h.size, fun k hk hn => h.block k hk (fun e => hn (hFG k hk e))⟩
section
variable {R : Value × Value} {F : Nat → Prop} {w w' : World} {g : Nat} {S : Value} {M : List Leaf} {z : Int}
theorem TreeM.lt (h : TreeM R F w g S M z) : g < w.heap.size := (Array.getElem?_eq_some_iff.1 h.head).1
theorem LeafOk.lt {m : Leaf} (h : LeafOk F w g m) : m.1 < w.heap.size := (own_caps h.own).2.2.2.1
theorem LeafOk.same {m : Leaf} (h : LeafOk F w g m) (hk : w'.heap[m.1]? = w.heap[m.1]?) : LeafOk F w' g m := ⟨ownsRow_same h.own (fun k e => by cases e; exact hk), h.inF, h.neg, h.one⟩
theorem TreeM.rowlt (h : TreeM R F w g S M z) : ∀ k, S.ownBlock = some k → k < w.heap.size := fun k e => (h.row.lt k e).2
theorem TreeM.kept (h : TreeM R F w g S M z) (hk : ∀ k, F k → k < w.heap.size → w'.heap[k]? = w.heap[k]?) : TreeM R F w' g S M z :=
  ⟨(hk g h.inF h.lt).trans h.head, h.inF, ownsRow_same h.row (fun k e => hk k (h.apart k e).1 (h.rowlt k e)), h.apart, fun m hm => (h.leaf m hm).same (hk _ (h.leaf m hm).inF (h.leaf m hm).lt), h.nodup⟩
theorem TreeM.below (h : TreeM R F w g S M z) (hb : Below w.heap.size w w') : TreeM R F w' g S M z := h.kept fun k _ hl => hb.block k hl
theorem TreeM.c0 (h : TreeM R F w g S M z) : w.cell? ⟨g, 0, none⟩ = some S := by simp [World.cell?, h.head]
theorem TreeM.c1 (h : TreeM R F w g S M z) : w.cell? ⟨g, 1, none⟩ = some (.int .i64 z) := by simp [World.cell?, h.head]
theorem TreeM.fz (h : TreeM R F w g S M z) (i : Nat) : w.frozen? ⟨g, i, none⟩ = false := by simp [World.frozen?, h.head]
theorem heap_setCell_at (w : World) (g i : Nat) (cur : Array Value) (t : TypeId) (fr : Nat × Nat) (v : Value) (hg : w.heap[g]? = some (.cells cur t fr)) : (w.setCell ⟨g, i, none⟩ v).heap[g]? = some (.cells (cur.setIfInBounds i v) t fr) := by
  rw [setCell_eq_setRow w g i cur t fr v hg]; exact setRow_heap w g cur _ t fr hg
theorem size_setCell (w : World) (a : Addr) (v : Value) : (w.setCell a v).heap.size = w.heap.size := by simp [World.setCell]
theorem TreeM.setSize (h : TreeM R F w g S M z) (z' : Int) : TreeM R F (w.setCell ⟨g, 1, none⟩ (.int .i64 z')) g S M z' :=
  ⟨by rw [heap_setCell_at w g 1 _ _ _ _ h.head]; rfl, h.inF, ownsRow_same h.row (fun k e => Below.heap_setCell w _ _ k (h.apart k e).2.1), h.apart, fun m hm => (h.leaf m hm).same (Below.heap_setCell w _ _ _ (h.leaf m hm).neg), h.nodup⟩
/-- the row of leaves where there is one -/
theorem TreeM.rowAt (h : TreeM R F w g S M z) (hM : M ≠ []) : ∃ sb c cur, S = .slice (some ⟨sb, 0, none⟩) M.length c ∧ w.heap[sb]? = some (.cells cur 154 (0, 0)) ∧ M.length ≤ c ∧ c ≤ maxLen ∧ cur.size = c ∧ cur.toList.take M.length = M.map lv := by
  obtain ⟨h0, h1⟩ := h.row
  rcases h1 with ⟨_, h1⟩ | ⟨sb, c, cur, e, _, hh, r1, r2, r3, r4⟩
  · exact absurd (List.length_eq_zero_iff.1 h1) hM
  · exact ⟨sb, c, cur, e, hh, r1, r2, by simpa using r3, by simpa using r4⟩
theorem TreeM.leafAt (h : TreeM R F w g S M z) {i : Nat} {m : Leaf} (hm : M[i]? = some m) : ∃ sb c, S = .slice (some ⟨sb, 0, none⟩) M.length c ∧ M.length ≤ c ∧ w.cell? ⟨sb, i, none⟩ = some (lv m) ∧ w.frozen? ⟨sb, i, none⟩ = false ∧ sb < w.heap.size := by
  have hi : i < M.length := (List.getElem?_eq_some_iff.1 hm).1
  obtain ⟨sb, c, cur, e, hh, r1, r2, r3, r4⟩ := h.rowAt (by intro e; rw [e] at hi; cases hi)
  refine ⟨sb, c, e, r1, ?_, by simp [World.frozen?, hh], (Array.getElem?_eq_some_iff.1 hh).1⟩
  rw [cell_of_row w sb i cur _ _ hh]
  have := congrArg (fun l => l[i]?) r4
  simp only [List.getElem?_take, if_pos hi, List.getElem?_map, hm, Option.map_some] at this
  simpa using this
theorem lf_map {M : List Leaf} {i : Nat} {m : Leaf} (hm : M[i]? = some m) : lf (M.map (·.2.2)) i = m.2.2 := by simp [lf, List.getD, hm]
theorem LeafOk.items {m : Leaf} (h : LeafOk F w g m) : ItemsAt w (some ⟨m.1, 0, none⟩) m.2.2 := by
  intro i hi
  have c0 := h.own.cells (g := m.1) rfl (i * 2) _ (flat_get0 _ i hi)
  have c1 := h.own.cells (g := m.1) rfl (i * 2 + 1) _ (flat_get1 _ i hi)
  refine ⟨_, rfl, c0, ?_⟩
  rw [Addr.add_lit] at c1 ⊢
  rw [show 0 + (i * 2 + 1) = 0 + i * 2 + 1 by omega] at c1
  exact c1
theorem TreeM.leaves (h : TreeM R F w g S M z) (hp : ∀ m ∈ M, 0 < m.2.2.length) : ∃ A c, S = .slice A (M.map (·.2.2)).length c ∧ LeavesAt w A (M.map (·.2.2)) := by
  by_cases hM : M = []
  · subst hM
    obtain ⟨h0, h1⟩ := h.row
    rcases h1 with ⟨e, h1⟩ | ⟨sb, c, cur, e, _, hh, r1, r2, r3, r4⟩
    · exact ⟨none, 0, e, fun i hi => by cases hi⟩
    · exact ⟨_, c, e, fun i hi => by cases hi⟩
  · obtain ⟨sb, c, cur, e, hh, r1, r2, r3, r4⟩ := h.rowAt hM
    refine ⟨_, c, by rw [e, List.length_map], fun i hi => ?_⟩
    have hi' : i < M.length := by simpa using hi
    have hm : M[i]? = some M[i] := List.getElem?_eq_getElem hi'
    obtain ⟨sb', c', e', _, hc, _, _⟩ := h.leafAt hm
    rw [e] at e'
    cases e'
    have ok := h.leaf _ (List.mem_of_getElem? hm)
    rw [lf_map hm]
    refine ⟨_, _, _, rfl, ?_, (own_caps ok.own).1, hp _ (List.mem_of_getElem? hm), ok.items⟩
    rw [Addr.add_lit, Nat.zero_add]
    exact hc
theorem nodup_ne {M : List Leaf} (h : (M.map (·.1)).Nodup) {i j : Nat} {a b : Leaf} (ha : M[i]? = some a) (hb : M[j]? = some b) (hij : i ≠ j) : a.1 ≠ b.1 := by
  intro e
  have hi : i < (M.map (·.1)).length := by rw [List.length_map]; exact (List.getElem?_eq_some_iff.1 ha).1
  refine hij ((List.getElem?_inj hi h).1 ?_)
  rw [List.getElem?_map, List.getElem?_map, ha, hb, Option.map_some, Option.map_some, e]
theorem nodup_set {l : List Nat} (h : l.Nodup) {a : Nat} (ha : a ∉ l) : ∀ {i : Nat}, (l.set i a).Nodup := by
  induction l with
  | nil => intro i; simp
  | cons x l ih =>
    intro i
    rw [List.nodup_cons] at h
    simp only [List.mem_cons, not_or] at ha
    cases i with
    | zero => exact List.nodup_cons.2 ⟨ha.2, h.2⟩
    | succ i =>
      rw [List.set_cons_succ, List.nodup_cons]
      refine ⟨fun e => ?_, ih h.2 ha.2⟩
      rcases List.mem_or_eq_of_mem_set e with e | e
      · exact h.1 e
      · exact ha.1 e.symm
theorem TreeM.setLeaf (h : TreeM R F w g S M z) {i : Nat} {m m' : Leaf} (hm : M[i]? = some m) {sb n c : Nat} (hS : S = .slice (some ⟨sb, 0, none⟩) n c) (hg : w.grownBy w' (some m.1))
    (hown : w'.ownsRow 0 153 2 (lv m') m'.2.2.length (flat m'.2.2)) (hone : ∀ x ∈ m'.2.2, x.2.oneCell' = true) (hF : F m'.1) (hb : m'.1 = m.1 ∨ w.heap.size ≤ m'.1) : TreeM R F (w'.setCell ⟨sb, i, none⟩ (lv m')) g S (M.set i m') z := by
  have hmM := List.mem_of_getElem? hm
  have okm := h.leaf m hmM
  have hsb := h.apart sb (by rw [hS]; rfl)
  have hsl := h.rowlt sb (by rw [hS]; rfl)
  have hi : i < M.length := (List.getElem?_eq_some_iff.1 hm).1
  have hm'g : m'.1 ≠ g := by rcases hb with e | e; · rw [e]; exact okm.neg
                             · have := h.lt; omega
  have hm's : m'.1 ≠ sb := by rcases hb with e | e; · rw [e]; exact hsb.2.2 m hmM
                              · omega
  have hset : ∀ j a, (M.set i m')[j]? = some a → (j = i ∧ a = m') ∨ (j ≠ i ∧ M[j]? = some a) := by
    intro j a ha
    rw [List.getElem?_set] at ha
    by_cases hj : i = j
    · subst hj
      simp [hi] at ha
      exact .inl ⟨rfl, ha.symm⟩
    · simp [hj] at ha
      exact .inr ⟨fun e => hj e.symm, ha⟩
  have hmem : ∀ a ∈ M.set i m', a = m' ∨ (a ∈ M ∧ a.1 ≠ m.1) := by
    intro a ha
    obtain ⟨j, hj⟩ := List.getElem?_of_mem ha
    rcases hset j a hj with ⟨_, e⟩ | ⟨hji, e⟩
    · exact .inl e
    · exact .inr ⟨List.mem_of_getElem? e, nodup_ne h.nodup e hm hji⟩
  have keep : ∀ k, k < w.heap.size → k ≠ m.1 → k ≠ sb → (w'.setCell ⟨sb, i, none⟩ (lv m')).heap[k]? = w.heap[k]? := fun k hk h1 h2 => (Below.heap_setCell w' ⟨sb, i, none⟩ _ k h2).trans (hg.block k hk (fun e => h1 (by cases e; rfl)))
  refine ⟨(keep g h.lt (fun e => okm.neg e.symm) (fun e => hsb.2.1 e.symm)).trans h.head, h.inF, ?_, ?_, ?_, ?_⟩
  · obtain ⟨sb', c', cur, e, hh, r1, r2, r3, r4⟩ := h.rowAt (by intro e; rw [e] at hi; cases hi)
    rw [hS] at e
    cases e
    have hh' : w'.heap[sb]? = some (.cells cur 154 (0, 0)) := (hg.block sb hsl (fun e => hsb.2.2 m hmM (by cases e; rfl))).trans hh
    refine ⟨by simp, .inr ⟨sb, c, _, by rw [hS, List.length_set], Nat.zero_le _, heap_setCell_at w' sb i cur 154 (0, 0) _ hh', by rw [List.length_set]; exact r1, r2, by simpa using r3, ?_⟩⟩
    rw [List.length_set, Nat.mul_one, List.map_set, ← r4, Array.toList_setIfInBounds, List.take_set]
  · intro k hk
    refine ⟨(h.apart k hk).1, (h.apart k hk).2.1, fun a ha => ?_⟩
    rw [hS] at hk
    cases hk
    rcases hmem a ha with rfl | ⟨ha, _⟩
    · exact hm's
    · exact hsb.2.2 a ha
  · intro a ha
    rcases hmem a ha with rfl | ⟨ha, hne⟩
    · refine ⟨ownsRow_same hown (fun k e => ?_), hF, hm'g, hone⟩
      cases e
      exact Below.heap_setCell w' _ _ _ hm's
    · have ok := h.leaf a ha
      exact ok.same (keep _ ok.lt hne (hsb.2.2 a ha))
  · rw [List.map_set]
    rcases hb with e | e
    · have : (M.map (·.1)).set i m'.1 = M.map (·.1) := by
        apply List.ext_getElem?
        intro j
        rw [List.getElem?_set]
        split
        · rename_i hj
          subst hj
          rw [List.getElem?_map, hm, e]
          simp [hi]
        · rfl
      rw [this]
      exact h.nodup
    · have old : m'.1 ∉ M.map (·.1) := by
        intro q
        obtain ⟨a, ha, he⟩ := List.mem_map.1 q
        have := (h.leaf a ha).lt
        omega
      exact nodup_set h.nodup old
/-- a new row of leaves, stored -/
theorem TreeM.setRow (h : TreeM R F w g S M z) {S' : Value} {M' : List Leaf} (hg : w'.heap[g]? = w.heap[g]?) (hrow : w'.ownsRow 0 154 1 S' M'.length (M'.map lv)) (hap : ∀ k, S'.ownBlock = some k → F k ∧ k ≠ g ∧ ∀ m ∈ M', m.1 ≠ k)
    (hl : ∀ m ∈ M', LeafOk F w' g m) (hn : (M'.map (·.1)).Nodup) : TreeM R F (w'.setCell ⟨g, 0, none⟩ S') g S' M' z :=
  ⟨by rw [heap_setCell_at w' g 0 _ _ _ _ (hg.trans h.head)]; rfl, h.inF, ownsRow_same hrow (fun k e => Below.heap_setCell w' _ _ k (hap k e).2.1), hap, fun m hm => (hl m hm).same (Below.heap_setCell w' _ _ _ (hl m hm).neg), hn⟩
theorem TreeM.insertRow (h : TreeM R F w g S M z) {sb n c : Nat} (hS : S = .slice (some ⟨sb, 0, none⟩) n c) {k gs cap : Nat} {m2 : Leaf} (h2 : LeafOk F w g m2) (hne : ∀ m ∈ M, m.1 ≠ m2.1) (h2s : m2.1 ≠ sb)
    (hown : w'.ownsRow 0 154 1 (.slice (some ⟨gs, 0, none⟩) (M.length + 1) cap) (M.length + 1) ((M.map lv).take k ++ [lv m2] ++ (M.map lv).drop k)) (hg : w.grownBy w' (some sb)) (hgs : gs = sb ∨ w.heap.size ≤ gs) (hF : F gs) :
    TreeM R F (w'.setCell ⟨g, 0, none⟩ (.slice (some ⟨gs, 0, none⟩) (M.length + 1) cap)) g (.slice (some ⟨gs, 0, none⟩) (M.length + 1) cap) (M.take k ++ [m2] ++ M.drop k) z := by
  have hsb := h.apart sb (by rw [hS]; rfl)
  have hlen : (M.take k ++ [m2] ++ M.drop k).length = M.length + 1 := by simp; omega
  have hmem : ∀ a ∈ M.take k ++ [m2] ++ M.drop k, a = m2 ∨ a ∈ M := by
    intro a ha
    simp only [List.mem_append, List.mem_singleton] at ha
    rcases ha with (ha | ha) | ha
    · exact .inr (List.mem_of_mem_take ha)
    · exact .inl ha
    · exact .inr (List.mem_of_mem_drop ha)
  have ok : ∀ a ∈ M.take k ++ [m2] ++ M.drop k, LeafOk F w g a ∧ a.1 ≠ sb := by
    intro a ha
    rcases hmem a ha with rfl | ha
    · exact ⟨h2, h2s⟩
    · exact ⟨h.leaf a ha, hsb.2.2 a ha⟩
  refine h.setRow (hg.block g h.lt (fun e => hsb.2.1 (by cases e; rfl))) ?_ ?_ ?_ ?_
  · rw [hlen]
    simpa using hown
  · intro q hq
    cases hq
    refine ⟨hF, ?_, fun a ha => ?_⟩
    · have := h.lt
      have := hsb.2.1
      rcases hgs with e | e
      · show gs ≠ g; omega
      · show gs ≠ g; omega
    · have h1 := (ok a ha).1.lt
      have h2 := (ok a ha).2
      rcases hgs with e | e
      · show a.1 ≠ gs; omega
      · show a.1 ≠ gs; omega
  · intro a ha
    exact (ok a ha).1.same (hg.block _ (ok a ha).1.lt (fun e => (ok a ha).2 (by cases e; rfl)))
  · have hp : ((M.take k ++ [m2] ++ M.drop k).map (·.1)).Perm (m2.1 :: M.map (·.1)) := by
      rw [show m2.1 :: M.map (·.1) = (m2 :: M).map (·.1) from rfl]
      apply List.Perm.map
      have : (M.take k ++ [m2] ++ M.drop k).Perm (m2 :: (M.take k ++ M.drop k)) := by
        rw [List.append_assoc]; exact List.perm_middle
      rwa [List.take_append_drop] at this
    rw [hp.nodup_iff]
    refine List.nodup_cons.2 ⟨fun e => ?_, h.nodup⟩
    obtain ⟨a, ha, he⟩ := List.mem_map.1 e
    exact hne a ha he
end
end Go.Proofs.Ytmafibbnojdpjaa.Tr
end
section
set_option linter.unusedVariables false
set_option maxRecDepth 100000
set_option linter.unusedSimpArgs false
namespace Go.Proofs.Ytmafibbnojdpjaa.Tr
open Go.RowKit Go.Proofs.YtmafibbnojdpjaaW.PrintWords Go.Proofs.YtmafibbnojdpjaaW.PrintLast Go.Proofs.YtmafibbnojdpjaaW.PrintMore
def tl (M : List Leaf) : List (List Item) := M.map (·.2.2)
theorem tl_get {M : List Leaf} {i : Nat} (hi : i < (tl M).length) : ∃ m, M[i]? = some m ∧ lf (tl M) i = m.2.2 := by
  have hi' : i < M.length := by simpa [tl] using hi
  exact ⟨M[i], List.getElem?_eq_getElem hi', lf_map (List.getElem?_eq_getElem hi')⟩
/-- what the walks ask of the sizes -/
structure Small (M : List Leaf) : Prop where
  pos : ∀ m ∈ M, 0 < m.2.2.length
  len : M.length ≤ 1600000000000
  each : ∀ m ∈ M, m.2.2.length ≤ 1600000000000
theorem Small.lf {M : List Leaf} (h : Small M) (i : Nat) : (Tr.lf (tl M) i).length < 4611686018427387904 := by
  by_cases hi : i < (tl M).length
  · obtain ⟨m, hm, e⟩ := tl_get hi
    rw [e]
    have := h.each m (List.mem_of_getElem? hm)
    omega
  · unfold Tr.lf
    rw [List.getD, List.getElem?_eq_none (by omega)]
    decide
theorem lf_tl {M : List Leaf} {i : Nat} {m : Leaf} (hm : M[i]? = some m) : lf (tl M) i = m.2.2 := lf_map hm
variable {R : Value × Value} {F : Nat → Prop} {w : World} {g : Nat} {S : Value} {M : List Leaf} {z : Int}
theorem findM (h : TreeM R F w g S M z) (hs : Small M) (x : ByteArray) :
    Calls Try.prog 92 #[.pointer (some ⟨g, 0, none⟩), .string x] w fun e w' => e = .returned (.tuple #[.int .i64 ((findT (tl M) x).1 : Int), .int .i64 ((findT (tl M) x).2.1 : Int), .bool (findT (tl M) x).2.2]) ∧ Below w.heap.size w w' := by
  obtain ⟨A, c, e, hl⟩ := h.leaves hs.pos
  have c0 := h.c0
  rw [e] at c0
  exact find_any g c A (tl M) x w (by have := hs.len; simp [tl]; omega) hs.lf hl c0
theorem setCell_same {w : World} {b i : Nat} {v : Value} (h : w.cell? ⟨b, i, none⟩ = some v) : w.setCell ⟨b, i, none⟩ v = w := by
  unfold World.cell? at h
  split at h
  · rename_i c t fr hh
    simp at h
    rw [setCell_eq_setRow w b i c t fr v hh]
    have hi : i < c.size := (Array.getElem?_eq_some_iff.1 h).1
    have : c.setIfInBounds i v = c := by
      apply Array.ext_getElem?
      intro j
      rw [Array.getElem?_setIfInBounds]
      split
      · rename_i hj
        subst hj
        rw [h]
      · rfl
    rw [this]
    exact setRow_self w b c t fr hh
  · cases h
/-- one value in a leaf -/
theorem TreeM.setVal (h : TreeM R F w g S M z) {i b cap k : Nat} {l : List Item} (hm : M[i]? = some (b, cap, l)) (hk : k < l.length) {v : Value} (hv : v.oneCell' = true) : TreeM R F (w.setCell ⟨b, k * 2 + 1, none⟩ v) g S (M.set i (b, cap, l.set k ((itm l k).1, v))) z := by
  have ok := h.leaf _ (List.mem_of_getElem? hm)
  obtain ⟨sb, c, e1, e2, e3, e4, e5⟩ := h.leafAt hm
  have hne : sb ≠ b := fun e => (h.apart sb (by rw [e1]; rfl)).2.2 _ (List.mem_of_getElem? hm) (by rw [e])
  obtain ⟨o1, o2⟩ := World.ownsRow.stored ok.own (k * 2 + 1) v
  have h2 := h.setLeaf (m' := (b, cap, l.set k ((itm l k).1, v))) hm e1 o2 (by
    rw [flat_set1 l v k hk]
    simpa [lv] using o1) (by
    intro x hx
    rcases List.mem_or_eq_of_mem_set hx with hx | rfl
    · exact ok.one x hx
    · exact hv) ok.inF (.inl rfl)
  have e : lv (b, cap, l.set k ((itm l k).1, v)) = lv (b, cap, l) := by simp [lv]
  rw [e, setCell_same] at h2
  · exact h2
  · rw [World.cell?_of_block (Below.heap_setCell w _ _ _ hne)]
    exact e3
theorem upf {w w1 : World} (hb : Below w.heap.size w w1) {a : Addr} (ha : a.block < w.heap.size) (h : w.frozen? a = false) : w1.frozen? a = false := (hb.frozen ha).trans h
set_option maxHeartbeats 1000000 in
set_option maxRecDepth 100000 in
theorem put_there (h : TreeM R F w g S M z) (hs : Small M) (x : ByteArray) (y : SVal) (ht : (findT (tl M) x).2.2 = true) (b cap : Nat) (l : List Item) (hm : M[(findT (tl M) x).1]? = some (b, cap, l)) :
    Calls Try.prog 65 #[.pointer (some ⟨g, 0, none⟩), .string x, SV y] w fun e w' => e = .returned (.bool true) ∧ TreeM R F w' g S (M.set (findT (tl M) x).1 (b, cap, l.set (findT (tl M) x).2.1 ((itm l (findT (tl M) x).2.1).1, SV y))) z ∧ Fr F w w' := by
  have hf := findM h hs x
  obtain ⟨t1, t2, _⟩ := findT_there (tl M) x ht
  rw [lf_tl hm] at t2
  rw [ht] at hf
  generalize (findT (tl M) x).1 = i at *
  generalize (findT (tl M) x).2.1 = k at *
  have HF := Aside0.mk hf
  have H := Aside0.mk h
  obtain ⟨sb, c, e1, e2, e3, e4, e5⟩ := h.leafAt hm
  have ok := h.leaf _ (List.mem_of_getElem? hm)
  have hi : i < M.length := (List.getElem?_eq_some_iff.1 hm).1
  have hit := ok.items k t2
  obtain ⟨ad, ea, f0, f1⟩ := hit
  cases ea
  rw [Addr.add_lit, Nat.zero_add] at f0 f1
  have c0 := h.c0
  rw [e1] at c0
  have hfz : w.frozen? ⟨b, k * 2 + 1, none⟩ = false := World.ownsRow.frozenAt ok.own (k * 2 + 1)
  have hbl : b < w.heap.size := ok.lt
  obtain ⟨o1, o2, _⟩ := own_caps ok.own
  change w.cell? _ = some (.slice (some ⟨b, 0, none⟩) l.length cap) at e3
  change w.cell? ⟨b, _, none⟩ = _ at f0
  change w.cell? ⟨b, _, none⟩ = some (itm l k).2 at f1
  change k < l.length at t2
  have E1 := Aside0.mk e1
  have OK := Aside0.mk ok
  have HM := Aside0.mk hm
  have HT := Aside0.mk ht
  have HSm := Aside0.mk hs
  clear hf h e1 ok hm ht hs f0
  go_enter Try.func65, Try.ntmps65
  go_wp2_with (go_at_call 92; refine HF.out.mono ?_; rintro e w1 ⟨rfl, hb⟩; have c0 := up hb c0; have e3 := up hb e3; have f1 := up hb f1; have hfz := upf hb hbl hfz; have HB := Aside0.mk hb; clear hb)
  go_ret
  refine ⟨rfl, (H.out.below HB.out).setVal HM.out t2 rfl, (Fr.below HB.out).trans (Fr.setCell _ _ _ _ OK.out.inF)⟩
theorem TreeM.fzr (h : TreeM R F w g S M z) (i : Nat) : w.frozen? ⟨g, i, none⟩ = false := by simp [World.frozen?, h.head]
set_option maxHeartbeats 1000000 in
set_option maxRecDepth 100000 in
theorem put_first (h : TreeM R F w g S [] z) (hF : ∀ k, w.heap.size ≤ k → F k) (hz0 : 0 ≤ z) (hz1 : z ≤ 1600000000000) (x : ByteArray) (y : SVal) :
    Calls Try.prog 65 #[.pointer (some ⟨g, 0, none⟩), .string x, SV y] w fun e w' => e = .returned (.bool false) ∧ (∃ S' b, TreeM R F w' g S' [(b, 1, [(x, SV y)])] (z + 1)) ∧ Fr F w w' := by
  have hs : Small [] := ⟨by simp, by simp, by simp⟩
  have hf := findM h hs x
  rw [show findT (tl []) x = (0, 0, false) from rfl] at hf
  have HF := Aside0.mk hf
  have H := Aside0.mk h
  obtain ⟨A, c, e1, _⟩ := h.leaves hs.pos
  have c0 := h.c0
  have c1 := h.c1
  have z0 := h.fz 0
  have z1 := h.fz 1
  have hgl := h.lt
  rw [e1] at c0
  have hw : IntKind.i64.wrap (z + 1) = z + 1 := by rw [IntKind.wrap_i64]; omega
  have HFa := Aside0.mk hF
  have E1 := Aside0.mk e1
  clear hf h hF hs e1
  go_enter Try.func65, Try.ntmps65
  go_wp2_with (go_at_call 92; refine HF.out.mono ?_; rintro e w1 ⟨rfl, hb⟩; have c0 := up hb c0; have c1 := up hb c1; have z0 := upf hb hgl z0; have z1 := upf hb hgl z1; have HB := Aside0.mk hb; have h1 := (H.out.below hb).setSize (z + 1); have h3 := (h1.below (below_alloc (Below.refl _ _) (.cells #[.string x, SV y] 153))).below (below_alloc (Below.refl _ _) (.cells #[.slice (some ⟨w1.heap.size, 0, none⟩) 1 1] 154)); have p0 := h3.c0; rw [E1.out] at p0; have pf := h3.fz 0; have H3 := Aside0.mk h3; clear h1 h3 hb)
  go_ret
  have hsz : w.heap.size ≤ w1.heap.size := HB.out.size
  have hg1 : g < w1.heap.size := by omega
  refine ⟨rfl, ⟨_, w1.heap.size, H3.out.setRow (S' := .slice (some ⟨w1.heap.size + 1, 0, none⟩) 1 1) (M' := [(w1.heap.size, 1, [(x, SV y)])]) rfl ?_ ?_ ?_ ?_⟩, ?_⟩
  · have := World.ownsRow_lit (base := 0) (e := 154) (size := 1) ((w1.setCell ⟨g, 1, none⟩ (.int .i64 (z + 1))).alloc (.cells #[.string x, SV y] 153)) #[.slice (some ⟨w1.heap.size, 0, none⟩) 1 1] 1 (Nat.zero_le _) (by decide) rfl
    rw [World.size_alloc, size_setCell] at this
    exact this
  · intro k hk
    cases hk
    refine ⟨HFa.out _ (by show w.heap.size ≤ w1.heap.size + 1; omega), by show w1.heap.size + 1 ≠ g; omega, ?_⟩
    intro m hm
    simp at hm
    subst hm
    show w1.heap.size ≠ w1.heap.size + 1
    omega
  · intro m hm
    simp at hm
    subst hm
    refine ⟨?_, HFa.out _ hsz, by show w1.heap.size ≠ g; omega, ?_⟩
    · have := World.ownsRow_lit (base := 0) (e := 153) (size := 2) (w1.setCell ⟨g, 1, none⟩ (.int .i64 (z + 1))) #[.string x, SV y] 1 (Nat.zero_le _) (by decide) rfl
      rw [size_setCell] at this
      exact this.alloc _
    · intro a ha
      simp at ha
      subst ha
      rfl
  · simp
  · exact (((Fr.below HB.out).trans (Fr.setCell _ _ _ _ H.out.inF)).trans (Fr.alloc _ _)).trans ((Fr.alloc _ _).trans (Fr.setCell _ _ _ _ H.out.inF))
theorem srch_le (l : List Item) (x : ByteArray) : srch l x ≤ l.length := (bs_range _ l.length _ 0 l.length rfl (Nat.zero_le _) (Nat.le_refl _)).2
theorem findT_le {M : List Leaf} (x : ByteArray) (hM : M ≠ []) : ∃ b cap l, M[(findT (tl M) x).1]? = some (b, cap, l) ∧ (findT (tl M) x).2.1 ≤ l.length := by
  have hl : (tl M).length ≠ 0 := by simp [tl]; exact hM
  unfold findT
  rw [if_neg hl]
  have := lsrch_le (tl M) x
  obtain ⟨m, hm, e⟩ := tl_get (M := M) (i := lsrch (tl M) x - 1) (by omega)
  obtain ⟨b, cap, l⟩ := m
  refine ⟨b, cap, l, hm, ?_⟩
  rw [e]
  exact srch_le l x
/-- what the store of a leaf finds, when the leaf's block alone has been turned -/
theorem TreeM.after (h : TreeM R F w g S M z) {i : Nat} {m : Leaf} (hm : M[i]? = some m) {sb n c : Nat} (hS : S = .slice (some ⟨sb, 0, none⟩) n c) {w' : World} (hg : w.grownBy w' (some m.1)) :
    w'.cell? ⟨g, 0, none⟩ = some S ∧ w'.cell? ⟨sb, i, none⟩ = some (lv m) ∧ w'.frozen? ⟨sb, i, none⟩ = false ∧ w'.frozen? ⟨g, 0, none⟩ = false ∧ M.length = n := by
  have okm := h.leaf m (List.mem_of_getElem? hm)
  have hsb := h.apart sb (by rw [hS]; rfl)
  obtain ⟨sb', c', e1, _, e3, e4, e5⟩ := h.leafAt hm
  rw [hS] at e1
  cases e1
  have hne : m.1 ≠ sb := hsb.2.2 m (List.mem_of_getElem? hm)
  have n1 : some g ≠ some m.1 := fun e => okm.neg (by cases e; rfl)
  have n2 : some sb ≠ some m.1 := fun e => hne (by cases e; rfl)
  exact ⟨hg.cell h.c0 n1, hg.cell e3 n2, (World.frozen?_of_block (hg.block sb e5 n2)).trans e4, (World.frozen?_of_block (hg.block g h.lt n1)).trans (h.fz 0), rfl⟩
set_option maxHeartbeats 1000000 in
set_option maxRecDepth 100000 in
theorem put_in (h : TreeM R F w g S M z) (hs : Small M) (hF : ∀ k, w.heap.size ≤ k → F k) (hz0 : 0 ≤ z) (hz1 : z ≤ 1600000000000) (x : ByteArray) (y : SVal) (ht : (findT (tl M) x).2.2 = false)
    (b cap : Nat) (l : List Item) (hm : M[(findT (tl M) x).1]? = some (b, cap, l)) (hk : (findT (tl M) x).2.1 ≤ l.length) (h8 : l.length + 1 ≤ 8) :
    Calls Try.prog 65 #[.pointer (some ⟨g, 0, none⟩), .string x, SV y] w fun e w' => e = .returned (.bool false) ∧
      (∃ b' cap', TreeM R F w' g S (M.set (findT (tl M) x).1 (b', cap', l.take (findT (tl M) x).2.1 ++ [(x, SV y)] ++ l.drop (findT (tl M) x).2.1)) (z + 1)) ∧ Fr F w w' := by
  have hf := findM h hs x
  rw [ht] at hf
  generalize (findT (tl M) x).1 = i at *
  generalize (findT (tl M) x).2.1 = k at *
  obtain ⟨l', hl'⟩ : ∃ l' : List Item, l' = l.take k ++ [(x, SV y)] ++ l.drop k := ⟨_, rfl⟩
  have hlen : l'.length = l.length + 1 := by rw [hl']; simp; omega
  have hfl : flat l' = (flat l).take (k * 2) ++ [.string x, SV y] ++ (flat l).drop (k * 2) := by rw [hl', flat_append, flat_append, flat_take, flat_drop]; rfl
  rw [← hl']
  have HF := Aside0.mk hf
  have H := Aside0.mk h
  obtain ⟨sb, c, e1, e2, e3, e4, e5⟩ := h.leafAt hm
  have ok := h.leaf _ (List.mem_of_getElem? hm)
  have hi : i < M.length := (List.getElem?_eq_some_iff.1 hm).1
  have hpos := hs.pos _ (List.mem_of_getElem? hm)
  change 0 < l.length at hpos
  have c0 := h.c0
  rw [e1] at c0
  have c1 := h.c1
  have z0 := h.fz 0
  have z1 := h.fz 1
  have hgl := h.lt
  have hbl : b < w.heap.size := ok.lt
  change w.cell? _ = some (.slice (some ⟨b, 0, none⟩) l.length cap) at e3
  have hw : IntKind.i64.wrap (z + 1) = z + 1 := by rw [IntKind.wrap_i64]; omega
  have hsbg : sb ≠ g := (h.apart sb (by rw [e1]; rfl)).2.1
  have hsbb : b ≠ sb := (h.apart sb (by rw [e1]; rfl)).2.2 _ (List.mem_of_getElem? hm)
  have hbg : b ≠ g := ok.neg
  have hM0 : ¬ M.length = 0 := by omega
  have a0 : (0 : Int) ≤ (i : Int) := by omega
  have a1 : (i : Int) < (M.length : Int) := by omega
  have hMne : M ≠ [] := by intro e; rw [e] at hi; cases hi
  have a3 : ((M.length : Int) == 0) = false := by simpa using hMne
  have a4 : ¬ (8 : Int) < (l.length : Int) + 1 := by omega
  have E1 := Aside0.mk e1
  have OK := Aside0.mk ok
  have HM := Aside0.mk hm
  have HFa := Aside0.mk hF
  have HL := Aside0.mk hl'
  have HSm := Aside0.mk hs
  have HFL := Aside0.mk hfl
  have HLE := Aside0.mk hlen
  clear hf h e1 ok hm ht hs hF hl' hfl hlen
  go_enter Try.func65, Try.ntmps65
  go_wp2_with (first
    | (go_at_call 92; refine HF.out.mono ?_; rintro e w1 ⟨rfl, hb⟩; have hsz := hb.size; have h1 := (H.out.below hb).setSize (z + 1); have h2 := h1.below (below_alloc (Below.refl _ _) (.cells #[.string x, SV y] 153)); have c0 := up hb c0; have c1 := up hb c1; have z0 := upf hb hgl z0; have z1 := upf hb hgl z1; have e3 := up hb e3; have e4 := upf hb e5 e4; have HB := Aside0.mk hb;
       have p0 : (w1.setCell ⟨g, 1, none⟩ (.int .i64 (z + 1))).cell? ⟨g, 0, none⟩ = _ := h1.c0; rw [E1.out] at p0;
       have p3 : (w1.setCell ⟨g, 1, none⟩ (.int .i64 (z + 1))).cell? ⟨sb, i, none⟩ = _ := (World.cell?_of_block (Below.heap_setCell w1 _ _ _ hsbg)).trans e3;
       have hv := heap_alloc_new (w1.setCell ⟨g, 1, none⟩ (.int .i64 (z + 1))) (.cells #[.string x, SV y] 153); rw [size_setCell] at hv; have HV := Aside0.mk hv; have hvb : w1.heap.size ≠ b := (by omega);
       have H2 := Aside0.mk h2; clear h1 h2 hb hv)
    | (go_at_call 93; refine (insert_any 0 b l.length k cap w1.heap.size (flat l) [.string x, SV y] 153 _ (H2.out.leaf _ (List.mem_of_getElem? HM.out)).own (Nat.zero_le _) hk hpos (by omega) rfl HV.out hvb (by intro u hu; simp at hu; rcases hu with rfl | rfl <;> rfl) (flat_one (H2.out.leaf _ (List.mem_of_getElem? HM.out)).one)).mono ?_;
       rintro e w2 ⟨gb, cap2, rfl, ho, hg, hgb⟩; obtain ⟨q0, q3, q4, _, _⟩ := H2.out.after HM.out E1.out hg; rw [E1.out] at q0; have HO := Aside0.mk ho; have HG := Aside0.mk hg; have HGB := Aside0.mk hgb; clear ho hg hgb))
  go_ret
  have hone : ∀ a ∈ l', a.2.oneCell' = true := by
    intro a ha
    rw [HL.out] at ha
    simp only [List.mem_append, List.mem_singleton] at ha
    rcases ha with (ha | ha) | ha
    · exact OK.out.one a (List.mem_of_mem_take ha)
    · subst ha; rfl
    · exact OK.out.one a (List.mem_of_mem_drop ha)
  have hFg : F gb := by
    rcases HGB.out with e | e
    · rw [e]; exact OK.out.inF
    · refine HFa.out _ (Nat.le_trans hsz (Nat.le_trans ?_ e))
      rw [World.size_alloc, size_setCell]
      exact Nat.le_succ _
  have h3 := H2.out.setLeaf (m' := (gb, cap2, l')) HM.out E1.out HG.out (by
    rw [HFL.out]
    show w2.ownsRow 0 153 2 (.slice (some ⟨gb, 0, none⟩) l'.length cap2) l'.length _
    rw [HLE.out]
    exact HO.out) hone hFg HGB.out
  rw [show lv (gb, cap2, l') = .slice (some ⟨gb, 0, none⟩) (l.length + 1) cap2 by simp [lv, HLE.out]] at h3
  exact ⟨rfl, ⟨gb, cap2, h3⟩, (((Fr.below HB.out).trans (Fr.setCell _ _ _ _ H.out.inF)).trans (Fr.alloc _ _)).trans ((Fr.grown HG.out OK.out.inF).trans (Fr.setCell _ _ _ _ (H.out.apart sb (by rw [E1.out]; rfl)).1))⟩
end Go.Proofs.Ytmafibbnojdpjaa.Tr
end
section
set_option linter.unusedVariables false
set_option maxRecDepth 100000
set_option linter.unusedSimpArgs false
namespace Go.Proofs.Ytmafibbnojdpjaa.Tr
open Go.RowKit Go.Proofs.YtmafibbnojdpjaaW.PrintWords Go.Proofs.YtmafibbnojdpjaaW.PrintLast Go.Proofs.YtmafibbnojdpjaaW.PrintMore
variable {R : Value × Value} {F : Nat → Prop} {w : World} {g : Nat} {S : Value} {M : List Leaf} {z : Int}
theorem in_step {W w2 : World} (h2 : TreeM R F W g S M z) {i b cap k gb cap2 sb n c : Nat} {l l' : List Item} {x : ByteArray} {v : Value} (hv : v.oneCell' = true) (hm : M[i]? = some (b, cap, l)) (hS : S = .slice (some ⟨sb, 0, none⟩) n c) (hF : ∀ k, W.heap.size ≤ k → F k)
    (hk : k ≤ l.length) (hl' : l' = l.take k ++ [(x, v)] ++ l.drop k) (ho : w2.ownsRow 0 153 2 (.slice (some ⟨gb, 0, none⟩) (l.length + 1) cap2) (l.length + 1) ((flat l).take (k * 2) ++ [.string x, v] ++ (flat l).drop (k * 2)))
    (hg : W.grownBy w2 (some b)) (hgb : gb = b ∨ W.heap.size ≤ gb) :
    TreeM R F (w2.setCell ⟨sb, i, none⟩ (.slice (some ⟨gb, 0, none⟩) (l.length + 1) cap2)) g S (M.set i (gb, cap2, l')) z ∧ F gb ∧ Fr F W (w2.setCell ⟨sb, i, none⟩ (.slice (some ⟨gb, 0, none⟩) (l.length + 1) cap2)) := by
  have ok := h2.leaf _ (List.mem_of_getElem? hm)
  have hlen : l'.length = l.length + 1 := by rw [hl']; simp; omega
  have hfl : flat l' = (flat l).take (k * 2) ++ [.string x, v] ++ (flat l).drop (k * 2) := by rw [hl', flat_append, flat_append, flat_take, flat_drop]; rfl
  have hone : ∀ a ∈ l', a.2.oneCell' = true := by
    intro a ha
    rw [hl'] at ha
    simp only [List.mem_append, List.mem_singleton] at ha
    rcases ha with (ha | ha) | ha
    · exact ok.one a (List.mem_of_mem_take ha)
    · subst ha; exact hv
    · exact ok.one a (List.mem_of_mem_drop ha)
  have hFg : F gb := by
    rcases hgb with e | e
    · rw [e]; exact ok.inF
    · exact hF _ e
  have h3 := h2.setLeaf (m' := (gb, cap2, l')) hm hS hg (by
    rw [hfl]
    show w2.ownsRow 0 153 2 (.slice (some ⟨gb, 0, none⟩) l'.length cap2) l'.length _
    rw [hlen]
    exact ho) hone hFg hgb
  rw [show lv (gb, cap2, l') = .slice (some ⟨gb, 0, none⟩) (l.length + 1) cap2 by simp [lv, hlen]] at h3
  exact ⟨h3, hFg, (Fr.grown hg ok.inF).trans (Fr.setCell _ _ _ _ (h2.apart sb (by rw [hS]; rfl)).1)⟩
theorem set_get {M : List Leaf} {i : Nat} {m a : Leaf} (hm : M[i]? = some m) : (M.set i a)[i]? = some a := by
  have hi : i < M.length := (List.getElem?_eq_some_iff.1 hm).1
  simp [hi]
/-- halves, and the first stored -/
theorem half_step {W w4 : World} (h3 : TreeM R F W g S M z) {i gb cap2 sb n c g1 c1 g2 c2 N : Nat} {l' : List Item} (hm : M[i]? = some (gb, cap2, l')) (hS : S = .slice (some ⟨sb, 0, none⟩) n c) (hF : ∀ k, W.heap.size ≤ k → F k) (hN : l'.length = N)
    (ho1 : w4.ownsRow W.heap.size 153 2 (.slice (some ⟨g1, 0, none⟩) (N / 2) c1) (N / 2) ((flat l').take (N / 2 * 2))) (ho2 : w4.ownsRow W.heap.size 153 2 (.slice (some ⟨g2, 0, none⟩) (N - N / 2) c2) (N - N / 2) ((flat l').drop (N / 2 * 2)))
    (hne : g1 ≠ g2) (hb : Below W.heap.size W w4) :
    TreeM R F (w4.setCell ⟨sb, i, none⟩ (.slice (some ⟨g1, 0, none⟩) (N / 2) c1)) g S (M.set i (g1, c1, l'.take (N / 2))) z ∧ Fr F W (w4.setCell ⟨sb, i, none⟩ (.slice (some ⟨g1, 0, none⟩) (N / 2) c1)) ∧
      LeafOk F (w4.setCell ⟨sb, i, none⟩ (.slice (some ⟨g1, 0, none⟩) (N / 2) c1)) g (g2, c2, l'.drop (N / 2)) ∧ (∀ m ∈ M.set i (g1, c1, l'.take (N / 2)), m.1 ≠ g2) ∧ g2 ≠ sb ∧ W.heap.size ≤ g2 := by
  have ok := h3.leaf _ (List.mem_of_getElem? hm)
  have hsl := h3.rowlt sb (by rw [hS]; rfl)
  have hgl := h3.lt
  have b1 := (ho1.lt g1 rfl).1
  have b2 := (ho2.lt g2 rfl).1
  have l1 : (l'.take (N / 2)).length = N / 2 := by rw [List.length_take, hN]; omega
  have l2 : (l'.drop (N / 2)).length = N - N / 2 := by rw [List.length_drop, hN]
  have h5 := h3.setLeaf (m' := (g1, c1, l'.take (N / 2))) hm hS (below_grown hb _) (by
    rw [flat_take]
    show w4.ownsRow 0 153 2 (.slice (some ⟨g1, 0, none⟩) (l'.take (N / 2)).length c1) (l'.take (N / 2)).length _
    rw [l1]
    exact ownsRow_lower ho1 (Nat.zero_le _)) (fun a ha => ok.one a (List.mem_of_mem_take ha)) (hF _ b1) (.inr b1)
  rw [show lv (g1, c1, l'.take (N / 2)) = .slice (some ⟨g1, 0, none⟩) (N / 2) c1 by simp [lv, l1]] at h5
  refine ⟨h5, (Fr.below hb).trans (Fr.setCell _ _ _ _ (h3.apart sb (by rw [hS]; rfl)).1), ⟨?_, hF _ b2, by show g2 ≠ g; omega, fun a ha => ok.one a (List.mem_of_mem_drop ha)⟩, ?_, by omega, b2⟩
  · rw [flat_drop]
    show World.ownsRow _ 0 153 2 (.slice (some ⟨g2, 0, none⟩) (l'.drop (N / 2)).length c2) (l'.drop (N / 2)).length _
    rw [l2]
    refine ownsRow_same (ownsRow_lower ho2 (Nat.zero_le _)) (fun k e => ?_)
    cases e
    exact Below.heap_setCell w4 _ _ _ (by show g2 ≠ sb; omega)
  · intro m hmm
    rcases List.mem_or_eq_of_mem_set hmm with e | e
    · have := (h3.leaf m e).lt
      omega
    · rw [e]; exact hne
set_option maxHeartbeats 1000000 in
set_option maxRecDepth 100000 in
theorem put_split (h : TreeM R F w g S M z) (hs : Small M) (hF : ∀ k, w.heap.size ≤ k → F k) (hz0 : 0 ≤ z) (hz1 : z ≤ 1600000000000) (x : ByteArray) (y : SVal) (ht : (findT (tl M) x).2.2 = false)
    (b cap : Nat) (l : List Item) (hm : M[(findT (tl M) x).1]? = some (b, cap, l)) (hk : (findT (tl M) x).2.1 ≤ l.length) (h8 : 8 < l.length + 1) :
    Calls Try.prog 65 #[.pointer (some ⟨g, 0, none⟩), .string x, SV y] w fun e w' => e = .returned (.bool false) ∧
      (∃ S' b1 c1 b2 c2 l', l' = l.take (findT (tl M) x).2.1 ++ [(x, SV y)] ++ l.drop (findT (tl M) x).2.1 ∧ TreeM R F w' g S' ((M.set (findT (tl M) x).1 (b1, c1, l'.take (l'.length / 2))).take ((findT (tl M) x).1 + 1) ++ [(b2, c2, l'.drop (l'.length / 2))] ++ (M.set (findT (tl M) x).1 (b1, c1, l'.take (l'.length / 2))).drop ((findT (tl M) x).1 + 1)) (z + 1)) ∧ Fr F w w' := by
  have hf := findM h hs x
  rw [ht] at hf
  generalize (findT (tl M) x).1 = i at *
  generalize (findT (tl M) x).2.1 = k at *
  obtain ⟨l', hl'⟩ : ∃ l' : List Item, l' = l.take k ++ [(x, SV y)] ++ l.drop k := ⟨_, rfl⟩
  have hlen : l'.length = l.length + 1 := by rw [hl']; simp; omega
  have hfl : flat l' = (flat l).take (k * 2) ++ [.string x, SV y] ++ (flat l).drop (k * 2) := by rw [hl', flat_append, flat_append, flat_take, flat_drop]; rfl
  have HF := Aside0.mk hf
  have H := Aside0.mk h
  obtain ⟨sb, c, e1, e2, e3, e4, e5⟩ := h.leafAt hm
  have ok := h.leaf _ (List.mem_of_getElem? hm)
  have hi : i < M.length := (List.getElem?_eq_some_iff.1 hm).1
  have hpos := hs.pos _ (List.mem_of_getElem? hm)
  change 0 < l.length at hpos
  have c0 := h.c0
  rw [e1] at c0
  have c1 := h.c1
  have z0 := h.fz 0
  have z1 := h.fz 1
  have hgl := h.lt
  have hbl : b < w.heap.size := ok.lt
  change w.cell? _ = some (.slice (some ⟨b, 0, none⟩) l.length cap) at e3
  have hw : IntKind.i64.wrap (z + 1) = z + 1 := by rw [IntKind.wrap_i64]; omega
  have hsbg : sb ≠ g := (h.apart sb (by rw [e1]; rfl)).2.1
  have hsbb : b ≠ sb := (h.apart sb (by rw [e1]; rfl)).2.2 _ (List.mem_of_getElem? hm)
  have hbg : b ≠ g := ok.neg
  have hM0 : ¬ M.length = 0 := by omega
  have a0 : (0 : Int) ≤ (i : Int) := by omega
  have a1 : (i : Int) < (M.length : Int) := by omega
  have hMne : M ≠ [] := by intro e; rw [e] at hi; cases hi
  have a3 : ((M.length : Int) == 0) = false := by simpa using hMne
  have a4 : (8 : Int) < (l.length : Int) + 1 := by omega
  have hlb := hs.each _ (List.mem_of_getElem? hm)
  change l.length ≤ _ at hlb
  have hMb := hs.len
  have hi1 : IntKind.i64.wrap ((i : Int) + 1) = (i : Int) + 1 := by rw [IntKind.wrap_i64]; omega
  have E1 := Aside0.mk e1
  have OK := Aside0.mk ok
  have HM := Aside0.mk hm
  have HFa := Aside0.mk hF
  have HL := Aside0.mk hl'
  have HSm := Aside0.mk hs
  have HFL := Aside0.mk hfl
  have HLE := Aside0.mk hlen
  clear hf h e1 ok hm ht hs hF hl' hfl hlen
  go_enter Try.func65, Try.ntmps65
  go_wp2_with (first
    | (go_at_call 92; refine HF.out.mono ?_; rintro e w1 ⟨rfl, hb⟩; have hsz := hb.size; have h1 := (H.out.below hb).setSize (z + 1); have h2 := h1.below (below_alloc (Below.refl _ _) (.cells #[.string x, SV y] 153)); have c0 := up hb c0; have c1 := up hb c1; have z0 := upf hb hgl z0; have z1 := upf hb hgl z1; have e3 := up hb e3; have e4 := upf hb e5 e4; have HB := Aside0.mk hb;
       have p0 : (w1.setCell ⟨g, 1, none⟩ (.int .i64 (z + 1))).cell? ⟨g, 0, none⟩ = _ := h1.c0; rw [E1.out] at p0;
       have p3 : (w1.setCell ⟨g, 1, none⟩ (.int .i64 (z + 1))).cell? ⟨sb, i, none⟩ = _ := (World.cell?_of_block (Below.heap_setCell w1 _ _ _ hsbg)).trans e3;
       have hv := heap_alloc_new (w1.setCell ⟨g, 1, none⟩ (.int .i64 (z + 1))) (.cells #[.string x, SV y] 153); rw [size_setCell] at hv; have HV := Aside0.mk hv; have hvb : w1.heap.size ≠ b := (by omega);
       have H2 := Aside0.mk h2; clear h1 h2 hb hv)
    | (go_at_call 93; refine (insert_any 0 b l.length k cap w1.heap.size (flat l) [.string x, SV y] 153 _ (H2.out.leaf _ (List.mem_of_getElem? HM.out)).own (Nat.zero_le _) hk hpos (by omega) rfl HV.out hvb (by intro u hu; simp at hu; rcases hu with rfl | rfl <;> rfl) (flat_one (H2.out.leaf _ (List.mem_of_getElem? HM.out)).one)).mono ?_;
       rintro e w2 ⟨gb, cap2, rfl, ho, hg, hgb⟩; obtain ⟨q0, q3, q4, _, _⟩ := H2.out.after HM.out E1.out hg; rw [E1.out] at q0; obtain ⟨h3, hFg, hfr3⟩ := in_step H2.out rfl HM.out E1.out (fun q hq => HFa.out q (Nat.le_trans hsz (Nat.le_trans (by rw [World.size_alloc, size_setCell]; exact Nat.le_succ _) hq))) hk HL.out ho hg hgb;
       have hsz2 : w1.heap.size ≤ w2.heap.size := (by have := hg.size; rw [World.size_alloc, size_setCell] at this; omega);
       have H3 := Aside0.mk h3; have FR3 := Aside0.mk hfr3; clear h3 hfr3 ho hg hgb)
    | (go_at_call 94; refine (halves_any ⟨gb, 0, none⟩ (l.length + 1) cap2 (flat l') _ (by rw [flat_length, HLE.out]) (by have := (H3.out.leaf _ (List.mem_of_getElem? (set_get HM.out))).own.cells (g := gb) rfl; exact this) (flat_one (H3.out.leaf _ (List.mem_of_getElem? (set_get HM.out))).one) (by omega) (by omega)
         (by have := (own_caps (H3.out.leaf _ (List.mem_of_getElem? (set_get HM.out))).own).1; rw [← HLE.out]; exact this) (own_caps (H3.out.leaf _ (List.mem_of_getElem? (set_get HM.out))).own).2.1).mono ?_;
       rintro e w4 ⟨g1, c1, g2, c2, rfl, ho1, ho2, hne, hb⟩; obtain ⟨r0, r3, r4, r5, _⟩ := H3.out.after (set_get HM.out) E1.out (below_grown hb (some gb)); rw [E1.out] at r0; replace r3 : w4.cell? ⟨sb, i, none⟩ = some (.slice (some ⟨gb, 0, none⟩) l'.length cap2) := r3;
       obtain ⟨h5, hfr5, k2, k3, k4, k5⟩ := half_step H3.out (set_get HM.out) E1.out (fun q hq => HFa.out q (by rw [size_setCell] at hq; omega)) HLE.out ho1 ho2 hne hb;
       rw [List.set_set] at h5 k3; have s0 := h5.c0; rw [E1.out] at s0; have s1 := h5.fz 0;
       have h6 := h5.below (below_alloc (Below.refl _ _) (.cells #[.slice (some ⟨g2, 0, none⟩) (l.length + 1 - (l.length + 1) / 2) c2] 154)); have hr6 := h6.row; rw [E1.out, List.length_set] at hr6;
       have hv6 := heap_alloc_new (w4.setCell ⟨sb, i, none⟩ (.slice (some ⟨g1, 0, none⟩) ((l.length + 1) / 2) c1)) (.cells #[.slice (some ⟨g2, 0, none⟩) (l.length + 1 - (l.length + 1) / 2) c2] 154); rw [size_setCell] at hv6;
       have hsl := h6.rowlt sb (by rw [E1.out]; rfl); have hvb6 : w4.heap.size ≠ sb := (by have := H3.out.rowlt sb (by rw [E1.out]; rfl); have := hb.size; omega);
       have hb4 : w2.heap.size ≤ w4.heap.size := (by have := hb.size; rw [size_setCell] at this; exact this);
       have k6 := k2.same (below_alloc (Below.refl _ _) (.cells #[.slice (some ⟨g2, 0, none⟩) (l.length + 1 - (l.length + 1) / 2) c2] 154) |>.block _ k2.lt);
       have H6 := Aside0.mk h6; have FR5 := Aside0.mk hfr5; have K6 := Aside0.mk k6; have K3 := Aside0.mk k3; have HR6 := Aside0.mk hr6; have HV6 := Aside0.mk hv6; clear h5 hfr5 k2 k3 hb ho1 ho2 h6 hr6 hv6 k6 hsl)
    | (go_at_call 95; have hcall := insertL_any 0 sb M.length (i + 1) c w4.heap.size _ [.slice (some ⟨g2, 0, none⟩) (l.length + 1 - (l.length + 1) / 2) c2] 154 _ HR6.out (Nat.zero_le _) (by omega) (by omega) (by omega) rfl HV6.out hvb6 (by intro u hu; simp at hu; subst hu; rfl) (by intro u hu; obtain ⟨q, _, rfl⟩ := List.mem_map.1 hu; rfl);
       rw [show ((i + 1 : Nat) : Int) = (i : Int) + 1 by omega] at hcall; refine hcall.mono ?_; clear hcall;
       rintro e w7 ⟨gs, cs, rfl, ho, hg, hgs⟩;
       have hgne : some g ≠ some sb := (fun e => hsbg (by cases e; rfl));
       have u0 := hg.cell H6.out.c0 hgne; rw [E1.out] at u0;
       have u1 := (World.frozen?_of_block (a := ⟨g, 0, none⟩) (hg.block g H6.out.lt hgne)).trans (H6.out.fz 0);
       have HO := Aside0.mk ho; have HG := Aside0.mk hg; have HGS := Aside0.mk hgs; clear ho hg hgs))
  go_ret
  have hFs : F sb := (H.out.apart sb (by rw [E1.out]; rfl)).1
  have hFgs : F gs := by
    rcases HGS.out with e | e
    · rw [e]; exact hFs
    · refine HFa.out _ ?_
      rw [World.size_alloc, size_setCell] at e
      omega
  have hlv : lv (g2, c2, l'.drop ((l.length + 1) / 2)) = .slice (some ⟨g2, 0, none⟩) (l.length + 1 - (l.length + 1) / 2) c2 := by simp [lv, HLE.out]
  have h7 := H6.out.insertRow (k := i + 1) E1.out K6.out K3.out k4 (by rw [List.length_set, hlv]; exact HO.out) HG.out HGS.out hFgs
  rw [List.length_set] at h7
  refine ⟨rfl, ⟨.slice (some ⟨gs, 0, none⟩) (M.length + 1) cs, g1, c1, g2, c2, l', HL.out, ?_⟩, ?_⟩
  · rw [HLE.out]
    exact h7
  · exact ((((((Fr.below HB.out).trans (Fr.setCell _ _ _ _ H.out.inF)).trans (Fr.alloc _ _)).trans FR3.out).trans FR5.out).trans (Fr.alloc _ _)).trans ((Fr.grown HG.out hFs).trans (Fr.setCell _ _ _ _ H.out.inF))
end Go.Proofs.Ytmafibbnojdpjaa.Tr
end
section
set_option linter.unusedVariables false
set_option maxRecDepth 100000
set_option linter.unusedSimpArgs false
namespace Go.Proofs.Ytmafibbnojdpjaa.Tr
open Go.RowKit Go.Proofs.YtmafibbnojdpjaaW.PrintWords Go.Proofs.YtmafibbnojdpjaaW.PrintLast Go.Proofs.YtmafibbnojdpjaaW.PrintMore
variable {R : Value × Value} {F : Nat → Prop} {w : World} {g : Nat} {S : Value} {M : List Leaf} {z : Int}
theorem tl_set (M : List Leaf) (i : Nat) (m : Leaf) : tl (M.set i m) = (tl M).set i m.2.2 := by unfold tl; rw [List.map_set]
theorem tl_take (M : List Leaf) (i : Nat) : tl (M.take i) = (tl M).take i := by unfold tl; rw [List.map_take]
theorem tl_drop (M : List Leaf) (i : Nat) : tl (M.drop i) = (tl M).drop i := by unfold tl; rw [List.map_drop]
theorem tl_append (M N : List Leaf) : tl (M ++ N) = tl M ++ tl N := by unfold tl; rw [List.map_append]
theorem tl_length (M : List Leaf) : (tl M).length = M.length := by unfold tl; rw [List.length_map]
end Go.Proofs.Ytmafibbnojdpjaa.Tr
end
