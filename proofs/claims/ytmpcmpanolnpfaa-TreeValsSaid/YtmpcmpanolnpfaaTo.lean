/- Tree, by hand: join. -/
import Derived.Test.YtmpcmpanolnpfaaTc
import Derived.Deep.RegionHeld3
set_option linter.unusedVariables false
set_option linter.unusedSimpArgs false
namespace Go.Proofs.Ytmpcmpanolnpfaa.Tr
open Go.RowKit Go.Proofs.YtmpcmpanolnpfaaW.PrintWords Go.Proofs.YtmpcmpanolnpfaaW.PrintLast Go.Proofs.YtmpcmpanolnpfaaW.PrintMore

variable {F : Nat → Prop} {w : World} {g : Nat} {S : Value} {M : List Leaf} {z : Int}
set_option maxHeartbeats 1000000 in
set_option maxRecDepth 100000 in
theorem join_last (h : TreeM F w g S M z) (hs : Small M) (i : Nat) (hi : M.length = i + 1) :
    Calls Try.prog 29 #[.pointer (some ⟨g, 0, none⟩), .int .i64 (i : Int)] w fun e w' => e = .returned (.tuple #[]) ∧ Below w.heap.size w w' := by
  obtain ⟨sb, c, cur, e1, _⟩ := h.rowAt (by intro e; rw [e] at hi; simp at hi)
  have c0 := h.c0
  rw [e1] at c0
  have hMb := hs.len
  have hw : IntKind.i64.wrap ((i : Int) + 1) = (i : Int) + 1 := by rw [IntKind.wrap_i64]; omega
  have a1 : ¬ (i : Int) + 1 < (M.length : Int) := by omega
  clear h hs
  go_enter Try.func29, Try.ntmps29
  go_wp2
  go_quiet (fail)
  go_wp2
  go_end0
  exact ⟨rfl, pw_below_drewN (Below.refl _ _) nq⟩
theorem cell_setCell_off {w : World} {b i j : Nat} {v u : Value} (hc : w.cell? ⟨b, j, none⟩ = some u) (h : j ≠ i) : (w.setCell ⟨b, i, none⟩ v).cell? ⟨b, j, none⟩ = some u := by
  unfold World.cell? at hc
  split at hc
  · rename_i c t fr hh
    simp at hc
    simp [World.cell?, heap_setCell_at w b i c t fr v hh, Array.getElem?_setIfInBounds, Ne.symm h, hc]
  · cases hc
set_option maxHeartbeats 1000000 in
set_option maxRecDepth 100000 in
theorem join_do (h : TreeM F w g S M z) (hs : Small M) (i ba ca bb cb : Nat) (la lb : List Item) (hm : M[i]? = some (ba, ca, la)) (hm2 : M[i + 1]? = some (bb, cb, lb)) (hno : la.length + lb.length ≤ 4) (hF : ∀ k, w.heap.size ≤ k → F k) :
    Calls Try.prog 29 #[.pointer (some ⟨g, 0, none⟩), .int .i64 (i : Int)] w fun e w' => e = .returned (.tuple #[]) ∧ (∃ S' g1 c1, TreeM F w' g S' ((M.set i (g1, c1, la ++ lb)).take (i + 1) ++ (M.set i (g1, c1, la ++ lb)).drop (i + 2)) z) ∧ Fr F w w' := by
  have hi : i + 1 < M.length := (List.getElem?_eq_some_iff.1 hm2).1
  obtain ⟨sb, c, e1, e2, e3, e4, e5⟩ := h.leafAt hm
  obtain ⟨sb', c', e1', _, e3', _, _⟩ := h.leafAt hm2
  rw [e1] at e1'
  cases e1'
  have c0 := h.c0
  rw [e1] at c0
  have hMb := hs.len
  have hla := hs.each _ (List.mem_of_getElem? hm)
  have hlb := hs.each _ (List.mem_of_getElem? hm2)
  change la.length ≤ _ at hla
  change lb.length ≤ _ at hlb
  change w.cell? _ = some (.slice (some ⟨ba, 0, none⟩) la.length ca) at e3
  change w.cell? _ = some (.slice (some ⟨bb, 0, none⟩) lb.length cb) at e3'
  have hw : IntKind.i64.wrap ((i : Int) + 1) = (i : Int) + 1 := by rw [IntKind.wrap_i64]; omega
  have hw2 : IntKind.i64.wrap ((la.length : Int) + (lb.length : Int)) = (la.length : Int) + (lb.length : Int) := by rw [IntKind.wrap_i64]; omega
  have a1 : (i : Int) + 1 < (M.length : Int) := by omega
  have a2 : (i : Int) < (M.length : Int) := by omega
  have a3 : (0 : Int) ≤ (i : Int) := by omega
  have a4 : (0 : Int) ≤ (i : Int) + 1 := by omega
  have a5 : (la.length : Int) + (lb.length : Int) ≤ 4 := by omega
  have H := Aside0.mk h
  have HM := Aside0.mk hm
  have HM2 := Aside0.mk hm2
  have HS := Aside0.mk hs
  have E1 := Aside0.mk e1
  have HFa := Aside0.mk hF
  have a6 : ((i : Int) + 1).toNat = i + 1 := by omega
  clear h hs hm hm2 e1 hF
  go_enter Try.func29, Try.ntmps29
  go_wp2
  go_quiet (fail)
  go_wp2
  have hbw : Below w.heap.size w ((w.drewN (nq + 1)).alloc (.cells #[.slice (some ⟨ba, 0, none⟩) la.length ca, .slice (some ⟨bb, 0, none⟩) lb.length cb] 65)) := (pw_below_drewN (Below.refl _ _) (nq + 1)).alloc (Nat.le_refl _) _
  have hvw : ((w.drewN (nq + 1)).alloc (.cells #[.slice (some ⟨ba, 0, none⟩) la.length ca, .slice (some ⟨bb, 0, none⟩) lb.length cb] 65)).heap[w.heap.size]? = some (.cells #[.slice (some ⟨ba, 0, none⟩) la.length ca, .slice (some ⟨bb, 0, none⟩) lb.length cb] 65 (0, 0)) := heap_alloc_new (w.drewN (nq + 1)) _
  have h1 := H.out.below hbw
  have hv0 := cells_of_heap hvw 0 0 _ rfl
  have hv1 := cells_of_heap hvw 0 1 _ rfl
  rw [Addr.add_lit] at hv0 hv1
  have HV0 := Aside0.mk hv0
  have HV1 := Aside0.mk hv1
  have HBW := Aside0.mk hbw
  have H1 := Aside0.mk h1
  have hwsz : ((w.drewN (nq + 1)).alloc (.cells #[.slice (some ⟨ba, 0, none⟩) la.length ca, .slice (some ⟨bb, 0, none⟩) lb.length cb] 65)).heap.size = w.heap.size + 1 := by rw [World.size_alloc]; rfl
  have HWSZ := Aside0.mk hwsz
  have hW0 := up hbw c0
  have hW2 := up hbw e3'
  have hgsb : g ≠ sb := fun e => (H.out.apart sb (by rw [E1.out]; rfl)).2.1 e.symm
  have hw3 : IntKind.i64.wrap ((i : Int) + 2) = (i : Int) + 2 := by rw [IntKind.wrap_i64]; omega
  clear hbw hvw h1 hv0 hv1 hwsz
  refine wp_region_held_drew (S := (fun w1 => w1.cell? ⟨g, 0, none⟩ = some (.slice (some ⟨sb, 0, none⟩) M.length c) ∧ w1.cell? ⟨sb, i + 1, none⟩ = some (.slice (some ⟨bb, 0, none⟩) lb.length cb))) (by kernel_rfl) (by (try dsimp only); exact ⟨c0, e3'⟩) (fun hHeld => ?_)
  refine wpAnyH_take (i := 0) (v := ?_) rfl (by kernel_rfl) (by kernel_rfl) (by kernel_rfl) (fun _ _ _ h => h) (Or.inl ⟨by rfl, ?_⟩) (by assumption) ?_
  rotate_left
  · intro w hSw; (try dsimp only at hSw); go_simp; (try with_reducible rfl)
  try simp only [Act.put, List.setIfInBounds_toArray, List.set_cons_zero, List.set_cons_succ]
  refine wpAnyH_take (i := 1) (v := ?_) rfl (by kernel_rfl) (by kernel_rfl) (by kernel_rfl) (fun _ _ _ h => h) (Or.inl ⟨by rfl, ?_⟩) (by assumption) ?_
  rotate_left
  · intro w hSw; (try dsimp only at hSw); go_simp; (try with_reducible rfl)
  try simp only [Act.put, List.setIfInBounds_toArray, List.set_cons_zero, List.set_cons_succ]
  refine wpAnyH_take (i := 2) (v := ?_) rfl (by kernel_rfl) (by kernel_rfl) (by kernel_rfl) (fun _ _ _ h => h) (Or.inl ⟨by rfl, ?_⟩) (by assumption) ?_
  rotate_left
  · intro w hSw; (try dsimp only at hSw); go_simp; (try with_reducible rfl)
  try simp only [Act.put, List.setIfInBounds_toArray, List.set_cons_zero, List.set_cons_succ]
  refine wpAnyH_take (i := 3) (v := ?_) rfl (by kernel_rfl) (by kernel_rfl) (by kernel_rfl) (fun _ _ _ h => h) (Or.inl ⟨by rfl, ?_⟩) (by assumption) ?_
  rotate_left
  · intro w hSw; (try dsimp only at hSw); go_simp; (try with_reducible rfl)
  try simp only [Act.put, List.setIfInBounds_toArray, List.set_cons_zero, List.set_cons_succ]
  refine wpAnyH_take (i := 4) (v := ?_) rfl (by kernel_rfl) (by kernel_rfl) (by kernel_rfl) (fun _ _ _ h => h) (Or.inl ⟨by rfl, ?_⟩) (by assumption) ?_
  rotate_left
  · intro w hSw; (try dsimp only at hSw); go_simp; (try with_reducible rfl)
  try simp only [Act.put, List.setIfInBounds_toArray, List.set_cons_zero, List.set_cons_succ]
  refine wpAnyH_take (i := 5) (v := ?_) rfl (by kernel_rfl) (by kernel_rfl) (by kernel_rfl) (fun _ _ _ h => h) (Or.inl ⟨by rfl, ?_⟩) (by assumption) ?_
  rotate_left
  · intro w hSw; (try dsimp only at hSw); go_simp; (try with_reducible rfl)
  try simp only [Act.put, List.setIfInBounds_toArray, List.set_cons_zero, List.set_cons_succ]
  refine wpAnyH_take (i := 6) (v := ?_) rfl (by kernel_rfl) (by kernel_rfl) (by kernel_rfl) (fun _ _ _ h => h) (Or.inl ⟨by rfl, ?_⟩) (by assumption) ?_
  rotate_left
  · intro w hSw; (try dsimp only at hSw); go_simp; (try with_reducible rfl)
  try simp only [Act.put, List.setIfInBounds_toArray, List.set_cons_zero, List.set_cons_succ]
  refine wpAnyH_take (i := 7) (v := ?_) rfl (by kernel_rfl) (by kernel_rfl) (by kernel_rfl) (fun _ _ _ h => h) (Or.inl ⟨by rfl, ?_⟩) (by assumption) ?_
  rotate_left
  · intro w hSw; (try dsimp only at hSw); go_simp; (try with_reducible rfl)
  try simp only [Act.put, List.setIfInBounds_toArray, List.set_cons_zero, List.set_cons_succ]
  refine wpAnyH_take (i := 8) (v := ?_) rfl (by kernel_rfl) (by kernel_rfl) (by kernel_rfl) (fun _ _ _ h => h) (Or.inl ⟨by rfl, ?_⟩) (by assumption) ?_
  rotate_left
  · intro w hSw; (try dsimp only at hSw); go_simp; (try with_reducible rfl)
  try simp only [Act.put, List.setIfInBounds_toArray, List.set_cons_zero, List.set_cons_succ]
  refine wpAnyH_take (i := 9) (v := ?_) rfl (by kernel_rfl) (by kernel_rfl) (by kernel_rfl) (fun _ _ _ h => h) (Or.inl ⟨by rfl, ?_⟩) (by assumption) ?_
  rotate_left
  · intro w hSw; (try dsimp only at hSw); go_simp; (try with_reducible rfl)
  try simp only [Act.put, List.setIfInBounds_toArray, List.set_cons_zero, List.set_cons_succ]
  refine wpAnyH_take (i := 10) (v := ?_) rfl (by kernel_rfl) (by kernel_rfl) (by kernel_rfl) (fun _ _ _ h => h) (Or.inl ⟨by rfl, ?_⟩) (by assumption) ?_
  rotate_left
  · intro w hSw; (try dsimp only at hSw); go_simp; (try with_reducible rfl)
  try simp only [Act.put, List.setIfInBounds_toArray, List.set_cons_zero, List.set_cons_succ]
  refine wpAnyH_take (i := 12) (v := ?_) rfl (by kernel_rfl) (by kernel_rfl) (by kernel_rfl) (fun _ _ _ h => h) (Or.inl ⟨by rfl, ?_⟩) (by assumption) ?_
  rotate_left
  · intro w hSw; (try dsimp only at hSw); go_simp; (try with_reducible rfl)
  try simp only [Act.put, List.setIfInBounds_toArray, List.set_cons_zero, List.set_cons_succ]
  refine wpAnyH_take (i := 13) (v := ?_) rfl (by kernel_rfl) (by kernel_rfl) (by kernel_rfl) (fun _ _ _ h => h) (Or.inl ⟨by rfl, ?_⟩) (by assumption) ?_
  rotate_left
  · intro w hSw; (try dsimp only at hSw); go_simp; (try with_reducible rfl)
  try simp only [Act.put, List.setIfInBounds_toArray, List.set_cons_zero, List.set_cons_succ]
  refine wpAnyH_take (i := 14) (v := ?_) rfl (by kernel_rfl) (by kernel_rfl) (by kernel_rfl) (fun _ _ _ h => h) (Or.inl ⟨by rfl, ?_⟩) (by assumption) ?_
  rotate_left
  · intro w hSw; (try dsimp only at hSw); go_simp; (try with_reducible rfl)
  try simp only [Act.put, List.setIfInBounds_toArray, List.set_cons_zero, List.set_cons_succ]
  refine wpAnyH_take (i := 15) (v := ?_) rfl (by kernel_rfl) (by kernel_rfl) (by kernel_rfl) (fun _ _ _ h => h) (Or.inl ⟨by rfl, ?_⟩) (by assumption) ?_
  rotate_left
  · intro w hSw; (try dsimp only at hSw); go_simp; (try with_reducible rfl)
  try simp only [Act.put, List.setIfInBounds_toArray, List.set_cons_zero, List.set_cons_succ]
  refine wpAnyH_take (i := 16) (v := ?_) rfl (by kernel_rfl) (by kernel_rfl) (by kernel_rfl) (fun _ _ _ h => h) (Or.inl ⟨by rfl, ?_⟩) (by assumption) ?_
  rotate_left
  · intro w hSw; (try dsimp only at hSw); go_simp; (try with_reducible rfl)
  try simp only [Act.put, List.setIfInBounds_toArray, List.set_cons_zero, List.set_cons_succ]
  refine wpAnyH_take (i := 17) (v := ?_) rfl (by kernel_rfl) (by kernel_rfl) (by kernel_rfl) (fun _ _ _ h => h) (Or.inl ⟨by rfl, ?_⟩) (by assumption) ?_
  rotate_left
  · intro w hSw; (try dsimp only at hSw); go_simp; (try with_reducible rfl)
  try simp only [Act.put, List.setIfInBounds_toArray, List.set_cons_zero, List.set_cons_succ]
  refine wpAnyH_take (i := 18) (v := ?_) rfl (by kernel_rfl) (by kernel_rfl) (by kernel_rfl) (fun _ _ _ h => h) (Or.inl ⟨by rfl, ?_⟩) (by assumption) ?_
  rotate_left
  · intro w hSw; (try dsimp only at hSw); go_simp; (try with_reducible rfl)
  try simp only [Act.put, List.setIfInBounds_toArray, List.set_cons_zero, List.set_cons_succ]
  refine wpAnyH_take (i := 19) (v := ?_) rfl (by kernel_rfl) (by kernel_rfl) (by kernel_rfl) (fun _ _ _ h => h) (Or.inl ⟨by rfl, ?_⟩) (by assumption) ?_
  rotate_left
  · intro w hSw; (try dsimp only at hSw); go_simp; (try with_reducible rfl)
  try simp only [Act.put, List.setIfInBounds_toArray, List.set_cons_zero, List.set_cons_succ]
  refine wpAnyH_ready (rs := [11]) (by kernel_rfl) (by simp) ?_
  refine AllReadyH.cons rfl (fun K hK => ?_) AllReadyH.nil
  go_simp
  refine hK.out _ _ (by (try dsimp only); exact ⟨c0, e3'⟩) (fun hHeld => ?_)
  clear hK K
  try simp only [Act.put, List.setIfInBounds_toArray, List.set_cons_zero, List.set_cons_succ]
  refine wpAnyH_ready (rs := [20]) (by kernel_rfl) (by simp) ?_
  refine AllReadyH.cons rfl (fun K hK => ?_) AllReadyH.nil
  go_simp
  refine hK.out _ _ (by (try dsimp only); exact ⟨hW0, hW2⟩) (fun hHeld => ?_)
  clear hK K
  try simp only [Act.put, List.setIfInBounds_toArray, List.set_cons_zero, List.set_cons_succ]
  refine wpAnyH_ready (rs := [21]) (by kernel_rfl) (by simp) ?_
  refine AllReadyH.cons rfl (fun K hK => ?_) AllReadyH.nil
  go_simp
  refine (concat_any w.heap.size ba ca bb cb la lb _ HV0.out HV1.out ((H1.out.leaf _ (List.mem_of_getElem? HM.out)).own.cells (g := ba) rfl) ((H1.out.leaf _ (List.mem_of_getElem? HM2.out)).own.cells (g := bb) rfl)
          (H1.out.leaf _ (List.mem_of_getElem? HM.out)).one (H1.out.leaf _ (List.mem_of_getElem? HM2.out)).one (HS.out.pos _ (List.mem_of_getElem? HM.out)) (HS.out.pos _ (List.mem_of_getElem? HM2.out)) (by omega)).mono ?_
  rintro e w3 ⟨g1, c1, rfl, ho, hb⟩
  obtain ⟨q0, q3, q4, q5, _⟩ := H1.out.after HM.out E1.out (below_grown hb _)
  replace q3 : w3.cell? ⟨sb, i, none⟩ = some (.slice (some ⟨ba, 0, none⟩) la.length ca) := q3
  rw [E1.out] at q0
  have q6 := up hb hW2
  have HO := Aside0.mk ho
  have HB := Aside0.mk hb
  clear ho hb
  go_simp
  refine hK.out _ _ (by (try dsimp only); exact ⟨q0, q6⟩) (fun hHeld => ?_)
  clear hK K
  try simp only [Act.put, List.setIfInBounds_toArray, List.set_cons_zero, List.set_cons_succ]
  refine wpAnyH_take (i := 22) (v := ?_) rfl (by kernel_rfl) (by kernel_rfl) (by kernel_rfl) (fun _ _ _ h => h) (Or.inl ⟨by rfl, ?_⟩) (by assumption) ?_
  rotate_left
  · intro w hSw; (try dsimp only at hSw); go_simp; (try with_reducible rfl)
  try simp only [Act.put, List.setIfInBounds_toArray, List.set_cons_zero, List.set_cons_succ]
  refine wpAnyH_ready (rs := [23]) (by kernel_rfl) (by simp) ?_
  refine AllReadyH.cons rfl (fun K hK => ?_) AllReadyH.nil
  go_simp
  refine hK.out _ _ (by (try dsimp only); exact ⟨(World.cell?_of_block (Below.heap_setCell w3 _ _ _ hgsb)).trans q0, cell_setCell_off q6 (by omega)⟩) (fun hHeld => ?_)
  clear hK K
  try simp only [Act.put, List.setIfInBounds_toArray, List.set_cons_zero, List.set_cons_succ]
  refine wpAnyH_done (by kernel_rfl) ?_ _
  have okb := H1.out.leaf _ (List.mem_of_getElem? HM.out)
  have okc := H1.out.leaf _ (List.mem_of_getElem? HM2.out)
  have hg1 : w.heap.size ≤ g1 := by
    have := (HO.out.lt g1 rfl).1
    rw [HWSZ.out] at this
    omega
  have h4 := H1.out.setLeaf (m' := (g1, c1, la ++ lb)) HM.out E1.out (below_grown HB.out _) (by
    rw [flat_append]
    show w3.ownsRow 0 64 2 (.slice (some ⟨g1, 0, none⟩) (la ++ lb).length c1) (la ++ lb).length _
    rw [List.length_append]
    exact ownsRow_lower HO.out (Nat.zero_le _)) (fun a ha => (List.mem_append.1 ha).elim (okb.one a) (okc.one a)) (HFa.out _ hg1) (.inr (HO.out.lt g1 rfl).1)
  rw [show lv (g1, c1, la ++ lb) = .slice (some ⟨g1, 0, none⟩) (la.length + lb.length) c1 by simp [lv]] at h4
  have r0 := h4.c0
  rw [E1.out] at r0
  have hr4 := h4.row
  rw [E1.out, List.length_set] at hr4
  have HR4 := Aside0.mk hr4
  have H4 := Aside0.mk h4
  clear h4 hr4 okb okc
  go_wp2_with (first
    | (go_at_call 28; have hcall := deleteL_any 0 sb M.length (i + 1) c _ _ HR4.out (by omega) (by intro u hu; obtain ⟨q, _, rfl⟩ := List.mem_map.1 hu; rfl); rw [show ((i + 1 : Nat) : Int) = (i : Int) + 1 by omega, show ((i + 1 + 1 : Nat) : Int) = (i : Int) + 2 by omega] at hcall; refine hcall.mono ?_; clear hcall;
       rintro e w5 ⟨rfl, ho, hg⟩;
       have hgne : some g ≠ some sb := (fun e => hgsb (by cases e; rfl));
       have u0 := hg.cell H4.out.c0 hgne; rw [E1.out] at u0;
       have u1 := (World.frozen?_of_block (a := ⟨g, 0, none⟩) (hg.block g H4.out.lt hgne)).trans (H4.out.fz 0);
       have HO5 := Aside0.mk ho; have HG := Aside0.mk hg; clear ho hg))
  go_end0
  have hFs : F sb := (H.out.apart sb (by rw [E1.out]; rfl)).1
  have h7 := H4.out.deleteRow (k := i + 1) E1.out (by rw [List.length_set]; exact hi) (by rw [List.length_set]; exact HO5.out) HG.out
  rw [List.length_set] at h7
  refine ⟨rfl, ⟨.slice (some ⟨sb, 0, none⟩) (M.length - 1) c, g1, c1, h7⟩, ?_⟩
  refine (Fr.below HBW.out).trans ((Fr.below HB.out).trans ((Fr.setCell _ _ _ _ hFs).trans ((Fr.grown HG.out hFs).trans (Fr.setCell _ _ _ _ H.out.inF))))
set_option maxHeartbeats 1000000 in
set_option maxRecDepth 100000 in
theorem join_no (h : TreeM F w g S M z) (hs : Small M) (i ba ca bb cb : Nat) (la lb : List Item) (hm : M[i]? = some (ba, ca, la)) (hm2 : M[i + 1]? = some (bb, cb, lb)) (hno : 4 < la.length + lb.length) :
    Calls Try.prog 29 #[.pointer (some ⟨g, 0, none⟩), .int .i64 (i : Int)] w fun e w' => e = .returned (.tuple #[]) ∧ Below w.heap.size w w' := by
  have hi : i + 1 < M.length := (List.getElem?_eq_some_iff.1 hm2).1
  obtain ⟨sb, c, e1, e2, e3, e4, e5⟩ := h.leafAt hm
  obtain ⟨sb', c', e1', _, e3', _, _⟩ := h.leafAt hm2
  rw [e1] at e1'
  cases e1'
  have c0 := h.c0
  rw [e1] at c0
  have hMb := hs.len
  have hla := hs.each _ (List.mem_of_getElem? hm)
  have hlb := hs.each _ (List.mem_of_getElem? hm2)
  change la.length ≤ _ at hla
  change lb.length ≤ _ at hlb
  change w.cell? _ = some (.slice (some ⟨ba, 0, none⟩) la.length ca) at e3
  change w.cell? _ = some (.slice (some ⟨bb, 0, none⟩) lb.length cb) at e3'
  have hw : IntKind.i64.wrap ((i : Int) + 1) = (i : Int) + 1 := by rw [IntKind.wrap_i64]; omega
  have hw2 : IntKind.i64.wrap ((la.length : Int) + (lb.length : Int)) = (la.length : Int) + (lb.length : Int) := by rw [IntKind.wrap_i64]; omega
  have a1 : (i : Int) + 1 < (M.length : Int) := by omega
  have a2 : (i : Int) < (M.length : Int) := by omega
  have a3 : (0 : Int) ≤ (i : Int) := by omega
  have a4 : (0 : Int) ≤ (i : Int) + 1 := by omega
  have a5 : ¬ (la.length : Int) + (lb.length : Int) ≤ 4 := by omega
  have a6 : ((i : Int) + 1).toNat = i + 1 := by omega
  clear h hs hm hm2
  go_enter Try.func29, Try.ntmps29
  go_wp2
  go_quiet (fail)
  go_wp2
  go_end0
  exact ⟨rfl, pw_below_drewN (Below.refl _ _) nq⟩
def joinT (T : List (List Item)) (i : Nat) : List (List Item) := if i + 1 < T.length ∧ (lf T i).length + (lf T (i + 1)).length ≤ 4 then (T.set i (lf T i ++ lf T (i + 1))).take (i + 1) ++ (T.set i (lf T i ++ lf T (i + 1))).drop (i + 2) else T
theorem tl_set (M : List Leaf) (i : Nat) (m : Leaf) : tl (M.set i m) = (tl M).set i m.2.2 := by unfold tl; rw [List.map_set]
theorem tl_take (M : List Leaf) (i : Nat) : tl (M.take i) = (tl M).take i := by unfold tl; rw [List.map_take]
theorem tl_drop (M : List Leaf) (i : Nat) : tl (M.drop i) = (tl M).drop i := by unfold tl; rw [List.map_drop]
theorem tl_append (M N : List Leaf) : tl (M ++ N) = tl M ++ tl N := by unfold tl; rw [List.map_append]
theorem tl_length (M : List Leaf) : (tl M).length = M.length := by unfold tl; rw [List.length_map]
theorem join_any (h : TreeM F w g S M z) (hs : Small M) (hF : ∀ k, w.heap.size ≤ k → F k) (i : Nat) (hi : i < M.length) :
    Calls Try.prog 29 #[.pointer (some ⟨g, 0, none⟩), .int .i64 (i : Int)] w fun e w' => e = .returned (.tuple #[]) ∧ (∃ S' M', TreeM F w' g S' M' z ∧ tl M' = joinT (tl M) i) ∧ Fr F w w' := by
  obtain ⟨⟨ba, ca, la⟩, hm⟩ : ∃ m, M[i]? = some m := ⟨_, List.getElem?_eq_getElem hi⟩
  by_cases h1 : i + 1 < M.length
  · obtain ⟨⟨bb, cb, lb⟩, hm2⟩ : ∃ m, M[i + 1]? = some m := ⟨_, List.getElem?_eq_getElem h1⟩
    by_cases h2 : la.length + lb.length ≤ 4
    · refine (join_do h hs i ba ca bb cb la lb hm hm2 h2 hF).mono ?_
      rintro e w' ⟨he, ⟨S', g1, c1, ht⟩, hf⟩
      refine ⟨he, ⟨S', _, ht, ?_⟩, hf⟩
      unfold joinT
      rw [lf_tl hm, lf_tl hm2, tl_length, if_pos ⟨h1, h2⟩, tl_append, tl_take, tl_drop, tl_set]
    · refine (join_no h hs i ba ca bb cb la lb hm hm2 (by omega)).mono ?_
      rintro e w' ⟨he, hb⟩
      refine ⟨he, ⟨S, M, h.below hb, ?_⟩, Fr.below hb⟩
      unfold joinT
      rw [lf_tl hm, lf_tl hm2, tl_length, if_neg (fun q => h2 q.2)]
  · refine (join_last h hs i (by omega)).mono ?_
    rintro e w' ⟨he, hb⟩
    refine ⟨he, ⟨S, M, h.below hb, ?_⟩, Fr.below hb⟩
    unfold joinT
    rw [tl_length, if_neg (fun q => h1 q.1)]
end Go.Proofs.Ytmpcmpanolnpfaa.Tr
