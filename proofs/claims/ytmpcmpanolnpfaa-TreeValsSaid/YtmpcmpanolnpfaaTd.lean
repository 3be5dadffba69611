/- Tree, by hand: Drop. -/
import Derived.Test.YtmpcmpanolnpfaaTo
set_option linter.unusedVariables false
set_option linter.unusedSimpArgs false
namespace Go.Proofs.Ytmpcmpanolnpfaa.Tr
open Go.RowKit Go.Proofs.YtmpcmpanolnpfaaW.PrintWords Go.Proofs.YtmpcmpanolnpfaaW.PrintLast Go.Proofs.YtmpcmpanolnpfaaW.PrintMore

variable {F : Nat → Prop} {w : World} {g : Nat} {S : Value} {M : List Leaf} {z : Int}
set_option maxHeartbeats 1000000 in
theorem drop_nil (x : ByteArray) (w : World) : Calls Try.prog 12 #[.pointer none, .string x] w fun e w' => e = .returned (.bool false) ∧ w' = w := by
  go_enter Try.func12, Try.ntmps12
  go_wp2_with (go_at_call 23; refine (find_nil x _).mono ?_; rintro e w1 ⟨rfl, rfl⟩)
  go_ret
  exact ⟨rfl, rfl⟩
set_option maxHeartbeats 1000000 in
theorem drop_no (h : TreeM F w g S M z) (hs : Small M) (x : ByteArray) (ht : (findT (tl M) x).2.2 = false) :
    Calls Try.prog 12 #[.pointer (some ⟨g, 0, none⟩), .string x] w fun e w' => e = .returned (.bool false) ∧ Below w.heap.size w w' := by
  have hf := findM h hs x
  rw [ht] at hf
  have HF := Aside0.mk hf
  clear hf h hs ht
  go_enter Try.func12, Try.ntmps12
  go_wp2_with (go_at_call 23; refine HF.out.mono ?_; rintro e w1 ⟨rfl, hb⟩; have HB := Aside0.mk hb; clear hb)
  go_ret
  exact ⟨rfl, HB.out⟩
theorem del_step {W w3 : World} (h1 : TreeM F W g S M z) {i b cap k sb n c : Nat} {l : List Item} (hm : M[i]? = some (b, cap, l)) (hS : S = .slice (some ⟨sb, 0, none⟩) n c) (hk : k < l.length)
    (ho : w3.ownsRow 0 64 2 (.slice (some ⟨b, 0, none⟩) (l.length - 1) cap) (l.length - 1) ((flat l).take (k * 2) ++ (flat l).drop ((k + 1) * 2))) (hg : W.grownBy w3 (some b)) :
    TreeM F (w3.setCell ⟨sb, i, none⟩ (.slice (some ⟨b, 0, none⟩) (l.length - 1) cap)) g S (M.set i (b, cap, l.take k ++ l.drop (k + 1))) z ∧ Fr F W (w3.setCell ⟨sb, i, none⟩ (.slice (some ⟨b, 0, none⟩) (l.length - 1) cap)) := by
  have ok := h1.leaf _ (List.mem_of_getElem? hm)
  have hlen : (l.take k ++ l.drop (k + 1)).length = l.length - 1 := by simp; omega
  have h4 := h1.setLeaf (m' := (b, cap, l.take k ++ l.drop (k + 1))) hm hS hg (by
    rw [flat_append, flat_take, flat_drop]
    show w3.ownsRow 0 64 2 (.slice (some ⟨b, 0, none⟩) (l.take k ++ l.drop (k + 1)).length cap) (l.take k ++ l.drop (k + 1)).length _
    rw [hlen]
    exact ho) (fun a ha => (List.mem_append.1 ha).elim (fun q => ok.one a (List.mem_of_mem_take q)) (fun q => ok.one a (List.mem_of_mem_drop q))) ok.inF (.inl rfl)
  rw [show lv (b, cap, l.take k ++ l.drop (k + 1)) = .slice (some ⟨b, 0, none⟩) (l.length - 1) cap by simp only [lv, hlen]] at h4
  exact ⟨h4, (Fr.grown hg ok.inF).trans (Fr.setCell _ _ _ _ (h1.apart sb (by rw [hS]; rfl)).1)⟩
set_option maxHeartbeats 1000000 in
set_option maxRecDepth 100000 in
theorem drop_one (h : TreeM F w g S M z) (hs : Small M) (hF : ∀ k, w.heap.size ≤ k → F k) (hz0 : 0 ≤ z) (hz1 : z ≤ 4398046511000) (x : ByteArray) (ht : (findT (tl M) x).2.2 = true)
    (b cap : Nat) (l : List Item) (hm : M[(findT (tl M) x).1]? = some (b, cap, l)) (h1l : l.length = 1) :
    Calls Try.prog 12 #[.pointer (some ⟨g, 0, none⟩), .string x] w fun e w' => e = .returned (.bool true) ∧
      (∃ S', TreeM F w' g S' (M.take (findT (tl M) x).1 ++ M.drop ((findT (tl M) x).1 + 1)) (z - 1)) ∧ Fr F w w' := by
  have hf := findM h hs x
  obtain ⟨t1, t2, _⟩ := findT_there (tl M) x ht
  rw [lf_tl hm] at t2
  rw [ht] at hf
  generalize (findT (tl M) x).1 = i at *
  generalize (findT (tl M) x).2.1 = k at *
  change k < l.length at t2
  have HF := Aside0.mk hf
  have H := Aside0.mk h
  obtain ⟨sb, c, e1, e2, e3, e4, e5⟩ := h.leafAt hm
  have ok := h.leaf _ (List.mem_of_getElem? hm)
  have hi : i < M.length := (List.getElem?_eq_some_iff.1 hm).1
  have c0 := h.c0
  rw [e1] at c0
  have c1 := h.c1
  have z1 := h.fz 1
  have hgl := h.lt
  have hMb := hs.len
  have hlb := hs.each _ (List.mem_of_getElem? hm)
  change l.length ≤ _ at hlb
  change w.cell? _ = some (.slice (some ⟨b, 0, none⟩) l.length cap) at e3
  have hw : IntKind.i64.wrap (z - 1) = z - 1 := by rw [IntKind.wrap_i64]; omega
  have hwk : IntKind.i64.wrap ((k : Int) + 1) = (k : Int) + 1 := by rw [IntKind.wrap_i64]; omega
  have hwi : IntKind.i64.wrap ((i : Int) + 1) = (i : Int) + 1 := by rw [IntKind.wrap_i64]; omega
  have hsbg : sb ≠ g := (h.apart sb (by rw [e1]; rfl)).2.1
  have hgsb : g ≠ sb := fun e => hsbg e.symm
  have a0 : (0 : Int) ≤ (i : Int) := by omega
  have a1 : (i : Int) < (M.length : Int) := by omega
  have L0 : Aside0 (l.length - 1 = 0) := ⟨by omega⟩
  clear h1l
  have E1 := Aside0.mk e1
  have HM := Aside0.mk hm
  have HFa := Aside0.mk hF
  have HSm := Aside0.mk hs
  clear hf h e1 ok hm ht hs hF
  go_enter Try.func12, Try.ntmps12
  go_wp2_with (go_at_call 23; refine HF.out.mono ?_; rintro e w1 ⟨rfl, hb⟩; have hsz := hb.size; have h1 := (H.out.below hb).setSize (z - 1); have c0 := up hb c0; have c1 := up hb c1; have z1 := upf hb hgl z1; have e3 := up hb e3; have e4 := upf hb e5 e4; have HB := Aside0.mk hb; have H1 := Aside0.mk h1; clear h1 hb)
  have p0 : (w1.setCell ⟨g, 1, none⟩ (.int .i64 (z - 1))).drew.cell? ⟨g, 0, none⟩ = some (.slice (some ⟨sb, 0, none⟩) M.length c) := by rw [← E1.out]; exact H1.out.c0
  have p3 : (w1.setCell ⟨g, 1, none⟩ (.int .i64 (z - 1))).drew.cell? ⟨sb, i, none⟩ = some (.slice (some ⟨b, 0, none⟩) l.length cap) := (World.cell?_of_block (Below.heap_setCell w1 ⟨g, 1, none⟩ _ _ hsbg)).trans e3
  have H1' : Aside0 (TreeM F (w1.setCell ⟨g, 1, none⟩ (.int .i64 (z - 1))).drew g S M (z - 1)) := ⟨H1.out.below (belowDrew (Below.refl _ _))⟩
  refine wp_region_held_drew (S := (fun w1 => w1.cell? ⟨g, 0, none⟩ = some (.slice (some ⟨sb, 0, none⟩) M.length c))) (by kernel_rfl) (by (try dsimp only); exact p0) (fun hHeld => ?_)
  refine wpAnyH_take (i := 0) (v := ?_) rfl (by kernel_rfl) (by kernel_rfl) (by kernel_rfl) (fun _ _ _ h => h) (Or.inl ⟨by rfl, ?_⟩) (by assumption) ?_
  rotate_left
  · intro w hSw; (try dsimp only at hSw); go_simp; (try with_reducible rfl)
  try simp only [Act.put, List.setIfInBounds_toArray, List.set_cons_zero, List.set_cons_succ]
  refine wpAnyH_take (i := 1) (v := ?_) rfl (by kernel_rfl) (by kernel_rfl) (by kernel_rfl) (fun _ _ _ h => h) (Or.inl ⟨by rfl, ?_⟩) (by assumption) ?_
  rotate_left
  · intro w hSw; (try dsimp only at hSw); go_simp; (try with_reducible rfl)
  try simp only [Act.put, List.setIfInBounds_toArray, List.set_cons_zero, List.set_cons_succ]
  refine wpAnyH_take (i := 2) (v := ?_) rfl (by kernel_rfl) (by kernel_rfl) (by kernel_rfl) (fun _ _ _ h => h) (Or.inl ⟨by rfl, ?_⟩) (by assumption) ?_
  rotate_left
  · intro w hSw; (try dsimp only at hSw); go_simp; (try with_reducible rfl)
  try simp only [Act.put, List.setIfInBounds_toArray, List.set_cons_zero, List.set_cons_succ]
  refine wpAnyH_take (i := 3) (v := ?_) rfl (by kernel_rfl) (by kernel_rfl) (by kernel_rfl) (fun _ _ _ h => h) (Or.inl ⟨by rfl, ?_⟩) (by assumption) ?_
  rotate_left
  · intro w hSw; (try dsimp only at hSw); go_simp; (try with_reducible rfl)
  try simp only [Act.put, List.setIfInBounds_toArray, List.set_cons_zero, List.set_cons_succ]
  refine wpAnyH_take (i := 4) (v := ?_) rfl (by kernel_rfl) (by kernel_rfl) (by kernel_rfl) (fun _ _ _ h => h) (Or.inl ⟨by rfl, ?_⟩) (by assumption) ?_
  rotate_left
  · intro w hSw; (try dsimp only at hSw); go_simp; (try with_reducible rfl)
  try simp only [Act.put, List.setIfInBounds_toArray, List.set_cons_zero, List.set_cons_succ]
  refine wpAnyH_take (i := 5) (v := ?_) rfl (by kernel_rfl) (by kernel_rfl) (by kernel_rfl) (fun _ _ _ h => h) (Or.inl ⟨by rfl, ?_⟩) (by assumption) ?_
  rotate_left
  · intro w hSw; (try dsimp only at hSw); go_simp; (try with_reducible rfl)
  try simp only [Act.put, List.setIfInBounds_toArray, List.set_cons_zero, List.set_cons_succ]
  refine wpAnyH_take (i := 6) (v := ?_) rfl (by kernel_rfl) (by kernel_rfl) (by kernel_rfl) (fun _ _ _ h => h) (Or.inl ⟨by rfl, ?_⟩) (by assumption) ?_
  rotate_left
  · intro w hSw; (try dsimp only at hSw); go_simp; (try with_reducible rfl)
  try simp only [Act.put, List.setIfInBounds_toArray, List.set_cons_zero, List.set_cons_succ]
  refine wpAnyH_take (i := 7) (v := ?_) rfl (by kernel_rfl) (by kernel_rfl) (by kernel_rfl) (fun _ _ _ h => h) (Or.inl ⟨by rfl, ?_⟩) (by assumption) ?_
  rotate_left
  · intro w hSw; (try dsimp only at hSw); go_simp; (try with_reducible rfl)
  try simp only [Act.put, List.setIfInBounds_toArray, List.set_cons_zero, List.set_cons_succ]
  refine wpAnyH_take (i := 8) (v := ?_) rfl (by kernel_rfl) (by kernel_rfl) (by kernel_rfl) (fun _ _ _ h => h) (Or.inl ⟨by rfl, ?_⟩) (by assumption) ?_
  rotate_left
  · intro w hSw; (try dsimp only at hSw); go_simp; (try with_reducible rfl)
  try simp only [Act.put, List.setIfInBounds_toArray, List.set_cons_zero, List.set_cons_succ]
  refine wpAnyH_take (i := 9) (v := ?_) rfl (by kernel_rfl) (by kernel_rfl) (by kernel_rfl) (fun _ _ _ h => h) (Or.inl ⟨by rfl, ?_⟩) (by assumption) ?_
  rotate_left
  · intro w hSw; (try dsimp only at hSw); go_simp; (try with_reducible rfl)
  try simp only [Act.put, List.setIfInBounds_toArray, List.set_cons_zero, List.set_cons_succ]
  refine wpAnyH_take (i := 10) (v := ?_) rfl (by kernel_rfl) (by kernel_rfl) (by kernel_rfl) (fun _ _ _ h => h) (Or.inl ⟨by rfl, ?_⟩) (by assumption) ?_
  rotate_left
  · intro w hSw; (try dsimp only at hSw); go_simp; (try with_reducible rfl)
  try simp only [Act.put, List.setIfInBounds_toArray, List.set_cons_zero, List.set_cons_succ]
  refine wpAnyH_take (i := 12) (v := ?_) rfl (by kernel_rfl) (by kernel_rfl) (by kernel_rfl) (fun _ _ _ h => h) (Or.inl ⟨by rfl, ?_⟩) (by assumption) ?_
  rotate_left
  · intro w hSw; (try dsimp only at hSw); go_simp; (try with_reducible rfl)
  try simp only [Act.put, List.setIfInBounds_toArray, List.set_cons_zero, List.set_cons_succ]
  refine wpAnyH_take (i := 13) (v := ?_) rfl (by kernel_rfl) (by kernel_rfl) (by kernel_rfl) (fun _ _ _ h => h) (Or.inl ⟨by rfl, ?_⟩) (by assumption) ?_
  rotate_left
  · intro w hSw; (try dsimp only at hSw); go_simp; (try with_reducible rfl)
  try simp only [Act.put, List.setIfInBounds_toArray, List.set_cons_zero, List.set_cons_succ]
  refine wpAnyH_take (i := 14) (v := ?_) rfl (by kernel_rfl) (by kernel_rfl) (by kernel_rfl) (fun _ _ _ h => h) (Or.inl ⟨by rfl, ?_⟩) (by assumption) ?_
  rotate_left
  · intro w hSw; (try dsimp only at hSw); go_simp; (try with_reducible rfl)
  try simp only [Act.put, List.setIfInBounds_toArray, List.set_cons_zero, List.set_cons_succ]
  refine wpAnyH_ready (rs := [11]) (by kernel_rfl) (by simp) ?_
  refine AllReadyH.cons rfl (fun K hK => ?_) AllReadyH.nil
  go_simp
  refine hK.out _ _ (by (try dsimp only); exact p0) (fun hHeld => ?_)
  clear hK K
  try simp only [Act.put, List.setIfInBounds_toArray, List.set_cons_zero, List.set_cons_succ]
  refine wpAnyH_ready (rs := [15]) (by kernel_rfl) (by simp) ?_
  refine AllReadyH.cons rfl (fun K hK => ?_) AllReadyH.nil
  go_simp
  have hcall := delete_any 0 b l.length k cap (flat l) _ (H1'.out.leaf _ (List.mem_of_getElem? HM.out)).own t2 (flat_one (H1'.out.leaf _ (List.mem_of_getElem? HM.out)).one)
  rw [show ((k + 1 : Nat) : Int) = (k : Int) + 1 by omega] at hcall
  refine hcall.mono ?_
  clear hcall
  rintro e w3 ⟨rfl, ho, hg⟩
  obtain ⟨q0, q3, q4, q5, _⟩ := H1'.out.after HM.out E1.out hg
  replace q3 : w3.cell? ⟨sb, i, none⟩ = some (.slice (some ⟨b, 0, none⟩) l.length cap) := q3
  rw [E1.out] at q0
  obtain ⟨h4, hf4⟩ := del_step H1'.out HM.out E1.out t2 ho hg
  have r0 := h4.c0
  rw [E1.out] at r0
  have r3 : (w3.setCell ⟨sb, i, none⟩ (.slice (some ⟨b, 0, none⟩) (l.length - 1) cap)).cell? ⟨sb, i, none⟩ = some (.slice (some ⟨b, 0, none⟩) (l.length - 1) cap) := by
    obtain ⟨sb', c', e', _, hc, _, _⟩ := h4.leafAt (set_get HM.out)
    rw [E1.out, List.length_set] at e'
    cases e'
    rw [hc]
    simp only [lv]
    rw [show (l.take k ++ l.drop (k + 1)).length = l.length - 1 by simp; omega]
  have H4 := Aside0.mk h4
  have HF4 := Aside0.mk hf4
  clear ho hg h4 hf4
  go_simp
  refine hK.out _ _ (by (try dsimp only); exact q0) (fun hHeld => ?_)
  clear hK K
  try simp only [Act.put, List.setIfInBounds_toArray, List.set_cons_zero, List.set_cons_succ]
  refine wpAnyH_take (i := 16) (v := ?_) rfl (by kernel_rfl) (by kernel_rfl) (by kernel_rfl) (fun _ _ _ h => h) (Or.inl ⟨by rfl, ?_⟩) (by assumption) ?_
  rotate_left
  · intro w hSw; (try dsimp only at hSw); go_simp; (try with_reducible rfl)
  try simp only [Act.put, List.setIfInBounds_toArray, List.set_cons_zero, List.set_cons_succ]
  refine wpAnyH_ready (rs := [17]) (by kernel_rfl) (by simp) ?_
  refine AllReadyH.cons rfl (fun K hK => ?_) AllReadyH.nil
  go_simp
  refine hK.out _ _ (by (try dsimp only); exact r0) (fun hHeld => ?_)
  clear hK K
  try simp only [Act.put, List.setIfInBounds_toArray, List.set_cons_zero, List.set_cons_succ]
  refine wpAnyH_done (by kernel_rfl) ?_ _
  have h4 := H4.out
  have hf4 := HF4.out
  rw [L0.out] at r3 r0 h4 hf4
  rw [L0.out]
  have hr4 := h4.row
  rw [E1.out, List.length_set] at hr4
  have HR4 := Aside0.mk hr4
  have H5 := Aside0.mk h4
  have HF5 := Aside0.mk hf4
  clear hr4 h4 hf4
  go_wp2_with (first
    | (go_at_call 28; have hcall := deleteL_any 0 sb M.length i c _ _ HR4.out hi (by intro u hu; obtain ⟨q, _, rfl⟩ := List.mem_map.1 hu; rfl); rw [show ((i + 1 : Nat) : Int) = (i : Int) + 1 by omega] at hcall; refine hcall.mono ?_; clear hcall;
       rintro e w5 ⟨rfl, ho, hg⟩;
       have hgne : some g ≠ some sb := (fun e => hgsb (by cases e; rfl));
       have u0 := hg.cell H5.out.c0 hgne; rw [E1.out] at u0;
       have u1 := (World.frozen?_of_block (a := ⟨g, 0, none⟩) (hg.block g H5.out.lt hgne)).trans (H5.out.fz 0);
       have HO5 := Aside0.mk ho; have HG := Aside0.mk hg; clear ho hg))
  go_ret
  have hFs : F sb := (H.out.apart sb (by rw [E1.out]; rfl)).1
  have h7 := H5.out.deleteRow (k := i) E1.out (by rw [List.length_set]; exact hi) (by rw [List.length_set]; exact HO5.out) HG.out
  rw [List.length_set, show ∀ a : Leaf, (M.set i a).take i = M.take i from fun a => List.take_set_of_le (Nat.le_refl i), show ∀ a : Leaf, (M.set i a).drop (i + 1) = M.drop (i + 1) from fun a => List.drop_set_of_lt (Nat.lt_succ_self i)] at h7
  exact ⟨rfl, ⟨.slice (some ⟨sb, 0, none⟩) (M.length - 1) c, h7⟩, ((((Fr.below HB.out).trans (Fr.setCell _ _ _ _ H.out.inF)).trans (Fr.drew _)).trans HF5.out).trans ((Fr.grown HG.out hFs).trans (Fr.setCell _ _ _ _ H.out.inF))⟩
set_option maxHeartbeats 1000000 in
set_option maxRecDepth 100000 in
theorem drop_more (h : TreeM F w g S M z) (hs : Small M) (hF : ∀ k, w.heap.size ≤ k → F k) (hz0 : 0 ≤ z) (hz1 : z ≤ 4398046511000) (x : ByteArray) (ht : (findT (tl M) x).2.2 = true)
    (b cap : Nat) (l : List Item) (hm : M[(findT (tl M) x).1]? = some (b, cap, l)) (h2l : 2 ≤ l.length) :
    Calls Try.prog 12 #[.pointer (some ⟨g, 0, none⟩), .string x] w fun e w' => e = .returned (.bool true) ∧
      (∃ S' M', TreeM F w' g S' M' (z - 1) ∧ tl M' = joinT ((tl M).set (findT (tl M) x).1 (l.take (findT (tl M) x).2.1 ++ l.drop ((findT (tl M) x).2.1 + 1))) ((findT (tl M) x).1 - 1)) ∧ Fr F w w' := by
  have hf := findM h hs x
  obtain ⟨t1, t2, _⟩ := findT_there (tl M) x ht
  rw [lf_tl hm] at t2
  rw [ht] at hf
  generalize (findT (tl M) x).1 = i at *
  generalize (findT (tl M) x).2.1 = k at *
  change k < l.length at t2
  have HF := Aside0.mk hf
  have H := Aside0.mk h
  obtain ⟨sb, c, e1, e2, e3, e4, e5⟩ := h.leafAt hm
  have ok := h.leaf _ (List.mem_of_getElem? hm)
  have hi : i < M.length := (List.getElem?_eq_some_iff.1 hm).1
  have c0 := h.c0
  rw [e1] at c0
  have c1 := h.c1
  have z1 := h.fz 1
  have hgl := h.lt
  have hMb := hs.len
  have hlb := hs.each _ (List.mem_of_getElem? hm)
  change l.length ≤ _ at hlb
  change w.cell? _ = some (.slice (some ⟨b, 0, none⟩) l.length cap) at e3
  have hw : IntKind.i64.wrap (z - 1) = z - 1 := by rw [IntKind.wrap_i64]; omega
  have hwk : IntKind.i64.wrap ((k : Int) + 1) = (k : Int) + 1 := by rw [IntKind.wrap_i64]; omega
  have hwi : IntKind.i64.wrap ((i : Int) + 1) = (i : Int) + 1 := by rw [IntKind.wrap_i64]; omega
  have hsbg : sb ≠ g := (h.apart sb (by rw [e1]; rfl)).2.1
  have hgsb : g ≠ sb := fun e => hsbg e.symm
  have a0 : (0 : Int) ≤ (i : Int) := by omega
  have a1 : (i : Int) < (M.length : Int) := by omega
  have L0 : Aside0 (2 ≤ l.length) := ⟨h2l⟩
  clear h2l
  have E1 := Aside0.mk e1
  have HM := Aside0.mk hm
  have HFa := Aside0.mk hF
  have HSm := Aside0.mk hs
  clear hf h e1 ok hm ht hs hF
  go_enter Try.func12, Try.ntmps12
  go_wp2_with (go_at_call 23; refine HF.out.mono ?_; rintro e w1 ⟨rfl, hb⟩; have hsz := hb.size; have h1 := (H.out.below hb).setSize (z - 1); have c0 := up hb c0; have c1 := up hb c1; have z1 := upf hb hgl z1; have e3 := up hb e3; have e4 := upf hb e5 e4; have HB := Aside0.mk hb; have H1 := Aside0.mk h1; clear h1 hb)
  have p0 : (w1.setCell ⟨g, 1, none⟩ (.int .i64 (z - 1))).drew.cell? ⟨g, 0, none⟩ = some (.slice (some ⟨sb, 0, none⟩) M.length c) := by rw [← E1.out]; exact H1.out.c0
  have p3 : (w1.setCell ⟨g, 1, none⟩ (.int .i64 (z - 1))).drew.cell? ⟨sb, i, none⟩ = some (.slice (some ⟨b, 0, none⟩) l.length cap) := (World.cell?_of_block (Below.heap_setCell w1 ⟨g, 1, none⟩ _ _ hsbg)).trans e3
  have H1' : Aside0 (TreeM F (w1.setCell ⟨g, 1, none⟩ (.int .i64 (z - 1))).drew g S M (z - 1)) := ⟨H1.out.below (belowDrew (Below.refl _ _))⟩
  refine wp_region_held_drew (S := (fun w1 => w1.cell? ⟨g, 0, none⟩ = some (.slice (some ⟨sb, 0, none⟩) M.length c))) (by kernel_rfl) (by (try dsimp only); exact p0) (fun hHeld => ?_)
  refine wpAnyH_take (i := 0) (v := ?_) rfl (by kernel_rfl) (by kernel_rfl) (by kernel_rfl) (fun _ _ _ h => h) (Or.inl ⟨by rfl, ?_⟩) (by assumption) ?_
  rotate_left
  · intro w hSw; (try dsimp only at hSw); go_simp; (try with_reducible rfl)
  try simp only [Act.put, List.setIfInBounds_toArray, List.set_cons_zero, List.set_cons_succ]
  refine wpAnyH_take (i := 1) (v := ?_) rfl (by kernel_rfl) (by kernel_rfl) (by kernel_rfl) (fun _ _ _ h => h) (Or.inl ⟨by rfl, ?_⟩) (by assumption) ?_
  rotate_left
  · intro w hSw; (try dsimp only at hSw); go_simp; (try with_reducible rfl)
  try simp only [Act.put, List.setIfInBounds_toArray, List.set_cons_zero, List.set_cons_succ]
  refine wpAnyH_take (i := 2) (v := ?_) rfl (by kernel_rfl) (by kernel_rfl) (by kernel_rfl) (fun _ _ _ h => h) (Or.inl ⟨by rfl, ?_⟩) (by assumption) ?_
  rotate_left
  · intro w hSw; (try dsimp only at hSw); go_simp; (try with_reducible rfl)
  try simp only [Act.put, List.setIfInBounds_toArray, List.set_cons_zero, List.set_cons_succ]
  refine wpAnyH_take (i := 3) (v := ?_) rfl (by kernel_rfl) (by kernel_rfl) (by kernel_rfl) (fun _ _ _ h => h) (Or.inl ⟨by rfl, ?_⟩) (by assumption) ?_
  rotate_left
  · intro w hSw; (try dsimp only at hSw); go_simp; (try with_reducible rfl)
  try simp only [Act.put, List.setIfInBounds_toArray, List.set_cons_zero, List.set_cons_succ]
  refine wpAnyH_take (i := 4) (v := ?_) rfl (by kernel_rfl) (by kernel_rfl) (by kernel_rfl) (fun _ _ _ h => h) (Or.inl ⟨by rfl, ?_⟩) (by assumption) ?_
  rotate_left
  · intro w hSw; (try dsimp only at hSw); go_simp; (try with_reducible rfl)
  try simp only [Act.put, List.setIfInBounds_toArray, List.set_cons_zero, List.set_cons_succ]
  refine wpAnyH_take (i := 5) (v := ?_) rfl (by kernel_rfl) (by kernel_rfl) (by kernel_rfl) (fun _ _ _ h => h) (Or.inl ⟨by rfl, ?_⟩) (by assumption) ?_
  rotate_left
  · intro w hSw; (try dsimp only at hSw); go_simp; (try with_reducible rfl)
  try simp only [Act.put, List.setIfInBounds_toArray, List.set_cons_zero, List.set_cons_succ]
  refine wpAnyH_take (i := 6) (v := ?_) rfl (by kernel_rfl) (by kernel_rfl) (by kernel_rfl) (fun _ _ _ h => h) (Or.inl ⟨by rfl, ?_⟩) (by assumption) ?_
  rotate_left
  · intro w hSw; (try dsimp only at hSw); go_simp; (try with_reducible rfl)
  try simp only [Act.put, List.setIfInBounds_toArray, List.set_cons_zero, List.set_cons_succ]
  refine wpAnyH_take (i := 7) (v := ?_) rfl (by kernel_rfl) (by kernel_rfl) (by kernel_rfl) (fun _ _ _ h => h) (Or.inl ⟨by rfl, ?_⟩) (by assumption) ?_
  rotate_left
  · intro w hSw; (try dsimp only at hSw); go_simp; (try with_reducible rfl)
  try simp only [Act.put, List.setIfInBounds_toArray, List.set_cons_zero, List.set_cons_succ]
  refine wpAnyH_take (i := 8) (v := ?_) rfl (by kernel_rfl) (by kernel_rfl) (by kernel_rfl) (fun _ _ _ h => h) (Or.inl ⟨by rfl, ?_⟩) (by assumption) ?_
  rotate_left
  · intro w hSw; (try dsimp only at hSw); go_simp; (try with_reducible rfl)
  try simp only [Act.put, List.setIfInBounds_toArray, List.set_cons_zero, List.set_cons_succ]
  refine wpAnyH_take (i := 9) (v := ?_) rfl (by kernel_rfl) (by kernel_rfl) (by kernel_rfl) (fun _ _ _ h => h) (Or.inl ⟨by rfl, ?_⟩) (by assumption) ?_
  rotate_left
  · intro w hSw; (try dsimp only at hSw); go_simp; (try with_reducible rfl)
  try simp only [Act.put, List.setIfInBounds_toArray, List.set_cons_zero, List.set_cons_succ]
  refine wpAnyH_take (i := 10) (v := ?_) rfl (by kernel_rfl) (by kernel_rfl) (by kernel_rfl) (fun _ _ _ h => h) (Or.inl ⟨by rfl, ?_⟩) (by assumption) ?_
  rotate_left
  · intro w hSw; (try dsimp only at hSw); go_simp; (try with_reducible rfl)
  try simp only [Act.put, List.setIfInBounds_toArray, List.set_cons_zero, List.set_cons_succ]
  refine wpAnyH_take (i := 12) (v := ?_) rfl (by kernel_rfl) (by kernel_rfl) (by kernel_rfl) (fun _ _ _ h => h) (Or.inl ⟨by rfl, ?_⟩) (by assumption) ?_
  rotate_left
  · intro w hSw; (try dsimp only at hSw); go_simp; (try with_reducible rfl)
  try simp only [Act.put, List.setIfInBounds_toArray, List.set_cons_zero, List.set_cons_succ]
  refine wpAnyH_take (i := 13) (v := ?_) rfl (by kernel_rfl) (by kernel_rfl) (by kernel_rfl) (fun _ _ _ h => h) (Or.inl ⟨by rfl, ?_⟩) (by assumption) ?_
  rotate_left
  · intro w hSw; (try dsimp only at hSw); go_simp; (try with_reducible rfl)
  try simp only [Act.put, List.setIfInBounds_toArray, List.set_cons_zero, List.set_cons_succ]
  refine wpAnyH_take (i := 14) (v := ?_) rfl (by kernel_rfl) (by kernel_rfl) (by kernel_rfl) (fun _ _ _ h => h) (Or.inl ⟨by rfl, ?_⟩) (by assumption) ?_
  rotate_left
  · intro w hSw; (try dsimp only at hSw); go_simp; (try with_reducible rfl)
  try simp only [Act.put, List.setIfInBounds_toArray, List.set_cons_zero, List.set_cons_succ]
  refine wpAnyH_ready (rs := [11]) (by kernel_rfl) (by simp) ?_
  refine AllReadyH.cons rfl (fun K hK => ?_) AllReadyH.nil
  go_simp
  refine hK.out _ _ (by (try dsimp only); exact p0) (fun hHeld => ?_)
  clear hK K
  try simp only [Act.put, List.setIfInBounds_toArray, List.set_cons_zero, List.set_cons_succ]
  refine wpAnyH_ready (rs := [15]) (by kernel_rfl) (by simp) ?_
  refine AllReadyH.cons rfl (fun K hK => ?_) AllReadyH.nil
  go_simp
  have hcall := delete_any 0 b l.length k cap (flat l) _ (H1'.out.leaf _ (List.mem_of_getElem? HM.out)).own t2 (flat_one (H1'.out.leaf _ (List.mem_of_getElem? HM.out)).one)
  rw [show ((k + 1 : Nat) : Int) = (k : Int) + 1 by omega] at hcall
  refine hcall.mono ?_
  clear hcall
  rintro e w3 ⟨rfl, ho, hg⟩
  obtain ⟨q0, q3, q4, q5, _⟩ := H1'.out.after HM.out E1.out hg
  replace q3 : w3.cell? ⟨sb, i, none⟩ = some (.slice (some ⟨b, 0, none⟩) l.length cap) := q3
  rw [E1.out] at q0
  obtain ⟨h4, hf4⟩ := del_step H1'.out HM.out E1.out t2 ho hg
  have r0 := h4.c0
  rw [E1.out] at r0
  have r3 : (w3.setCell ⟨sb, i, none⟩ (.slice (some ⟨b, 0, none⟩) (l.length - 1) cap)).cell? ⟨sb, i, none⟩ = some (.slice (some ⟨b, 0, none⟩) (l.length - 1) cap) := by
    obtain ⟨sb', c', e', _, hc, _, _⟩ := h4.leafAt (set_get HM.out)
    rw [E1.out, List.length_set] at e'
    cases e'
    rw [hc]
    simp only [lv]
    rw [show (l.take k ++ l.drop (k + 1)).length = l.length - 1 by simp; omega]
  have H4 := Aside0.mk h4
  have HF4 := Aside0.mk hf4
  clear ho hg h4 hf4
  go_simp
  refine hK.out _ _ (by (try dsimp only); exact q0) (fun hHeld => ?_)
  clear hK K
  try simp only [Act.put, List.setIfInBounds_toArray, List.set_cons_zero, List.set_cons_succ]
  refine wpAnyH_take (i := 16) (v := ?_) rfl (by kernel_rfl) (by kernel_rfl) (by kernel_rfl) (fun _ _ _ h => h) (Or.inl ⟨by rfl, ?_⟩) (by assumption) ?_
  rotate_left
  · intro w hSw; (try dsimp only at hSw); go_simp; (try with_reducible rfl)
  try simp only [Act.put, List.setIfInBounds_toArray, List.set_cons_zero, List.set_cons_succ]
  refine wpAnyH_ready (rs := [17]) (by kernel_rfl) (by simp) ?_
  refine AllReadyH.cons rfl (fun K hK => ?_) AllReadyH.nil
  go_simp
  refine hK.out _ _ (by (try dsimp only); exact r0) (fun hHeld => ?_)
  clear hK K
  try simp only [Act.put, List.setIfInBounds_toArray, List.set_cons_zero, List.set_cons_succ]
  refine wpAnyH_done (by kernel_rfl) ?_ _
  have l0 : ((((l.length - 1 : Nat)) : Int) == 0) = false := by have := L0.out; simp; omega
  have hs4 : Small (M.set i (b, cap, l.take k ++ l.drop (k + 1))) := by
    refine ⟨fun m hm => ?_, by rw [List.length_set]; exact HSm.out.len, fun m hm => ?_⟩
    · rcases List.mem_or_eq_of_mem_set hm with hm | rfl
      · exact HSm.out.pos m hm
      · have := L0.out; simp; omega
    · rcases List.mem_or_eq_of_mem_set hm with hm | rfl
      · exact HSm.out.each m hm
      · simp; omega
  have HS4 := Aside0.mk hs4
  have hF4 : Aside0 (∀ q, (w3.setCell ⟨sb, i, none⟩ (.slice (some ⟨b, 0, none⟩) (l.length - 1) cap)).heap.size ≤ q → F q) := ⟨fun q hq => HFa.out q (by
    have h1 := HF4.out.size
    have h2 : (w1.setCell ⟨g, 1, none⟩ (.int .i64 (z - 1))).drew.heap.size = w1.heap.size := size_setCell _ _ _
    omega)⟩
  have hwm : IntKind.i64.wrap ((i : Int) - 1) = (i : Int) - 1 := by rw [IntKind.wrap_i64]; omega
  clear hs4
  clear r0 r3 p0 p3
  go_wp2_with (first
    | (go_at_call 29; have hcall := join_any H4.out HS4.out hF4.out (i - 1) (by rw [List.length_set]; omega); first | (rw [show ((i - 1 : Nat) : Int) = 0 by omega] at hcall; refine hcall.mono ?_) | (rw [show ((i - 1 : Nat) : Int) = (i : Int) - 1 by omega] at hcall; refine hcall.mono ?_)
       rintro e w5 ⟨rfl, ⟨S', M', ht, he⟩, hf⟩; have HT5 := Aside0.mk ht; have HE5 := Aside0.mk he; have HF5 := Aside0.mk hf; clear ht he hf hcall))
  all_goals
    go_ret
    refine ⟨rfl, ⟨S', M', HT5.out, ?_⟩, ((((Fr.below HB.out).trans (Fr.setCell _ _ _ _ H.out.inF)).trans (Fr.drew _)).trans HF4.out).trans HF5.out⟩
    rw [HE5.out, tl_set]
end Go.Proofs.Ytmpcmpanolnpfaa.Tr
