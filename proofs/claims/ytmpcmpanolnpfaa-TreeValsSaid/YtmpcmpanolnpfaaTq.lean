/- Tree, by hand: Put, where a leaf parts. -/
import Derived.Test.YtmpcmpanolnpfaaTp
set_option linter.unusedVariables false
set_option linter.unusedSimpArgs false
namespace Go.Proofs.Ytmpcmpanolnpfaa.Tr
open Go.RowKit Go.Proofs.YtmpcmpanolnpfaaW.PrintWords Go.Proofs.YtmpcmpanolnpfaaW.PrintLast Go.Proofs.YtmpcmpanolnpfaaW.PrintMore

variable {F : Nat → Prop} {w : World} {g : Nat} {S : Value} {M : List Leaf} {z : Int}
theorem in_step {W w2 : World} (h2 : TreeM F W g S M z) {i b cap k gb cap2 sb n c : Nat} {l l' : List Item} {x : ByteArray} {v : Value} (hv : v.oneCell' = true) (hm : M[i]? = some (b, cap, l)) (hS : S = .slice (some ⟨sb, 0, none⟩) n c) (hF : ∀ k, W.heap.size ≤ k → F k)
    (hk : k ≤ l.length) (hl' : l' = l.take k ++ [(x, v)] ++ l.drop k) (ho : w2.ownsRow 0 64 2 (.slice (some ⟨gb, 0, none⟩) (l.length + 1) cap2) (l.length + 1) ((flat l).take (k * 2) ++ [.string x, v] ++ (flat l).drop (k * 2)))
    (hg : W.grownBy w2 (some b)) (hgb : gb = b ∨ W.heap.size ≤ gb) :
    TreeM F (w2.setCell ⟨sb, i, none⟩ (.slice (some ⟨gb, 0, none⟩) (l.length + 1) cap2)) g S (M.set i (gb, cap2, l')) z ∧ F gb ∧ Fr F W (w2.setCell ⟨sb, i, none⟩ (.slice (some ⟨gb, 0, none⟩) (l.length + 1) cap2)) := by
  have ok := h2.leaf _ (List.mem_of_getElem? hm)
  have hlen : l'.length = l.length + 1 := by rw [hl']; simp; omega
  have hfl : flat l' = (flat l).take (k * 2) ++ [.string x, v] ++ (flat l).drop (k * 2) := by rw [hl', flat_append, flat_append, flat_take, flat_drop]; rfl
  have hone : ∀ a ∈ l', a.2.oneCell' = true := by
    intro a ha
    rw [hl'] at ha
    simp only [List.mem_append, List.mem_singleton] at ha
    rcases ha with (ha | ha) | ha
    · exact ok.one a (List.mem_of_mem_take ha)
    · subst ha; exact hv
    · exact ok.one a (List.mem_of_mem_drop ha)
  have hFg : F gb := by
    rcases hgb with e | e
    · rw [e]; exact ok.inF
    · exact hF _ e
  have h3 := h2.setLeaf (m' := (gb, cap2, l')) hm hS hg (by
    rw [hfl]
    show w2.ownsRow 0 64 2 (.slice (some ⟨gb, 0, none⟩) l'.length cap2) l'.length _
    rw [hlen]
    exact ho) hone hFg hgb
  rw [show lv (gb, cap2, l') = .slice (some ⟨gb, 0, none⟩) (l.length + 1) cap2 by simp [lv, hlen]] at h3
  exact ⟨h3, hFg, (Fr.grown hg ok.inF).trans (Fr.setCell _ _ _ _ (h2.apart sb (by rw [hS]; rfl)).1)⟩
theorem set_get {M : List Leaf} {i : Nat} {m a : Leaf} (hm : M[i]? = some m) : (M.set i a)[i]? = some a := by
  have hi : i < M.length := (List.getElem?_eq_some_iff.1 hm).1
  simp [hi]
/-- halves, and the first stored -/
theorem half_step {W w4 : World} (h3 : TreeM F W g S M z) {i gb cap2 sb n c g1 c1 g2 c2 N : Nat} {l' : List Item} (hm : M[i]? = some (gb, cap2, l')) (hS : S = .slice (some ⟨sb, 0, none⟩) n c) (hF : ∀ k, W.heap.size ≤ k → F k) (hN : l'.length = N)
    (ho1 : w4.ownsRow W.heap.size 64 2 (.slice (some ⟨g1, 0, none⟩) (N / 2) c1) (N / 2) ((flat l').take (N / 2 * 2))) (ho2 : w4.ownsRow W.heap.size 64 2 (.slice (some ⟨g2, 0, none⟩) (N - N / 2) c2) (N - N / 2) ((flat l').drop (N / 2 * 2)))
    (hne : g1 ≠ g2) (hb : Below W.heap.size W w4) :
    TreeM F (w4.setCell ⟨sb, i, none⟩ (.slice (some ⟨g1, 0, none⟩) (N / 2) c1)) g S (M.set i (g1, c1, l'.take (N / 2))) z ∧ Fr F W (w4.setCell ⟨sb, i, none⟩ (.slice (some ⟨g1, 0, none⟩) (N / 2) c1)) ∧
      LeafOk F (w4.setCell ⟨sb, i, none⟩ (.slice (some ⟨g1, 0, none⟩) (N / 2) c1)) g (g2, c2, l'.drop (N / 2)) ∧ (∀ m ∈ M.set i (g1, c1, l'.take (N / 2)), m.1 ≠ g2) ∧ g2 ≠ sb ∧ W.heap.size ≤ g2 := by
  have ok := h3.leaf _ (List.mem_of_getElem? hm)
  have hsl := h3.rowlt sb (by rw [hS]; rfl)
  have hgl := h3.lt
  have b1 := (ho1.lt g1 rfl).1
  have b2 := (ho2.lt g2 rfl).1
  have l1 : (l'.take (N / 2)).length = N / 2 := by rw [List.length_take, hN]; omega
  have l2 : (l'.drop (N / 2)).length = N - N / 2 := by rw [List.length_drop, hN]
  have h5 := h3.setLeaf (m' := (g1, c1, l'.take (N / 2))) hm hS (below_grown hb _) (by
    rw [flat_take]
    show w4.ownsRow 0 64 2 (.slice (some ⟨g1, 0, none⟩) (l'.take (N / 2)).length c1) (l'.take (N / 2)).length _
    rw [l1]
    exact ownsRow_lower ho1 (Nat.zero_le _)) (fun a ha => ok.one a (List.mem_of_mem_take ha)) (hF _ b1) (.inr b1)
  rw [show lv (g1, c1, l'.take (N / 2)) = .slice (some ⟨g1, 0, none⟩) (N / 2) c1 by simp [lv, l1]] at h5
  refine ⟨h5, (Fr.below hb).trans (Fr.setCell _ _ _ _ (h3.apart sb (by rw [hS]; rfl)).1), ⟨?_, hF _ b2, by show g2 ≠ g; omega, fun a ha => ok.one a (List.mem_of_mem_drop ha)⟩, ?_, by omega, b2⟩
  · rw [flat_drop]
    show World.ownsRow _ 0 64 2 (.slice (some ⟨g2, 0, none⟩) (l'.drop (N / 2)).length c2) (l'.drop (N / 2)).length _
    rw [l2]
    refine ownsRow_same (ownsRow_lower ho2 (Nat.zero_le _)) (fun k e => ?_)
    cases e
    exact Below.heap_setCell w4 _ _ _ (by show g2 ≠ sb; omega)
  · intro m hmm
    rcases List.mem_or_eq_of_mem_set hmm with e | e
    · have := (h3.leaf m e).lt
      omega
    · rw [e]; exact hne
set_option maxHeartbeats 1000000 in
set_option maxRecDepth 100000 in
theorem put_split (h : TreeM F w g S M z) (hs : Small M) (hF : ∀ k, w.heap.size ≤ k → F k) (hz0 : 0 ≤ z) (hz1 : z ≤ 4398046511000) (x : ByteArray) (y : Int) (ht : (findT (tl M) x).2.2 = false)
    (b cap : Nat) (l : List Item) (hm : M[(findT (tl M) x).1]? = some (b, cap, l)) (hk : (findT (tl M) x).2.1 ≤ l.length) (h8 : 8 < l.length + 1) :
    Calls Try.prog 11 #[.pointer (some ⟨g, 0, none⟩), .string x, .int .i64 y] w fun e w' => e = .returned (.bool false) ∧
      (∃ S' b1 c1 b2 c2 l', l' = l.take (findT (tl M) x).2.1 ++ [(x, .int .i64 y)] ++ l.drop (findT (tl M) x).2.1 ∧ TreeM F w' g S' ((M.set (findT (tl M) x).1 (b1, c1, l'.take (l'.length / 2))).take ((findT (tl M) x).1 + 1) ++ [(b2, c2, l'.drop (l'.length / 2))] ++ (M.set (findT (tl M) x).1 (b1, c1, l'.take (l'.length / 2))).drop ((findT (tl M) x).1 + 1)) (z + 1)) ∧ Fr F w w' := by
  have hf := findM h hs x
  rw [ht] at hf
  generalize (findT (tl M) x).1 = i at *
  generalize (findT (tl M) x).2.1 = k at *
  obtain ⟨l', hl'⟩ : ∃ l' : List Item, l' = l.take k ++ [(x, .int .i64 y)] ++ l.drop k := ⟨_, rfl⟩
  have hlen : l'.length = l.length + 1 := by rw [hl']; simp; omega
  have hfl : flat l' = (flat l).take (k * 2) ++ [.string x, .int .i64 y] ++ (flat l).drop (k * 2) := by rw [hl', flat_append, flat_append, flat_take, flat_drop]; rfl
  have HF := Aside0.mk hf
  have H := Aside0.mk h
  obtain ⟨sb, c, e1, e2, e3, e4, e5⟩ := h.leafAt hm
  have ok := h.leaf _ (List.mem_of_getElem? hm)
  have hi : i < M.length := (List.getElem?_eq_some_iff.1 hm).1
  have hpos := hs.pos _ (List.mem_of_getElem? hm)
  change 0 < l.length at hpos
  have c0 := h.c0
  rw [e1] at c0
  have c1 := h.c1
  have z0 := h.fz 0
  have z1 := h.fz 1
  have hgl := h.lt
  have hbl : b < w.heap.size := ok.lt
  change w.cell? _ = some (.slice (some ⟨b, 0, none⟩) l.length cap) at e3
  have hw : IntKind.i64.wrap (z + 1) = z + 1 := by rw [IntKind.wrap_i64]; omega
  have hsbg : sb ≠ g := (h.apart sb (by rw [e1]; rfl)).2.1
  have hsbb : b ≠ sb := (h.apart sb (by rw [e1]; rfl)).2.2 _ (List.mem_of_getElem? hm)
  have hbg : b ≠ g := ok.neg
  have hM0 : ¬ M.length = 0 := by omega
  have a0 : (0 : Int) ≤ (i : Int) := by omega
  have a1 : (i : Int) < (M.length : Int) := by omega
  have hMne : M ≠ [] := by intro e; rw [e] at hi; cases hi
  have a3 : ((M.length : Int) == 0) = false := by simpa using hMne
  have a4 : (8 : Int) < (l.length : Int) + 1 := by omega
  have hlb := hs.each _ (List.mem_of_getElem? hm)
  change l.length ≤ _ at hlb
  have hMb := hs.len
  have hi1 : IntKind.i64.wrap ((i : Int) + 1) = (i : Int) + 1 := by rw [IntKind.wrap_i64]; omega
  have E1 := Aside0.mk e1
  have OK := Aside0.mk ok
  have HM := Aside0.mk hm
  have HFa := Aside0.mk hF
  have HL := Aside0.mk hl'
  have HSm := Aside0.mk hs
  have HFL := Aside0.mk hfl
  have HLE := Aside0.mk hlen
  clear hf h e1 ok hm ht hs hF hl' hfl hlen
  go_enter Try.func11, Try.ntmps11
  go_wp2_with (first
    | (go_at_call 23; refine HF.out.mono ?_; rintro e w1 ⟨rfl, hb⟩; have hsz := hb.size; have h1 := (H.out.below hb).setSize (z + 1); have h2 := h1.below (below_alloc (Below.refl _ _) (.cells #[.string x, .int .i64 y] 64)); have c0 := up hb c0; have c1 := up hb c1; have z0 := upf hb hgl z0; have z1 := upf hb hgl z1; have e3 := up hb e3; have e4 := upf hb e5 e4; have HB := Aside0.mk hb;
       have p0 : (w1.setCell ⟨g, 1, none⟩ (.int .i64 (z + 1))).cell? ⟨g, 0, none⟩ = _ := h1.c0; rw [E1.out] at p0;
       have p3 : (w1.setCell ⟨g, 1, none⟩ (.int .i64 (z + 1))).cell? ⟨sb, i, none⟩ = _ := (World.cell?_of_block (Below.heap_setCell w1 _ _ _ hsbg)).trans e3;
       have hv := heap_alloc_new (w1.setCell ⟨g, 1, none⟩ (.int .i64 (z + 1))) (.cells #[.string x, .int .i64 y] 64); rw [size_setCell] at hv; have HV := Aside0.mk hv; have hvb : w1.heap.size ≠ b := (by omega);
       have H2 := Aside0.mk h2; clear h1 h2 hb hv)
    | (go_at_call 24; refine (insert_any 0 b l.length k cap w1.heap.size (flat l) [.string x, .int .i64 y] 64 _ (H2.out.leaf _ (List.mem_of_getElem? HM.out)).own (Nat.zero_le _) hk hpos (by omega) rfl HV.out hvb (by intro u hu; simp at hu; rcases hu with rfl | rfl <;> rfl) (flat_one (H2.out.leaf _ (List.mem_of_getElem? HM.out)).one)).mono ?_;
       rintro e w2 ⟨gb, cap2, rfl, ho, hg, hgb⟩; obtain ⟨q0, q3, q4, _, _⟩ := H2.out.after HM.out E1.out hg; rw [E1.out] at q0; obtain ⟨h3, hFg, hfr3⟩ := in_step H2.out rfl HM.out E1.out (fun q hq => HFa.out q (Nat.le_trans hsz (Nat.le_trans (by rw [World.size_alloc, size_setCell]; exact Nat.le_succ _) hq))) hk HL.out ho hg hgb;
       have hsz2 : w1.heap.size ≤ w2.heap.size := (by have := hg.size; rw [World.size_alloc, size_setCell] at this; omega);
       have H3 := Aside0.mk h3; have FR3 := Aside0.mk hfr3; clear h3 hfr3 ho hg hgb)
    | (go_at_call 25; refine (halves_any ⟨gb, 0, none⟩ (l.length + 1) cap2 (flat l') _ (by rw [flat_length, HLE.out]) (by have := (H3.out.leaf _ (List.mem_of_getElem? (set_get HM.out))).own.cells (g := gb) rfl; exact this) (flat_one (H3.out.leaf _ (List.mem_of_getElem? (set_get HM.out))).one) (by omega) (by omega)
         (by have := (own_caps (H3.out.leaf _ (List.mem_of_getElem? (set_get HM.out))).own).1; rw [← HLE.out]; exact this) (own_caps (H3.out.leaf _ (List.mem_of_getElem? (set_get HM.out))).own).2.1).mono ?_;
       rintro e w4 ⟨g1, c1, g2, c2, rfl, ho1, ho2, hne, hb⟩; obtain ⟨r0, r3, r4, r5, _⟩ := H3.out.after (set_get HM.out) E1.out (below_grown hb (some gb)); rw [E1.out] at r0; replace r3 : w4.cell? ⟨sb, i, none⟩ = some (.slice (some ⟨gb, 0, none⟩) l'.length cap2) := r3;
       obtain ⟨h5, hfr5, k2, k3, k4, k5⟩ := half_step H3.out (set_get HM.out) E1.out (fun q hq => HFa.out q (by rw [size_setCell] at hq; omega)) HLE.out ho1 ho2 hne hb;
       rw [List.set_set] at h5 k3; have s0 := h5.c0; rw [E1.out] at s0; have s1 := h5.fz 0;
       have h6 := h5.below (below_alloc (Below.refl _ _) (.cells #[.slice (some ⟨g2, 0, none⟩) (l.length + 1 - (l.length + 1) / 2) c2] 65)); have hr6 := h6.row; rw [E1.out, List.length_set] at hr6;
       have hv6 := heap_alloc_new (w4.setCell ⟨sb, i, none⟩ (.slice (some ⟨g1, 0, none⟩) ((l.length + 1) / 2) c1)) (.cells #[.slice (some ⟨g2, 0, none⟩) (l.length + 1 - (l.length + 1) / 2) c2] 65); rw [size_setCell] at hv6;
       have hsl := h6.rowlt sb (by rw [E1.out]; rfl); have hvb6 : w4.heap.size ≠ sb := (by have := H3.out.rowlt sb (by rw [E1.out]; rfl); have := hb.size; omega);
       have hb4 : w2.heap.size ≤ w4.heap.size := (by have := hb.size; rw [size_setCell] at this; exact this);
       have k6 := k2.same (below_alloc (Below.refl _ _) (.cells #[.slice (some ⟨g2, 0, none⟩) (l.length + 1 - (l.length + 1) / 2) c2] 65) |>.block _ k2.lt);
       have H6 := Aside0.mk h6; have FR5 := Aside0.mk hfr5; have K6 := Aside0.mk k6; have K3 := Aside0.mk k3; have HR6 := Aside0.mk hr6; have HV6 := Aside0.mk hv6; clear h5 hfr5 k2 k3 hb ho1 ho2 h6 hr6 hv6 k6 hsl)
    | (go_at_call 26; have hcall := insertL_any 0 sb M.length (i + 1) c w4.heap.size _ [.slice (some ⟨g2, 0, none⟩) (l.length + 1 - (l.length + 1) / 2) c2] 65 _ HR6.out (Nat.zero_le _) (by omega) (by omega) (by omega) rfl HV6.out hvb6 (by intro u hu; simp at hu; subst hu; rfl) (by intro u hu; obtain ⟨q, _, rfl⟩ := List.mem_map.1 hu; rfl);
       rw [show ((i + 1 : Nat) : Int) = (i : Int) + 1 by omega] at hcall; refine hcall.mono ?_; clear hcall;
       rintro e w7 ⟨gs, cs, rfl, ho, hg, hgs⟩;
       have hgne : some g ≠ some sb := (fun e => hsbg (by cases e; rfl));
       have u0 := hg.cell H6.out.c0 hgne; rw [E1.out] at u0;
       have u1 := (World.frozen?_of_block (a := ⟨g, 0, none⟩) (hg.block g H6.out.lt hgne)).trans (H6.out.fz 0);
       have HO := Aside0.mk ho; have HG := Aside0.mk hg; have HGS := Aside0.mk hgs; clear ho hg hgs))
  go_ret
  have hFs : F sb := (H.out.apart sb (by rw [E1.out]; rfl)).1
  have hFgs : F gs := by
    rcases HGS.out with e | e
    · rw [e]; exact hFs
    · refine HFa.out _ ?_
      rw [World.size_alloc, size_setCell] at e
      omega
  have hlv : lv (g2, c2, l'.drop ((l.length + 1) / 2)) = .slice (some ⟨g2, 0, none⟩) (l.length + 1 - (l.length + 1) / 2) c2 := by simp [lv, HLE.out]
  have h7 := H6.out.insertRow (k := i + 1) E1.out K6.out K3.out k4 (by rw [List.length_set, hlv]; exact HO.out) HG.out HGS.out hFgs
  rw [List.length_set] at h7
  refine ⟨rfl, ⟨.slice (some ⟨gs, 0, none⟩) (M.length + 1) cs, g1, c1, g2, c2, l', HL.out, ?_⟩, ?_⟩
  · rw [HLE.out]
    exact h7
  · exact ((((((Fr.below HB.out).trans (Fr.setCell _ _ _ _ H.out.inF)).trans (Fr.alloc _ _)).trans FR3.out).trans FR5.out).trans (Fr.alloc _ _)).trans ((Fr.grown HG.out hFs).trans (Fr.setCell _ _ _ _ H.out.inF))
end Go.Proofs.Ytmpcmpanolnpfaa.Tr
