/- Tree, by hand: Clone. -/
import Derived.Test.YtmpcmpanolnpfaaTz
set_option linter.unusedVariables false
set_option linter.unusedSimpArgs false
namespace Go.Proofs.Ytmpcmpanolnpfaa.Tr
open Go.RowKit Go.Proofs.YtmpcmpanolnpfaaW.PrintWords Go.Proofs.YtmpcmpanolnpfaaW.PrintLast Go.Proofs.YtmpcmpanolnpfaaW.PrintMore

set_option maxHeartbeats 1000000 in
theorem tclone_nil (w : World) : Calls Try.prog 22 #[.pointer none] w fun e w' => e = .returned (.pointer none) ∧ w' = w := by
  go_enter Try.func22, Try.ntmps22
  go_wp2
  go_ret
  exact ⟨rfl, rfl⟩
variable {F : Nat → Prop} {w : World} {g : Nat} {S : Value} {M : List Leaf} {z : Int}
theorem TreeM.new (w : World) (z : Int) : TreeM (fun k => w.heap.size ≤ k) (w.alloc (.cells #[.slice none 0 0, .int .i64 z] 28)) w.heap.size (.slice none 0 0) [] z :=
  { head := heap_alloc_new w _, inF := Nat.le_refl _, row := World.ownsRow_nil _ _ _ _, apart := fun k e => by simp [Value.ownBlock] at e, leaf := fun m hm => (by cases hm), nodup := List.Pairwise.nil }
theorem TreeM.cellAfter {w' : World} (h : TreeM F w g S M z) (hg : w.grownBy w' S.ownBlock) : w'.cell? ⟨g, 0, none⟩ = some S := hg.cell h.c0 (fun e => (h.apart g e.symm).2.1 rfl)
theorem TreeM.fzAfter {w' : World} (h : TreeM F w g S M z) (hg : w.grownBy w' S.ownBlock) : w'.frozen? ⟨g, 0, none⟩ = false := (World.frozen?_of_block (a := ⟨g, 0, none⟩) (hg.block g h.lt (fun e => (h.apart g e.symm).2.1 rfl))).trans (h.fz 0)
theorem clone_step {W W1 W3 : World} {g2 i g1 cap1 gs cs B : Nat} {S2 : Value} {M2 : List Leaf} {l : List Item} (h : TreeM (fun k => B ≤ k) W1 g2 S2 M2 z) (hM : M2.length = i) (hlt : ∀ m ∈ M2, m.1 < W.heap.size) (hS : ∀ k, S2.ownBlock = some k → k < W.heap.size) (hgl : g2 < W.heap.size) (hB : B ≤ W.heap.size)
    (hg1 : W.heap.size ≤ g1) (hg1l : g1 < W1.heap.size) (hown : W1.ownsRow 0 64 2 (.slice (some ⟨g1, 0, none⟩) l.length cap1) l.length (flat l)) (hone : ∀ x ∈ l, x.2.oneCell' = true)
    (ho : W3.ownsRow 0 65 1 (.slice (some ⟨gs, 0, none⟩) (i + 1) cs) (i + 1) (M2.map lv ++ [.slice (some ⟨g1, 0, none⟩) l.length cap1])) (hg : W1.grownBy W3 S2.ownBlock) (hat : S2.ownBlock = some gs ∨ gs = W1.heap.size) (hle : W.heap.size ≤ W1.heap.size) :
    TreeM (fun k => B ≤ k) (W3.setCell ⟨g2, 0, none⟩ (.slice (some ⟨gs, 0, none⟩) (i + 1) cs)) g2 (.slice (some ⟨gs, 0, none⟩) (i + 1) cs) (M2 ++ [(g1, cap1, l)]) z := by
  have hne2 : some g2 ≠ S2.ownBlock := fun e => (h.apart g2 e.symm).2.1 rfl
  have hgs : B ≤ gs ∧ gs ≠ g2 ∧ gs ≠ g1 ∧ ∀ m ∈ M2, m.1 ≠ gs := by
    rcases hat with e | e
    · obtain ⟨a1, a2, a3⟩ := h.apart gs e
      have := hS gs e
      exact ⟨a1, a2, by omega, a3⟩
    · refine ⟨by omega, by omega, by omega, fun m hm => ?_⟩
      have := hlt m hm
      omega
  have hmem : ∀ m ∈ M2 ++ [(g1, cap1, l)], m ∈ M2 ∨ m = (g1, cap1, l) := fun m hm => by
    rcases List.mem_append.1 hm with h | h
    · exact .inl h
    · exact .inr (List.mem_singleton.1 h)
  refine h.setRow (hg.block g2 h.lt hne2) ?_ ?_ ?_ ?_
  · rw [List.length_append, List.length_singleton, hM, List.map_append]
    exact ho
  · intro k hk
    cases hk
    refine ⟨hgs.1, hgs.2.1, fun m hm => ?_⟩
    rcases hmem m hm with hm | rfl
    · exact hgs.2.2.2 m hm
    · exact fun e => hgs.2.2.1 e.symm
  · intro m hm
    rcases hmem m hm with hm | rfl
    · have ok := h.leaf m hm
      exact ok.same (hg.block _ ok.lt (fun e => (h.apart m.1 e.symm).2.2 m hm rfl))
    · have hne : some g1 ≠ S2.ownBlock := fun e => by have := hS g1 e.symm; omega
      exact { own := ownsRow_same hown (fun k e => by cases e; exact hg.block g1 hg1l hne), inF := by show B ≤ g1; omega, neg := by show g1 ≠ g2; omega, one := hone }
  · rw [List.map_append, List.nodup_append]
    refine ⟨h.nodup, by simp, fun a ha b hb => ?_⟩
    obtain ⟨m, hm, rfl⟩ := List.mem_map.1 ha
    simp at hb
    subst hb
    have := hlt m hm
    omega
set_option maxHeartbeats 4000000 in
set_option maxRecDepth 100000 in
theorem tclone_any (h : TreeM F w g S M z) (hs : Small M) : Calls Try.prog 22 #[.pointer (some ⟨g, 0, none⟩)] w fun e w' => e = .returned (.pointer (some ⟨w.heap.size, 0, none⟩)) ∧ (∃ S' M', TreeM (fun k => w.heap.size ≤ k) w' w.heap.size S' M' z ∧ tl M' = tl M) ∧ Below w.heap.size w w' := by
  obtain ⟨i0, hi0, hz0, hs0, hb0⟩ := info_parts info65
  have T0 := Aside0.mk (TreeM.new w z)
  have HB0 : Aside0 (Below w.heap.size w (w.alloc (.cells #[.slice none 0 0, .int .i64 z] 28))) := ⟨below_alloc (Below.refl _ _) _⟩
  obtain ⟨A, c, e1, hlv⟩ := h.leaves hs.pos
  rw [List.length_map] at e1
  have c0 := h.c0
  have c1 := h.c1
  rw [e1] at c0
  have H := Aside0.mk h
  have HS := Aside0.mk hs
  have E1 := Aside0.mk e1
  have hMl := hs.len
  have c0' := up HB0.out c0
  clear h hs e1 hlv
  go_enter Try.func22, Try.ntmps22
  go_wp2
  go_loopg [19] (M.length + 1) (fun kq v19 w' => ∃ (i : Nat) (S2 : Value) (M2 : List Leaf), v19 = .int .i64 (i : Int) ∧ i ≤ M.length ∧ M.length - i < kq ∧ Aside0 (TreeM (fun k => w.heap.size ≤ k) w' w.heap.size S2 M2 z) ∧ Aside0 (tl M2 = (tl M).take i) ∧ Aside0 (Below w.heap.size w w'))
  case atStart => exact ⟨0, .slice none 0 0, [], rfl, by omega, by omega, T0, ⟨rfl⟩, HB0⟩
  case round =>
    obtain ⟨i, S2, M2, rfl, hi, hk, HT, HTl, HB⟩ := hrel
    by_cases hlt : i < M.length
    · obtain ⟨⟨b, cap, l⟩, hm⟩ : ∃ m, M[i]? = some m := ⟨_, List.getElem?_eq_getElem hlt⟩
      obtain ⟨sb, c', f1, f2, f3, f4, f5⟩ := H.out.leafAt hm
      have ok := H.out.leaf _ (List.mem_of_getElem? hm)
      have hAA := E1.out.symm.trans f1
      cases hAA
      change w.cell? _ = some (.slice (some ⟨b, 0, none⟩) l.length cap) at f3
      have f3' := up HB.out f3
      have k0 := HT.out.c0
      have kf := HT.out.fz 0
      have hM2 : M2.length = i := by
        have h := congrArg List.length HTl.out
        rw [List.length_take, tl_length, tl_length] at h
        omega
      have hcs : Aside0 (∀ j u, (flat l)[j]? = some u → wr.drew.cell? ((⟨b, 0, none⟩ : Addr).add j) = some u) := ⟨fun j u hj => up (w := w) (w1 := wr) HB.out (ok.own.cells (g := b) rfl j u hj)⟩
      have hone := Aside0.mk ok.one
      have hpos := HS.out.pos _ (List.mem_of_getElem? hm)
      have hlb := HS.out.each _ (List.mem_of_getElem? hm)
      change 0 < l.length at hpos
      change l.length ≤ _ at hlb
      have hrow := HT.out.row
      rw [hM2] at hrow
      have HR := Aside0.mk hrow
      have hgl := HT.out.lt
      have kd : wr.drew.cell? ⟨w.heap.size, 0, none⟩ = some S2 := k0
      have HMi := Aside0.mk hm
      have hsz := HB.out.size
      clear hrow hm ok f1 f2 f4 f5
      go_wp2
      go_region_law (first
        | (refine step_append_lies _ rfl _ _ 26 rfl 0 65 i0 _ 1 24 Try.underlying26 hi0 hz0 hs0 hb0 rfl (by decide) S2 i (M2.map lv) (by simp [Act.eval, Act.put]) HRw.out ⟨w1.heap.size, 0, none⟩ 1 1 [.slice (some ⟨g1, 0, none⟩) l.length cap1] (by simp [Act.eval, Act.put]) rfl HNw.out (by intro u hu; simp at hu; subst hu; rfl) (Nat.one_pos) (by simp only [maxLen]; omega) (by omega) (Nat.zero_le _) _ rfl ?_
           intro gs cs w3 ho3 hg3 hat hl3
           have HO3 := Aside0.mk ho3
           have HG3 := Aside0.mk hg3
           have HAT := Aside0.mk hat
           have k3 := HTa.out.cellAfter hg3
           have kf3 := HTa.out.fzAfter hg3
           clear ho3 hg3 hat)
        | (rw [if_pos (by rfl)]; go_simp; refine (clone_any ⟨b, 0, none⟩ l.length cap (flat l) _ (flat_length l) hcs.out (flat_one hone.out) hpos (by omega)).mono ?_
           rintro e w1 ⟨g1, cap1, rfl, ho, hb⟩
           have q0 := up hb kd
           have hba : Below w1.heap.size w1 (w1.alloc (.cells #[.slice (some ⟨g1, 0, none⟩) l.length cap1] 65)) := below_alloc (Below.refl _ _) _
           have q1 := up hba q0
           have HTa := Aside0.mk (((HT.out.below (belowDrew (Below.refl _ _))).below hb).below hba)
           have HRw := Aside0.mk (ownsRow_below (ownsRow_below (ownsRow_below HR.out (belowDrew (Below.refl _ _))) hb) hba)
           have HNw : Aside0 (∀ j u, [Value.slice (some ⟨g1, 0, none⟩) l.length cap1][j]? = some u → (w1.alloc (.cells #[.slice (some ⟨g1, 0, none⟩) l.length cap1] 65)).cell? ((⟨w1.heap.size, 0, none⟩ : Addr).add j) = some u) := ⟨fun j u hj => cells_of_heap (heap_alloc_new w1 _) 0 j u (by simpa using hj)⟩
           have HO := Aside0.mk ho
           have HB1 := Aside0.mk hb
           clear ho hb hba))
      all_goals
        have hw1 : wr.heap.size ≤ w1.heap.size := HB1.out.size
        have hg1 := HO.out.lt g1 rfl
        have hsb : (w1.alloc (.cells #[.slice (some ⟨g1, 0, none⟩) l.length cap1] 65)).heap.size = w1.heap.size + 1 := World.size_alloc _ _
        have h4 := clone_step (W := wr) HTa.out hM2 (fun m hm => (HT.out.leaf m hm).lt) (fun k e => HT.out.rowlt k e) hgl HB.out.size hg1.1 (by omega) (ownsRow_below (ownsRow_lower HO.out (Nat.zero_le _)) (below_alloc (Below.refl _ _) _)) hone.out HO3.out HG3.out HAT.out (by omega)
        have H4 := Aside0.mk h4
        have hb4 : Below w.heap.size w (w3.setCell ⟨w.heap.size, 0, none⟩ (.slice (some ⟨gs, 0, none⟩) (i + 1) cs)) := by
          refine Below.setCell ?_ (p := ⟨w.heap.size, 0, none⟩) (Nat.le_refl _) _
          refine Below.grown ?_ HG3.out (by rw [World.size_alloc]; exact Nat.le_trans HB.out.size (Nat.le_trans hw1 (Nat.le_succ _))) (fun k e => (HT.out.apart k e).1)
          exact (HB.out.drew.trans (HB1.out.mono HB.out.size)).alloc (Nat.le_trans HB.out.size hw1) _
        have HB4 := Aside0.mk hb4
        have HL4 : Aside0 (tl (M2 ++ [(g1, cap1, l)]) = (tl M).take (i + 1)) := ⟨by
          rw [tl_append, HTl.out, List.take_add_one]
          congr 1
          unfold tl
          rw [List.getElem?_map, HMi.out]
          rfl⟩
        clear h4 hb4 hsb hg1
        go_wp2
        go_roundg (gk - 1)
        case measure => omega
        case rel => exact ⟨i + 1, _, _, by go_num, by omega, by omega, H4, HL4, HB4⟩
    · have hi2 : i = M.length := by omega
      have hl2 := HTl.out
      rw [hi2, List.take_of_length_le (by rw [tl_length]; exact Nat.le_refl _)] at hl2
      have HL2 := Aside0.mk hl2
      clear hl2 hi2
      go_wp2
      go_ret
      exact ⟨rfl, ⟨S2, M2, HT.out, HL2.out⟩, HB.out⟩
theorem clonet {L : List Item} (h : TreeAt F w g L) (hb : L.length ≤ maxTree) : Calls Try.prog 22 #[.pointer (some ⟨g, 0, none⟩)] w fun e w' => e = .returned (.pointer (some ⟨w.heap.size, 0, none⟩)) ∧ TreeAt (fun k => w.heap.size ≤ k) w' w.heap.size L ∧ Below w.heap.size w w' := by
  obtain ⟨S, M, hM, hT, hL⟩ := h
  refine (tclone_any hM (small_of hT (by rw [hL]; exact hb))).mono ?_
  rintro e w' ⟨he, ⟨S', M', h1, h2⟩, hbl⟩
  exact ⟨he, ⟨S', M', h1, by rw [h2]; exact hT, by rw [h2]; exact hL⟩, hbl⟩
end Go.Proofs.Ytmpcmpanolnpfaa.Tr
