/- Tree: the contracts of Put, Drop, Get, Len over the pairs in order. -/
import Derived.Test.YtmpcmpanolnpfaaTv
set_option linter.unusedVariables false
set_option linter.unusedSimpArgs false
namespace Go.Proofs.Ytmpcmpanolnpfaa.Tr
open Go.RowKit Go.Proofs.YtmpcmpanolnpfaaW.PrintWords Go.Proofs.YtmpcmpanolnpfaaW.PrintLast Go.Proofs.YtmpcmpanolnpfaaW.PrintMore

/-- The tree at block g holds L's pairs, in order; its blocks are among F. -/
def TreeAt (F : Nat → Prop) (w : World) (g : Nat) (L : List Item) : Prop := ∃ S M, TreeM F w g S M (L.length : Int) ∧ TOk (tl M) ∧ (tl M).flatten = L
def maxTree : Nat := 4000000000000
variable {F : Nat → Prop} {w w' : World} {g : Nat} {L : List Item}
theorem len_le_flatten {T : List (List Item)} (h : ∀ l ∈ T, l ≠ []) : T.length ≤ T.flatten.length ∧ ∀ l ∈ T, l.length ≤ T.flatten.length := by
  induction T with
  | nil => simp
  | cons a T ih =>
    obtain ⟨i1, i2⟩ := ih (fun l hl => h l (List.mem_cons_of_mem _ hl))
    have := List.length_pos_iff.2 (h a (List.mem_cons_self ..))
    rw [List.flatten_cons, List.length_append, List.length_cons]
    refine ⟨by omega, fun l hl => ?_⟩
    rcases List.mem_cons.1 hl with rfl | hl
    · omega
    · have := i2 l hl; omega
theorem small_of {M : List Leaf} (ht : TOk (tl M)) (hb : (tl M).flatten.length ≤ maxTree) : Small M := by
  obtain ⟨h1, h2⟩ := len_le_flatten ht.ne
  rw [tl_length] at h1
  unfold maxTree at hb
  have hm : ∀ m ∈ M, m.2.2 ∈ tl M := fun m hm => List.mem_map.2 ⟨m, hm, rfl⟩
  exact ⟨fun m hmm => List.length_pos_iff.2 (ht.ne _ (hm m hmm)), by omega, fun m hmm => by have := h2 _ (hm m hmm); omega⟩
theorem TreeAt.kept (h : TreeAt F w g L) (hk : ∀ k, F k → k < w.heap.size → w'.heap[k]? = w.heap[k]?) : TreeAt F w' g L := by
  obtain ⟨S, M, h1, h2⟩ := h
  exact ⟨S, M, h1.kept hk, h2⟩
theorem TreeAt.below (h : TreeAt F w g L) (hb : Below w.heap.size w w') : TreeAt F w' g L := h.kept fun k _ hl => hb.block k hl
theorem TreeAt.srt (h : TreeAt F w g L) : Srt L := by
  obtain ⟨S, M, h1, h2, h3⟩ := h
  rw [← h3]; exact h2.srt
theorem TreeAt.lt (h : TreeAt F w g L) : g < w.heap.size := by
  obtain ⟨S, M, h1, h2, h3⟩ := h
  exact h1.lt
/-- no block of a tree lies beyond the heap: F may be cut there, and grow beyond. -/
theorem LeafOk.turn {G : Nat → Prop} {m : Leaf} (h : LeafOk F w g m) (hFG : ∀ k, k < w.heap.size → F k → G k) : LeafOk G w g m := ⟨h.own, hFG _ h.lt h.inF, h.neg, h.one⟩
theorem TreeAt.turn {G : Nat → Prop} (h : TreeAt F w g L) (hFG : ∀ k, k < w.heap.size → F k → G k) : TreeAt G w g L := by
  obtain ⟨S, M, h1, h2⟩ := h
  exact ⟨S, M, ⟨h1.head, hFG _ h1.lt h1.inF, h1.row, fun k e => ⟨hFG _ (h1.rowlt k e) (h1.apart k e).1, (h1.apart k e).2⟩, fun m hm => (h1.leaf m hm).turn hFG, h1.nodup⟩, h2⟩
theorem put_any (h : TreeAt F w g L) (hF : ∀ k, w.heap.size ≤ k → F k) (hb : L.length ≤ maxTree) (x : ByteArray) (y : Int) :
    Calls Try.prog 11 #[.pointer (some ⟨g, 0, none⟩), .string x, .int .i64 y] w fun e w' => e = .returned (.bool (has L x)) ∧ TreeAt F w' g (ins L x (.int .i64 y)) ∧ Fr F w w' := by
  obtain ⟨S, M, hM, hT, hL⟩ := h
  have hs : Small M := small_of hT (by rw [hL]; exact hb)
  obtain ⟨p1, p2, p3⟩ := putT_law hT x (.int .i64 y)
  have hsrt : Srt L := by rw [← hL]; exact hT.srt
  have hlen := ins_length hsrt x (.int .i64 y)
  rw [hL] at p1 p3
  rw [← p3] at hlen ⊢
  have hok : ∀ T', T' = putT (tl M) x (.int .i64 y) → TOk T' ∧ T'.flatten = ins L x (.int .i64 y) := fun T' e => by
    rw [e]
    exact ⟨⟨p2, by rw [p1]; exact srt_ins hsrt _ _⟩, p1⟩
  unfold maxTree at hb
  have hz0 : (0 : Int) ≤ (L.length : Int) := by omega
  have hz1 : (L.length : Int) ≤ 4398046511000 := by omega
  cases ht : (findT (tl M) x).2.2 with
  | true =>
    rw [ht, if_pos rfl] at hlen
    obtain ⟨t1, t2, _⟩ := findT_there (tl M) x ht
    obtain ⟨⟨b, cap, l⟩, hm, el⟩ := tl_get t1
    refine (put_there hM hs x y ht b cap l hm).mono ?_
    rintro e w' ⟨he, h1, hf⟩
    refine ⟨he, ⟨S, _, by rw [hlen]; exact h1, hok _ ?_⟩, hf⟩
    unfold putT
    rw [if_pos ht, tl_set, el]
  | false =>
    rw [ht, if_neg (by simp)] at hlen
    have hz : ((L.length : Int) + 1) = ((ins L x (.int .i64 y)).length : Int) := by rw [hlen]; omega
    by_cases hM0 : M = []
    · subst hM0
      refine (put_first hM hF hz0 hz1 x y).mono ?_
      rintro e w' ⟨he, ⟨S', b, h1⟩, hf⟩
      rw [hz] at h1
      refine ⟨he, ⟨S', _, h1, hok _ ?_⟩, hf⟩
      rfl
    · obtain ⟨b, cap, l, hm, hk⟩ := findT_le x hM0
      have hT0 : ¬ tl M = [] := by unfold tl; simpa using hM0
      have el := lf_tl hm
      have hl' : ∀ y : Item, (l.take (findT (tl M) x).2.1 ++ [y] ++ l.drop (findT (tl M) x).2.1).length = l.length + 1 := fun y => by simp; omega
      by_cases h8 : l.length + 1 ≤ 8
      · refine (put_in hM hs hF hz0 hz1 x y ht b cap l hm hk h8).mono ?_
        rintro e w' ⟨he, ⟨b', c', h1⟩, hf⟩
        rw [hz] at h1
        refine ⟨he, ⟨S, _, h1, hok _ ?_⟩, hf⟩
        unfold putT
        rw [if_neg (by simp [ht]), if_neg hT0, tl_set, el]
        dsimp only
        rw [if_neg (by rw [hl']; omega)]
      · refine (put_split hM hs hF hz0 hz1 x y ht b cap l hm hk (by omega)).mono ?_
        rintro e w' ⟨he, ⟨S', b1, c1, b2, c2, l', e1, h1⟩, hf⟩
        rw [hz] at h1
        refine ⟨he, ⟨S', _, h1, hok _ ?_⟩, hf⟩
        unfold putT
        rw [if_neg (by simp [ht]), if_neg hT0, tl_append, tl_append, tl_take, tl_drop, tl_set, el, e1]
        dsimp only
        rw [if_pos (by rw [hl']; omega)]
        rfl
theorem drop_any (h : TreeAt F w g L) (hF : ∀ k, w.heap.size ≤ k → F k) (hb : L.length ≤ maxTree) (x : ByteArray) :
    Calls Try.prog 12 #[.pointer (some ⟨g, 0, none⟩), .string x] w fun e w' => e = .returned (.bool (has L x)) ∧ TreeAt F w' g (del L x) ∧ Fr F w w' := by
  obtain ⟨S, M, hM, hT, hL⟩ := h
  have hs : Small M := small_of hT (by rw [hL]; exact hb)
  obtain ⟨p1, p2, p3⟩ := dropT_law hT x
  have hsrt : Srt L := by rw [← hL]; exact hT.srt
  have hlen := del_length hsrt x
  rw [hL] at p1 p3
  rw [← p3] at hlen ⊢
  have hok : ∀ T', T' = dropT (tl M) x → TOk T' ∧ T'.flatten = del L x := fun T' e => by
    rw [e]
    exact ⟨⟨p2, by rw [p1]; exact srt_del hsrt _⟩, p1⟩
  unfold maxTree at hb
  have hz0 : (0 : Int) ≤ (L.length : Int) := by omega
  have hz1 : (L.length : Int) ≤ 4398046511000 := by omega
  cases ht : (findT (tl M) x).2.2 with
  | true =>
    rw [ht, if_pos rfl] at hlen
    obtain ⟨t1, t2, _⟩ := findT_there (tl M) x ht
    obtain ⟨⟨b, cap, l⟩, hm, el⟩ := tl_get t1
    have hlp : 0 < L.length := by
      have := (len_le_flatten hT.ne).1
      rw [hL] at this
      omega
    have hz : ((L.length : Int) - 1) = ((del L x).length : Int) := by rw [hlen]; omega
    by_cases h1l : l.length = 1
    · refine (drop_one hM hs hF hz0 hz1 x ht b cap l hm h1l).mono ?_
      rintro e w' ⟨he, ⟨S', h1⟩, hf⟩
      rw [hz] at h1
      refine ⟨he, ⟨S', _, h1, hok _ ?_⟩, hf⟩
      unfold dropT
      rw [if_pos ht, el]
      dsimp only
      rw [if_pos h1l, tl_append, tl_take, tl_drop]
    · have hl2 : 2 ≤ l.length := by
        have := hs.pos _ (List.mem_of_getElem? hm)
        change 0 < l.length at this
        omega
      refine (drop_more hM hs hF hz0 hz1 x ht b cap l hm hl2).mono ?_
      rintro e w' ⟨he, ⟨S', M', h1, e1⟩, hf⟩
      rw [hz] at h1
      refine ⟨he, ⟨S', M', h1, hok _ ?_⟩, hf⟩
      unfold dropT
      rw [if_pos ht, el, e1]
      dsimp only
      rw [if_neg h1l]
  | false =>
    rw [ht, if_neg (by simp)] at hlen
    refine (drop_no hM hs x ht).mono ?_
    rintro e w' ⟨he, hb'⟩
    refine ⟨he, ⟨S, M, by rw [hlen]; exact hM.below hb', hok _ ?_⟩, Fr.below hb'⟩
    unfold dropT
    rw [if_neg (by simp [ht])]
theorem lent (h : TreeAt F w g L) : Calls Try.prog 14 #[.pointer (some ⟨g, 0, none⟩)] w fun e w' => e = .returned (.int .i64 (L.length : Int)) ∧ w' = w := by
  obtain ⟨S, M, hM, hT, hL⟩ := h
  exact len_any g _ w hM.c1
end Go.Proofs.Ytmpcmpanolnpfaa.Tr
