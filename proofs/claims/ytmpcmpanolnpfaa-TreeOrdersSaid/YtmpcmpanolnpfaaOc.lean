/- TreeOrders: what its loops keep. -/
import Derived.Test.YtmpcmpanolnpfaaOb
set_option linter.unusedVariables false
set_option linter.unusedSimpArgs false
namespace Go.Proofs.Ytmpcmpanolnpfaa.Tr
open Go.RowKit Go.Proofs.YtmpcmpanolnpfaaW.PrintWords Go.Proofs.YtmpcmpanolnpfaaW.PrintLast Go.Proofs.YtmpcmpanolnpfaaW.PrintMore

def StrAt (w : World) (A : Option Addr) (l : List ByteArray) : Prop := ∀ i, i < l.length → ∃ ad, A = some ad ∧ w.cell? (ad.add i) = some (.string (kAt l i))
theorem StrAt.up {w w1 : World} (hb : Below w.heap.size w w1) {A : Option Addr} {l : List ByteArray} (h : StrAt w A l) : StrAt w1 A l := fun i hi => by
  obtain ⟨ad, e, h0⟩ := h i hi
  exact ⟨ad, e, Tr.up hb h0⟩
structure OSt (w W : World) (mb n : Nat) (Z : List Pair) : Prop where
  bel : Below w.heap.size w W
  res : Boxed W w.heap.size 4 (.bool false)
  box : Boxed W (mb + 1) 37 (.map (some mb))
  map : MapZ W mb n Z
variable {w W W' : World} {mb n : Nat} {Z : List Pair} {F G : Nat → Prop} {g : Nat} {L : List Item}
theorem OSt.fr (h : OSt w W mb n Z) (hf : Fr F W W') (hm : w.heap.size < mb) (hF : ∀ k, k < W.heap.size → F k → mb + 1 < k) : OSt w W' mb n Z := by
  have h1 := h.res.lt
  have h2 := h.box.lt
  have h3 := h.map.lt
  refine ⟨⟨hf.os.trans h.bel.os, hf.tape.trans h.bel.tape, hf.output.trans h.bel.output, Nat.le_trans h.bel.size hf.size, fun k hk => ?_⟩, ?_, ?_, ?_⟩
  · have h5 := h.bel.size
    exact (hf.block k (by omega) (fun e => by have := hF k (by omega) e; omega)).trans (h.bel.block k hk)
  · exact (hf.block _ h1 (fun e => by have := hF _ h1 e; omega)).trans h.res
  · exact (hf.block _ h2 (fun e => by have := hF _ h2 e; omega)).trans h.box
  · exact h.map.same (hf.block _ h3 (fun e => by have := hF _ h3 e; omega))
theorem TreeAt.fr (h : TreeAt G W g L) (hf : Fr F W W') (hd : ∀ k, G k → ¬ F k) : TreeAt G W' g L := h.kept (fun k hk hl => hf.block k hl (hd k hk))
/-- the map takes a key -/
theorem OSt.put (h : OSt w W mb n Z) (hm : w.heap.size < mb) {W' : World} {Z' : List Pair} (hg : W.grownBy W' (some mb)) (hz : MapZ W' mb (n + 1) Z') : OSt w W' mb (n + 1) Z' := by
  refine ⟨h.bel.grown hg h.bel.size (fun k e => by cases e; omega), h.res.kept hg (fun e => by cases e; omega), h.box.kept hg (fun e => by simp at e), hz⟩
theorem TreeAt.grown {k : Nat} (h : TreeAt G W g L) (hg : W.grownBy W' (some k)) (hk : ¬ G k) : TreeAt G W' g L := h.kept (fun j hj hl => hg.block j hl (fun e => by cases e; exact hk hj))
/-- the world in which the loops begin -/
theorem OSt.new (w W : World) (hb : Below w.heap.size w W) (hr : Boxed W w.heap.size 4 (.bool false)) (X : World)
    (hX : X = (((W.alloc (.map #[] 0)).alloc (.cells #[.map (some W.heap.size)] 37)).alloc (.cells #[.slice none 0 0, .int .i64 0] 28)).alloc (.cells #[.slice none 0 0, .int .i64 0] 28)) :
    OSt w X W.heap.size 0 [] ∧ TreeAt (fun k => k = W.heap.size + 2) X (W.heap.size + 2) [] ∧ TreeAt (fun k => k = W.heap.size + 3) X (W.heap.size + 3) [] ∧ X.heap.size = W.heap.size + 4 := by
  subst hX
  have b1 := below_alloc (Below.refl W.heap.size W) (.map #[] 0)
  have hbx := Boxed.new (W.alloc (.map #[] 0)) 37 (.map (some W.heap.size))
  rw [World.size_alloc] at hbx
  refine ⟨⟨((((hb.alloc hb.size _).alloc (by have := hb.size; simp; omega) _).alloc (by have := hb.size; simp; omega) _).alloc (by have := hb.size; simp; omega) _), (((hr.alloc _).alloc _).alloc _).alloc _, (hbx.alloc _).alloc _, ?_⟩, ?_, ?_, by simp⟩
  · refine (MapZ.new W).same ?_
    have hl : W.heap.size < (W.alloc (.map #[] 0)).heap.size := by simp
    exact (((Below.heap_alloc _ _ _ (by simp; omega)).trans (Below.heap_alloc _ _ _ (by simp; omega))).trans (Below.heap_alloc _ _ _ (by simp)))
  · have h := tree_new ((W.alloc (.map #[] 0)).alloc (.cells #[.map (some W.heap.size)] 37))
    rw [World.size_alloc, World.size_alloc] at h
    exact (h.turn (G := fun k => k = W.heap.size + 2) (fun k hk hq => by simp at hk; omega)).below (below_alloc (Below.refl _ _) _)
  · have h := tree_new (((W.alloc (.map #[] 0)).alloc (.cells #[.map (some W.heap.size)] 37)).alloc (.cells #[.slice none 0 0, .int .i64 0] 28))
    rw [World.size_alloc, World.size_alloc, World.size_alloc] at h
    exact h.turn (G := fun k => k = W.heap.size + 3) (fun k hk hq => by simp at hk; omega)
end Go.Proofs.Ytmpcmpanolnpfaa.Tr
