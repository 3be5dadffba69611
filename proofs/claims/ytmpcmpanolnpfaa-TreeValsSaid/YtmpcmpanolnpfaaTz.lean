/- Tree, by hand: the document's example. -/
import Derived.Test.YtmpcmpanolnpfaaTy
set_option linter.unusedVariables false
set_option linter.unusedSimpArgs false
namespace Go.Proofs.Ytmpcmpanolnpfaa.Tr
open Go.RowKit Go.Proofs.YtmpcmpanolnpfaaW.PrintWords Go.Proofs.YtmpcmpanolnpfaaW.PrintLast Go.Proofs.YtmpcmpanolnpfaaW.PrintMore
attribute [local go_sem] Oper.semAt_some

/-- a tree that was made since the call began -/
structure Cur (w W : World) (g : Nat) (Z : List Pair) : Prop where
  tree : TreeAt (fun k => w.heap.size ≤ k) W g (Z.map zi)
  fr : Fr (fun k => w.heap.size ≤ k) w W
theorem Fr.isBelow {w W : World} (h : Fr (fun k => w.heap.size ≤ k) w W) : Below w.heap.size w W := ⟨h.os, h.tape, h.output, h.size, fun k hk => h.block k hk (by omega)⟩
variable {w W W' : World} {g : Nat} {Z : List Pair}
theorem Cur.put (h : Cur w W g Z) (hb : Z.length ≤ maxTree) (x : ByteArray) (y : Int) : Calls Try.prog 11 #[.pointer (some ⟨g, 0, none⟩), .string x, .int .i64 y] W fun e w' => e = .returned (.bool (hasZ Z x)) ∧ Cur w w' g (insZ Z x y) := by
  refine (put_int h.tree (fun k hk => Nat.le_trans h.fr.size hk) hb x y).mono ?_
  rintro e w' ⟨he, ht, hf⟩
  exact ⟨he, ht, h.fr.trans hf⟩
theorem Cur.drop (h : Cur w W g Z) (hb : Z.length ≤ maxTree) (x : ByteArray) : Calls Try.prog 12 #[.pointer (some ⟨g, 0, none⟩), .string x] W fun e w' => e = .returned (.bool (hasZ Z x)) ∧ Cur w w' g (delZ Z x) := by
  refine (drop_int h.tree (fun k hk => Nat.le_trans h.fr.size hk) hb x).mono ?_
  rintro e w' ⟨he, ht, hf⟩
  exact ⟨he, ht, h.fr.trans hf⟩
theorem Cur.below (h : Cur w W g Z) (hb : Below W.heap.size W W') : Cur w W' g Z := ⟨h.tree.below hb, h.fr.trans (Fr.below hb)⟩
theorem Cur.new (w : World) : Cur w (w.alloc (.cells #[.slice none 0 0, .int .i64 0] 28)) w.heap.size [] := ⟨tree_new w, Fr.alloc _ _⟩
theorem hb1 : (insZ [] ⟨#[98]⟩ 1).length ≤ maxTree := by decide +kernel
theorem hb2 : (insZ (insZ [] ⟨#[98]⟩ 1) ⟨#[97]⟩ 2).length ≤ maxTree := by decide +kernel
theorem hb3 : (insZ (insZ (insZ [] ⟨#[98]⟩ 1) ⟨#[97]⟩ 2) ⟨#[99]⟩ 3).length ≤ maxTree := by decide +kernel
theorem kb_putObj {B : Nat → Prop} {n : Nat} (hB : ∀ k, B k → k < n) (W : World) (l : Nat) (o' : Obj) (hl : n ≤ l) : Kb B W (W.putObj l o') :=
  ⟨by simp, fun k hk _ => World.putObj_heap_other (by have := hB k hk; omega)⟩
theorem kb_setCell {B : Nat → Prop} (W : World) (b i : Nat) (v : Value) (hb : ¬ B b) : Kb B W (W.setCell ⟨b, i, none⟩ v) := ⟨by rw [size_setCell]; exact Nat.le_refl _, fun k hk _ => Below.heap_setCell W _ _ k (fun e => hb (by rw [← show k = b from e]; exact hk))⟩
def catS (pre : List Pair) : ByteArray := pre.foldl (fun s a => s ++ a.1) ⟨#[]⟩
def sumN (pre : List Pair) : Int := pre.foldl (fun s a => wrap64 (s + a.2)) 0
theorem catS_snoc (pre : List Pair) (a : Pair) : catS (pre ++ [a]) = catS pre ++ a.1 := by simp [catS]
theorem sumN_snoc (pre : List Pair) (a : Pair) : sumN (pre ++ [a]) = wrap64 (sumN pre + a.2) := by simp [sumN]
abbrev exZ : List Pair := [(⟨#[97]⟩, 2), (⟨#[99]⟩, 3)]
theorem vals_snoc {Z : List Pair} (pre : List (El Z)) (a : El Z) : vals (pre ++ [a]) = vals pre ++ [a.1] := by simp [vals]
theorem size_app (a b : ByteArray) : (a ++ b).size = a.size + b.size := by simp
theorem ex_key (a : El exZ) : a.1.1.size = 1 := by
  obtain ⟨a, ha⟩ := a
  simp at ha
  rcases ha with rfl | rfl <;> rfl
theorem fold_size {Z : List Pair} {c : Nat} (hZ : ∀ a : El Z, a.1.1.size ≤ c) : ∀ (pre : List (El Z)) (s : ByteArray), ((vals pre).foldl (fun s a => s ++ a.1) s).size ≤ s.size + pre.length * c
  | [], s => by simp [vals]
  | a :: pre, s => by
    have := fold_size hZ pre (s ++ a.1.1)
    rw [size_app] at this
    have h1 := hZ a
    rw [List.length_cons, Nat.add_mul]
    show ((vals pre).foldl _ (s ++ a.1.1)).size ≤ _
    omega
set_option maxRecDepth 100000 in
set_option maxHeartbeats 4000000 in
theorem head_in (w : World) : CallsIn Fence.wide 3 Try.prog 9 #[] w fun e w' => e = .returned (.bool true) ∧ Below w.heap.size w w' := by
  have C0 := Aside0.mk (Cur.new w)
  refine callsIn_of_wp_marks Try.func9 rfl trivial ?_ rfl
  simp only [Try.ntmps9, List.size_toArray, List.length_cons, List.length_nil, Nat.reduceAdd, Nat.reduceSub, Array.replicate_succ, Array.replicate_zero, List.push_toArray, List.append_toArray, List.nil_append, List.cons_append]
  gi_wp2_with (first
    | (refine ⟨trivial, ?_⟩; gi_at_call 11; refine (callsIn_wide.2 (C0.out.put (by decide) ⟨#[98]⟩ 1)).mono ?_; clear C0; rintro e w1 ⟨rfl, hc⟩; have C1 := Aside0.mk hc; clear hc)
    | (refine ⟨trivial, ?_⟩; gi_at_call 11; refine (callsIn_wide.2 (C1.out.put hb1 ⟨#[97]⟩ 2)).mono ?_; clear C1; rintro e w2 ⟨rfl, hc⟩; have C2 := Aside0.mk hc; clear hc)
    | (refine ⟨trivial, ?_⟩; gi_at_call 11; refine (callsIn_wide.2 (C2.out.put hb2 ⟨#[99]⟩ 3)).mono ?_; clear C2; rintro e w3 ⟨rfl, hc⟩; rw [ex1] at hc; have C3 := Aside0.mk hc; clear hc)
    | (refine ⟨trivial, ?_⟩; gi_at_call 12; refine (callsIn_wide.2 (C3.out.drop (by decide) ⟨#[98]⟩)).mono ?_; clear C3; rintro e w4 ⟨rfl, hc⟩; rw [ex3] at hc; have C4 := Aside0.mk hc; clear hc)
    | (refine ⟨trivial, ?_⟩; gi_at_call 14; refine (callsIn_wide.2 (len_int C4.out.tree)).mono ?_; rintro e w5 ⟨rfl, rfl⟩)
    | (refine ⟨trivial, ?_⟩; gi_at_call 13; refine (callsIn_wide.2 (from_any _ _ _)).mono ?_; rintro e w6 ⟨rfl, rfl⟩))
  obtain ⟨W0, hW0⟩ : ∃ W0, W0 = (((w5.alloc (.cells #[.string ⟨#[]⟩] 9)).alloc (.cells #[.int .i64 0] 3)).alloc (.cells #[.pointer (some ⟨w.heap.size, 0, none⟩)] 25)).alloc (.cells #[.string ⟨#[97]⟩] 9) := ⟨_, rfl⟩
  rw [← hW0]
  have hb0 : Below w5.heap.size w5 W0 := by
    rw [hW0]
    exact (((((Below.refl _ _).alloc (Nat.le_refl _) _).alloc (by simp) _).alloc (by simp; omega) _).alloc (by simp; omega) _)
  have hz0 : W0.heap.size = w5.heap.size + 4 := by rw [hW0]; simp
  have b1 : Boxed W0 w5.heap.size 9 (.string ⟨#[]⟩) := by rw [hW0]; exact (((Boxed.new _ _ _).alloc _).alloc _).alloc _
  have b2 : Boxed W0 (w5.heap.size + 1) 3 (.int .i64 0) := by
    rw [hW0]
    have := Boxed.new (w5.alloc (.cells #[.string ⟨#[]⟩] 9)) 3 (.int .i64 0)
    rw [World.size_alloc] at this
    exact (this.alloc _).alloc _
  have b3 : Boxed W0 (w5.heap.size + 2) 25 (.pointer (some ⟨w.heap.size, 0, none⟩)) := by
    rw [hW0]
    have := Boxed.new ((w5.alloc (.cells #[.string ⟨#[]⟩] 9)).alloc (.cells #[.int .i64 0] 3)) 25 (.pointer (some ⟨w.heap.size, 0, none⟩))
    rw [World.size_alloc, World.size_alloc] at this
    exact this.alloc _
  have b4 : Boxed W0 (w5.heap.size + 3) 9 (.string ⟨#[97]⟩) := by
    rw [hW0]
    have := Boxed.new (((w5.alloc (.cells #[.string ⟨#[]⟩] 9)).alloc (.cells #[.int .i64 0] 3)).alloc (.cells #[.pointer (some ⟨w.heap.size, 0, none⟩)] 25)) 9 (.string ⟨#[97]⟩)
    rw [World.size_alloc, World.size_alloc, World.size_alloc] at this
    exact this
  have hw5 := C4.out.fr.size
  have hgl := C4.out.tree.lt
  clear hW0
  have hseq := from_stops 2 (by omega) (w5.heap.size + 2) (w5.heap.size + 3) w.heap.size (fun k => k < w5.heap.size ∨ k = w5.heap.size + 2 ∨ k = w5.heap.size + 3) ⟨#[97]⟩ [(⟨#[97]⟩, 2), (⟨#[99]⟩, 3)] W0 (.inr (.inl rfl)) (.inr (.inr rfl)) (by decide)
    ((C4.out.tree.turn (G := fun k => k < w5.heap.size ∨ k = w5.heap.size + 2 ∨ k = w5.heap.size + 3) (fun k hk _ => .inl hk)).below hb0) b3.cell b4.cell
  refine' wpIn_rangeFunc_ownF rfl (by omega) (gf := 30) (lb := #[.pointer (some ⟨w5.heap.size + 2, 0, none⟩), .pointer (some ⟨w5.heap.size + 3, 0, none⟩)]) rfl trivial (enters_of Try.func30 (by kernel_rfl) rfl) hseq Kb.trans
    (fun W l o o' hl _ _ _ => kb_putObj (n := w5.heap.size + 4) (fun k hk => by omega) W l o' (by omega)) (Below.refl _ _) (fun _ => rfl)
    (fun pre W => (Boxed W w5.heap.size 9 (.string (catS (vals pre))) ∧ Boxed W (w5.heap.size + 1) 3 (.int .i64 (sumN (vals pre)))) ∧ Below w5.heap.size w5 W)
    (fun _ _ _ => False)
    (OwnFrom.and (Own.from (fun s A B row hs hg hr => ⟨boxed_own w5.heap.size 9 (fun pre => .string (catS (vals pre))) s A B row hs.1 hg hr, boxed_own (w5.heap.size + 1) 3 (fun pre => .int .i64 (sumN (vals pre))) s A B row hs.2 hg hr⟩) _) (ownFrom_below (Nat.le_refl _) (by omega)))
    (fun _ _ _ _ _ hs _ _ => hs)
    ⟨⟨b1, b2⟩, hb0⟩ _ ?assign ?body ?done ?stop
  case assign =>
    intro l x W K hK
    dsimp only [pe]
    gi_wp2
    exact hK
  case body =>
    rintro l pre x W ⟨⟨p1, p2⟩, hb⟩ hlen
    have c1 := p1.cell
    have c2 := p2.cell
    have f1 := p1.frozen
    have f2 := p2.frozen
    have hks := ex_key x
    have hcs : (catS (vals pre)).size ≤ 1 := by
      have := fold_size (fun a => Nat.le_of_eq (ex_key a)) pre ⟨#[]⟩
      have h2 : pre.length < 2 := hlen
      have h3 : (⟨#[]⟩ : ByteArray).size = 0 := rfl
      unfold catS
      omega
    obtain ⟨x, hx⟩ := x
    gi_wp2
    have q1 : Boxed (W.setCell ⟨w5.heap.size, 0, none⟩ (.string (catS (vals pre) ++ x.1))) w5.heap.size 9 (.string (catS (vals pre) ++ x.1)) := p1.set _
    have q2 : Boxed (W.setCell ⟨w5.heap.size, 0, none⟩ (.string (catS (vals pre) ++ x.1))) (w5.heap.size + 1) 3 (.int .i64 (sumN (vals pre))) := p2.kept (grownBy_setCell' W _ _) (by simp)
    refine ⟨(KeepsOthers.setCell _ _ _).trans (KeepsOthers.setCell _ _ _), (kb_setCell _ _ _ _ (by simp)).trans (kb_setCell _ _ _ _ (by simp)), ⟨?_, ?_⟩, ?_⟩
    · rw [vals_snoc, catS_snoc]
      exact q1.kept (grownBy_setCell' _ _ _) (by simp)
    · rw [vals_snoc, sumN_snoc]
      exact q2.set _
    · exact (hb.setCell (p := ⟨w5.heap.size, 0, none⟩) (Nat.le_refl _) _).setCell (p := ⟨w5.heap.size + 1, 0, none⟩) (Nat.le_succ _) _
  case done =>
    rintro D ys W hD hys ⟨⟨p1, p2⟩, hb⟩ hK
    replace hys : vals ys = fromL exZ ⟨#[97]⟩ := hys
    rw [ex4] at hys
    rw [hys, show catS [(⟨#[97]⟩, 2), (⟨#[99]⟩, 3)] = ⟨#[97, 99]⟩ by rfl] at p1
    rw [hys, show sumN [(⟨#[97]⟩, 2), (⟨#[99]⟩, 3)] = 5 by decide +kernel] at p2
    have c1 := p1.cell
    have c2 := p2.cell
    have C5 := Aside0.mk (C4.out.below hb)
    gi_wp2_with (first
      | (refine ⟨trivial, ?_⟩; gi_at_call 14; refine (callsIn_wide.2 (len_int C5.out.tree)).mono ?_; rintro e w7 ⟨rfl, rfl⟩))
    refine ⟨by simp, .inl ⟨_, _, rfl, run_takeDeferred hK, ?_⟩⟩
    refine ⟨_, results_tmp rfl _ _ _, rfl, ?_⟩
    exact C5.out.fr.isBelow.trans (belowK_b (w := w) (Nat.le_refl _) _ D _ _ (by omega) hK rfl rfl)
  case stop =>
    rintro D c pre W hD _ h _
    exact h.elim
end Go.Proofs.Ytmpcmpanolnpfaa.Tr
