/- Tree, by hand: trees of ints, over pairs of a key and a number; From's contract. -/
import Derived.Test.YtmpcmpanolnpfaaTx
import Derived.RangeFuncFrom
set_option linter.unusedVariables false
set_option linter.unusedSimpArgs false
namespace Go.Proofs.Ytmpcmpanolnpfaa.Tr
open Go.RowKit Go.Proofs.YtmpcmpanolnpfaaW.PrintWords Go.Proofs.YtmpcmpanolnpfaaW.PrintLast Go.Proofs.YtmpcmpanolnpfaaW.PrintMore
attribute [local go_sem] Oper.semAt_some

/-- a pair of Z -/
abbrev El (Z : List Pair) := { a : Pair // a ∈ Z }
def vals {Z : List Pair} (l : List (El Z)) : List Pair := l.map (·.1)
theorem from_stops (n : Nat) (hn : 1 ≤ n) (bt bk g : Nat) (B : Nat → Prop) (x : ByteArray) (Z : List Pair) (w : World) (hB1 : B bt) (hB2 : B bk) (hlen : Z.length ≤ maxTree) (hT : TreeAt B w g (Z.map zi))
    (h1 : w.cell? ⟨bt, 0, none⟩ = some (.pointer (some ⟨g, 0, none⟩))) (h2 : w.cell? ⟨bk, 0, none⟩ = some (.string x)) :
    SeqStopsK Fence.wide n Try.prog 30 #[.pointer (some ⟨bt, 0, none⟩), .pointer (some ⟨bk, 0, none⟩)] (fun a : El Z => pe a.1) (Kb B) (fun xs => vals xs = fromL Z x) (fun pre => vals pre <+: fromL Z x) Z.length w :=
  fun l J Jx W hW hJ hJx hY h0 => by
    refine (from1 l bt bk g n hn B hB1 hB2 x Z hlen (fun pre W => ∃ q : List (El Z), vals q = pre ∧ J q W) (fun pre W => ∃ q : List (El Z), vals q = pre ∧ Jx q W) (fun pre a W1 ha hq hl => ?_) W
      (fun s A B row hs hg hr => ⟨hs.choose, hs.choose_spec.1, hJ _ A B row hs.choose_spec.2 hg hr⟩) (hT.below hW) (up hW h1) (up hW h2) ⟨[], rfl, h0⟩).mono ?_
    · obtain ⟨q, rfl, hq⟩ := hq
      have hl' : q.length < Z.length := by simpa [vals] using hl
      obtain ⟨fn, tmps, assign, body, hy, hR⟩ := hY q ⟨a, ha⟩ W1 hq hl'
      refine ⟨fn, tmps, assign, body, hy, hR.mono ?_⟩
      rintro e W' (⟨he, h1, h2⟩ | ⟨he, h1⟩)
      · exact .inl ⟨he, ⟨_, by simp [vals], h1⟩, h2⟩
      · exact .inr ⟨he, ⟨_, by simp [vals], h1⟩⟩
    · rintro e W' ⟨hv, ⟨xs, hx, q, hq, hJ⟩ | ⟨pre, hp, q, hq, hJ⟩⟩
      · exact ⟨hv, .inl ⟨q, hq.trans hx, hJ⟩⟩
      · exact ⟨hv, .inr ⟨q, by show vals q <+: _; rw [hq]; exact hp, hJ⟩⟩
/-- a new tree -/
theorem tree_new (w : World) : TreeAt (fun k => w.heap.size ≤ k) (w.alloc (.cells #[.slice none 0 0, .int .i64 0] 28)) w.heap.size [] := by
  refine ⟨.slice none 0 0, [], ?_, ?_, rfl⟩
  · exact { head := heap_alloc_new w _, inF := Nat.le_refl _, row := World.ownsRow_nil _ _ _ _, apart := fun k e => by simp [Value.ownBlock] at e, leaf := fun m hm => (by cases hm), nodup := List.Pairwise.nil }
  · exact { ne := fun l hl => (by cases hl), srt := List.Pairwise.nil }
def belowZ (Z : List Pair) (x : ByteArray) : List Pair := Z.filter fun a => decide (kl a.1 x)
def aboveZ (Z : List Pair) (x : ByteArray) : List Pair := Z.filter fun a => decide (kl x a.1)
def insZ (Z : List Pair) (x : ByteArray) (y : Int) : List Pair := belowZ Z x ++ [(x, y)] ++ aboveZ Z x
def delZ (Z : List Pair) (x : ByteArray) : List Pair := belowZ Z x ++ aboveZ Z x
def hasZ (Z : List Pair) (x : ByteArray) : Bool := Z.any fun a => decide (a.1 = x)
theorem insZ_map (Z : List Pair) (x : ByteArray) (y : Int) : ins (Z.map zi) x (.int .i64 y) = (insZ Z x y).map zi := by
  unfold ins insZ below above belowZ aboveZ
  rw [List.map_append, List.map_append, map_filter_zi Z (fun k => decide (kl k x)), map_filter_zi Z (fun k => decide (kl x k))]
  rfl
theorem delZ_map (Z : List Pair) (x : ByteArray) : del (Z.map zi) x = (delZ Z x).map zi := by
  unfold del delZ below above belowZ aboveZ
  rw [List.map_append, map_filter_zi Z (fun k => decide (kl k x)), map_filter_zi Z (fun k => decide (kl x k))]
theorem hasZ_map (Z : List Pair) (x : ByteArray) : has (Z.map zi) x = hasZ Z x := by
  unfold has hasZ
  rw [List.any_map]
  rfl
variable {F : Nat → Prop} {w w' : World} {g : Nat} {Z : List Pair}
theorem put_int (h : TreeAt F w g (Z.map zi)) (hF : ∀ k, w.heap.size ≤ k → F k) (hb : Z.length ≤ maxTree) (x : ByteArray) (y : Int) :
    Calls Try.prog 11 #[.pointer (some ⟨g, 0, none⟩), .string x, .int .i64 y] w fun e w' => e = .returned (.bool (hasZ Z x)) ∧ TreeAt F w' g ((insZ Z x y).map zi) ∧ Fr F w w' := by
  have := put_any h hF (by rw [List.length_map]; exact hb) x y
  rw [hasZ_map, insZ_map] at this
  exact this
theorem drop_int (h : TreeAt F w g (Z.map zi)) (hF : ∀ k, w.heap.size ≤ k → F k) (hb : Z.length ≤ maxTree) (x : ByteArray) :
    Calls Try.prog 12 #[.pointer (some ⟨g, 0, none⟩), .string x] w fun e w' => e = .returned (.bool (hasZ Z x)) ∧ TreeAt F w' g ((delZ Z x).map zi) ∧ Fr F w w' := by
  have := drop_any h hF (by rw [List.length_map]; exact hb) x
  rw [hasZ_map, delZ_map] at this
  exact this
theorem len_int (h : TreeAt F w g (Z.map zi)) : Calls Try.prog 14 #[.pointer (some ⟨g, 0, none⟩)] w fun e w' => e = .returned (.int .i64 (Z.length : Int)) ∧ w' = w := by
  have := lent h
  rw [List.length_map] at this
  exact this
theorem ex1 : insZ (insZ (insZ [] ⟨#[98]⟩ 1) ⟨#[97]⟩ 2) ⟨#[99]⟩ 3 = [(⟨#[97]⟩, 2), (⟨#[98]⟩, 1), (⟨#[99]⟩, 3)] := by decide +kernel
theorem ex3 : delZ [(⟨#[97]⟩, 2), (⟨#[98]⟩, 1), (⟨#[99]⟩, 3)] ⟨#[98]⟩ = [(⟨#[97]⟩, 2), (⟨#[99]⟩, 3)] := by decide +kernel
theorem ex4 : fromL [(⟨#[97]⟩, 2), (⟨#[99]⟩, 3)] ⟨#[97]⟩ = [(⟨#[97]⟩, 2), (⟨#[99]⟩, 3)] := by decide +kernel
end Go.Proofs.Ytmpcmpanolnpfaa.Tr
