/- TreeOrders: a row of strings in a box. -/
import Derived.Test.YtmpcmpanolnpfaaOc
set_option linter.unusedVariables false
set_option linter.unusedSimpArgs false
namespace Go.Proofs.Ytmpcmpanolnpfaa.Tr
open Go.RowKit Go.Proofs.YtmpcmpanolnpfaaW.PrintWords Go.Proofs.YtmpcmpanolnpfaaW.PrintLast Go.Proofs.YtmpcmpanolnpfaaW.PrintMore

theorem own_boxS {W W' : World} {row : Option Nat} {B b t : Nat} {v : Value} (h : Boxed W b t v) (hg : W.grownBy W' row) (hr : ∀ r, row = some r → B ≤ r ∧ ∃ o : Obj, W.heap[r]? = some o ∧ o.isCells = false) : Boxed W' b t v :=
  (Own.from (β := Unit) (boxed_own b t (fun _ => v)) B) () _ _ _ h hg hr
theorem own_belowS {w W W' : World} {row : Option Nat} {n B : Nat} (hn : n ≤ w.heap.size) (hB : n ≤ B) (h : Below n w W) (hg : W.grownBy W' row) (hr : ∀ r, row = some r → B ≤ r ∧ ∃ o : Obj, W.heap[r]? = some o ∧ o.isCells = false) : Below n w W' :=
  ownFrom_below (β := Unit) hn hB () _ _ _ h hg hr
theorem two_marksS {w W : World} {D D2 : Nat} (hb : Below w.heap.size w W) (h1 : w.heap.size ≤ D) (h2 : D < D2) (hD : W.heap[D]? = some (.deferred (some []))) (hD2 : W.heap[D2]? = some (.deferred (some []))) :
    (W.putObj D2 (.deferred none)).heap[D]? = some (.deferred (some [])) ∧ Below w.heap.size w ((W.putObj D2 (.deferred none)).putObj D (.deferred none)) := by
  have h3 : (W.putObj D2 (.deferred none)).heap[D]? = some (.deferred (some [])) := (World.putObj_heap_other (by omega)).trans hD
  exact ⟨h3, (hb.trans (belowK_b (w := w) (Nat.le_refl _) _ D2 _ _ (by omega) hD2 rfl rfl)).trans (belowK_b (w := w) (Nat.le_refl _) _ D _ _ (by omega) h3 rfl rfl)⟩
theorem bytes_neS {a b : ByteArray} (h : ¬ a = b) : (a.toList == b.toList) = false := by
  rw [ByteArray.toList_eq, ByteArray.toList_eq]
  simp only [beq_eq_false_iff_ne, ne_eq]
  intro e
  apply h
  cases a
  cases b
  simp at e
  rw [e]
theorem info9 : (Try.prog.info? 9).map (fun i => (i.zero, i.size, i.bytes)) = some (some (.string ⟨#[]⟩), 1, 16) := by kernel_rfl
structure XSt (V : World) (xb : Nat) (W : World) (lb cap : Nat) (L : List ByteArray) : Prop where
  own : W.ownsRow V.heap.size 9 1 (.slice (some ⟨lb, 0, none⟩) L.length cap) L.length (L.map Value.string)
  box : Boxed W xb 36 (.slice (some ⟨lb, 0, none⟩) L.length cap)
  bel : Below V.heap.size V W
variable {V W W' : World} {xb lb cap : Nat} {L : List ByteArray}
theorem XSt.below (h : XSt V xb W lb cap L) (hb : Below W.heap.size W W') : XSt V xb W' lb cap L :=
  ⟨ownsRow_below h.own hb, Boxed.upB h.box hb, h.bel.trans (hb.mono h.bel.size)⟩
theorem XSt.cell {k : Nat} (h : XSt V xb W lb cap L) (hk : k < L.length) : W.cell? ⟨lb, k, none⟩ = some (.string L[k]) := by
  have := h.own.cells (g := lb) rfl k (.string L[k]) (by rw [List.getElem?_map, List.getElem?_eq_getElem hk]; rfl)
  rw [Addr.add_lit, Nat.zero_add] at this
  exact this
theorem XSt.new (V : World) : XSt V (V.heap.size + 1) ((V.alloc (.cells #[] 9)).alloc (.cells #[.slice (some ⟨V.heap.size, 0, none⟩) 0 0] 36)) V.heap.size 0 [] := by
  refine ⟨ownsRow_below (World.ownsRow_lit (base := V.heap.size) (e := 9) (size := 1) V #[] 0 (Nat.le_refl _) (Nat.zero_le _) rfl) (below_alloc (Below.refl _ _) _), ?_, ((Below.refl _ _).alloc (Nat.le_refl _) _).alloc (by simp) _⟩
  have := Boxed.new (V.alloc (.cells #[] 9)) 36 (.slice (some ⟨V.heap.size, 0, none⟩) 0 0)
  rw [World.size_alloc] at this
  exact this
theorem row_cells {base e s n : Nat} {xs : List Value} {W : World} {lb cap : Nat} (h : W.ownsRow base e s (.slice (some ⟨lb, 0, none⟩) n cap) n xs) : ∃ o : Obj, W.heap[lb]? = some o ∧ o.isCells = true := by
  rcases h.2 with ⟨e, _⟩ | ⟨g, c', cur, e, _, hh, _⟩
  · cases e
  · cases e
    exact ⟨_, hh, rfl⟩
theorem XSt.ownG (h : XSt V xb W lb cap L) {row : Option Nat} (hg : W.grownBy W' row) (hr : ∀ r, row = some r → V.heap.size ≤ r ∧ ∃ o : Obj, W.heap[r]? = some o ∧ o.isCells = false) : XSt V xb W' lb cap L := by
  refine ⟨ownsRow_same h.own (fun k e => ?_), own_boxS h.box hg hr, own_belowS (Nat.le_refl _) (Nat.le_refl _) h.bel hg hr⟩
  cases e
  obtain ⟨o, h1, h2⟩ := row_cells h.own
  refine hg.block lb (Array.getElem?_eq_some_iff.1 h1).1 (fun e => ?_)
  obtain ⟨_, o', h3, h4⟩ := hr lb e.symm
  rw [h1] at h3
  cases h3
  rw [h2] at h4
  cases h4
theorem XSt.add {W1 : World} {g cap1 : Nat} {x : ByteArray} (h : XSt V xb W lb cap L) (hxb : V.heap.size ≤ xb)
    (ho : W1.ownsRow V.heap.size 9 1 (.slice (some ⟨g, 0, none⟩) (L.length + 1) cap1) (L.length + 1) (L.map Value.string ++ [.string x])) (hg : W.grownBy W1 (some lb)) :
    XSt V xb (W1.setCell ⟨xb, 0, none⟩ (.slice (some ⟨g, 0, none⟩) (L.length + 1) cap1)) g cap1 (L ++ [x]) := by
  have n1 : some xb ≠ some lb := Boxed.not_row h.box (by decide) h.own
  have b1 : Boxed W1 xb 36 (.slice (some ⟨lb, 0, none⟩) L.length cap) := h.box.kept hg n1
  have n2 : some xb ≠ some g := Boxed.not_row b1 (by decide) ho
  have hfp : L.map Value.string ++ [Value.string x] = (L ++ [x]).map Value.string := by simp
  rw [hfp] at ho
  have hl : (L ++ [x]).length = L.length + 1 := by simp
  refine ⟨?_, ?_, ?_⟩
  · rw [hl]
    exact ownsRow_same ho (fun k e => by cases e; exact Below.heap_setCell W1 _ _ _ (fun e2 => n2 (congrArg some (show g = xb from e2).symm)))
  · rw [hl]
    exact b1.set _
  · have hlb := h.own.lt lb rfl
    exact ((h.bel.grown hg h.bel.size (fun k e => by cases e; exact hlb.1))).setCell (p := ⟨xb, 0, none⟩) hxb _
theorem app36 {F : Fence} {k : Nat} {ops : Array Oper} {rest : List Oper} {o : Oper} {a : Act} {Q : Exit → Act → World → Prop} (w : World) (hgd : o.guard = none) (s x : Operand)
    (ho : o.op = .call { callee := .builtin .append, args := #[s, x], argTypes := #[36, 36] })
    (base lb n cap : Nat) (xs : List Value) (hs : a.eval s = .slice (some ⟨lb, 0, none⟩) n cap) (hown : w.ownsRow base 9 1 (.slice (some ⟨lb, 0, none⟩) n cap) n xs)
    (ad : Addr) (m c : Nat) (news : List Value) (hx : a.eval x = .slice (some ad) m c) (hl : news.length = m * 1) (hnews : ∀ j u, news[j]? = some u → w.cell? (ad.add j) = some u) (h1 : ∀ u ∈ news, u.oneCell' = true)
    (hnm : n + m ≤ 1000000) (hbase : base ≤ w.heap.size)
    (h : ∀ g cap' w', w'.ownsRow base 9 1 (.slice (some ⟨g, 0, none⟩) (n + m) cap') (n + m) (xs ++ news) → w.grownBy w' (some lb) → (g = lb ∨ g = w.heap.size) → wpListIn F k Try.prog ops Q rest (a.put o.dst (.slice (some ⟨g, 0, none⟩) (n + m) cap')) w') : wpListIn F k Try.prog ops Q (o :: rest) a w := by
  obtain ⟨i0, hi0, hz0, hs0, hb0⟩ := info_parts info9
  refine wpListIn_append_own_at (P := Try.prog) w hgd s x 36 ho base 9 i0 _ 1 16 Try.underlying36 hi0 hz0 hs0 hb0 rfl (by decide) _ n xs hs hown ad m c news hx hl hnews h1 (by simp only [maxLen]; omega) (by omega) hbase ?_
  intro v' w' h2 h3 h4 h5
  rcases h2.2 with ⟨e, _⟩ | ⟨g, cap', cur, e, _⟩
  · have := (h4.1 e).1
    cases this
  · subst e
    refine h g cap' w' h2 h3 ?_
    rcases h5 with e | e
    · exact .inl (by simpa [Value.ownBlock] using e)
    · exact .inr (by simpa [Value.ownBlock] using e)
theorem Kb.grown {B : Nat → Prop} {W W1 : World} {lb : Nat} (h : W.grownBy W1 (some lb)) (hb : ¬ B lb) : Kb B W W1 := ⟨h.size, fun k hk hl => h.block k hl (fun e => by cases e; exact hb hk)⟩
end Go.Proofs.Ytmpcmpanolnpfaa.Tr
