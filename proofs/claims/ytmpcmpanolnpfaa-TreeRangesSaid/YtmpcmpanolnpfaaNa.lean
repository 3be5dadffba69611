/- TreeRanges: nil trees; what is wanted; its row. -/
import Derived.Test.YtmpcmpanolnpfaaRc
import Derived.Test.YtmpcmpanolnpfaaCa
import Derived.Test.YtmpcmpanolnpfaaTd
import Derived.Test.YtmpcmpanolnpfaaTg
import Derived.OwnWalkIn
set_option linter.unusedVariables false
set_option linter.unusedSimpArgs false
namespace Go.Proofs.Ytmpcmpanolnpfaa.Tr
open Go.RowKit Go.Proofs.YtmpcmpanolnpfaaW.PrintWords Go.Proofs.YtmpcmpanolnpfaaW.PrintLast Go.Proofs.YtmpcmpanolnpfaaW.PrintMore
attribute [local go_sem] Oper.semAt_some

set_option maxHeartbeats 1000000 in
theorem put_nil (x : ByteArray) (y : Int) (w : World) : Calls Try.prog 11 #[.pointer none, .string x, .int .i64 y] w fun e w' => e = .returned (.bool false) ∧ w' = w := by
  go_enter Try.func11, Try.ntmps11
  go_wp2
  go_ret
  exact ⟨rfl, rfl⟩
/-- From of a nil tree: nothing -/
theorem seq_nil (n : Nat) (hn : 1 ≤ n) (bt bk : Nat) (B : Nat → Prop) (x : ByteArray) (N : Nat) (w : World) (h1 : w.cell? ⟨bt, 0, none⟩ = some (.pointer none)) (h2 : w.cell? ⟨bk, 0, none⟩ = some (.string x)) :
    SeqO n Try.prog 30 #[.pointer (some ⟨bt, 0, none⟩), .pointer (some ⟨bk, 0, none⟩)] (fun a : El [] => pe a.1) B (fun xs => xs = []) (fun _ => False) N w :=
  fun l J Jx W hW hJ hJx hY h0 => by
    refine (from_nil l bt bk x (fun _ W => J [] W) W (up hW h1) (up hW h2) h0 n hn).mono ?_
    rintro e W' ⟨hv, hj⟩
    exact ⟨hv, .inl ⟨[], rfl, hj⟩⟩
/-- wanted: the first mm of the range -/
def wantZ (Z : List Pair) (x y : ByteArray) (mm : Nat) : List Pair := (rangeL Z x y).take mm
theorem range_take_succ {Z : List Pair} {x y : ByteArray} {j : Nat} (hj : j < Z.length) : rangeL (Z.take (j + 1)) x y = rangeL (Z.take j) x y ++ rangeL [Z[j]] x y := by
  unfold rangeL fromL
  rw [List.take_succ_eq_append_getElem hj, List.filter_append, List.filter_append]
theorem range_one_in {q : Pair} {x y : ByteArray} (h1 : ¬ kl q.1 x) (h2 : inTo y q = true) : rangeL [q] x y = [q] := by
  unfold rangeL fromL
  rw [List.filter_cons_of_pos (by simpa using h1), List.filter_nil, List.filter_cons_of_pos h2, List.filter_nil]
theorem range_one_low {q : Pair} {x y : ByteArray} (h1 : kl q.1 x) : rangeL [q] x y = [] := by
  unfold rangeL fromL
  rw [List.filter_cons_of_neg (by simpa using h1), List.filter_nil, List.filter_nil]
theorem range_one_high {q : Pair} {x y : ByteArray} (h1 : ¬ kl q.1 x) (h2 : inTo y q = false) : rangeL [q] x y = [] := by
  unfold rangeL fromL
  rw [List.filter_cons_of_pos (by simpa using h1), List.filter_nil, List.filter_cons_of_neg (by rw [h2]; decide), List.filter_nil]
theorem want_add {Z : List Pair} {x y : ByteArray} {mm j : Nat} (hj : j < Z.length) (h1 : ¬ kl (Z[j]).1 x) (h2 : inTo y Z[j] = true) (hl : (wantZ (Z.take j) x y mm).length < mm) :
    wantZ (Z.take (j + 1)) x y mm = wantZ (Z.take j) x y mm ++ [Z[j]] := by
  unfold wantZ at *
  rw [List.length_take] at hl
  rw [range_take_succ hj, range_one_in h1 h2, List.take_of_length_le (l := rangeL (Z.take j) x y ++ [Z[j]]) (by rw [List.length_append, List.length_singleton]; omega), List.take_of_length_le (l := rangeL (Z.take j) x y) (by omega)]
theorem want_low {Z : List Pair} {x y : ByteArray} {mm j : Nat} (hj : j < Z.length) (h1 : kl (Z[j]).1 x) : wantZ (Z.take (j + 1)) x y mm = wantZ (Z.take j) x y mm := by
  unfold wantZ
  rw [range_take_succ hj, range_one_low h1, List.append_nil]
theorem want_high {Z : List Pair} {x y : ByteArray} {mm j : Nat} (hj : j < Z.length) (h1 : ¬ kl (Z[j]).1 x) (h2 : inTo y Z[j] = false) : wantZ (Z.take (j + 1)) x y mm = wantZ (Z.take j) x y mm := by
  unfold wantZ
  rw [range_take_succ hj, range_one_high h1 h2, List.append_nil]
theorem want_full {Z : List Pair} {x y : ByteArray} {mm j : Nat} (hj : j < Z.length) (hl : ¬ (wantZ (Z.take j) x y mm).length < mm) : wantZ (Z.take (j + 1)) x y mm = wantZ (Z.take j) x y mm := by
  unfold wantZ at *
  rw [List.length_take] at hl
  rw [range_take_succ hj, List.take_append_of_le_length (by omega)]
theorem want_len (Z : List Pair) (x y : ByteArray) (mm : Nat) : (wantZ Z x y mm).length ≤ Z.length ∧ (wantZ Z x y mm).length ≤ mm := by
  unfold wantZ rangeL fromL
  rw [List.length_take]
  have h1 := List.length_filter_le (inTo y) (Z.filter fun a => !decide (kl a.1 x))
  have h2 := List.length_filter_le (fun a : Pair => !decide (kl a.1 x)) Z
  omega
/-- the row of what is wanted, beside the box that holds it -/
structure WSt (V : World) (wb : Nat) (W : World) (lb cap : Nat) (L : List Pair) : Prop where
  own : W.ownsRow V.heap.size 55 2 (.slice (some ⟨lb, 0, none⟩) L.length cap) L.length (fp L)
  box : Boxed W wb 51 (.slice (some ⟨lb, 0, none⟩) L.length cap)
  bel : Below V.heap.size V W
theorem WSt.below {V W W' : World} {wb lb cap : Nat} {L : List Pair} (h : WSt V wb W lb cap L) (hb : Below W.heap.size W W') : WSt V wb W' lb cap L :=
  ⟨ownsRow_below h.own hb, Boxed.upB h.box hb, h.bel.trans (hb.mono h.bel.size)⟩
theorem WSt.cell0 {V W : World} {wb lb cap k : Nat} {L : List Pair} (h : WSt V wb W lb cap L) (hk : k < L.length) : W.cell? ⟨lb, k * 2, none⟩ = some (.string (L[k]).1) := by
  have := h.own.cells (g := lb) rfl (k * 2) _ (fp_get0 hk)
  rw [Addr.add_lit, Nat.zero_add] at this
  exact this
theorem WSt.cell1 {V W : World} {wb lb cap k : Nat} {L : List Pair} (h : WSt V wb W lb cap L) (hk : k < L.length) : W.cell? ⟨lb, k * 2 + 1, none⟩ = some (.int .i64 (L[k]).2) := by
  have := h.own.cells (g := lb) rfl (k * 2 + 1) _ (fp_get1 hk)
  rw [Addr.add_lit, Nat.zero_add] at this
  exact this
theorem WSt.new (V : World) : WSt V (V.heap.size + 1) ((V.alloc (.cells #[] 55)).alloc (.cells #[.slice (some ⟨V.heap.size, 0, none⟩) 0 0] 51)) V.heap.size 0 [] := by
  refine ⟨ownsRow_below (World.ownsRow_lit (base := V.heap.size) (e := 55) (size := 2) V #[] 0 (Nat.le_refl _) (Nat.zero_le _) rfl) (below_alloc (Below.refl _ _) _), ?_, ((Below.refl _ _).alloc (Nat.le_refl _) _).alloc (by simp) _⟩
  have := Boxed.new (V.alloc (.cells #[] 55)) 51 (.slice (some ⟨V.heap.size, 0, none⟩) 0 0)
  rw [World.size_alloc] at this
  exact this
theorem WSt.add {V W W1 : World} {wb lb cap g cap1 : Nat} {L : List Pair} {q : Pair} (h : WSt V wb W lb cap L) (hwb : V.heap.size ≤ wb)
    (ho : W1.ownsRow V.heap.size 55 2 (.slice (some ⟨g, 0, none⟩) (L.length + 1) cap1) (L.length + 1) (fp L ++ [.string q.1, .int .i64 q.2])) (hg : W.grownBy W1 (some lb)) :
    WSt V wb (W1.setCell ⟨wb, 0, none⟩ (.slice (some ⟨g, 0, none⟩) (L.length + 1) cap1)) g cap1 (L ++ [q]) := by
  have n1 : some wb ≠ some lb := Boxed.not_row h.box (by decide) h.own
  have b1 : Boxed W1 wb 51 (.slice (some ⟨lb, 0, none⟩) L.length cap) := h.box.kept hg n1
  have n2 : some wb ≠ some g := Boxed.not_row b1 (by decide) ho
  have hfp : fp L ++ [Value.string q.1, .int .i64 q.2] = fp (L ++ [q]) := by rw [fp_append]; rfl
  rw [hfp] at ho
  have hl : (L ++ [q]).length = L.length + 1 := by simp
  refine ⟨?_, ?_, ?_⟩
  · rw [hl]
    exact ownsRow_same ho (fun k e => by cases e; exact Below.heap_setCell W1 _ _ _ (fun e2 => n2 (congrArg some (show g = wb from e2).symm)))
  · rw [hl]
    exact b1.set _
  · have hlb := h.own.lt lb rfl
    exact ((h.bel.grown hg h.bel.size (fun k e => by cases e; exact hlb.1))).setCell (p := ⟨wb, 0, none⟩) hwb _
/-- an append to a row made since base: what else lies as it lay -/
theorem app51b {F : Fence} {k : Nat} {ops : Array Oper} {rest : List Oper} {o : Oper} {a : Act} {Q : Exit → Act → World → Prop} (w : World) (hgd : o.guard = none) (s x : Operand)
    (ho : o.op = .call { callee := .builtin .append, args := #[s, x], argTypes := #[51, 51] })
    (base lb n cap : Nat) (xs : List Value) (hs : a.eval s = .slice (some ⟨lb, 0, none⟩) n cap) (hown : w.ownsRow base 55 2 (.slice (some ⟨lb, 0, none⟩) n cap) n xs)
    (ad : Addr) (m c : Nat) (news : List Value) (hx : a.eval x = .slice (some ad) m c) (hl : news.length = m * 2) (hnews : ∀ j u, news[j]? = some u → w.cell? (ad.add j) = some u) (h1 : ∀ u ∈ news, u.oneCell' = true)
    (hnm : n + m ≤ 1000000) (hbase : base ≤ w.heap.size)
    (h : ∀ g cap' w', w'.ownsRow base 55 2 (.slice (some ⟨g, 0, none⟩) (n + m) cap') (n + m) (xs ++ news) → w.grownBy w' (some lb) → wpListIn F k Try.prog ops Q rest (a.put o.dst (.slice (some ⟨g, 0, none⟩) (n + m) cap')) w') : wpListIn F k Try.prog ops Q (o :: rest) a w := by
  obtain ⟨i0, hi0, hz0, hs0, hb0⟩ := info_parts info55
  refine wpListIn_append_own (P := Try.prog) w hgd s x 51 ho base 55 i0 _ 2 24 Try.underlying51 hi0 hz0 hs0 hb0 rfl (by decide) _ n xs hs hown ad m c news hx hl hnews h1 (by simp only [maxLen]; omega) (by omega) hbase ?_
  intro v' w' h2 h3 h4
  rcases h2.2 with ⟨e, _⟩ | ⟨g, cap', cur, e, _⟩
  · have := (h4.1 e).1
    cases this
  · subst e
    exact h g cap' w' h2 h3
/-- a tree and its list, made since b -/
structure PL (b : Nat) (W : World) (g lb cap : Nat) (Z : List Pair) : Prop where
  row : W.ownsRow b 55 2 (.slice (some ⟨lb, 0, none⟩) Z.length cap) Z.length (fp Z)
  tree : TreeAt (fun k => b ≤ k ∧ k ≠ lb) W g (Z.map zi)
theorem PL.below {W W' : World} {b g lb cap : Nat} {Z : List Pair} (h : PL b W g lb cap Z) (hb : Below W.heap.size W W') : PL b W' g lb cap Z := ⟨ownsRow_below h.row hb, h.tree.below hb⟩
theorem PL.cell0 {W : World} {b g lb cap k : Nat} {Z : List Pair} (h : PL b W g lb cap Z) (hk : k < Z.length) : W.cell? ⟨lb, k * 2, none⟩ = some (.string (Z[k]).1) := by
  have := h.row.cells (g := lb) rfl (k * 2) _ (fp_get0 hk)
  rw [Addr.add_lit, Nat.zero_add] at this
  exact this
theorem PL.cell1 {W : World} {b g lb cap k : Nat} {Z : List Pair} (h : PL b W g lb cap Z) (hk : k < Z.length) : W.cell? ⟨lb, k * 2 + 1, none⟩ = some (.int .i64 (Z[k]).2) := by
  have := h.row.cells (g := lb) rfl (k * 2 + 1) _ (fp_get1 hk)
  rw [Addr.add_lit, Nat.zero_add] at this
  exact this
theorem PL.stored {w W : World} {g lb cap k : Nat} {Z : List Pair} (h : PSt w W g lb cap Z) (hk : k < w.heap.size) (v : Value) : PL w.heap.size (W.setCell ⟨k, 0, none⟩ v) g lb cap Z := by
  have hlb := h.row.lt lb rfl
  refine ⟨ownsRow_same h.row (fun i e => by cases e; exact Below.heap_setCell W _ _ _ (by show lb ≠ k; omega)), h.tree.kept (fun i hi _ => Below.heap_setCell W _ _ _ (by show i ≠ k; have := hi.1; omega))⟩
end Go.Proofs.Ytmpcmpanolnpfaa.Tr
