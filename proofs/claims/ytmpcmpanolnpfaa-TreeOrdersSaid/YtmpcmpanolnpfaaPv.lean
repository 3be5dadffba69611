/- play: the walk. -/
import Derived.Test.YtmpcmpanolnpfaaPl
import Derived.Test.YtmpcmpanolnpfaaMc
set_option linter.unusedVariables false
set_option linter.unusedSimpArgs false
namespace Go.Proofs.Ytmpcmpanolnpfaa.Tr
open Go.RowKit Go.Proofs.YtmpcmpanolnpfaaW.PrintWords Go.Proofs.YtmpcmpanolnpfaaW.PrintLast Go.Proofs.YtmpcmpanolnpfaaW.PrintMore

theorem info55 : (Try.prog.info? 55).map (fun i => (i.zero, i.size, i.bytes)) = some (some (.agg #[.string ⟨#[]⟩, .int .i64 0]), 2, 24) := by kernel_rfl
def fp (Z : List Pair) : List Value := flat (Z.map zi)
theorem fp_len (Z : List Pair) : (fp Z).length = Z.length * 2 := by unfold fp; rw [flat_length, List.length_map]
theorem fp_take (Z : List Pair) (k : Nat) : fp (Z.take k) = (fp Z).take (k * 2) := by unfold fp; rw [List.map_take, flat_take]
theorem fp_drop (Z : List Pair) (k : Nat) : fp (Z.drop k) = (fp Z).drop (k * 2) := by unfold fp; rw [List.map_drop, flat_drop]
theorem fp_append (a b : List Pair) : fp (a ++ b) = fp a ++ fp b := by unfold fp; rw [List.map_append, flat_append]
theorem fp_one (Z : List Pair) : ∀ u ∈ fp Z, u.oneCell' = true := flat_one (fun x hx => by obtain ⟨a, _, rfl⟩ := List.mem_map.1 hx; rfl)
theorem fp_get0 {Z : List Pair} {k : Nat} (h : k < Z.length) : (fp Z)[k * 2]? = some (.string (Z[k]).1) := by
  unfold fp
  rw [flat_get0 _ k (by rw [List.length_map]; exact h), itm_eq (by rw [List.length_map]; exact h), List.getElem_map]
  rfl
theorem fp_get1 {Z : List Pair} {k : Nat} (h : k < Z.length) : (fp Z)[k * 2 + 1]? = some (.int .i64 (Z[k]).2) := by
  unfold fp
  rw [flat_get1 _ k (by rw [List.length_map]; exact h), itm_eq (by rw [List.length_map]; exact h), List.getElem_map]
  rfl
/-- the blocks that play's tree may use, where its list lies at block lb -/
def FL (w : World) (lb : Nat) : Nat → Prop := fun k => w.heap.size ≤ k ∧ k ≠ lb
/-- play's state: tree and list hold the same pairs -/
structure PSt (w W : World) (g lb cap : Nat) (Z : List Pair) : Prop where
  row : W.ownsRow w.heap.size 55 2 (.slice (some ⟨lb, 0, none⟩) Z.length cap) Z.length (fp Z)
  tree : TreeAt (FL w lb) W g (Z.map zi)
  bel : Below w.heap.size w W
theorem PSt.below {w W W' : World} {g lb cap : Nat} {Z : List Pair} (h : PSt w W g lb cap Z) (hb : Below W.heap.size W W') : PSt w W' g lb cap Z :=
  ⟨ownsRow_below h.row hb, h.tree.below hb, h.bel.trans (hb.mono h.bel.size)⟩
theorem PSt.srt {w W : World} {g lb cap : Nat} {Z : List Pair} (h : PSt w W g lb cap Z) : SrtZ Z := srtZ_of h.tree.srt
theorem PSt.cell0 {w W : World} {g lb cap k : Nat} {Z : List Pair} (h : PSt w W g lb cap Z) (hk : k < Z.length) : W.cell? ⟨lb, k * 2, none⟩ = some (.string (Z[k]).1) := by
  have := h.row.cells (g := lb) rfl (k * 2) _ (fp_get0 hk)
  rw [Addr.add_lit, Nat.zero_add] at this
  exact this
theorem PSt.cell1 {w W : World} {g lb cap k : Nat} {Z : List Pair} (h : PSt w W g lb cap Z) (hk : k < Z.length) : W.cell? ⟨lb, k * 2 + 1, none⟩ = some (.int .i64 (Z[k]).2) := by
  have := h.row.cells (g := lb) rfl (k * 2 + 1) _ (fp_get1 hk)
  rw [Addr.add_lit, Nat.zero_add] at this
  exact this
/-- the tree is turned by a call: the list lies as it lay -/
theorem PSt.turned {w W W' : World} {g lb cap : Nat} {Z Z' : List Pair} (h : PSt w W g lb cap Z) (ht : TreeAt (FL w lb) W' g (Z'.map zi)) (hf : Fr (FL w lb) W W') :
    W'.ownsRow w.heap.size 55 2 (.slice (some ⟨lb, 0, none⟩) Z.length cap) Z.length (fp Z) ∧ Below w.heap.size w W' := by
  have hlb := h.row.lt lb rfl
  refine ⟨ownsRow_same h.row (fun k e => ?_), ?_⟩
  · cases e
    exact hf.block lb hlb.2 (fun q => q.2 rfl)
  · refine h.bel.trans ⟨hf.os, hf.tape, hf.output, hf.size, fun k hk => hf.block k (Nat.lt_of_lt_of_le hk h.bel.size) (fun q => by have := q.1; omega)⟩
theorem PSt.hF {w W : World} {g lb cap : Nat} {Z : List Pair} (h : PSt w W g lb cap Z) : ∀ k, W.heap.size ≤ k → FL w lb k := fun k hk => by
  have := h.row.lt lb rfl
  have := h.bel.size
  exact ⟨by omega, by omega⟩
theorem cut_from {W : World} {base lb n cap k : Nat} {xs : List Value} (h : W.ownsRow base 55 2 (.slice (some ⟨lb, 0, none⟩) n cap) n xs) (hk : k ≤ n) :
    ∃ A : Addr, (if cap = k then some (⟨lb, 0, none⟩ : Addr) else some ⟨lb, k * 2, none⟩) = some A ∧ (xs.drop (k * 2)).length = (n - k) * 2 ∧ Aside0 (∀ t u, (xs.drop (k * 2))[t]? = some u → W.cell? (A.add t) = some u) := by
  have hc := own_caps h
  have hdl : (xs.drop (k * 2)).length = (n - k) * 2 := by rw [List.length_drop, hc.2.2.1]; omega
  by_cases hck : cap = k
  · refine ⟨⟨lb, 0, none⟩, by simp [hck], hdl, ⟨fun t u hu => ?_⟩⟩
    have h0 : (xs.drop (k * 2)).length = 0 := by rw [hdl]; omega
    rw [List.length_eq_zero_iff.1 h0] at hu
    simp at hu
  · refine ⟨⟨lb, k * 2, none⟩, by simp [hck], hdl, ⟨fun t u hu => ?_⟩⟩
    rw [List.getElem?_drop] at hu
    have := h.cells (g := lb) rfl _ _ hu
    rw [Addr.add_lit, Nat.zero_add] at this
    rw [Addr.add_lit]
    exact this
/-- an append to a row made since base -/
theorem app51 {o : Oper} {a : Act} {K : Act → World → Prop} {Q : Exit → Act → World → Prop} (w : World) (s x : Operand)
    (ho : o.op = .call { callee := .builtin .append, args := #[s, x], argTypes := #[51, 51] })
    (base lb n cap : Nat) (xs : List Value) (hs : a.eval s = .slice (some ⟨lb, 0, none⟩) n cap) (hown : w.ownsRow base 55 2 (.slice (some ⟨lb, 0, none⟩) n cap) n xs)
    (ad : Addr) (m c : Nat) (news : List Value) (hx : a.eval x = .slice (some ad) m c) (hl : news.length = m * 2) (hnews : ∀ j u, news[j]? = some u → w.cell? (ad.add j) = some u) (h1 : ∀ u ∈ news, u.oneCell' = true)
    (hnm : n + m ≤ 1000000) (hbase : base ≤ w.heap.size)
    (h : ∀ g cap' w', w'.ownsRow base 55 2 (.slice (some ⟨g, 0, none⟩) (n + m) cap') (n + m) (xs ++ news) → Below base w w' → K (a.put o.dst (.slice (some ⟨g, 0, none⟩) (n + m) cap')) w') : o.wp Try.prog a w K Q := by
  obtain ⟨i0, hi0, hz0, hs0, hb0⟩ := info_parts info55
  refine wp_append_own (P := Try.prog) w s x 51 ho base 55 i0 _ 2 24 Try.underlying51 hi0 hz0 hs0 hb0 rfl (by decide) _ n xs hs hown ad m c news hx hl hnews h1 (by simp only [maxLen]; omega) (by omega) hbase ?_
  intro v' w' h2 h3 h4
  have hlb := hown.lt lb rfl
  rcases h2.2 with ⟨e, _⟩ | ⟨g, cap', cur, e, _⟩
  · have := (h4.1 e).1
    cases this
  · subst e
    exact h g cap' w' h2 ⟨h3.os, h3.tape, h3.output, h3.size, fun k hk => h3.block k (by omega) (by simp [Value.ownBlock]; omega)⟩
/-- an append to a full row: a new one -/
theorem app51g {o : Oper} {a : Act} {K : Act → World → Prop} {Q : Exit → Act → World → Prop} (w : World) (s x : Operand)
    (ho : o.op = .call { callee := .builtin .append, args := #[s, x], argTypes := #[51, 51] })
    (lb n : Nat) (xs : List Value) (hs : a.eval s = .slice (some ⟨lb, 0, none⟩) n n) (hxl : xs.length = n * 2) (holds : ∀ j v, xs[j]? = some v → w.cell? ((⟨lb, 0, none⟩ : Addr).add j) = some v)
    (ad : Addr) (m c : Nat) (news : List Value) (hx : a.eval x = .slice (some ad) m c) (hl : news.length = m * 2) (hnews : ∀ j u, news[j]? = some u → w.cell? (ad.add j) = some u)
    (hm : 0 < m) (hnm : n + m ≤ 1000000)
    (h : ∀ g cap' w', w'.ownsRow w.heap.size 55 2 (.slice (some ⟨g, 0, none⟩) (n + m) cap') (n + m) (xs ++ news) → Below w.heap.size w w' → K (a.put o.dst (.slice (some ⟨g, 0, none⟩) (n + m) cap')) w') : o.wp Try.prog a w K Q := by
  obtain ⟨i0, hi0, hz0, hs0, hb0⟩ := info_parts info55
  have hr := run_append_grow (P := Try.prog) w 51 o.type 55 i0 _ Try.underlying51 hi0 hz0 ⟨lb, 0, none⟩ n n xs (by rw [hs0]; exact hxl) holds ad m c news (by rw [hs0]; exact hl) hnews (by omega) (by omega) (growslice_fits (by omega) (by rw [hb0]; omega))
  have hge := grownCap_ge w (n + m) n 55
  have hcm : grownCap w (n + m) n 55 ≤ maxLen := grownCap_le_maxLen w (n + m) n 55 (by simp only [maxLen]; omega)
  unfold Oper.wp execOp
  simp only [ho, resolve, invoke, builtin, Sem.run_bind, Sem.run_pure, Result.andThen_ok, List.map_toArray, List.map_cons, List.map_nil, hs, hx, hr]
  refine h _ _ _ ⟨by rw [List.length_append, hxl, hl]; omega, .inr ⟨w.heap.size, _, _, rfl, Nat.le_refl _, heap_alloc_new w.drew _, hge, hcm, ?_, ?_⟩⟩ ⟨rfl, rfl, rfl, by simp, fun k hk => heap_alloc_old w.drew _ k hk⟩
  · have hzz : (Value.agg #[Value.string ⟨#[]⟩, Value.int IntKind.i64 0]).cells.size = 2 := rfl
    rw [Array.size_append, Array.size_append, List.size_toArray, List.size_toArray, size_zeroCells, hzz, hxl, hl]
    omega
  · simp only [Array.toList_append]
    rw [show (n + m) * 2 = (xs ++ news).length by rw [List.length_append, hxl, hl]; omega]
    exact List.take_left
theorem PSt.renew {w X X' : World} {g lb lb' cap' : Nat} {Z' : List Pair} {L : List Item} (ht : TreeAt (FL w lb) X g L) (hL : L = Z'.map zi) (hbx : Below w.heap.size w X) (hb : Below X.heap.size X X')
    (ho : X'.ownsRow X.heap.size 55 2 (.slice (some ⟨lb', 0, none⟩) Z'.length cap') Z'.length (fp Z')) : PSt w X' g lb' cap' Z' := by
  subst hL
  have hlb := ho.lt lb' rfl
  refine ⟨ownsRow_lower ho hbx.size, (ht.turn (G := FL w lb') (fun k hk hq => ⟨hq.1, ?_⟩)).below hb, hbx.trans (hb.mono hbx.size)⟩
  omega
theorem app51L {ops : Array Oper} {rest : List Oper} {o : Oper} {a : Act} {Q : Exit → Act → World → Prop} (hgd : o.guard = none) (w : World) (s x : Operand)
    (ho : o.op = .call { callee := .builtin .append, args := #[s, x], argTypes := #[51, 51] })
    (base lb n cap : Nat) (xs : List Value) (hs : a.eval s = .slice (some ⟨lb, 0, none⟩) n cap) (hown : w.ownsRow base 55 2 (.slice (some ⟨lb, 0, none⟩) n cap) n xs)
    (ad : Addr) (m c : Nat) (news : List Value) (hx : a.eval x = .slice (some ad) m c) (hl : news.length = m * 2) (hnews : ∀ j u, news[j]? = some u → w.cell? (ad.add j) = some u) (h1 : ∀ u ∈ news, u.oneCell' = true)
    (hnm : n + m ≤ 1000000) (hbase : base ≤ w.heap.size)
    (h : ∀ g cap' w', w'.ownsRow base 55 2 (.slice (some ⟨g, 0, none⟩) (n + m) cap') (n + m) (xs ++ news) → Below base w w' → wpList Try.prog ops Q rest (a.put o.dst (.slice (some ⟨g, 0, none⟩) (n + m) cap')) w') : wpList Try.prog ops Q (o :: rest) a w :=
  wpList_plain hgd fun _ hK => app51 w s x ho base lb n cap xs hs hown ad m c news hx hl hnews h1 hnm hbase fun g c' w' h2 h3 => hK _ _ (h g c' w' h2 h3)
theorem Fr.cellOf {F : Nat → Prop} {w w' : World} (h : Fr F w w') {a : Addr} {v : Value} (hc : w.cell? a = some v) (hn : ¬ F a.block) : w'.cell? a = some v :=
  (World.cell?_of_block (h.block _ (World.block_lt_of_cell? w a hc) hn)).trans hc
theorem fp_set {Z : List Pair} {k : Nat} (hk : k < Z.length) {x : ByteArray} (y : Int) (hx : (Z[k]).1 = x) : fp (Z.set k (x, y)) = (fp Z).set (k * 2 + 1) (.int .i64 y) := by
  unfold fp
  rw [List.map_set, ← flat_set1 _ _ k (by rw [List.length_map]; exact hk), itm_eq (by rw [List.length_map]; exact hk), List.getElem_map]
  subst hx
  rfl
/-- the old tree's blocks, where a clone lies between X and Y -/
def FO (F : Nat → Prop) (X Y : World) : Nat → Prop := fun k => F k ∧ ¬ (X.heap.size ≤ k ∧ k < Y.heap.size)
theorem insZ_len' (Z : List Pair) (x : ByteArray) (y : Int) {n : Nat} (h : Z.length ≤ n) : (insZ Z x y).length ≤ n + 1 := Nat.le_trans (insZ_len Z x y) (Nat.succ_le_succ h)
end Go.Proofs.Ytmpcmpanolnpfaa.Tr
