/- ClaimActs: what the walk carries along. -/
import Derived.Test.YtpfpejkndjdgkaaQl
import Derived.Sort.Walk0
set_option linter.unusedVariables false
set_option linter.unusedSimpArgs false
namespace Go.Proofs.Ytpfpejkndjdgkaa.Q
open Go.RowKit Go.Maps Go.WideMaps Go.Proofs.YtpfpejkndjdgkaaW.PrintWords Go.Proofs.YtpfpejkndjdgkaaW.PrintLast Go.Proofs.YtpfpejkndjdgkaaW.PrintMore

/-- claims (map b at p), the function's own map m, the closure's boxes bc, bc + 1 -/
structure ASt (w wq : World) (p b bc m : Nat) (who : Int) (nn n2 : Nat) (C1 C2 : List Pair) : Prop where
  ord : w.heap.size ≤ b ∧ b < p ∧ p < bc ∧ bc + 1 < m
  cl : ClaimAt wq p b nn C1
  mp : ∃ D, MapC wq m n2 C2 D
  b1 : wq.cell? ⟨bc, 0, none⟩ = some (.pointer (some ⟨p, 0, none⟩))
  b2 : wq.cell? ⟨bc + 1, 0, none⟩ = some (.int .i64 who)
  bel : Below w.heap.size w wq
variable {w wq w' : World} {p b bc m : Nat} {who : Int} {nn n2 nn' n2' : Nat} {C1 C2 C1' C2' : List Pair}
theorem ASt.mlt (h : ASt w wq p b bc m who nn n2 C1 C2) : m < wq.heap.size := by obtain ⟨D, hm⟩ := h.mp; exact hm.lt
theorem ASt.claim (h : ASt w wq p b bc m who nn n2 C1 C2) (hc : ClaimAt w' p b nn' C1') (hg : wq.grownBy w' (some b)) : ASt w w' p b bc m who nn' n2 C1' C2 := by
  obtain ⟨o1, o2, o3, o4⟩ := h.ord
  have hml := h.mlt
  refine ⟨h.ord, hc, ?_, hg.cell h.b1 (fun e => by have e' : bc = b := Option.some.inj e; omega), hg.cell h.b2 (fun e => by have e' : bc + 1 = b := Option.some.inj e; omega), h.bel.grown hg h.bel.size (fun k e => by cases e; exact o1)⟩
  obtain ⟨D, hm⟩ := h.mp
  exact ⟨D, hm.same (hg.block m hml (fun e => by cases e; omega))⟩
theorem ASt.map (h : ASt w wq p b bc m who nn n2 C1 C2) {D : DataW Unit} (hm : MapC w' m n2' C2' D) (hg : wq.grownBy w' (some m)) : ASt w w' p b bc m who nn n2' C1 C2' := by
  obtain ⟨o1, o2, o3, o4⟩ := h.ord
  exact ⟨h.ord, h.cl.same (hg.block p h.cl.lt (fun e => by cases e; omega)) (hg.block b h.cl.mlt (fun e => by cases e; omega)), ⟨D, hm⟩, hg.cell h.b1 (fun e => by have e' : bc = m := Option.some.inj e; omega), hg.cell h.b2 (fun e => by have e' : bc + 1 = m := Option.some.inj e; omega), h.bel.grown hg h.bel.size (fun k e => by cases e; omega)⟩
/-- another block: an iterator's -/
theorem ASt.other (h : ASt w wq p b bc m who nn n2 C1 C2) {r : Option Nat} (hr : ∀ k, r = some k → m < k) (hg : wq.grownBy w' r) : ASt w w' p b bc m who nn n2 C1 C2 := by
  obtain ⟨o1, o2, o3, o4⟩ := h.ord
  have hml := h.mlt
  have ne : ∀ k, k ≤ m → some k ≠ r := fun k hk e => by have := hr k e.symm; omega
  refine ⟨h.ord, h.cl.same (hg.block p h.cl.lt (ne _ (by omega))) (hg.block b h.cl.mlt (ne _ (by omega))), ?_, hg.cell h.b1 (ne _ (by show bc ≤ m; omega)), hg.cell h.b2 (ne _ (by show bc + 1 ≤ m; omega)), h.bel.grown hg h.bel.size (fun k e => by have := hr k e; omega)⟩
  obtain ⟨D, hm⟩ := h.mp
  exact ⟨D, hm.same (hg.block m hml (ne _ (Nat.le_refl _)))⟩
theorem ASt.below (h : ASt w wq p b bc m who nn n2 C1 C2) (hb : Below wq.heap.size wq w') : ASt w w' p b bc m who nn n2 C1 C2 := by
  have hml := h.mlt
  refine ⟨h.ord, h.cl.below hb, ?_, up hb h.b1, up hb h.b2, h.bel.trans (hb.mono h.bel.size)⟩
  obtain ⟨D, hm⟩ := h.mp
  exact ⟨D, hm.same (hb.block m hml)⟩
theorem ASt.more (h : ASt w wq p b bc m who nn n2 C1 C2) (h1 : nn ≤ nn') (h2 : n2 ≤ n2') : ASt w wq p b bc m who nn' n2' C1 C2 := ⟨h.ord, h.cl.mono h1, by obtain ⟨D, hm⟩ := h.mp; exact ⟨D, hm.mono h2⟩, h.b1, h.b2, h.bel⟩
theorem twice (left : Lit → Bool) (k : Lit) : (fun z => (left z && !z.sameKey k) && !z.sameKey k) = fun z => left z && !z.sameKey k := by
  funext z
  cases left z <;> cases z.sameKey k <;> rfl
/-- the act of the round, in its own block -/
structure ActB (wq : World) (bl : Nat) (a : S30) : Prop where
  hp : wq.heap[bl]? = some (.cells #[.int .i64 a.f0, .int .i64 a.f1, .string a.f2] 30 (0, 0))
theorem ActB.lt {wq : World} {bl : Nat} {a : S30} (h : ActB wq bl a) : bl < wq.heap.size := (Array.getElem?_eq_some_iff.1 h.hp).1
theorem ActB.c0 {wq : World} {bl : Nat} {a : S30} (h : ActB wq bl a) : wq.cell? ⟨bl, 0, none⟩ = some (.int .i64 a.f0) := by simp [World.cell?, h.hp]
theorem ActB.c1 {wq : World} {bl : Nat} {a : S30} (h : ActB wq bl a) : wq.cell? ⟨bl, 1, none⟩ = some (.int .i64 a.f1) := by simp [World.cell?, h.hp]
theorem ActB.c2 {wq : World} {bl : Nat} {a : S30} (h : ActB wq bl a) : wq.cell? ⟨bl, 2, none⟩ = some (.string a.f2) := by simp [World.cell?, h.hp]
theorem ActB.kept {wq w' : World} {bl : Nat} {a : S30} (h : ActB wq bl a) {r : Option Nat} (hg : wq.grownBy w' r) (hr : some bl ≠ r) : ActB w' bl a := ⟨(hg.block bl h.lt hr).trans h.hp⟩
theorem ActB.below {wq w' : World} {bl : Nat} {a : S30} (h : ActB wq bl a) (hb : Below wq.heap.size wq w') : ActB w' bl a := ⟨(hb.block bl h.lt).trans h.hp⟩
-- the list of who
theorem raw_has {C : List Pair} (hn : NdC C) {who : Int} {x : List UInt8} : x ∈ ofC C who ↔ (hasC C ⟨x.toArray⟩ = true ∧ valC C ⟨x.toArray⟩ = who) := by
  rw [mem_of, mem_raw]
  constructor
  · rintro ⟨a, ha, h1, h2⟩
    have e : a.1 = ⟨x.toArray⟩ := ext_data (by rw [h2])
    rw [← e]
    exact ⟨hasC_iff.2 ⟨a, ha, rfl⟩, by rw [valC_of hn ha]; exact h1⟩
  · rintro ⟨h1, h2⟩
    exact ⟨_, val_mem hn h1, h2, rfl⟩
theorem of_rise {C : List Pair} (hn : NdC C) (who : Int) {i : Nat} (hi : i + 1 < (ofC C who).length) : (ofC C who)[i] < (ofC C who)[i + 1] := by
  have tr : ∀ a b c : List UInt8, leB a b = true → leB b c = true → leB a c = true := fun a b c h1 h2 => by simp only [leB, decide_eq_true_eq] at *; exact List.le_trans h1 h2
  have tt : ∀ a b : List UInt8, (leB a b || leB b a) = true := fun a b => by simp only [leB, Bool.or_eq_true, decide_eq_true_eq]; exact List.le_total a b
  have h1 : (ofC C who).Pairwise (fun a b => leB a b = true) := List.pairwise_mergeSort tr tt _
  have h2 : (ofC C who).Nodup := (List.mergeSort_perm (rawC C who) leB).nodup_iff.2 (raw_nodup hn who)
  have h3 : leB ((ofC C who)[i]) ((ofC C who)[i + 1]) = true := List.pairwise_iff_getElem.1 h1 i (i + 1) (by omega) hi (by omega)
  have h4 : (ofC C who)[i] ≠ (ofC C who)[i + 1] := List.pairwise_iff_getElem.1 h2 i (i + 1) (by omega) hi (by omega)
  simp only [leB, decide_eq_true_eq] at h3
  rcases List.le_iff_lt_or_eq.1 h3 with h | h
  · exact h
  · exact absurd h h4
theorem acts_nd (l : List S30) : ∀ C, NdC C → NdC (l.foldl stepC C) := by
  induction l with
  | nil => exact fun C h => h
  | cons a l ih =>
    intro C h
    refine ih _ ?_
    unfold stepC
    split
    · exact ndC_free h _
    · unfold takeC
      split
      · exact h
      · rename_i hh
        exact ndC_add h _ (by simpa using hh)
theorem acts_len (l : List S30) : ∀ C, (l.foldl stepC C).length ≤ C.length + l.length := by
  induction l with
  | nil => exact fun C => Nat.le_refl _
  | cons a l ih =>
    intro C
    have := ih (stepC C a)
    have h2 : (stepC C a).length ≤ C.length + 1 := by
      unfold stepC freeC takeC
      split
      · exact Nat.le_trans (List.length_filter_le _ _) (Nat.le_succ _)
      · split
        · exact Nat.le_succ _
        · simp
    simp only [List.foldl_cons, List.length_cons]
    omega
end Go.Proofs.Ytpfpejkndjdgkaa.Q
