/- A row of bytes made of a string: '[]byte(s)'. What lies behind its room is frozen; its elements are the call's own. -/
import Derived.Test.YtcoollbcnpmlfaaWWords
import Derived.Test.YtcoollbcnpmlfaaWAt
import Derived.Test.YtcoollbcnpmlfaaWLast
import Derived.Laws.IdiomStrings
import Derived.Laws.AppendOwn
set_option linter.unusedVariables false
namespace Go.Proofs.Ytcoollbcnpmlfaa.Frz
open Go.RowKit Go.Proofs.YtcoollbcnpmlfaaW.PrintWords Go.Proofs.YtcoollbcnpmlfaaW.PrintLast

def RF (w : World) (base : Nat) (v : Value) (xs : List Int) : Prop :=
  ∃ g cap cur fz, v = .slice (some ⟨g, 0, none⟩) xs.length cap ∧ base ≤ g ∧ w.heap[g]? = some (.cells cur 5 fz) ∧ cap ≤ fz.1 ∧ xs.length ≤ cap ∧ cap ≤ maxLen ∧ cur.size = cap ∧ cur.toList.take xs.length = xs.map (Value.int .u8)
section
variable {w w1 : World} {base : Nat} {v : Value} {xs : List Int}
theorem heap_lt {g : Nat} {o : Obj} (h : w.heap[g]? = some o) : g < w.heap.size := by
  obtain ⟨h, _⟩ := Array.getElem?_eq_some_iff.1 h; exact h
theorem RF_block (h : RF w base v xs) (hm : ∀ k, k < w.heap.size → w1.heap[k]? = w.heap[k]?) : RF w1 base v xs := by
  obtain ⟨g, cap, cur, fz, e, hb, hg, r⟩ := h
  exact ⟨g, cap, cur, fz, e, hb, (hm g (heap_lt hg)).trans hg, r⟩
theorem RF_below (h : RF w base v xs) (hb : Below w.heap.size w w1) : RF w1 base v xs := RF_block h fun k hk => hb.block k hk
theorem RF_alloc (h : RF w base v xs) (o : Obj) : RF (w.alloc o) base v xs := RF_below h (below_alloc (Below.refl _ _) o)
theorem RF_drewN (h : RF w base v xs) (m : Nat) : RF (w.drewN m) base v xs := RF_below h (pw_below_drewN (Below.refl _ _) m)
theorem RF_drew (h : RF w base v xs) : RF w.drew base v xs := h
theorem RF_at {m : Nat} (hq : w.drewN m = w1) (h : RF w base v xs) : RF w1 base v xs := by subst hq; exact RF_drewN h m
theorem RF_slice (h : RF w base v xs) : ∃ A c, v = .slice A xs.length c := by
  obtain ⟨g, cap, cur, fz, e, _⟩ := h
  exact ⟨_, _, e⟩
theorem cell_of {g : Nat} {cur : Array Value} {fz : Nat × Nat} (hg : w.heap[g]? = some (.cells cur 5 fz)) (ht : cur.toList.take xs.length = xs.map (Value.int .u8)) (j : Nat) (hj : j < xs.length) :
    w.cell? ⟨g, j, none⟩ = some (.int .u8 (xs.getD j 0)) := by
  unfold World.cell?
  simp only [hg]
  have h := congrArg (fun l : List Value => l[j]?) ht
  simp only [List.getElem?_take, if_pos hj, List.getElem?_map, List.getElem?_eq_getElem hj, Option.map_some] at h
  simp only [Option.isSome_none, Bool.false_eq_true, if_false]
  rw [← Array.getElem?_toList, h]
  simp [List.getD_eq_getElem?_getD, List.getElem?_eq_getElem hj]
theorem RF_C {A : Option Addr} {n c : Nat} (h : RF w base (.slice A n c) xs) : n = xs.length ∧ n ≤ c ∧ (Kd.int .u8).C w A xs.length xs := by
  obtain ⟨g, cap, cur, fz, e, hb, hg, hf, hl, hm, hs, ht⟩ := h
  injection e with e1 e2 e3
  subst e1 e2 e3
  refine ⟨rfl, hl, Kd.C_of_reads (enc := Value.int .u8) (d := (0 : Int)) (h1 := fun _ => rfl) ⟨rfl, ?_, fun _ => ⟨_, rfl, fun j hj => ?_⟩⟩⟩
  · have : maxLen ≤ 9223372036854775807 := by decide
    omega
  · have := cell_of hg ht j hj
    have e : (⟨g, 0, none⟩ : Addr).add j = ⟨g, j, none⟩ := by unfold Addr.add; by_cases z : j = 0 <;> simp [z]
    rw [e]; exact this
theorem RF_form (h : RF w base v xs) (_hp : 0 < xs.length) : ∃ g cap, v = .slice (some ⟨g, 0, none⟩) xs.length cap ∧ base ≤ g ∧ g < w.heap.size ∧ ∃ (cells : Array Value) (fz : Nat × Nat), w.heap[g]? = some (.cells cells 5 fz) := by
  obtain ⟨g, cap, cur, fz, e, hb, hg, _⟩ := h
  exact ⟨g, cap, e, hb, heap_lt hg, _, _, hg⟩
theorem RF_celln {g n cap : Nat} (h : RF w base (.slice (some ⟨g, 0, none⟩) n cap) xs) (i : Int) (h0 : 0 ≤ i) (hi : i < n) : w.cell? ⟨g, i.toNat, none⟩ = some (.int .u8 (rd xs i)) ∧ w.frozen? ⟨g, i.toNat, none⟩ = false := by
  obtain ⟨g', cap', cur, fz, e, hb, hg, hf, hl, hm, hs, ht⟩ := h
  injection e with e1 e2 e3
  injection e1 with e1
  injection e1 with e1
  subst e1 e2 e3
  refine ⟨cell_of hg ht i.toNat (by omega), ?_⟩
  unfold World.frozen?
  simp only [hg]
  obtain ⟨lo, hi'⟩ := fz
  have hlo : cap ≤ lo := hf
  simp
  omega
theorem heap_set {g i : Nat} {cur : Array Value} {fz : Nat × Nat} {x : Value} (hg : w.heap[g]? = some (.cells cur 5 fz)) : (w.setCell ⟨g, i, none⟩ x).heap[g]? = some (.cells (cur.setIfInBounds i x) 5 fz) := by
  unfold World.setCell
  simp only [Array.getElem?_modify, hg]
  simp
theorem heap_set_ne {g i k : Nat} {x : Value} (hk : k ≠ g) : (w.setCell ⟨g, i, none⟩ x).heap[k]? = w.heap[k]? := by
  unfold World.setCell
  simp only [Array.getElem?_modify]
  rw [if_neg (fun h => hk h.symm)]
theorem RF_putg {g n cap : Nat} (h : RF w base (.slice (some ⟨g, 0, none⟩) n cap) xs) (i : Int) (x : Int) :
    RF (w.setCell ⟨g, i.toNat, none⟩ (.int .u8 x)) base (.slice (some ⟨g, 0, none⟩) n cap) (xs.set i.toNat x) ∧ w.grownBy (w.setCell ⟨g, i.toNat, none⟩ (.int .u8 x)) (some g) := by
  obtain ⟨g', cap', cur, fz, e, hb, hg, hf, hl, hm, hs, ht⟩ := h
  injection e with e1 e2 e3
  injection e1 with e1
  injection e1 with e1
  subst e1 e2 e3
  refine ⟨⟨g, cap, cur.setIfInBounds i.toNat (.int .u8 x), fz, by rw [List.length_set], hb, heap_set hg, hf, by rw [List.length_set]; exact hl, hm, by simpa using hs, ?_⟩, ?_⟩
  · rw [List.length_set, Array.toList_setIfInBounds, List.take_set, ht, List.map_set]
  · exact ⟨rfl, rfl, rfl, by simp [World.setCell], fun k _ hne => heap_set_ne (fun h => hne (by rw [h]))⟩
theorem RF_string {P : Program} {src dst e : TypeId} (hs : P.underlying src = some (.slice e)) (he : P.underlying e = some (.int .u8)) (hd : P.underlying dst = some .string)
    (h : RF w base v xs) : (convert src dst v).run P w = .ok (.string (strOfNums xs)) w := by
  obtain ⟨A, c, rfl⟩ := RF_slice h
  exact Kd.C_string hs he hd (RF_C h).2.2
end
section
variable {P : Program} {ops : Array Oper} {rest : List Oper} {o : Oper} {a : Act} {Q : Exit → Act → World → Prop}
/-- '[]byte(s)' as an event. -/
theorem RF_conv {w0 W : World} (base : Nat) (hgd : o.guard = none) (src dst : TypeId) (x : Operand) (ho : o.op = .convert src dst x) (s : ByteArray) (hx : a.eval x = .string s)
    (hs : P.underlying src = some .string) (hd : P.underlying dst = some (.slice 5)) (he : P.underlying 5 = some (.int .u8)) (hl : s.size ≤ maxLen)
    (HB : Below base w0 W) (hbase : base ≤ W.heap.size)
    (h : ∀ v1 w1, RF w1 base v1 (bytesOf s) → Below base w0 w1 → wpList P ops Q rest (a.put o.dst v1) w1) : wpList P ops Q (o :: rest) a W := by
  refine Kd.event_run (v := .slice (some ⟨W.heap.size, 0, none⟩) s.size (grownCap W s.size 0 5)) (w1 := W.drew.alloc (.cells (bytesRow s (grownCap W s.size 0 5)) 5 ((bytesRow s (grownCap W s.size 0 5)).size, (bytesRow s (grownCap W s.size 0 5)).size + 1))) hgd ?_ (h _ _ ?_ ?_)
  · have hr := run_bytes_of_string (P := P) W src dst 5 s hs hd he
    simp only [execOp, ho, hx]
    go_simp
  · have hz : (bytesRow s (grownCap W s.size 0 5)).size = grownCap W s.size 0 5 := by
      unfold bytesRow
      have := grownCap_ge W s.size 0 5
      simp only [Array.size_append, Array.size_map, Array.size_replicate]
      have e : s.data.size = s.size := rfl
      omega
    have hbl : (bytesOf s).length = s.size := by unfold bytesOf; rw [List.length_map, Array.length_toList]; rfl
    refine ⟨W.heap.size, grownCap W s.size 0 5, bytesRow s (grownCap W s.size 0 5), ((bytesRow s (grownCap W s.size 0 5)).size, (bytesRow s (grownCap W s.size 0 5)).size + 1), by rw [hbl], hbase, ?_, ?_, ?_, grownCap_le_maxLen W s.size 0 5 hl, hz, ?_⟩
    · show (W.heap.push _)[W.heap.size]? = _
      simp
    · rw [hz]; exact Nat.le_refl _
    · rw [hbl]; exact grownCap_ge W s.size 0 5
    · rw [hbl]
      unfold bytesRow bytesOf
      rw [Array.toList_append]
      rw [List.take_left' (by rw [Array.length_toList, Array.size_map]; rfl)]
      rw [Array.toList_map, List.map_map]
      rfl
  · exact (show Below base w0 W.drew from ⟨HB.os, HB.tape, HB.output, HB.size, HB.block⟩).alloc hbase _
end
end Go.Proofs.Ytcoollbcnpmlfaa.Frz
