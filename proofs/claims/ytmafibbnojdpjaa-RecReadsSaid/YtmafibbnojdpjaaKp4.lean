/- Lemmas that the proof needs, part 4. -/
import Derived.Test.YtmafibbnojdpjaaWWords
import Derived.Deep.RegionLawGrows
import Derived.Laws.CopyOwn
section
set_option linter.unusedVariables false
set_option maxRecDepth 100000
set_option linter.unusedSimpArgs false
namespace Go.Proofs.Ytmafibbnojdpjaa.Cpy
open Go.RowKit Go.Proofs.YtmafibbnojdpjaaW.PrintWords
section
variable {P : Program}
theorem run_copy_at (w : World) (dT sT ty elem : TypeId) (k g off dLen dCap : Nat) (a : Addr) (sLen sCap : Nat) (cur : Array Value) (t : TypeId) (cs : List Value)
    (hu : P.underlying dT = some (.slice elem)) (hs : (P.info? elem).map (·.size) = some k) (hg : w.heap[g]? = some (.cells cur t (0, 0))) (hn : cs.length = Nat.min sLen dLen * k)
    (hsrc : ∀ j v, cs[j]? = some v → w.cell? (a.add j) = some v) (hfit : off + cs.length ≤ cur.size) (h1 : ∀ v ∈ cs, v.oneCell' = true) :
    (Builtin.copy_ #[dT, sT] ty #[.slice (some ⟨g, off, none⟩) dLen dCap, .slice (some a) sLen sCap]).run P w = .ok (goInt (Nat.min sLen dLen)) (w.setRow g (cur.toList.take off ++ (cs ++ cur.toList.drop (off + cs.length))).toArray) := by
  have hl := run_loadCells_list (P := P) w a cs hsrc
  have hst := run_storeCells_at P g off t cs 0 cur w hg (by simpa using hfit) h1
  cases hq : P.info? elem with
  | none => simp [hq] at hs
  | some i =>
    have hi : i.size = k := by simpa [hq] using hs
    simp [Builtin.copy_, run_underlying hu, Builtin.lenOf, Builtin.firstCells, sizeOf, typeInfo, hq, hi, ← hn, hl, hst]
end
section
variable {P : Program} {ops : Array Oper} {rest : List Oper} {o : Oper} {a : Act} {Q : Exit → Act → World → Prop}
theorem wpList_copy_at {w : World} (hgd : o.guard = none) (d s : Operand) (dT sT : TypeId) (ho : o.op = .call { callee := .builtin .copy, args := #[d, s], argTypes := #[dT, sT] })
    (elem : TypeId) (k : Nat) (hu : P.underlying dT = some (.slice elem)) (hsz : (P.info? elem).map (·.size) = some k) (g off dLen dCap : Nat) (ad : Addr) (sLen sCap : Nat) (hd : a.eval d = .slice (some ⟨g, off, none⟩) dLen dCap) (hs : a.eval s = .slice (some ad) sLen sCap)
    (cur : Array Value) (t : TypeId) (hg : w.heap[g]? = some (.cells cur t (0, 0))) (cs : List Value) (hn : cs.length = Nat.min sLen dLen * k)
    (hsrc : ∀ j v, cs[j]? = some v → w.cell? (ad.add j) = some v) (hfit : off + cs.length ≤ cur.size) (h1 : ∀ v ∈ cs, v.oneCell' = true)
    (h : wpList P ops Q rest (a.put o.dst (goInt (Nat.min sLen dLen))) (w.setRow g (cur.toList.take off ++ (cs ++ cur.toList.drop (off + cs.length))).toArray)) : wpList P ops Q (o :: rest) a w := by
  refine wpList_plain hgd fun K hK => ?_
  have hrun := run_copy_at (P := P) w dT sT o.type elem k g off dLen dCap ad sLen sCap cur t cs hu hsz hg hn hsrc hfit h1
  unfold Oper.wp
  simp [execOp, ho, resolve, invoke, builtin, hd, hs, hrun, Result.andThen]
  exact hK _ _ h
theorem step_copy_at {w : World} {K : Act → World → Prop} {E : Prop} (hgd : o.guard = none) (d s : Operand) (dT sT : TypeId) (ho : o.op = .call { callee := .builtin .copy, args := #[d, s], argTypes := #[dT, sT] })
    (elem : TypeId) (k : Nat) (hu : P.underlying dT = some (.slice elem)) (hsz : (P.info? elem).map (·.size) = some k) (g off dLen dCap : Nat) (ad : Addr) (sLen sCap : Nat) (hd : a.eval d = .slice (some ⟨g, off, none⟩) dLen dCap) (hs : a.eval s = .slice (some ad) sLen sCap)
    (cur : Array Value) (t : TypeId) (hg : w.heap[g]? = some (.cells cur t (0, 0))) (cs : List Value) (hn : cs.length = Nat.min sLen dLen * k)
    (hsrc : ∀ j v, cs[j]? = some v → w.cell? (ad.add j) = some v) (hfit : off + cs.length ≤ cur.size) (h1 : ∀ v ∈ cs, v.oneCell' = true)
    (h : K (a.put o.dst (goInt (Nat.min sLen dLen))) (w.setRow g (cur.toList.take off ++ (cs ++ cur.toList.drop (off + cs.length))).toArray)) : if Region.wanted o (yielded ops a.tmps) = true then Oper.wp P o a w K Q else E := by
  have hw : Region.wanted o (yielded ops a.tmps) = true := by simp [Region.wanted, hgd]
  rw [if_pos hw]
  have hrun := run_copy_at (P := P) w dT sT o.type elem k g off dLen dCap ad sLen sCap cur t cs hu hsz hg hn hsrc hfit h1
  unfold Oper.wp
  simp [execOp, ho, resolve, invoke, builtin, hd, hs, hrun, Result.andThen]
  exact h
end
section
variable {P : Program}
end
section
variable {P : Program} {ops : Array Oper} {rest : List Oper} {o : Oper} {a : Act} {Q : Exit → Act → World → Prop}
end
end Go.Proofs.Ytmafibbnojdpjaa.Cpy
end
section
set_option linter.unusedVariables false
set_option linter.unusedSimpArgs false
namespace Go.Proofs.Ytmafibbnojdpjaa.Rows2
open Go.RowKit Go.Proofs.YtmafibbnojdpjaaW.PrintWords
theorem add_add (a : Addr) (i j : Nat) : (a.add i).add j = a.add (i + j) := by
  by_cases c1 : i = 0 <;> by_cases c2 : j = 0 <;> simp [Addr.add, c1, c2, Nat.add_assoc]
/-- A row that is read: its cells, one behind the other. -/
theorem row_cells {α : Type} {R : α → List Value → Prop} {size : Nat} {w : World} {A : Option Addr} {n : Nat} {xs : List α} (h : ReadsRow R size w A n xs) :
    ∃ inner : List Value, Reps R size xs inner ∧ ∀ b, A = some b → ∀ j u, inner[j]? = some u → w.cell? (b.add j) = some u := by
  obtain ⟨hl, hm, hc⟩ := h
  suffices H : ∀ k, k ≤ n → ∃ inner : List Value, Reps R size (xs.take k) inner ∧ ∀ b, A = some b → ∀ j u, inner[j]? = some u → w.cell? (b.add j) = some u by
    obtain ⟨inner, h1, h2⟩ := H n (Nat.le_refl _)
    rw [← hl, List.take_length] at h1
    exact ⟨inner, h1, h2⟩
  intro k
  induction k with
  | zero => exact fun _ => ⟨[], by simpa using Reps.none R size, by simp⟩
  | succ k ih =>
    intro hk
    obtain ⟨inner, h1, h2⟩ := ih (by omega)
    obtain ⟨ad, rfl, hcc⟩ := hc (by omega)
    have hkl : k < xs.length := by omega
    obtain ⟨c, hcl, hR, hcell⟩ := hcc k xs[k] (List.getElem?_eq_getElem hkl)
    refine ⟨inner ++ c, ?_, ?_⟩
    · rw [List.take_succ_eq_append_getElem hkl]
      exact h1.snoc hR hcl
    · intro b hb j u hu
      cases hb
      have hil : inner.length = k * size := by rw [h1.1, List.length_take, Nat.min_eq_left (by omega)]
      by_cases hj : j < inner.length
      · rw [List.getElem?_append_left hj] at hu
        exact h2 ad rfl j u hu
      · rw [List.getElem?_append_right (by omega)] at hu
        have := hcell (j - inner.length) u hu
        rwa [show k * size + (j - inner.length) = j from by omega] at this
section
variable {P : Program} {ops : Array Oper} {o : Oper} {a : Act} {Q : Exit → Act → World → Prop} {Kc : Act → World → Prop}
/-- append of one element to a row that came in, whose capacity is its length: a new row. -/
theorem C_append_full {α : Type} (d : Kd α) {W : World} {E : Prop} (hg : o.guard = none) (s x : Operand) (t e : TypeId) (z : Value) (bytes : Nat)
    (ho : o.op = .call { callee := .builtin .append, args := #[s, x], argTypes := #[t, t] })
    (ht : P.underlying t = some (.slice e)) (hinfo : (P.info? e).map (fun i => (i.zero, i.size, i.bytes)) = some (some z, d.sz, bytes)) (hz : z.cells.size = d.sz) (hs0 : 0 < d.sz) (hb0 : 0 < bytes)
    (A : Option Addr) (xs : List α) (p : α) (cs : List Value) (hs : a.eval s = .slice A xs.length xs.length) (ad : Addr) (hx : a.eval x = .slice (some ad) 1 1) (hC : d.C W A xs.length xs)
    (hKM : ∀ y c, d.K W y c → d.M W W.heap.size (fun _ => False) y c) (hp : d.M W W.heap.size (fun _ => False) p cs) (hcs : ∀ j u, cs[j]? = some u → W.cell? (ad.add j) = some u) (hl : (xs.length + 1) * bytes ≤ 140737488355328)
    (h : ∀ v1 w1, d.R e w1 W.heap.size (fun _ => True) v1 (xs ++ [p]) → W.grownBy w1 none → Kc (a.put o.dst v1) w1) :
    if Region.wanted o (yielded ops a.tmps) = true then Oper.wp P o a W Kc Q else E := by
  obtain ⟨i0, hi, hzz⟩ := Option.map_eq_some_iff.1 hinfo
  simp only [Prod.mk.injEq] at hzz
  obtain ⟨hz0, hz1, hz2⟩ := hzz
  obtain ⟨inner, hr, hcell⟩ := row_cells hC
  have hcl : cs.length = d.sz := d.K_len (d.K_of_M hp)
  have hn1 : xs.length + 1 ≤ 140737488355328 := Nat.le_trans (Nat.le_mul_of_pos_right _ hb0) hl
  have hA : A = none → xs.length = 0 ∧ xs.length = 0 := by
    intro e
    subst e
    rcases Nat.eq_zero_or_pos xs.length with h0 | h0
    · exact ⟨h0, h0⟩
    · obtain ⟨b, hb, _⟩ := hC.2.2 h0
      cases hb
  refine step_append_grows (w := W) hg s x t ho e i0 z d.sz bytes ht hi hz0 hz1 hz2 hz hs0 A xs.length xs.length inner hs hA hr.1 hcell ad 1 1 cs hx (by rw [hcl, Nat.one_mul]) hcs (d.K_one (d.K_of_M hp)) (by omega) (by simp only [maxLen]; omega) hl ?_
  intro v' w' hown hgr
  refine h v' w' ⟨fun _ _ => trivial, inner ++ cs, ?_, ?_⟩ hgr
  · rw [List.length_append, List.length_singleton]
    exact hown
  · have e1 : ∀ y c, d.K W y c → d.M w' W.heap.size (fun k => True ∧ some k ≠ v'.ownBlock) y c := fun y c hy =>
      d.M_mono (fun _ hk => hk.elim) (d.M_move (fun _ hk => hk.elim) (hKM y c hy))
    exact (hr.imp_ (fun y c hy => e1 y c hy)).snoc (d.M_mono (fun _ hk => hk.elim) (d.M_move (fun _ hk => hk.elim) hp)) hcl
end
section
variable {P : Program}
end
section
variable {P : Program} {ops : Array Oper} {rest : List Oper} {o : Oper} {a : Act} {Q : Exit → Act → World → Prop}
end
end Go.Proofs.Ytmafibbnojdpjaa.Rows2
end
