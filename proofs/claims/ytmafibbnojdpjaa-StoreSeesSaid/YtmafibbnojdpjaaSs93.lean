/- Lemmas that the proof needs, part 3. -/
import Derived.Test.YtmafibbnojdpjaaWWords
import Derived.Deep.RegionLawGrows
import Derived.Laws.CopyOwn
section
set_option linter.unusedVariables false
set_option maxRecDepth 100000
set_option linter.unusedSimpArgs false
namespace Go.Proofs.Ytmafibbnojdpjaa.Cpy
open Go.RowKit Go.Proofs.YtmafibbnojdpjaaW.PrintWords
section
variable {P : Program}
theorem run_copy_at (w : World) (dT sT ty elem : TypeId) (k g off dLen dCap : Nat) (a : Addr) (sLen sCap : Nat) (cur : Array Value) (t : TypeId) (cs : List Value)
    (hu : P.underlying dT = some (.slice elem)) (hs : (P.info? elem).map (·.size) = some k) (hg : w.heap[g]? = some (.cells cur t (0, 0))) (hn : cs.length = Nat.min sLen dLen * k)
    (hsrc : ∀ j v, cs[j]? = some v → w.cell? (a.add j) = some v) (hfit : off + cs.length ≤ cur.size) (h1 : ∀ v ∈ cs, v.oneCell' = true) :
    (Builtin.copy_ #[dT, sT] ty #[.slice (some ⟨g, off, none⟩) dLen dCap, .slice (some a) sLen sCap]).run P w = .ok (goInt (Nat.min sLen dLen)) (w.setRow g (cur.toList.take off ++ (cs ++ cur.toList.drop (off + cs.length))).toArray) := by
  have hl := run_loadCells_list (P := P) w a cs hsrc
  have hst := run_storeCells_at P g off t cs 0 cur w hg (by simpa using hfit) h1
  cases hq : P.info? elem with
  | none => simp [hq] at hs
  | some i =>
    have hi : i.size = k := by simpa [hq] using hs
    simp [Builtin.copy_, run_underlying hu, Builtin.lenOf, Builtin.firstCells, sizeOf, typeInfo, hq, hi, ← hn, hl, hst]
end
section
variable {P : Program} {ops : Array Oper} {rest : List Oper} {o : Oper} {a : Act} {Q : Exit → Act → World → Prop}
theorem wpList_copy_at {w : World} (hgd : o.guard = none) (d s : Operand) (dT sT : TypeId) (ho : o.op = .call { callee := .builtin .copy, args := #[d, s], argTypes := #[dT, sT] })
    (elem : TypeId) (k : Nat) (hu : P.underlying dT = some (.slice elem)) (hsz : (P.info? elem).map (·.size) = some k) (g off dLen dCap : Nat) (ad : Addr) (sLen sCap : Nat) (hd : a.eval d = .slice (some ⟨g, off, none⟩) dLen dCap) (hs : a.eval s = .slice (some ad) sLen sCap)
    (cur : Array Value) (t : TypeId) (hg : w.heap[g]? = some (.cells cur t (0, 0))) (cs : List Value) (hn : cs.length = Nat.min sLen dLen * k)
    (hsrc : ∀ j v, cs[j]? = some v → w.cell? (ad.add j) = some v) (hfit : off + cs.length ≤ cur.size) (h1 : ∀ v ∈ cs, v.oneCell' = true)
    (h : wpList P ops Q rest (a.put o.dst (goInt (Nat.min sLen dLen))) (w.setRow g (cur.toList.take off ++ (cs ++ cur.toList.drop (off + cs.length))).toArray)) : wpList P ops Q (o :: rest) a w := by
  refine wpList_plain hgd fun K hK => ?_
  have hrun := run_copy_at (P := P) w dT sT o.type elem k g off dLen dCap ad sLen sCap cur t cs hu hsz hg hn hsrc hfit h1
  unfold Oper.wp
  simp [execOp, ho, resolve, invoke, builtin, hd, hs, hrun, Result.andThen]
  exact hK _ _ h
theorem step_copy_at {w : World} {K : Act → World → Prop} {E : Prop} (hgd : o.guard = none) (d s : Operand) (dT sT : TypeId) (ho : o.op = .call { callee := .builtin .copy, args := #[d, s], argTypes := #[dT, sT] })
    (elem : TypeId) (k : Nat) (hu : P.underlying dT = some (.slice elem)) (hsz : (P.info? elem).map (·.size) = some k) (g off dLen dCap : Nat) (ad : Addr) (sLen sCap : Nat) (hd : a.eval d = .slice (some ⟨g, off, none⟩) dLen dCap) (hs : a.eval s = .slice (some ad) sLen sCap)
    (cur : Array Value) (t : TypeId) (hg : w.heap[g]? = some (.cells cur t (0, 0))) (cs : List Value) (hn : cs.length = Nat.min sLen dLen * k)
    (hsrc : ∀ j v, cs[j]? = some v → w.cell? (ad.add j) = some v) (hfit : off + cs.length ≤ cur.size) (h1 : ∀ v ∈ cs, v.oneCell' = true)
    (h : K (a.put o.dst (goInt (Nat.min sLen dLen))) (w.setRow g (cur.toList.take off ++ (cs ++ cur.toList.drop (off + cs.length))).toArray)) : if Region.wanted o (yielded ops a.tmps) = true then Oper.wp P o a w K Q else E := by
  have hw : Region.wanted o (yielded ops a.tmps) = true := by simp [Region.wanted, hgd]
  rw [if_pos hw]
  have hrun := run_copy_at (P := P) w dT sT o.type elem k g off dLen dCap ad sLen sCap cur t cs hu hsz hg hn hsrc hfit h1
  unfold Oper.wp
  simp [execOp, ho, resolve, invoke, builtin, hd, hs, hrun, Result.andThen]
  exact h
end
section
variable {P : Program}
theorem run_clear_at (w : World) (sT ty elem : TypeId) (z : Value) (k g off n c : Nat) (cur : Array Value) (t : TypeId) (i : TypeInfo)
    (hu : P.underlying sT = some (.slice elem)) (hi : P.info? elem = some i) (hz : i.zero = some z) (hg : w.heap[g]? = some (.cells cur t (0, 0))) (hn : 0 < n)
    (zs : List Value) (hzs : (Builtin.zeroCells z.cells n).toList = zs) (hfit : off + zs.length ≤ cur.size) (h1 : ∀ v ∈ zs, v.oneCell' = true) :
    (Builtin.clear_ #[sT] ty #[.slice (some ⟨g, off, none⟩) n c]).run P w = (.ok (.tuple #[]) (w.setRow g (cur.toList.take off ++ (zs ++ cur.toList.drop (off + zs.length))).toArray)) := by
  subst hzs
  have hst := run_storeCells_at P g off t (Builtin.zeroCells z.cells n).toList 0 cur w hg (by simpa using hfit) h1
  cases n with
  | zero => omega
  | succ n =>
    simp only [Nat.add_zero] at hst
    simp [Builtin.clear_, run_underlying hu, zeroValue, typeInfo, hi, hz]
    simp at hst
    rw [hst]
    simp [Result.andThen]
end
section
variable {P : Program} {ops : Array Oper} {rest : List Oper} {o : Oper} {a : Act} {Q : Exit → Act → World → Prop}
theorem wpList_clear_at {w : World} (hgd : o.guard = none) (s : Operand) (sT : TypeId) (ho : o.op = .call { callee := .builtin .clear, args := #[s], argTypes := #[sT] })
    (elem : TypeId) (z : Value) (i : TypeInfo) (hu : P.underlying sT = some (.slice elem)) (hi : P.info? elem = some i) (hz : i.zero = some z) (g off n c : Nat) (hs : a.eval s = .slice (some ⟨g, off, none⟩) n c) (hn : 0 < n)
    (cur : Array Value) (t : TypeId) (hg : w.heap[g]? = some (.cells cur t (0, 0))) (zs : List Value) (hzs : (Builtin.zeroCells z.cells n).toList = zs) (hfit : off + zs.length ≤ cur.size) (h1 : ∀ v ∈ zs, v.oneCell' = true)
    (h : wpList P ops Q rest (a.put o.dst (.tuple #[])) (w.setRow g (cur.toList.take off ++ (zs ++ cur.toList.drop (off + zs.length))).toArray)) : wpList P ops Q (o :: rest) a w := by
  refine wpList_plain hgd fun K hK => ?_
  have hrun := run_clear_at (P := P) w sT o.type elem z 0 g off n c cur t i hu hi hz hg hn zs hzs hfit h1
  unfold Oper.wp
  simp only [execOp, ho, resolve, invoke, builtin, Sem.run_bind, Sem.run_pure, Result.andThen_ok, List.map_toArray, List.map_cons, List.map_nil, hs, hrun]
  exact hK _ _ h
theorem step_append_at {w : World} {K : Act → World → Prop} {E : Prop} (hgd : o.guard = none) (d s : Operand) (t : TypeId) (ho : o.op = .call { callee := .builtin .append, args := #[d, s], argTypes := #[t, t] })
    (elem : TypeId) (i : TypeInfo) (hu : P.underlying t = some (.slice elem)) (hi : P.info? elem = some i) (g sLen sCap : Nat) (ad : Addr) (m c : Nat) (hd : a.eval d = .slice (some ⟨g, 0, none⟩) sLen sCap) (hs : a.eval s = .slice (some ad) m c)
    (cur : Array Value) (hg : w.heap[g]? = some (.cells cur elem (0, 0))) (news : List Value) (hl : news.length = m * i.size)
    (hsrc : ∀ j v, news[j]? = some v → w.cell? (ad.add j) = some v) (h1 : ∀ v ∈ news, v.oneCell' = true) (hroom : sLen + m ≤ sCap) (hfit : sLen * i.size + news.length ≤ cur.size)
    (h : K (a.put o.dst (.slice (some ⟨g, 0, none⟩) (sLen + m) sCap)) (w.setRow g (cur.toList.take (sLen * i.size) ++ news ++ cur.toList.drop (sLen * i.size + news.length)).toArray)) : if Region.wanted o (yielded ops a.tmps) = true then Oper.wp P o a w K Q else E := by
  have hw : Region.wanted o (yielded ops a.tmps) = true := by simp [Region.wanted, hgd]
  rw [if_pos hw]
  have hrun := run_append_room (P := P) w t o.type elem i hu hi g sLen sCap cur hg ad m c news hl hsrc h1 hroom hfit
  unfold Oper.wp
  simp only [execOp, ho, resolve, invoke, builtin, Sem.run_bind, Sem.run_pure, Result.andThen_ok, List.map_toArray, List.map_cons, List.map_nil, hd, hs, hrun]
  exact h
end
theorem zeros_one (z : Array Value) : (Builtin.zeroCells z 1).toList = z.toList := by
  unfold Builtin.zeroCells
  apply List.ext_getElem
  · simp
  · intro i h1 h2
    have : i < z.size := by simpa using h2
    simp [Nat.mod_eq_of_lt this, this]
end Go.Proofs.Ytmafibbnojdpjaa.Cpy
end
section
set_option linter.unusedVariables false
set_option linter.unusedSimpArgs false
namespace Go.Proofs.Ytmafibbnojdpjaa.Rows2
open Go.RowKit Go.Proofs.YtmafibbnojdpjaaW.PrintWords
theorem add_add (a : Addr) (i j : Nat) : (a.add i).add j = a.add (i + j) := by
  by_cases c1 : i = 0 <;> by_cases c2 : j = 0 <;> simp [Addr.add, c1, c2, Nat.add_assoc]
/-- A row that is read: its cells, one behind the other. -/
theorem row_cells {α : Type} {R : α → List Value → Prop} {size : Nat} {w : World} {A : Option Addr} {n : Nat} {xs : List α} (h : ReadsRow R size w A n xs) :
    ∃ inner : List Value, Reps R size xs inner ∧ ∀ b, A = some b → ∀ j u, inner[j]? = some u → w.cell? (b.add j) = some u := by
  obtain ⟨hl, hm, hc⟩ := h
  suffices H : ∀ k, k ≤ n → ∃ inner : List Value, Reps R size (xs.take k) inner ∧ ∀ b, A = some b → ∀ j u, inner[j]? = some u → w.cell? (b.add j) = some u by
    obtain ⟨inner, h1, h2⟩ := H n (Nat.le_refl _)
    rw [← hl, List.take_length] at h1
    exact ⟨inner, h1, h2⟩
  intro k
  induction k with
  | zero => exact fun _ => ⟨[], by simpa using Reps.none R size, by simp⟩
  | succ k ih =>
    intro hk
    obtain ⟨inner, h1, h2⟩ := ih (by omega)
    obtain ⟨ad, rfl, hcc⟩ := hc (by omega)
    have hkl : k < xs.length := by omega
    obtain ⟨c, hcl, hR, hcell⟩ := hcc k xs[k] (List.getElem?_eq_getElem hkl)
    refine ⟨inner ++ c, ?_, ?_⟩
    · rw [List.take_succ_eq_append_getElem hkl]
      exact h1.snoc hR hcl
    · intro b hb j u hu
      cases hb
      have hil : inner.length = k * size := by rw [h1.1, List.length_take, Nat.min_eq_left (by omega)]
      by_cases hj : j < inner.length
      · rw [List.getElem?_append_left hj] at hu
        exact h2 ad rfl j u hu
      · rw [List.getElem?_append_right (by omega)] at hu
        have := hcell (j - inner.length) u hu
        rwa [show k * size + (j - inner.length) = j from by omega] at this
section
variable {P : Program} {ops : Array Oper} {o : Oper} {a : Act} {Q : Exit → Act → World → Prop} {Kc : Act → World → Prop}
/-- append of one element to a row that came in, whose capacity is its length: a new row. -/
theorem C_append_full {α : Type} (d : Kd α) {W : World} {E : Prop} (hg : o.guard = none) (s x : Operand) (t e : TypeId) (z : Value) (bytes : Nat)
    (ho : o.op = .call { callee := .builtin .append, args := #[s, x], argTypes := #[t, t] })
    (ht : P.underlying t = some (.slice e)) (hinfo : (P.info? e).map (fun i => (i.zero, i.size, i.bytes)) = some (some z, d.sz, bytes)) (hz : z.cells.size = d.sz) (hs0 : 0 < d.sz) (hb0 : 0 < bytes)
    (A : Option Addr) (xs : List α) (p : α) (cs : List Value) (hs : a.eval s = .slice A xs.length xs.length) (ad : Addr) (hx : a.eval x = .slice (some ad) 1 1) (hC : d.C W A xs.length xs)
    (hKM : ∀ y c, d.K W y c → d.M W W.heap.size (fun _ => False) y c) (hp : d.M W W.heap.size (fun _ => False) p cs) (hcs : ∀ j u, cs[j]? = some u → W.cell? (ad.add j) = some u) (hl : (xs.length + 1) * bytes ≤ 140737488355328)
    (h : ∀ v1 w1, d.R e w1 W.heap.size (fun _ => True) v1 (xs ++ [p]) → W.grownBy w1 none → Kc (a.put o.dst v1) w1) :
    if Region.wanted o (yielded ops a.tmps) = true then Oper.wp P o a W Kc Q else E := by
  obtain ⟨i0, hi, hzz⟩ := Option.map_eq_some_iff.1 hinfo
  simp only [Prod.mk.injEq] at hzz
  obtain ⟨hz0, hz1, hz2⟩ := hzz
  obtain ⟨inner, hr, hcell⟩ := row_cells hC
  have hcl : cs.length = d.sz := d.K_len (d.K_of_M hp)
  have hn1 : xs.length + 1 ≤ 140737488355328 := Nat.le_trans (Nat.le_mul_of_pos_right _ hb0) hl
  have hA : A = none → xs.length = 0 ∧ xs.length = 0 := by
    intro e
    subst e
    rcases Nat.eq_zero_or_pos xs.length with h0 | h0
    · exact ⟨h0, h0⟩
    · obtain ⟨b, hb, _⟩ := hC.2.2 h0
      cases hb
  refine step_append_grows (w := W) hg s x t ho e i0 z d.sz bytes ht hi hz0 hz1 hz2 hz hs0 A xs.length xs.length inner hs hA hr.1 hcell ad 1 1 cs hx (by rw [hcl, Nat.one_mul]) hcs (d.K_one (d.K_of_M hp)) (by omega) (by simp only [maxLen]; omega) hl ?_
  intro v' w' hown hgr
  refine h v' w' ⟨fun _ _ => trivial, inner ++ cs, ?_, ?_⟩ hgr
  · rw [List.length_append, List.length_singleton]
    exact hown
  · have e1 : ∀ y c, d.K W y c → d.M w' W.heap.size (fun k => True ∧ some k ≠ v'.ownBlock) y c := fun y c hy =>
      d.M_mono (fun _ hk => hk.elim) (d.M_move (fun _ hk => hk.elim) (hKM y c hy))
    exact (hr.imp_ (fun y c hy => e1 y c hy)).snoc (d.M_mono (fun _ hk => hk.elim) (d.M_move (fun _ hk => hk.elim) hp)) hcl
end
section
variable {P : Program}
theorem run_copy_k (w : World) (dT sT ty elem : TypeId) (k g dLen dCap : Nat) (a : Addr) (sLen sCap : Nat) (cur : Array Value) (t : TypeId) (cs : List Value)
    (hu : P.underlying dT = some (.slice elem)) (hs : (P.info? elem).map (·.size) = some k) (hg : w.heap[g]? = some (.cells cur t (0, 0))) (hn : cs.length = Nat.min sLen dLen * k)
    (hsrc : ∀ j v, cs[j]? = some v → w.cell? (a.add j) = some v) (hfit : cs.length ≤ cur.size) (h1 : ∀ v ∈ cs, v.oneCell' = true) :
    (Builtin.copy_ #[dT, sT] ty #[.slice (some ⟨g, 0, none⟩) dLen dCap, .slice (some a) sLen sCap]).run P w = .ok (goInt (Nat.min sLen dLen)) (w.setRow g (cs ++ cur.toList.drop cs.length).toArray) := by
  have hl := run_loadCells_list (P := P) w a cs hsrc
  have hst := run_storeCells_at P g 0 t cs 0 cur w hg (by simpa using hfit) h1
  cases hq : P.info? elem with
  | none => simp [hq] at hs
  | some i =>
    have hi : i.size = k := by simpa [hq] using hs
    simp [Builtin.copy_, run_underlying hu, Builtin.lenOf, Builtin.firstCells, sizeOf, typeInfo, hq, hi, ← hn, hl, hst]
theorem run_copy_k_none (w : World) (dT sT ty elem : TypeId) (k : Nat) (d a : Option Addr) (dLen dCap sLen sCap : Nat) (hu : P.underlying dT = some (.slice elem)) (hs : (P.info? elem).map (·.size) = some k) (hn : Nat.min sLen dLen = 0) :
    (Builtin.copy_ #[dT, sT] ty #[.slice d dLen dCap, .slice a sLen sCap]).run P w = .ok (goInt 0) w := by
  cases hq : P.info? elem with
  | none => simp [hq] at hs
  | some i =>
    have hl : ∀ (x : Addr), (loadCells x 0).run P w = .ok #[] w := fun x => by simpa using run_loadCells_list (P := P) w x [] (by simp)
    cases d <;> cases a <;> simp [Builtin.copy_, run_underlying hu, Builtin.lenOf, Builtin.firstCells, sizeOf, typeInfo, hq, hn, storeCells, hl]
end
section
variable {P : Program} {ops : Array Oper} {rest : List Oper} {o : Oper} {a : Act} {Q : Exit → Act → World → Prop}
/-- copy of a whole row that is read over a whole row of the call's own. -/
theorem R_copy {α : Type} (d : Kd α) {W : World} {base : Nat} {ok : Nat → Prop} (hgd : o.guard = none) (s x : Operand) (dT sT e : TypeId)
    (ho : o.op = .call { callee := .builtin .copy, args := #[s, x], argTypes := #[dT, sT] }) (ht : P.underlying dT = some (.slice e)) (hsz : (P.info? e).map (·.size) = some d.sz)
    (v : Value) (xs ys : List α) (A : Option Addr) (c : Nat) (hs : a.eval s = v) (hx : a.eval x = .slice A ys.length c) (HO : d.R e W base ok v xs) (hC : d.C W A ys.length ys) (hlen : ys.length = xs.length)
    (hKM : ∀ y c, d.K W y c → d.M W base (fun _ => False) y c)
    (h : ∀ w1, d.R e w1 base ok v ys → W.grownBy w1 v.ownBlock → wpList P ops Q rest (a.put o.dst (goInt ys.length)) w1) : wpList P ops Q (o :: rest) a W := by
  refine wpList_plain hgd fun K hK => ?_
  obtain ⟨hok, inner, ⟨hil, hown⟩, hr⟩ := HO
  rcases hown with ⟨rfl, h0⟩ | ⟨g, cap, cur, rfl, hbg, hg, hnc, hcm, hcs, htake⟩
  · have hy0 : ys.length = 0 := by omega
    obtain rfl : ys = [] := List.eq_nil_of_length_eq_zero hy0
    have hrun := run_copy_k_none (P := P) W dT sT o.type e d.sz none A 0 0 0 c ht hsz rfl
    unfold Oper.wp
    simp [execOp, ho, resolve, invoke, builtin, hs, hx, hrun, Result.andThen]
    refine hK _ _ (h W ⟨hok, [], ⟨by simp, .inl ⟨rfl, rfl⟩⟩, Reps.none _ _⟩ ⟨rfl, rfl, rfl, Nat.le_refl _, fun _ _ _ => rfl⟩)
  · obtain ⟨cs, hreps, hcell⟩ := row_cells hC
    rcases Nat.eq_zero_or_pos ys.length with hy0 | hy0
    · obtain rfl : ys = [] := List.eq_nil_of_length_eq_zero hy0
      have hx0 : xs.length = 0 := hlen.symm.trans hy0
      have hrun := run_copy_k_none (P := P) W dT sT o.type e d.sz (some ⟨g, 0, none⟩) A xs.length cap 0 c ht hsz (by simp)
      unfold Oper.wp
      simp [execOp, ho, resolve, invoke, builtin, hs, hx, hrun, Result.andThen]
      have hin : inner = [] := List.eq_nil_of_length_eq_zero (by rw [hil, hx0, Nat.zero_mul])
      subst hin
      refine hK _ _ (h W ⟨hok, [], ⟨by simp, .inr ⟨g, cap, cur, ?_, hbg, hg, by simp, hcm, hcs, by simp⟩⟩, Reps.none _ _⟩ ⟨rfl, rfl, rfl, Nat.le_refl _, fun _ _ _ => rfl⟩)
      rw [hx0]
      rfl
    · obtain ⟨ad, rfl, _⟩ := hC.2.2 hy0
      have hcl : cs.length = ys.length * d.sz := hreps.1
      have h1 : ∀ u ∈ cs, u.oneCell' = true := by
        intro u hu
        obtain ⟨j, hj, rfl⟩ := List.getElem_of_mem hu
        have hs0 : 0 < d.sz := by
          rcases Nat.eq_zero_or_pos d.sz with h | h
          · rw [hcl, h, Nat.mul_zero] at hj; omega
          · exact h
        have hjd : j / d.sz < ys.length := by
          rw [hcl] at hj
          exact Nat.div_lt_of_lt_mul (by rwa [Nat.mul_comm] at hj)
        have hK1 := hreps.2 (j / d.sz) ys[j / d.sz] (List.getElem?_eq_getElem hjd)
        refine d.K_one hK1 _ ?_
        have hdm := Nat.div_add_mod j d.sz
        have hml := Nat.mod_lt j hs0
        have : ((cs.drop (j / d.sz * d.sz)).take d.sz)[j % d.sz]? = some cs[j] := by
          rw [List.getElem?_take, if_pos hml, List.getElem?_drop, show j / d.sz * d.sz + j % d.sz = j from by rw [Nat.mul_comm]; omega]
          exact List.getElem?_eq_getElem hj
        exact List.mem_of_getElem? this
      have hrun := run_copy_k (P := P) W dT sT o.type e d.sz g xs.length cap ad ys.length c cur e cs ht hsz hg (by rw [hcl, ← hlen]; simp) (hcell ad rfl) (by rw [hcl, hcs, hlen]; exact Nat.mul_le_mul_right _ hnc) h1
      unfold Oper.wp
      simp [execOp, ho, resolve, invoke, builtin, hs, hx, hrun, Result.andThen]
      rw [← hlen, show ys.length.min ys.length = ys.length from Nat.min_self _]
      refine hK _ _ (h _ ⟨hok, cs, ⟨hcl, .inr ⟨g, cap, _, by rw [hlen], hbg, setRow_heap W g cur _ e _ hg, by rw [hlen]; exact hnc, hcm, ?_, ?_⟩⟩, ?_⟩ ⟨rfl, rfl, rfl, by simp [World.setRow], fun k _ hk => setRow_other W g k _ (fun e => hk (by simp [Value.ownBlock, e]))⟩)
      · have hle : cs.length ≤ cur.size := by rw [hcl, hcs, hlen]; exact Nat.mul_le_mul_right _ hnc
        simp only [List.size_toArray, List.length_append, List.length_drop, Array.length_toList]
        rw [← hcs]
        omega
      · rw [← hcl]
        simp
      · exact hreps.imp_ (fun y c hy => d.M_mono (fun _ hk => hk.elim) (d.M_move (fun _ hk => hk.elim) (hKM y c hy)))
end
end Go.Proofs.Ytmafibbnojdpjaa.Rows2
end
