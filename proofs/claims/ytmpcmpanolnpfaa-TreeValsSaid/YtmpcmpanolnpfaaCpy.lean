/- copy of elements of any size, anywhere into a row; over any program. -/
import Derived.Test.YtmpcmpanolnpfaaWWords
import Derived.Deep.RegionLawGrows
import Derived.Laws.CopyOwn
set_option linter.unusedVariables false
set_option linter.unusedSimpArgs false
namespace Go.Proofs.Ytmpcmpanolnpfaa.Cpy
open Go.RowKit Go.Proofs.YtmpcmpanolnpfaaW.PrintWords
section
variable {P : Program}
theorem run_copy_at (w : World) (dT sT ty elem : TypeId) (k g off dLen dCap : Nat) (a : Addr) (sLen sCap : Nat) (cur : Array Value) (t : TypeId) (cs : List Value)
    (hu : P.underlying dT = some (.slice elem)) (hs : (P.info? elem).map (·.size) = some k) (hg : w.heap[g]? = some (.cells cur t (0, 0))) (hn : cs.length = Nat.min sLen dLen * k)
    (hsrc : ∀ j v, cs[j]? = some v → w.cell? (a.add j) = some v) (hfit : off + cs.length ≤ cur.size) (h1 : ∀ v ∈ cs, v.oneCell' = true) :
    (Builtin.copy_ #[dT, sT] ty #[.slice (some ⟨g, off, none⟩) dLen dCap, .slice (some a) sLen sCap]).run P w = .ok (goInt (Nat.min sLen dLen)) (w.setRow g (cur.toList.take off ++ (cs ++ cur.toList.drop (off + cs.length))).toArray) := by
  have hl := run_loadCells_list (P := P) w a cs hsrc
  have hst := run_storeCells_at P g off t cs 0 cur w hg (by simpa using hfit) h1
  cases hq : P.info? elem with
  | none => simp [hq] at hs
  | some i =>
    have hi : i.size = k := by simpa [hq] using hs
    simp [Builtin.copy_, run_underlying hu, Builtin.lenOf, Builtin.firstCells, sizeOf, typeInfo, hq, hi, ← hn, hl, hst]
end
section
variable {P : Program} {ops : Array Oper} {rest : List Oper} {o : Oper} {a : Act} {Q : Exit → Act → World → Prop}
theorem wpList_copy_at {w : World} (hgd : o.guard = none) (d s : Operand) (dT sT : TypeId) (ho : o.op = .call { callee := .builtin .copy, args := #[d, s], argTypes := #[dT, sT] })
    (elem : TypeId) (k : Nat) (hu : P.underlying dT = some (.slice elem)) (hsz : (P.info? elem).map (·.size) = some k) (g off dLen dCap : Nat) (ad : Addr) (sLen sCap : Nat) (hd : a.eval d = .slice (some ⟨g, off, none⟩) dLen dCap) (hs : a.eval s = .slice (some ad) sLen sCap)
    (cur : Array Value) (t : TypeId) (hg : w.heap[g]? = some (.cells cur t (0, 0))) (cs : List Value) (hn : cs.length = Nat.min sLen dLen * k)
    (hsrc : ∀ j v, cs[j]? = some v → w.cell? (ad.add j) = some v) (hfit : off + cs.length ≤ cur.size) (h1 : ∀ v ∈ cs, v.oneCell' = true)
    (h : wpList P ops Q rest (a.put o.dst (goInt (Nat.min sLen dLen))) (w.setRow g (cur.toList.take off ++ (cs ++ cur.toList.drop (off + cs.length))).toArray)) : wpList P ops Q (o :: rest) a w := by
  refine wpList_plain hgd fun K hK => ?_
  have hrun := run_copy_at (P := P) w dT sT o.type elem k g off dLen dCap ad sLen sCap cur t cs hu hsz hg hn hsrc hfit h1
  unfold Oper.wp
  simp [execOp, ho, resolve, invoke, builtin, hd, hs, hrun, Result.andThen]
  exact hK _ _ h
theorem step_copy_at {w : World} {K : Act → World → Prop} {E : Prop} (hgd : o.guard = none) (d s : Operand) (dT sT : TypeId) (ho : o.op = .call { callee := .builtin .copy, args := #[d, s], argTypes := #[dT, sT] })
    (elem : TypeId) (k : Nat) (hu : P.underlying dT = some (.slice elem)) (hsz : (P.info? elem).map (·.size) = some k) (g off dLen dCap : Nat) (ad : Addr) (sLen sCap : Nat) (hd : a.eval d = .slice (some ⟨g, off, none⟩) dLen dCap) (hs : a.eval s = .slice (some ad) sLen sCap)
    (cur : Array Value) (t : TypeId) (hg : w.heap[g]? = some (.cells cur t (0, 0))) (cs : List Value) (hn : cs.length = Nat.min sLen dLen * k)
    (hsrc : ∀ j v, cs[j]? = some v → w.cell? (ad.add j) = some v) (hfit : off + cs.length ≤ cur.size) (h1 : ∀ v ∈ cs, v.oneCell' = true)
    (h : K (a.put o.dst (goInt (Nat.min sLen dLen))) (w.setRow g (cur.toList.take off ++ (cs ++ cur.toList.drop (off + cs.length))).toArray)) : if Region.wanted o (yielded ops a.tmps) = true then Oper.wp P o a w K Q else E := by
  have hw : Region.wanted o (yielded ops a.tmps) = true := by simp [Region.wanted, hgd]
  rw [if_pos hw]
  have hrun := run_copy_at (P := P) w dT sT o.type elem k g off dLen dCap ad sLen sCap cur t cs hu hsz hg hn hsrc hfit h1
  unfold Oper.wp
  simp [execOp, ho, resolve, invoke, builtin, hd, hs, hrun, Result.andThen]
  exact h
end
section
variable {P : Program}
theorem run_clear_at (w : World) (sT ty elem : TypeId) (z : Value) (k g off n c : Nat) (cur : Array Value) (t : TypeId) (i : TypeInfo)
    (hu : P.underlying sT = some (.slice elem)) (hi : P.info? elem = some i) (hz : i.zero = some z) (hg : w.heap[g]? = some (.cells cur t (0, 0))) (hn : 0 < n)
    (zs : List Value) (hzs : (Builtin.zeroCells z.cells n).toList = zs) (hfit : off + zs.length ≤ cur.size) (h1 : ∀ v ∈ zs, v.oneCell' = true) :
    (Builtin.clear_ #[sT] ty #[.slice (some ⟨g, off, none⟩) n c]).run P w = (.ok (.tuple #[]) (w.setRow g (cur.toList.take off ++ (zs ++ cur.toList.drop (off + zs.length))).toArray)) := by
  subst hzs
  have hst := run_storeCells_at P g off t (Builtin.zeroCells z.cells n).toList 0 cur w hg (by simpa using hfit) h1
  cases n with
  | zero => omega
  | succ n =>
    simp only [Nat.add_zero] at hst
    simp [Builtin.clear_, run_underlying hu, zeroValue, typeInfo, hi, hz]
    simp at hst
    rw [hst]
    simp [Result.andThen]
end
section
variable {P : Program} {ops : Array Oper} {rest : List Oper} {o : Oper} {a : Act} {Q : Exit → Act → World → Prop}
theorem wpList_clear_at {w : World} (hgd : o.guard = none) (s : Operand) (sT : TypeId) (ho : o.op = .call { callee := .builtin .clear, args := #[s], argTypes := #[sT] })
    (elem : TypeId) (z : Value) (i : TypeInfo) (hu : P.underlying sT = some (.slice elem)) (hi : P.info? elem = some i) (hz : i.zero = some z) (g off n c : Nat) (hs : a.eval s = .slice (some ⟨g, off, none⟩) n c) (hn : 0 < n)
    (cur : Array Value) (t : TypeId) (hg : w.heap[g]? = some (.cells cur t (0, 0))) (zs : List Value) (hzs : (Builtin.zeroCells z.cells n).toList = zs) (hfit : off + zs.length ≤ cur.size) (h1 : ∀ v ∈ zs, v.oneCell' = true)
    (h : wpList P ops Q rest (a.put o.dst (.tuple #[])) (w.setRow g (cur.toList.take off ++ (zs ++ cur.toList.drop (off + zs.length))).toArray)) : wpList P ops Q (o :: rest) a w := by
  refine wpList_plain hgd fun K hK => ?_
  have hrun := run_clear_at (P := P) w sT o.type elem z 0 g off n c cur t i hu hi hz hg hn zs hzs hfit h1
  unfold Oper.wp
  simp only [execOp, ho, resolve, invoke, builtin, Sem.run_bind, Sem.run_pure, Result.andThen_ok, List.map_toArray, List.map_cons, List.map_nil, hs, hrun]
  exact hK _ _ h
theorem step_append_at {w : World} {K : Act → World → Prop} {E : Prop} (hgd : o.guard = none) (d s : Operand) (t : TypeId) (ho : o.op = .call { callee := .builtin .append, args := #[d, s], argTypes := #[t, t] })
    (elem : TypeId) (i : TypeInfo) (hu : P.underlying t = some (.slice elem)) (hi : P.info? elem = some i) (g sLen sCap : Nat) (ad : Addr) (m c : Nat) (hd : a.eval d = .slice (some ⟨g, 0, none⟩) sLen sCap) (hs : a.eval s = .slice (some ad) m c)
    (cur : Array Value) (hg : w.heap[g]? = some (.cells cur elem (0, 0))) (news : List Value) (hl : news.length = m * i.size)
    (hsrc : ∀ j v, news[j]? = some v → w.cell? (ad.add j) = some v) (h1 : ∀ v ∈ news, v.oneCell' = true) (hroom : sLen + m ≤ sCap) (hfit : sLen * i.size + news.length ≤ cur.size)
    (h : K (a.put o.dst (.slice (some ⟨g, 0, none⟩) (sLen + m) sCap)) (w.setRow g (cur.toList.take (sLen * i.size) ++ news ++ cur.toList.drop (sLen * i.size + news.length)).toArray)) : if Region.wanted o (yielded ops a.tmps) = true then Oper.wp P o a w K Q else E := by
  have hw : Region.wanted o (yielded ops a.tmps) = true := by simp [Region.wanted, hgd]
  rw [if_pos hw]
  have hrun := run_append_room (P := P) w t o.type elem i hu hi g sLen sCap cur hg ad m c news hl hsrc h1 hroom hfit
  unfold Oper.wp
  simp only [execOp, ho, resolve, invoke, builtin, Sem.run_bind, Sem.run_pure, Result.andThen_ok, List.map_toArray, List.map_cons, List.map_nil, hd, hs, hrun]
  exact h
end
theorem zeros_one (z : Array Value) : (Builtin.zeroCells z 1).toList = z.toList := by
  unfold Builtin.zeroCells
  apply List.ext_getElem
  · simp
  · intro i h1 h2
    have : i < z.size := by simpa using h2
    simp [Nat.mod_eq_of_lt this, this]
end Go.Proofs.Ytmpcmpanolnpfaa.Cpy
