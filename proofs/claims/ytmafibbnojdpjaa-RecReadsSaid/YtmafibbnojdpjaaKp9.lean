/- Lemmas that the proof needs, part 9. -/
import Derived.Test.YtmafibbnojdpjaaKp2
import Derived.Test.YtmafibbnojdpjaaKp3
import Derived.Test.YtmafibbnojdpjaaKp4
import Derived.Test.YtmafibbnojdpjaaKp5
import Derived.Test.YtmafibbnojdpjaaKp6
import Derived.Test.YtmafibbnojdpjaaKp7
import Derived.Test.YtmafibbnojdpjaaKp8
section
set_option linter.unusedVariables false
set_option maxRecDepth 100000
set_option linter.unusedSimpArgs false
namespace Go.Proofs.Ytmafibbnojdpjaa.St
open Go.Proofs.Ytmafibbnojdpjaa.Tr
/-- a write: key, value, gone -/
abbrev Wr := P.S31
/-- a version: commit, value, gone -/
abbrev Ver := P.S118
/-- a commit: number, time, writes -/
abbrev Cm := P.S28
abbrev KC := ByteArray × List Ver
def w0 : Wr := ⟨⟨#[]⟩, ⟨#[]⟩, false⟩
def wA (l : List Wr) (i : Nat) : Wr := l.getD i w0
theorem wA_eq {l : List Wr} {i : Nat} (h : i < l.length) : wA l i = l[i] := by simp [wA, List.getD, h]
def okW (x : Wr) : Bool := decide (x.f0.size ≠ 0) && decide (x.f0.size ≤ 400) && decide (x.f1.size ≤ 4096) && !(x.f2 && decide (x.f1.size ≠ 0))
/-- the write of number i is right, and behind the one ahead of it -/
def okAt (l : List Wr) (i : Nat) : Bool := okW (wA l i) && (decide (i = 0) || decide (kl (wA l (i - 1)).f0 (wA l i).f0))
def risesTo (l : List Wr) (n : Nat) : Bool := (List.range n).all (okAt l)
def rises (l : List Wr) : Bool := risesTo l l.length
def rightW (l : List Wr) : Bool := decide (l.length ≤ 200) && rises l
theorem rises_iff {l : List Wr} {n : Nat} : risesTo l n = true ↔ ∀ i, i < n → okAt l i = true := by simp [risesTo]
theorem rises_succ (l : List Wr) (n : Nat) : risesTo l (n + 1) = (risesTo l n && okAt l n) := by
  unfold risesTo
  rw [List.range_succ, List.all_append]
  simp
theorem rises_less {l : List Wr} {n i : Nat} (hi : i < n) (h : okAt l i = false) : risesTo l n = false := by
  cases hr : risesTo l n with
  | false => rfl
  | true =>
    have := rises_iff.1 hr i hi
    rw [h] at this
    cases this
theorem rises_key {l : List Wr} (h : rises l = true) {i j : Nat} (hij : i < j) (hj : j < l.length) : kl (wA l i).f0 (wA l j).f0 := by
  have hr := rises_iff.1 h
  have step : ∀ k, k + 1 < l.length → kl (wA l k).f0 (wA l (k + 1)).f0 := fun k hk => by
    have := hr (k + 1) hk
    unfold okAt at this
    rw [Bool.and_eq_true, Bool.or_eq_true, decide_eq_true_eq, decide_eq_true_eq] at this
    rcases this.2 with h | h
    · omega
    · exact h
  obtain ⟨d, rfl⟩ : ∃ d, j = i + 1 + d := ⟨j - (i + 1), by omega⟩
  clear hij
  induction d with
  | zero => exact step i hj
  | succ d ih => exact kl_trans (ih (by omega)) (step (i + 1 + d) hj)
theorem rises_pair {l : List Wr} (h : rises l = true) : l.Pairwise fun a b => kl a.f0 b.f0 := by
  rw [List.pairwise_iff_getElem]
  intro i j hi hj hij
  have := rises_key h hij hj
  rwa [wA_eq hi, wA_eq hj] at this
-- keys and what belongs to them
def SrtK {α : Type} (K : List (ByteArray × α)) : Prop := K.Pairwise fun a b => kl a.1 b.1
def getK {α : Type} (K : List (ByteArray × α)) (x : ByteArray) : Option α := (K.find? fun a => decide (a.1 = x)).map (·.2)
def insK {α : Type} (K : List (ByteArray × α)) (x : ByteArray) (c : α) : List (ByteArray × α) := (K.filter fun a => decide (kl a.1 x)) ++ [(x, c)] ++ K.filter fun a => decide (kl x a.1)
theorem mem_insK {α : Type} {K : List (ByteArray × α)} {x : ByteArray} {c : α} {a : ByteArray × α} : a ∈ insK K x c ↔ a = (x, c) ∨ (a ∈ K ∧ a.1 ≠ x) := by
  unfold insK
  simp only [List.mem_append, List.mem_filter, decide_eq_true_eq, List.mem_singleton]
  constructor
  · rintro ((⟨h1, h2⟩ | h) | ⟨h1, h2⟩)
    · exact .inr ⟨h1, fun e => kl_irrefl x (e ▸ h2)⟩
    · exact .inl h
    · exact .inr ⟨h1, fun e => kl_irrefl x (e ▸ h2)⟩
  · rintro (h | ⟨h1, h2⟩)
    · exact .inl (.inr h)
    · rcases kl_tri a.1 x with h | h | h
      · exact .inl (.inl ⟨h1, h⟩)
      · exact absurd h h2
      · exact .inr ⟨h1, h⟩
theorem srtK_ins {α : Type} {K : List (ByteArray × α)} (h : SrtK K) (x : ByteArray) (c : α) : SrtK (insK K x c) := by
  unfold insK SrtK
  rw [List.pairwise_append, List.pairwise_append]
  refine ⟨⟨h.filter _, List.pairwise_singleton _ _, ?_⟩, h.filter _, ?_⟩
  · intro a ha b hb
    rw [List.mem_filter, decide_eq_true_eq] at ha
    rw [List.mem_singleton] at hb
    rw [hb]
    exact ha.2
  · intro a ha b hb
    rw [List.mem_filter, decide_eq_true_eq] at hb
    rcases List.mem_append.1 ha with ha | ha
    · rw [List.mem_filter, decide_eq_true_eq] at ha
      exact kl_trans ha.2 hb.2
    · rw [List.mem_singleton] at ha
      rw [ha]
      exact hb.2
theorem getK_some {α : Type} {K : List (ByteArray × α)} (h : SrtK K) {a : ByteArray × α} (ha : a ∈ K) : getK K a.1 = some a.2 := by
  unfold getK
  induction K with
  | nil => cases ha
  | cons b K ih =>
    obtain ⟨h1, h2⟩ := List.pairwise_cons.1 h
    rw [List.find?_cons]
    rcases List.mem_cons.1 ha with rfl | ha'
    · simp
    · have hne : ¬ b.1 = a.1 := fun e => kl_irrefl a.1 (by have := h1 a ha'; rwa [e] at this)
      simp only [hne, decide_false]
      exact ih h2 ha'
theorem getK_none {α : Type} {K : List (ByteArray × α)} {x : ByteArray} : getK K x = none ↔ ∀ a ∈ K, a.1 ≠ x := by
  unfold getK
  rw [Option.map_eq_none_iff, List.find?_eq_none]
  simp
theorem getK_mem {α : Type} {K : List (ByteArray × α)} {x : ByteArray} {c : α} (h : getK K x = some c) : (x, c) ∈ K := by
  unfold getK at h
  obtain ⟨a, ha, rfl⟩ := Option.map_eq_some_iff.1 h
  have h1 := List.find?_some ha
  rw [decide_eq_true_eq] at h1
  rw [← h1]
  exact List.mem_of_find?_eq_some ha
theorem getK_iff {α : Type} {K : List (ByteArray × α)} (h : SrtK K) {x : ByteArray} {c : α} : getK K x = some c ↔ (x, c) ∈ K := ⟨getK_mem, fun hm => getK_some h hm⟩
theorem getK_ins {α : Type} {K : List (ByteArray × α)} (h : SrtK K) (x z : ByteArray) (c : α) : getK (insK K x c) z = if z = x then some c else getK K z := by
  by_cases e : z = x
  · rw [if_pos e, e]
    exact getK_some (srtK_ins h x c) (a := (x, c)) (mem_insK.2 (.inl rfl))
  · rw [if_neg e]
    cases hg : getK K z with
    | some d => exact (getK_iff (srtK_ins h x c)).2 (mem_insK.2 (.inr ⟨getK_mem hg, e⟩))
    | none =>
      rw [getK_none] at hg ⊢
      intro a ha
      rcases mem_insK.1 ha with rfl | ⟨h1, _⟩
      · exact fun q => e q.symm
      · exact hg a h1
theorem insK_length {α : Type} (K : List (ByteArray × α)) (x : ByteArray) (c : α) : (insK K x c).length ≤ K.length + 1 := by
  unfold insK
  have : (K.filter fun a => decide (kl a.1 x)).length + (K.filter fun a => decide (kl x a.1)).length ≤ K.length := by
    induction K with
    | nil => simp
    | cons b K ih =>
      by_cases h1 : kl b.1 x
      · rw [List.filter_cons_of_pos (by simpa using h1), List.filter_cons_of_neg (by simpa using kl_anti h1), List.length_cons, List.length_cons]
        omega
      · rw [List.filter_cons_of_neg (by simpa using h1)]
        have := List.length_filter_le (fun a : ByteArray × α => decide (kl x a.1)) [b]
        rw [show b :: K = [b] ++ K from rfl, List.filter_append, List.length_append, List.length_append]
        simp only [List.length_singleton] at *
        omega
  simp only [List.length_append, List.length_singleton]
  omega
-- chains
/-- the chain of a key; none: empty -/
def chainK (K : List KC) (x : ByteArray) : List Ver := (getK K x).getD []
def lastV (c : List Ver) : Int := if h : c.length = 0 then -1 else (c[c.length - 1]'(by omega)).f0
/-- the commits rise, up to one at most -/
structure ChOk (top : Int) (c : List Ver) : Prop where
  up : c.Pairwise fun a b => a.f0 < b.f0
  low : ∀ v ∈ c, 0 ≤ v.f0
  top : ∀ v ∈ c, v.f0 ≤ top
theorem ChOk.last {top : Int} {c : List Ver} (h : ChOk top c) (ht : -1 ≤ top) : lastV c ≤ top := by
  unfold lastV
  split
  · exact ht
  · exact h.top _ (List.getElem_mem _)
theorem ChOk.snoc {top : Int} {c : List Ver} (h : ChOk top c) (ht : -1 ≤ top) {v : Ver} (hv : v.f0 = top + 1) : ChOk (top + 1) (c ++ [v]) := by
  refine ⟨?_, ?_, ?_⟩
  · rw [List.pairwise_append]
    refine ⟨h.up, List.pairwise_singleton _ _, fun a ha b hb => ?_⟩
    rw [List.mem_singleton] at hb
    have := h.top a ha
    rw [hb]
    omega
  · intro a ha
    rcases List.mem_append.1 ha with ha | ha
    · exact h.low a ha
    · rw [List.mem_singleton] at ha
      rw [ha]
      omega
  · intro a ha
    rcases List.mem_append.1 ha with ha | ha
    · have := h.top a ha
      omega
    · rw [List.mem_singleton] at ha
      rw [ha, hv]
      omega
theorem ChOk.mono {t t' : Int} {c : List Ver} (h : ChOk t c) (ht : t ≤ t') : ChOk t' c := ⟨h.up, h.low, fun v hv => Int.le_trans (h.top v hv) ht⟩
theorem ChOk.nil (t : Int) : ChOk t [] := ⟨List.Pairwise.nil, fun v hv => (by cases hv), fun v hv => (by cases hv)⟩
-- the store
structure StM where
  low : Int
  hist : List Cm
  K : List KC
def lastM (M : StM) : Int := M.low + (M.hist.length : Int)
def maxSeq : Int := 1099511627776
def verOf (s : Int) (x : Wr) : Ver := ⟨s, x.f1, x.f2⟩
def putW (s : Int) (K : List KC) (x : Wr) : List KC := insK K x.f0 (chainK K x.f0 ++ [verOf s x])
def putAll (s : Int) (K : List KC) (ws : List Wr) : List KC := ws.foldl (putW s) K
def lastAt (h : List Cm) : Int := if e : h.length = 0 then 0 else (h[h.length - 1]'(by omega)).f1
def goodC (M : StM) (c : Cm) : Bool := decide (c.f0 = lastM M + 1) && decide (c.f0 ≤ maxSeq) && decide (0 ≤ c.f1) && decide (c.f1 ≤ maxSeq) && rightW c.f2 && (decide (M.hist.length = 0) || decide (lastAt M.hist ≤ c.f1))
def comM (M : StM) (c : Cm) : StM := ⟨M.low, M.hist ++ [c], putAll c.f0 M.K c.f2⟩
structure Inv (M : StM) : Prop where
  low : 0 ≤ M.low
  last : lastM M ≤ maxSeq
  srt : SrtK M.K
  ch : ∀ a ∈ M.K, ChOk (lastM M) a.2 ∧ a.2 ≠ []
  ws : ∀ c ∈ M.hist, rightW c.f2 = true
/-- while a commit's writes are taken in: the keys still to come are as they were -/
structure Mid (top : Int) (K : List KC) : Prop where
  srt : SrtK K
  ch : ∀ a ∈ K, ChOk top a.2 ∧ a.2 ≠ []
theorem Inv.mid {M : StM} (h : Inv M) : Mid (lastM M) M.K := ⟨h.srt, h.ch⟩
theorem chainK_ok {K : List KC} {t : Int} (h : Mid t K) (x : ByteArray) : ChOk t (chainK K x) := by
  unfold chainK
  cases hg : getK K x with
  | none => exact ChOk.nil t
  | some c => exact (h.ch _ (getK_mem hg)).1
theorem srtK_putAll (s : Int) (ws : List Wr) : ∀ K : List KC, SrtK K → SrtK (putAll s K ws) := by
  induction ws with
  | nil => exact fun K h => h
  | cons x ws ih => exact fun K h => ih _ (srtK_ins h _ _)
/-- a key that isn't written keeps its chain -/
theorem chain_putW {s : Int} {K : List KC} (h : SrtK K) (x : Wr) (z : ByteArray) : chainK (putW s K x) z = if z = x.f0 then chainK K z ++ [verOf s x] else chainK K z := by
  unfold chainK putW
  rw [getK_ins h]
  by_cases e : z = x.f0
  · rw [if_pos e, if_pos e, e]
    rfl
  · rw [if_neg e, if_neg e]
theorem chain_putAll {s : Int} (ws : List Wr) (hw : ws.Pairwise fun a b => kl a.f0 b.f0) : ∀ K : List KC, SrtK K → ∀ z, chainK (putAll s K ws) z = chainK K z ++ ((ws.filter fun x => decide (x.f0 = z)).map (verOf s)) := by
  induction ws with
  | nil => intro K _ z; simp [putAll]
  | cons x ws ih =>
    intro K h z
    obtain ⟨h1, h2⟩ := List.pairwise_cons.1 hw
    rw [show putAll s K (x :: ws) = putAll s (putW s K x) ws from rfl, ih h2 _ (show SrtK (putW s K x) from srtK_ins h _ _) z, chain_putW h]
    by_cases e : z = x.f0
    · have hno : (ws.filter fun y => decide (y.f0 = z)) = [] := by
        rw [List.filter_eq_nil_iff]
        intro y hy
        rw [decide_eq_true_eq]
        intro e2
        have := h1 y hy
        rw [e2, e] at this
        exact kl_irrefl _ this
      rw [if_pos e, hno, List.filter_cons_of_pos (by simp [e]), hno]
      simp
    · rw [if_neg e, List.filter_cons_of_neg (by simp; exact fun q => e q.symm)]
theorem putAll_take {s : Int} {K : List KC} {ws : List Wr} {i : Nat} (hi : i < ws.length) : putAll s K (ws.take (i + 1)) = putW s (putAll s K (ws.take i)) (wA ws i) := by
  unfold putAll
  rw [List.take_succ_eq_append_getElem hi, List.foldl_append, wA_eq hi]
  rfl
theorem chain_next {s : Int} {K : List KC} (h : SrtK K) {ws : List Wr} (hw : ws.Pairwise fun a b => kl a.f0 b.f0) {i : Nat} (hi : i < ws.length) : chainK (putAll s K (ws.take i)) (wA ws i).f0 = chainK K (wA ws i).f0 := by
  rw [chain_putAll _ (hw.sublist (List.take_sublist i ws)) K h]
  have : ((ws.take i).filter fun x => decide (x.f0 = (wA ws i).f0)) = [] := by
    rw [List.filter_eq_nil_iff]
    intro y hy
    rw [decide_eq_true_eq]
    intro e
    obtain ⟨j, hj, rfl⟩ := List.mem_iff_getElem.1 hy
    rw [List.length_take] at hj
    rw [List.getElem_take, wA_eq hi] at e
    have := List.pairwise_iff_getElem.1 hw j i (by omega) hi (by omega)
    rw [e] at this
    exact kl_irrefl _ this
  rw [this]
  simp
theorem filter_one {ws : List Wr} (hw : ws.Pairwise fun a b => kl a.f0 b.f0) (z : ByteArray) : (ws.filter fun x => decide (x.f0 = z)) = [] ∨ ∃ x ∈ ws, (ws.filter fun x => decide (x.f0 = z)) = [x] ∧ x.f0 = z := by
  induction ws with
  | nil => exact .inl rfl
  | cons x ws ih =>
    obtain ⟨h1, h2⟩ := List.pairwise_cons.1 hw
    by_cases e : x.f0 = z
    · right
      refine ⟨x, List.mem_cons_self .., ?_, e⟩
      rw [List.filter_cons_of_pos (by simp [e])]
      congr 1
      rw [List.filter_eq_nil_iff]
      intro y hy
      rw [decide_eq_true_eq]
      intro e2
      have := h1 y hy
      rw [e2, e] at this
      exact kl_irrefl _ this
    · rw [List.filter_cons_of_neg (by simpa using e)]
      rcases ih h2 with h | ⟨y, hy, h3, h4⟩
      · exact .inl h
      · exact .inr ⟨y, List.mem_cons_of_mem _ hy, h3, h4⟩
theorem ne_putAll {s : Int} (ws : List Wr) : ∀ K : List KC, (∀ a ∈ K, a.2 ≠ []) → ∀ a ∈ putAll s K ws, a.2 ≠ [] := by
  induction ws with
  | nil => exact fun K h => h
  | cons x ws ih =>
    intro K h
    refine ih _ (fun a ha => ?_)
    rcases mem_insK.1 ha with rfl | ⟨h1, _⟩
    · simp
    · exact h a h1
theorem mid_putAll {t : Int} (ht : -1 ≤ t) {K : List KC} (h : Mid t K) {ws : List Wr} (hw : ws.Pairwise fun a b => kl a.f0 b.f0) : Mid (t + 1) (putAll (t + 1) K ws) := by
  have hs := srtK_putAll (t + 1) ws K h.srt
  refine ⟨hs, fun a ha => ⟨?_, ne_putAll ws K (fun a ha => (h.ch a ha).2) a ha⟩⟩
  have e : chainK (putAll (t + 1) K ws) a.1 = a.2 := by
    unfold chainK
    rw [getK_some hs ha]
    rfl
  rw [← e, chain_putAll ws hw K h.srt]
  have hc := chainK_ok h a.1
  rcases filter_one hw a.1 with h1 | ⟨x, _, h1, _⟩
  · rw [h1]
    simpa using hc.mono (by omega)
  · rw [h1]
    exact hc.snoc ht rfl
theorem putAll_length {s : Int} (ws : List Wr) : ∀ K : List KC, (putAll s K ws).length ≤ K.length + ws.length := by
  induction ws with
  | nil => exact fun K => Nat.le_refl _
  | cons x ws ih =>
    intro K
    have h1 := ih (putW s K x)
    have h2 := insK_length K x.f0 (chainK K x.f0 ++ [verOf s x])
    rw [List.length_cons]
    show (putAll s (putW s K x) ws).length ≤ _
    unfold putW at *
    omega
theorem last_com (M : StM) (c : Cm) : lastM (comM M c) = lastM M + 1 := by
  unfold lastM comM
  simp only [List.length_append, List.length_singleton]
  omega
theorem goodC_iff {M : StM} {c : Cm} : goodC M c = true ↔ c.f0 = lastM M + 1 ∧ c.f0 ≤ maxSeq ∧ 0 ≤ c.f1 ∧ c.f1 ≤ maxSeq ∧ rightW c.f2 = true ∧ (M.hist.length = 0 ∨ lastAt M.hist ≤ c.f1) := by
  unfold goodC
  simp only [Bool.and_eq_true, Bool.or_eq_true, decide_eq_true_eq]
  constructor
  · rintro ⟨⟨⟨⟨⟨h1, h2⟩, h3⟩, h4⟩, h5⟩, h6⟩
    exact ⟨h1, h2, h3, h4, h5, h6⟩
  · rintro ⟨h1, h2, h3, h4, h5, h6⟩
    exact ⟨⟨⟨⟨⟨h1, h2⟩, h3⟩, h4⟩, h5⟩, h6⟩
theorem right_pair {l : List Wr} (h : rightW l = true) : l.Pairwise fun a b => kl a.f0 b.f0 := by
  unfold rightW at h
  rw [Bool.and_eq_true] at h
  exact rises_pair h.2
theorem Inv.last0 {M : StM} (h : Inv M) : 0 ≤ lastM M := by
  have := h.low
  unfold lastM
  omega
theorem inv_com {M : StM} (h : Inv M) {c : Cm} (hg : goodC M c = true) : Inv (comM M c) := by
  obtain ⟨h1, h2, h3, h4, h5, h6⟩ := goodC_iff.1 hg
  have hm := mid_putAll (by have := h.last0; omega) h.mid (right_pair h5)
  rw [← h1] at hm
  have hl : lastM (comM M c) = c.f0 := by rw [last_com, h1]
  refine ⟨h.low, by rw [hl]; exact h2, hm.srt, fun a ha => ?_, fun d hd => ?_⟩
  · rw [hl]
    exact hm.ch a ha
  · rcases List.mem_append.1 hd with hd | hd
    · exact h.ws d hd
    · rw [List.mem_singleton] at hd
      rw [hd]
      exact h5
-- New
def newPut (s : Int) (K : List KC) (x : Wr) : List KC := insK K x.f0 [⟨s, x.f1, false⟩]
def newAll (s : Int) (ws : List Wr) : List KC := ws.foldl (newPut s) []
def newOk (s : Int) (ws : List Wr) : Bool := decide (0 ≤ s) && decide (s ≤ maxSeq) && rises ws && ws.all fun x => !x.f2
def newM (s : Int) (ws : List Wr) : StM := ⟨s, [], newAll s ws⟩
theorem newAll_take {s : Int} {ws : List Wr} {i : Nat} (hi : i < ws.length) : newAll s (ws.take (i + 1)) = newPut s (newAll s (ws.take i)) (wA ws i) := by
  unfold newAll
  rw [List.take_succ_eq_append_getElem hi, List.foldl_append, wA_eq hi]
  rfl
theorem newFold {s : Int} (h0 : 0 ≤ s) (ws : List Wr) : ∀ K : List KC, Mid s K → Mid s (ws.foldl (newPut s) K) := by
  induction ws with
  | nil => exact fun K h => h
  | cons x ws ih =>
    intro K h
    refine ih _ ⟨srtK_ins h.srt _ _, fun a ha => ?_⟩
    rcases mem_insK.1 ha with rfl | ⟨h1, _⟩
    · refine ⟨⟨List.pairwise_singleton _ _, ?_, ?_⟩, by simp⟩
      · intro v hv
        rw [List.mem_singleton] at hv
        rw [hv]
        exact h0
      · intro v hv
        rw [List.mem_singleton] at hv
        rw [hv]
        exact Int.le_refl _
    · exact h.ch a h1
theorem newAll_mid {s : Int} (h0 : 0 ≤ s) (ws : List Wr) : Mid s (newAll s ws) := newFold h0 ws [] ⟨List.Pairwise.nil, fun a ha => (by cases ha)⟩
theorem newAll_length (s : Int) (ws : List Wr) : (newAll s ws).length ≤ ws.length := by
  suffices H : ∀ (ws : List Wr) (K : List KC), (ws.foldl (newPut s) K).length ≤ K.length + ws.length by simpa [newAll] using H ws []
  intro ws
  induction ws with
  | nil => exact fun K => Nat.le_refl _
  | cons x ws ih =>
    intro K
    have h1 := ih (newPut s K x)
    have h2 := insK_length K x.f0 [(⟨s, x.f1, false⟩ : Ver)]
    rw [List.length_cons, List.foldl_cons]
    unfold newPut at *
    omega
theorem inv_new {s : Int} {ws : List Wr} (h : newOk s ws = true) : Inv (newM s ws) := by
  unfold newOk at h
  simp only [Bool.and_eq_true, decide_eq_true_eq] at h
  obtain ⟨⟨⟨h1, h2⟩, h3⟩, h4⟩ := h
  have hm := newAll_mid h1 ws
  have hl : lastM (newM s ws) = s := by simp [lastM, newM]
  exact ⟨h1, by rw [hl]; exact h2, hm.srt, fun a ha => by rw [hl]; exact hm.ch a ha, fun c hc => by cases hc⟩
end Go.Proofs.Ytmafibbnojdpjaa.St
end
section
set_option linter.unusedVariables false
set_option maxRecDepth 100000
set_option linter.unusedSimpArgs false
namespace Go.Proofs.Ytmafibbnojdpjaa.St
open Go.Proofs.Ytmafibbnojdpjaa.Tr Go.RowKit Go.Proofs.YtmafibbnojdpjaaW.PrintWords Go.Proofs.Ytmafibbnojdpjaa.P
theorem ev_pos {α : Type} {c : Prop} [Decidable c] {f g : Nat → Option α} {r : α} (h : c) (k : Ev f r) : Ev (fun n => if c then f n else g n) r := by
  simp only [if_pos h]; exact k
theorem ev_neg {α : Type} {c : Prop} [Decidable c] {f g : Nat → Option α} {r : α} (h : ¬ c) (k : Ev g r) : Ev (fun n => if c then f n else g n) r := by
  simp only [if_neg h]; exact k
theorem ev_bind {α β : Type} {g : Nat → Option α} {f : Nat → α → Option β} {a : α} {r : β} (h : Ev g a) (k : Ev (fun n => f n a) r) : Ev (fun n => (g n).bind (f n)) r := h.bind k
theorem w64 {x : Int} (h0 : -9223372036854775808 ≤ x) (h1 : x < 9223372036854775808) : wrap64 x = x := by
  unfold wrap64; omega
theorem rd_wA (ws : List Wr) (i : Nat) : rd_T31 ws (i : Int) = wA ws i := by simp [rd_T31, wA, w0, z31]
theorem toList_nil {x : ByteArray} : x.toList = ([] : List UInt8) ↔ x.size = 0 := by
  rw [ByteArray.toList_eq]
  constructor
  · intro h
    have := congrArg List.length h
    simpa using this
  · intro h
    exact List.length_eq_zero_iff.1 (by simpa using h)
theorem less_kl (x y : ByteArray) : Op.bytesLess x.toList y.toList = decide (kl x y) := by
  rw [cb_less, ByteArray.toList_eq, ByteArray.toList_eq]
  rfl
theorem rises_l0 (ws : List Wr) (hn : ws.length < 4611686018427387904) : ∀ (d i : Nat), i + d = ws.length → risesTo ws i = true → Ev (fun k => store_rises.l0 k ws ws (ws.length : Int) (i : Int)) (rises ws)
  | 0, i, h, hr => by
    have e : rises ws = true := by unfold rises; rw [← h]; exact hr
    rw [e]
    refine Ev.step (fun k => by simp only [store_rises.l0]; rfl) ?_
    exact ev_neg (by omega) (Ev.now _)
  | d + 1, i, h, hr => by
    have hi : i < ws.length := by omega
    have bad : okAt ws i = false → rises ws = false := rises_less hi
    have good : okAt ws i = true → Ev (fun k => store_rises.l0 k ws ws (ws.length : Int) ((i + 1 : Nat) : Int)) (rises ws) := fun e => rises_l0 ws hn d (i + 1) (by omega) (by rw [rises_succ, hr, e]; rfl)
    refine Ev.step (fun k => by simp only [store_rises.l0]; rfl) ?_
    rw [show wrap64 ((i : Int) + 1) = ((i + 1 : Nat) : Int) from by rw [w64 (by omega) (by omega)]; rfl, rd_wA]
    have hil : (i : Int) < (ws.length : Int) := by omega
    refine ev_pos hil (ev_pos (by omega) (ev_pos hil ?_))
    have tail : okW (wA ws i) = true → Ev (fun k => if (i : Int) > 0 then (if 0 ≤ wrap64 ((i : Int) - 1) then (if wrap64 ((i : Int) - 1) < (ws.length : Int) then (if ((Op.bytesLess ((rd_T31 ws (wrap64 ((i : Int) - 1))).f0).toList (wA ws i).f0.toList) = true) then (store_rises.l0 k ws ws (ws.length : Int) ((i + 1 : Nat) : Int)) else (some false)) else (none)) else (none)) else (store_rises.l0 k ws ws (ws.length : Int) ((i + 1 : Nat) : Int))) (rises ws) := by
      intro hok
      by_cases c : 0 < i
      · rw [show wrap64 ((i : Int) - 1) = ((i - 1 : Nat) : Int) from by rw [w64 (by omega) (by omega)]; omega, rd_wA]
        refine ev_pos (by omega) (ev_pos (by omega) (ev_pos (by omega) ?_))
        rw [less_kl]
        by_cases e : kl (wA ws (i - 1)).f0 (wA ws i).f0
        · exact ev_pos (decide_eq_true e) (good (by unfold okAt; rw [hok, decide_eq_true e]; simp))
        · rw [bad (by unfold okAt; rw [hok, decide_eq_false e, decide_eq_false (by omega)]; rfl)]
          exact ev_neg (by simpa using e) (Ev.now _)
      · exact ev_neg (by omega) (good (by unfold okAt; rw [hok, decide_eq_true (show i = 0 by omega)]; rfl))
    have bad2 : okW (wA ws i) = false → rises ws = false := fun e => bad (by unfold okAt; rw [e]; rfl)
    by_cases c1 : (wA ws i).f0.size = 0
    · rw [bad2 (by unfold okW; simp [c1])]
      exact ev_pos (toList_nil.2 c1) (Ev.now _)
    refine ev_neg (fun e => c1 (toList_nil.1 e)) ?_
    by_cases c2 : ¬ (wA ws i).f0.size ≤ 400
    · rw [bad2 (by unfold okW; simp [c2])]
      exact ev_pos (by omega) (Ev.now _)
    replace c2 := Decidable.not_not.1 c2
    refine ev_neg (by omega) ?_
    by_cases c3 : ¬ (wA ws i).f1.size ≤ 4096
    · rw [bad2 (by unfold okW; simp [c3])]
      exact ev_pos (by omega) (Ev.now _)
    replace c3 := Decidable.not_not.1 c3
    refine ev_neg (by omega) ?_
    cases c4 : (wA ws i).f2 with
    | false => exact ev_neg (by simp) (tail (by unfold okW; simp [c1, c2, c3, c4]))
    | true =>
      refine ev_pos rfl ?_
      by_cases c5 : (wA ws i).f1.size = 0
      · exact ev_pos (toList_nil.2 c5) (tail (by unfold okW; simp [c1, c2, c4, c5]))
      · rw [bad2 (by unfold okW; simp [c4, c5])]
        exact ev_neg (fun e => c5 (toList_nil.1 e)) (Ev.now _)
theorem rises_ev (ws : List Wr) (hn : ws.length < 4611686018427387904) : Ev (fun k => store_rises.f k ws) (rises ws) := rises_l0 ws hn ws.length 0 (by omega) rfl
theorem right_ev (ws : List Wr) (hn : ws.length < 4611686018427387904) : Ev (fun k => store_Right.f k ws) (rightW ws) := by
  unfold store_Right.f rightW
  by_cases c : ws.length ≤ 200
  · rw [decide_eq_true c]
    refine ev_pos (by omega) (ev_bind (rises_ev ws hn) ?_)
    simp only [Bool.true_and]
    exact Ev.now _
  · rw [decide_eq_false c]
    exact ev_neg (by omega) (Ev.now _)
theorem rises_any (ws : List Wr) (A : Option Addr) (c : Nat) (w : World) (hr : Kd.C k31 w A ws.length ws) (hc : ws.length ≤ c) (hn : ws.length < 4611686018427387904) :
    Calls Try.prog 64 #[.slice A ws.length c] w fun e w' => e = .returned (.bool (rises ws)) ∧ Below w.heap.size w w' := by
  obtain ⟨k, hk⟩ := (rises_ev ws hn).rounds
  exact store_rises.calls k A c ws _ w hr hc hk
theorem right_any (ws : List Wr) (A : Option Addr) (c : Nat) (w : World) (hr : Kd.C k31 w A ws.length ws) (hc : ws.length ≤ c) (hn : ws.length < 4611686018427387904) :
    Calls Try.prog 38 #[.slice A ws.length c] w fun e w' => e = .returned (.bool (rightW ws)) ∧ Below w.heap.size w w' := by
  obtain ⟨k, hk⟩ := (right_ev ws hn).rounds
  exact store_Right.calls k A c ws _ w hr hc hk
end Go.Proofs.Ytmafibbnojdpjaa.St
end
