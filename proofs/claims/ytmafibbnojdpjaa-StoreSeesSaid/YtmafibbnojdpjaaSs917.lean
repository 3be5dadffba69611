/- Lemmas that the proof needs, part 17. -/
import Derived.Test.YtmafibbnojdpjaaWKept
import Derived.Deep.RegionHeld3
import Derived.Test.YtmafibbnojdpjaaWWords
import Derived.Deep.RegionLaw
import Derived.Test.YtmafibbnojdpjaaSs91
import Derived.Test.YtmafibbnojdpjaaSs92
import Derived.Test.YtmafibbnojdpjaaSs93
import Derived.Test.YtmafibbnojdpjaaSs94
import Derived.Test.YtmafibbnojdpjaaSs95
import Derived.Test.YtmafibbnojdpjaaSs96
import Derived.Test.YtmafibbnojdpjaaSs97
import Derived.Test.YtmafibbnojdpjaaSs98
import Derived.Test.YtmafibbnojdpjaaSs99
import Derived.Test.YtmafibbnojdpjaaSs910
import Derived.Test.YtmafibbnojdpjaaSs911
import Derived.Test.YtmafibbnojdpjaaSs912
import Derived.Test.YtmafibbnojdpjaaSs913
import Derived.Test.YtmafibbnojdpjaaSs914
import Derived.Test.YtmafibbnojdpjaaSs915
import Derived.Test.YtmafibbnojdpjaaSs916
section
set_option linter.unusedVariables false
set_option maxRecDepth 100000
set_option linter.unusedSimpArgs false
namespace Go.Proofs.Ytmafibbnojdpjaa.St
open Go.Proofs.Ytmafibbnojdpjaa.Tr Go.RowKit Go.Proofs.YtmafibbnojdpjaaW.PrintWords Go.Proofs.YtmafibbnojdpjaaW.PrintLast Go.Proofs.YtmafibbnojdpjaaW.PrintMore Go.Proofs.Ytmafibbnojdpjaa.P
variable {G : Nat → Prop} {col : Nat → Nat} {w w' : World} {s : Nat} {M : StM} {H : Value} {L : List Tr.Item}
theorem srt_extV : ∀ {A B : List ByteArray}, A.Pairwise kl → B.Pairwise kl → (∀ z, z ∈ A ↔ z ∈ B) → A = B
  | [], [], _, _, _ => rfl
  | [], b :: B, _, _, h => by have := (h b).2 (List.mem_cons_self ..); cases this
  | a :: A, [], _, _, h => by have := (h a).1 (List.mem_cons_self ..); cases this
  | a :: A, b :: B, hA, hB, h => by
    obtain ⟨a1, a2⟩ := List.pairwise_cons.1 hA
    obtain ⟨b1, b2⟩ := List.pairwise_cons.1 hB
    have e : a = b := by
      rcases List.mem_cons.1 ((h a).1 (List.mem_cons_self ..)) with e | ha
      · exact e
      · rcases List.mem_cons.1 ((h b).2 (List.mem_cons_self ..)) with e | hb
        · exact e.symm
        · exact absurd (kl_trans (a1 _ hb) (b1 _ ha)) (kl_irrefl a)
    subst e
    congr 1
    refine srt_extV a2 b2 (fun z => ⟨fun hz => ?_, fun hz => ?_⟩)
    · rcases List.mem_cons.1 ((h z).1 (List.mem_cons_of_mem _ hz)) with e | hz'
      · subst e; exact absurd (a1 _ hz) (kl_irrefl z)
      · exact hz'
    · rcases List.mem_cons.1 ((h z).2 (List.mem_cons_of_mem _ hz)) with e | hz'
      · subst e; exact absurd (b1 _ hz) (kl_irrefl z)
      · exact hz'
/-- what Cut leaves of a chain -/
def cutC (c : List Ver) (q : Int) : List Ver := c.drop (Go.Proofs.Ytmafibbnojdpjaa.C.cutN c q)
theorem cut_any (c : List Ver) (A : Option Addr) (cap : Nat) (q : Int) (w : World) (hr : Kd.C k118 w A c.length c) (hc : c.length ≤ cap) (hn : c.length < 2199023255600) :
    Calls Try.prog 80 #[.slice A c.length cap, .int .i64 q] w fun e w' => ∃ v, e = .returned v ∧ Kd.R k118 118 w' w.heap.size (fun _ => True) v (cutC c q) ∧ Below w.heap.size w w' :=
  Go.Proofs.Ytmafibbnojdpjaa.C.chain_Chain_Cut.calls A cap c q (cutC c q) w hr hc (by unfold Go.Proofs.Ytmafibbnojdpjaa.C.chain_Chain_Cut.f; rw [if_pos hn]; rfl)
def vacK (K : List KC) (q : Int) : List KC := K.filterMap fun b => if cutC b.2 q = [] then none else some (b.1, cutC b.2 q)
def vacM (M : StM) (q : Int) : StM := ⟨q, M.hist.drop (q - M.low).toNat, vacK M.K q⟩
theorem mem_delK {α : Type} {K : List (ByteArray × α)} {x : ByteArray} {a : ByteArray × α} : a ∈ delK K x ↔ a ∈ K ∧ a.1 ≠ x := by
  unfold delK
  simp only [List.mem_append, List.mem_filter, decide_eq_true_eq]
  constructor
  · rintro (⟨h1, h2⟩ | ⟨h1, h2⟩)
    · exact ⟨h1, fun e => kl_irrefl x (e ▸ h2)⟩
    · exact ⟨h1, fun e => kl_irrefl x (e ▸ h2)⟩
  · rintro ⟨h1, h2⟩
    rcases kl_tri a.1 x with h | h | h
    · exact .inl ⟨h1, h⟩
    · exact absurd h h2
    · exact .inr ⟨h1, h⟩
theorem srtK_del {α : Type} {K : List (ByteArray × α)} (h : SrtK K) (x : ByteArray) : SrtK (delK K x) := by
  unfold delK SrtK
  rw [List.pairwise_append]
  refine ⟨h.filter _, h.filter _, ?_⟩
  intro a ha b hb
  rw [List.mem_filter, decide_eq_true_eq] at ha hb
  exact kl_trans ha.2 hb.2
theorem getK_del {α : Type} {K : List (ByteArray × α)} (h : SrtK K) (x z : ByteArray) : getK (delK K x) z = if z = x then none else getK K z := by
  by_cases e : z = x
  · rw [if_pos e, getK_none]
    intro a ha
    rw [e]
    exact (mem_delK.1 ha).2
  · rw [if_neg e]
    cases hg : getK K z with
    | some d => exact (getK_iff (srtK_del h x)).2 (mem_delK.2 ⟨getK_mem hg, e⟩)
    | none =>
      rw [getK_none] at hg ⊢
      exact fun a ha => hg a (mem_delK.1 ha).1
theorem filterMap_self {α : Type} {f : α → Option α} : ∀ {l : List α}, (∀ a ∈ l, f a = some a) → l.filterMap f = l
  | [], _ => rfl
  | a :: l, h => by
    rw [List.filterMap_cons, h a (List.mem_cons_self ..)]
    simp only
    rw [filterMap_self (fun b hb => h b (List.mem_cons_of_mem _ hb))]
theorem filterMap_cg {α β : Type} {f g : α → Option β} : ∀ {l : List α}, (∀ a ∈ l, f a = g a) → l.filterMap f = l.filterMap g
  | [], _ => rfl
  | a :: l, h => by rw [List.filterMap_cons, List.filterMap_cons, h a (List.mem_cons_self ..), filterMap_cg (fun b hb => h b (List.mem_cons_of_mem _ hb))]
theorem srtK_ext {α : Type} {A B : List (ByteArray × α)} (hA : SrtK A) (hB : SrtK B) (h : ∀ x, getK A x = getK B x) : A = B := by
  have key : ∀ {A : List (ByteArray × α)}, SrtK A → A = (A.map (·.1)).filterMap fun k => (getK A k).map fun c => (k, c) := by
    intro A hA
    rw [List.filterMap_map]
    refine (filterMap_self (fun a ha => ?_)).symm
    simp only [Function.comp]
    rw [getK_some hA ha]
    rfl
  have hk : A.map (·.1) = B.map (·.1) := by
    refine srt_extV (List.pairwise_map.2 hA) (List.pairwise_map.2 hB) (fun z => ?_)
    have memk : ∀ {A : List (ByteArray × α)}, SrtK A → (z ∈ A.map (·.1) ↔ (getK A z).isSome = true) := by
      intro A hA
      constructor
      · intro hz
        obtain ⟨a, ha, rfl⟩ := List.mem_map.1 hz
        rw [getK_some hA ha]
        rfl
      · intro hz
        obtain ⟨c, hc⟩ := Option.isSome_iff_exists.1 hz
        exact List.mem_map.2 ⟨_, getK_mem hc, rfl⟩
    rw [memk hA, memk hB, h z]
  rw [key hA, key hB, hk]
  refine filterMap_cg (fun k _ => by rw [h k])
theorem srtK_vac {K : List KC} (h : SrtK K) (q : Int) : SrtK (vacK K q) := by
  unfold vacK SrtK
  rw [List.pairwise_filterMap]
  refine h.imp (fun {a b} hab => ?_)
  intro a' ha b' hb
  split at ha
  · cases ha
  · split at hb
    · cases hb
    · cases ha
      cases hb
      exact hab
theorem getK_vac {K : List KC} (h : SrtK K) (q : Int) (z : ByteArray) : getK (vacK K q) z = (getK K z).bind fun c => if cutC c q = [] then none else some (cutC c q) := by
  cases hg : getK K z with
  | none =>
    rw [getK_none] at hg
    show _ = none
    rw [getK_none]
    intro a ha
    obtain ⟨b, hb, he⟩ := List.mem_filterMap.1 ha
    split at he
    · cases he
    · cases he
      exact hg b hb
  | some c =>
    show _ = if cutC c q = [] then none else some (cutC c q)
    have hm := getK_mem hg
    by_cases h0 : cutC c q = []
    · rw [if_pos h0, getK_none]
      intro a ha
      obtain ⟨b, hb, he⟩ := List.mem_filterMap.1 ha
      split at he
      · cases he
      · rename_i hne
        cases he
        intro e
        have := getK_some h hb
        rw [show b.1 = z from e, hg] at this
        injection this with this
        exact hne (by rw [← this]; exact h0)
    · rw [if_neg h0]
      refine (getK_iff (srtK_vac h q)).2 (List.mem_filterMap.2 ⟨(z, c), hm, ?_⟩)
      rw [if_neg h0]
/-- a key dropped out of the store's tree -/
theorem F2_del {ok : Nat → Prop} {w : World} {L : List Tr.Item} {K : List KC} (h : F2 (ChAt ok w) L K) (x : ByteArray) : F2 (ChAt ok w) (Tr.del L x) (delK K x) := by
  unfold Tr.del delK Tr.below Tr.above
  exact F2.append (h.filter (fun a b hab => by rw [hab.1])) (h.filter (fun a b hab => by rw [hab.1]))
theorem drop_chain (h : StoreC G col w s M H L) (hG : ∀ k, w.heap.size ≤ k → G k) (hcol : ∀ k, w.heap.size ≤ k → col k = 0) (hb : M.K.length ≤ maxTree) (x : ByteArray) :
    Calls Try.prog 81 #[.pointer (some ⟨s, 0, none⟩), .string x] w fun e w' => e = .returned (.bool (has L x)) ∧ StoreC G col w' s ⟨M.low, M.hist, delK M.K x⟩ H (Tr.del L x) ∧ Fr (Hue G col 0) w w' := by
  refine (drop_any h.tree (fun k hk => ⟨hG k hk, hcol k hk⟩) (by rw [h.len]; exact hb) x).mono ?_
  rintro e w' ⟨rfl, ht, hf⟩
  refine ⟨rfl, ⟨ht, ?_, ?_⟩, hf⟩
  · exact F2_del (F2.imp (fun a b q => q.kept (Fr.other hf (hue_ne (by decide)))) h.ch) x
  · exact Kd.R_step h.hist (Fr.other hf (hue_ne (by decide)))
/-- the cell of the first commit is stored into -/
theorem TreeAt.setLow {lo lo' H : Value} {F : Nat → Prop} {w : World} {g : Nat} {L : List Tr.Item} (h : TreeAt (lo, H) F w g L) : TreeAt (lo', H) F (w.setCell ⟨g, 2, none⟩ lo') g L := by
  obtain ⟨S, T, h1, h2⟩ := h
  refine ⟨S, T, ?_, h2⟩
  exact { head := (by rw [heap_setCell_at w g 2 _ _ _ _ h1.head]; rfl), inF := h1.inF, row := ownsRow_same h1.row (fun k e => Below.heap_setCell w _ _ k (h1.apart k e).2.1), apart := h1.apart, leaf := fun m hm => (h1.leaf m hm).same (Below.heap_setCell w _ _ _ (h1.leaf m hm).neg), nodup := h1.nodup }
theorem StoreC.setLow (h : StoreC G col w s M H L) (lo : Int) : StoreC G col (w.setCell ⟨s, 2, none⟩ (.int .i64 lo)) s ⟨lo, M.hist, M.K⟩ H L := by
  have hk : ∀ c, c ≠ 0 → ∀ k, Hue G col c k → k < w.heap.size → (w.setCell ⟨s, 2, none⟩ (.int .i64 lo)).heap[k]? = w.heap[k]? := fun c hc k hk hl => Below.heap_setCell w _ _ k (fun e => hc (by rw [← hk.2, ← h.ne]; exact congrArg col e))
  exact ⟨TreeAt.setLow h.tree, F2.imp (fun a b q => q.kept (hk 1 (by decide))) h.ch, Kd.R_step h.hist (hk 2 (by decide))⟩
end Go.Proofs.Ytmafibbnojdpjaa.St
end
section
set_option linter.unusedVariables false
set_option maxRecDepth 100000
set_option linter.unusedSimpArgs false
namespace Go.Proofs.Ytmafibbnojdpjaa.St
open Go.Proofs.Ytmafibbnojdpjaa.Tr Go.RowKit Go.Proofs.YtmafibbnojdpjaaW.PrintWords Go.Proofs.YtmafibbnojdpjaaW.PrintLast Go.Proofs.YtmafibbnojdpjaaW.PrintMore Go.Proofs.Ytmafibbnojdpjaa.P
attribute [local go_sem] Oper.semAt_some
variable {G : Nat → Prop} {col : Nat → Nat} {w w' : World} {s : Nat} {M : StM} {H : Value} {L : List Tr.Item}
theorem ownE {α : Type} {d : Kd α} {e : TypeId} {X : World} {v : Value} {l : List α} {ok : Nat → Prop} (h : d.R e X 0 ok v l) (k : Nat) (hk : v.ownBlock = some k) : ok k ∧ ∃ cs fr, X.heap[k]? = some (.cells cs e fr) := by
  obtain ⟨h0, inner, hown, _⟩ := h
  refine ⟨h0 k hk, ?_⟩
  rcases hown.2 with ⟨rfl, _⟩ | ⟨g', cap, cur, rfl, _, hh, _⟩
  · simp [Value.ownBlock] at hk
  · have : g' = k := by simpa [Value.ownBlock] using hk
    subst this
    exact ⟨_, _, hh⟩
theorem info9 : (Try.prog.info? 9).map (fun i => (i.zero, i.size, i.bytes)) = some (some (.string ⟨#[]⟩), 1, 16) := by kernel_rfl
noncomputable abbrev TS : Mv.KT Try.prog 9 ByteArray := Mv.KT.str Try.underlying9
/-- what is cut of the key's chain -/
def cutX (M : StM) (q : Int) (k : ByteArray) : List Ver := cutC (chainK M.K k) q
def goneX (M : StM) (q : Int) (ks : List ByteArray) : List ByteArray := ks.filter fun k => decide ((cutX M q k).length = 0)
/-- the keys whose chains are cut, and what is left of them -/
structure CutOk (M : StM) (q : Int) (n6 : Nat) (X : World) (C : List (ByteArray × SVal)) (ks : List ByteArray) : Prop where
  sub : ∀ a ∈ C, a.1 ∈ ks ∧ (cutX M q a.1).length ≠ 0 ∧ (cutX M q a.1).length < (chainK M.K a.1).length ∧ Kd.R k118 118 X 0 (fun k => n6 ≤ k) (SV a.2) (cutX M q a.1)
  all : ∀ k ∈ ks, (cutX M q k).length ≠ 0 → (cutX M q k).length < (chainK M.K k).length → (Mv.findC C k).isSome = true
/-- rows of versions are left as they are -/
def Keep118 (n6 : Nat) (X X' : World) : Prop := ∀ k cells, n6 ≤ k → X.heap[k]? = some (.cells cells 118 (0, 0)) → X'.heap[k]? = X.heap[k]?
theorem R_keep118 {n6 : Nat} {X X' : World} (hk : Keep118 n6 X X') {v : Value} {c : List Ver} (h : Kd.R k118 118 X 0 (fun k => n6 ≤ k) v c) : Kd.R k118 118 X' 0 (fun k => n6 ≤ k) v c := by
  refine Kd.R_mono (Kd.R_step (Kd.R_bound h) (fun k hh hl => ?_)) (fun k hh => hh.1)
  obtain ⟨h1, _, _, q, hq, cells, hc⟩ := hh
  have : q = 118 := by rw [show k118.E = [] from rfl] at hq; simpa using hq
  subst this
  exact hk k cells h1 hc
theorem CutOk.keep {M : StM} {q : Int} {n6 : Nat} {X X' : World} {C : List (ByteArray × SVal)} {ks : List ByteArray} (h : CutOk M q n6 X C ks) (hk : Keep118 n6 X X') : CutOk M q n6 X' C ks :=
  ⟨fun a ha => by obtain ⟨h1, h2, h3, h4⟩ := h.sub a ha; exact ⟨h1, h2, h3, R_keep118 hk h4⟩, h.all⟩
theorem CutOk.skip {M : StM} {q : Int} {n6 : Nat} {X : World} {C : List (ByteArray × SVal)} {ks : List ByteArray} (h : CutOk M q n6 X C ks) (k : ByteArray) (hk : (cutX M q k).length = 0 ∨ ¬ (cutX M q k).length < (chainK M.K k).length) : CutOk M q n6 X C (ks ++ [k]) := by
  refine ⟨fun a ha => ?_, fun z hz h1 h2 => ?_⟩
  · obtain ⟨h1, h2⟩ := h.sub a ha
    exact ⟨List.mem_append_left _ h1, h2⟩
  · rcases List.mem_append.1 hz with hz | hz
    · exact h.all z hz h1 h2
    · rw [List.mem_singleton] at hz
      subst hz
      rcases hk with hk | hk
      · exact absurd hk h1
      · exact absurd h2 hk
theorem CutOk.put {M : StM} {q : Int} {n6 : Nat} {X : World} {C : List (ByteArray × SVal)} {ks : List ByteArray} (h : CutOk M q n6 X C ks) (k : ByteArray) (y : SVal) (h1 : (cutX M q k).length ≠ 0) (h2 : (cutX M q k).length < (chainK M.K k).length) (hy : Kd.R k118 118 X 0 (fun k => n6 ≤ k) (SV y) (cutX M q k)) : CutOk M q n6 X (Mv.putC C k y) (ks ++ [k]) := by
  refine ⟨fun a ha => ?_, fun z hz g1 g2 => ?_⟩
  · unfold Mv.putC at ha
    rcases List.mem_append.1 ha with ha | ha
    · obtain ⟨g1, g2⟩ := h.sub a (List.mem_filter.1 ha).1
      exact ⟨List.mem_append_left _ g1, g2⟩
    · rw [List.mem_singleton] at ha
      subst ha
      exact ⟨by simp, h1, h2, hy⟩
  · rw [Mv.find_put]
    by_cases e : z = k
    · rw [if_pos e]; rfl
    · rw [if_neg e]
      rcases List.mem_append.1 hz with hz | hz
      · exact h.all z hz g1 g2
      · rw [List.mem_singleton] at hz
        exact absurd hz e
/-- Vacuum, while the keys are gone through -/
structure VacI (M : StM) (q : Int) (w : World) (n6 : Nat) (v : Value) (C : List (ByteArray × SVal)) (cnt : Nat) (ks : List ByteArray) (X : World) : Prop where
  g1 : Boxed X (w.heap.size + 1) 132 v
  g2 : Kd.R Kd.string 9 X 0 (fun k => n6 ≤ k) v (goneX M q ks)
  m1 : Mv.MapV TS SV X (w.heap.size + 1 + 1) cnt C
  m2 : CutOk M q n6 X C ks
  b3 : Boxed X (w.heap.size + 1 + 1 + 1) 133 (.map (some (w.heap.size + 1 + 1)))
  b0 : Boxed X w.heap.size 3 (.int .i64 q)
  bl : Below w.heap.size w X
  lo : w.heap.size + 6 ≤ n6
  sz : n6 ≤ X.heap.size
theorem VacI.same {M : StM} {q : Int} {w : World} {n6 : Nat} {v : Value} {C : List (ByteArray × SVal)} {cnt : Nat} {ks : List ByteArray} {X X' : World} (h : VacI M q w n6 v C cnt ks X) (hs : X.heap.size ≤ X'.heap.size) (hlow : ∀ k, k < n6 → X'.heap[k]? = X.heap[k]?)
    (hc : ∀ (k : Nat) (cs : Array Value) (t : TypeId), X.heap[k]? = some (Obj.cells cs t (0, 0)) → X'.heap[k]? = X.heap[k]?) (h1 : X'.os = X.os) (h2 : X'.tape = X.tape) (h3 : X'.output = X.output) : VacI M q w n6 v C cnt ks X' := by
  have lo := h.lo
  refine ⟨(hlow _ (by omega)).trans h.g1, ?_, h.m1.same (hlow _ (by omega)), h.m2.keep (fun k cs _ hk => hc k cs _ hk), (hlow _ (by omega)).trans h.b3, (hlow _ (by omega)).trans h.b0, h.bl.trans ⟨h1, h2, h3, hs, fun k hk => hlow k (by omega)⟩, lo, Nat.le_trans h.sz hs⟩
  refine Kd.R_mono (Kd.R_step (Kd.R_bound h.g2) (fun k hh hl => ?_)) (fun k hh => hh.1)
  obtain ⟨_, _, _, t, _, cells, hk⟩ := hh
  exact hc k cells t hk
theorem VacI.below {M : StM} {q : Int} {w : World} {n6 : Nat} {v : Value} {C : List (ByteArray × SVal)} {cnt : Nat} {ks : List ByteArray} {X X' : World} (h : VacI M q w n6 v C cnt ks X) (hb : Below X.heap.size X X') : VacI M q w n6 v C cnt ks X' :=
  h.same hb.size (fun k hk => hb.block k (Nat.lt_of_lt_of_le hk h.sz)) (fun k cs t hk => hb.block k (Array.getElem?_eq_some_iff.1 hk).1) hb.os hb.tape hb.output
theorem goneX_snoc (M : StM) (q : Int) (ks : List ByteArray) (k : ByteArray) : goneX M q (ks ++ [k]) = goneX M q ks ++ (if (cutX M q k).length = 0 then [k] else []) := by
  unfold goneX
  rw [List.filter_append, List.filter_cons, List.filter_nil]
  by_cases h : (cutX M q k).length = 0 <;> simp [h]
theorem VacI.skip {M : StM} {q : Int} {w : World} {n6 : Nat} {v : Value} {C : List (ByteArray × SVal)} {cnt : Nat} {ks : List ByteArray} {X : World} (h : VacI M q w n6 v C cnt ks X) (k : ByteArray) (h1 : (cutX M q k).length ≠ 0) (h2 : ¬ (cutX M q k).length < (chainK M.K k).length) : VacI M q w n6 v C (cnt + 1) (ks ++ [k]) X :=
  ⟨h.g1, by rw [goneX_snoc, if_neg h1, List.append_nil]; exact h.g2, h.m1.mono (Nat.le_succ _), h.m2.skip k (.inr h2), h.b3, h.b0, h.bl, h.lo, h.sz⟩
/-- a key is noted as gone -/
theorem VacI.gone {M : StM} {q : Int} {w : World} {n6 : Nat} {v v1 : Value} {C : List (ByteArray × SVal)} {cnt : Nat} {ks : List ByteArray} {X w1 : World} (h : VacI M q w n6 v C cnt ks X) (k : ByteArray) (h1 : (cutX M q k).length = 0) (hg : X.grownBy w1 v.ownBlock) (hr : Kd.R Kd.string 9 w1 0 (fun k => n6 ≤ k) v1 (goneX M q ks ++ [k])) :
    VacI M q w n6 v1 C (cnt + 1) (ks ++ [k]) (w1.setCell ⟨w.heap.size + 1, 0, none⟩ v1) ∧ ∀ (i : Nat) (o : Obj), X.heap[i]? = some o → i ≠ w.heap.size + 1 → (n6 ≤ i → o.isCells = false) → (w1.setCell ⟨w.heap.size + 1, 0, none⟩ v1).heap[i]? = some o := by
  have lo := h.lo
  have sz := h.sz
  have own : ∀ i, v.ownBlock = some i → n6 ≤ i ∧ ∃ cs fr, X.heap[i]? = some (.cells cs 9 fr) := fun i hi => ownE h.g2 i hi
  have far : ∀ i, i < X.heap.size → i ≠ w.heap.size + 1 → v.ownBlock ≠ some i → (w1.setCell ⟨w.heap.size + 1, 0, none⟩ v1).heap[i]? = X.heap[i]? := fun i hi hne ho => (Below.heap_setCell w1 ⟨w.heap.size + 1, 0, none⟩ v1 i hne).trans (hg.block i hi (fun e => ho e.symm))
  have low : ∀ i, i < n6 → i ≠ w.heap.size + 1 → (w1.setCell ⟨w.heap.size + 1, 0, none⟩ v1).heap[i]? = X.heap[i]? := fun i hi hne => far i (by omega) hne (fun e => by have := (own i e).1; omega)
  have hs : X.heap.size ≤ (w1.setCell ⟨w.heap.size + 1, 0, none⟩ v1).heap.size := by rw [World.size_setCell]; exact hg.size
  have hb1 : Boxed w1 (w.heap.size + 1) 132 v := (hg.block _ (by omega) (fun e => by have := (own _ e.symm).1; omega)).trans h.g1
  refine ⟨⟨hb1.set v1, by rw [goneX_snoc, if_pos h1]; exact Kd.R_far hr (fun i hi e => by have hi' : n6 ≤ i := hi; have e' : i = w.heap.size + 1 := e; omega) v1, (h.m1.same (low _ (by omega) (by omega))).mono (Nat.le_succ _), (h.m2.keep (fun i cs hi hc => ?_)).skip k (.inl h1), (low _ (by omega) (by omega)).trans h.b3, (low _ (by omega) (by omega)).trans h.b0,
    h.bl.trans ⟨hg.os, hg.tape, hg.output, hs, fun i hi => low i (by omega) (by omega)⟩, lo, Nat.le_trans sz hs⟩, fun i o ho hne hc => ?_⟩
  · refine far i (Array.getElem?_eq_some_iff.1 hc).1 (by omega) (fun e => ?_)
    obtain ⟨_, cs2, fr, q2⟩ := own i e
    rw [hc] at q2
    injection q2 with q2
    injection q2 with _ q2 _
    cases q2
  · refine (far i (Array.getElem?_eq_some_iff.1 ho).1 hne (fun e => ?_)).trans ho
    obtain ⟨hn, cs2, fr, q2⟩ := own i e
    rw [ho] at q2
    injection q2 with q2
    have := hc hn
    rw [q2] at this
    cases this
/-- what is left of a key's chain is noted -/
theorem VacI.put {M : StM} {q : Int} {w : World} {n6 : Nat} {v : Value} {C : List (ByteArray × SVal)} {cnt : Nat} {ks : List ByteArray} {X w1 : World} (h : VacI M q w n6 v C cnt ks X) (k : ByteArray) (y : SVal) (h1 : (cutX M q k).length ≠ 0) (h2 : (cutX M q k).length < (chainK M.K k).length)
    (hy : Kd.R k118 118 X 0 (fun k => n6 ≤ k) (SV y) (cutX M q k)) (hm : Mv.MapV TS SV w1 (w.heap.size + 1 + 1) (cnt + 1) (Mv.putC C k y)) (ht : X.mapTurned w1 (w.heap.size + 1 + 1)) :
    VacI M q w n6 v (Mv.putC C k y) (cnt + 1) (ks ++ [k]) w1 ∧ ∀ (i : Nat) (o : Obj), X.heap[i]? = some o → i ≠ w.heap.size + 1 + 1 → w1.heap[i]? = some o := by
  have lo := h.lo
  have sz := h.sz
  have hg := ht.grown
  have far : ∀ i, i < X.heap.size → i ≠ w.heap.size + 1 + 1 → w1.heap[i]? = X.heap[i]? := fun i hi hne => hg.block i hi (fun e => hne (by injection e))
  have hk : Keep118 n6 X w1 := fun i cs hi hc => far i (Array.getElem?_eq_some_iff.1 hc).1 (by omega)
  refine ⟨⟨(far _ (by omega) (by omega)).trans h.g1, ?_, hm, (h.m2.keep hk).put k y h1 h2 (R_keep118 hk hy), (far _ (by omega) (by omega)).trans h.b3, (far _ (by omega) (by omega)).trans h.b0, h.bl.trans ⟨hg.os, hg.tape, hg.output, hg.size, fun i hi => far i (by omega) (by omega)⟩, lo, Nat.le_trans sz hg.size⟩,
    fun i o ho hne => (far i (Array.getElem?_eq_some_iff.1 ho).1 hne).trans ho⟩
  rw [goneX_snoc, if_neg h1, List.append_nil]
  refine Kd.R_step h.g2 (fun i hi hl => far i hl (by have hi' : n6 ≤ i := hi; omega))
/-- the colours behind Vacuum's first loop: rows of versions 1, what else is new 3, what is still to come 0 -/
def colV (col : Nat → Nat) (w X : World) (k : Nat) : Nat := if k < w.heap.size then col k else match X.heap[k]? with | some (.cells _ t _) => if t = 118 then 1 else 3 | some _ => 3 | none => 0
theorem colV_old {col : Nat → Nat} {w X : World} {k : Nat} (h : k < w.heap.size) : colV col w X k = col k := by unfold colV; rw [if_pos h]
theorem colV_row {col : Nat → Nat} {w X : World} {k : Nat} {cs : Array Value} {fr : Nat × Nat} (h : w.heap.size ≤ k) (hk : X.heap[k]? = some (.cells cs 118 fr)) : colV col w X k = 1 := by
  unfold colV
  rw [if_neg (by omega), hk]
  rfl
theorem colV_cells {col : Nat → Nat} {w X : World} {k : Nat} {cs : Array Value} {t : TypeId} {fr : Nat × Nat} (h : w.heap.size ≤ k) (hk : X.heap[k]? = some (.cells cs t fr)) (ht : t ≠ 118) : colV col w X k = 3 := by
  unfold colV
  rw [if_neg (by omega), hk]
  simp only
  rw [if_neg ht]
theorem colV_obj {col : Nat → Nat} {w X : World} {k : Nat} {o : Obj} (h : w.heap.size ≤ k) (hk : X.heap[k]? = some o) (ho : o.isCells = false) : colV col w X k = 3 := by
  unfold colV
  rw [if_neg (by omega), hk]
  cases o with
  | cells => cases ho
  | _ => rfl
theorem colV_new {col : Nat → Nat} {w X : World} {k : Nat} (h : w.heap.size ≤ X.heap.size) (hk : X.heap.size ≤ k) : colV col w X k = 0 := by
  unfold colV
  rw [if_neg (by omega), Array.getElem?_eq_none hk]
theorem delK_len {α : Type} (K : List (ByteArray × α)) (x : ByteArray) : (delK K x).length ≤ K.length := by
  unfold delK
  induction K with
  | nil => simp
  | cons b K ih =>
    rw [List.length_append] at ih ⊢
    rw [List.filter_cons, List.filter_cons]
    by_cases h1 : kl b.1 x
    · rw [if_pos (by simpa using h1), if_neg (by simpa using kl_anti h1), List.length_cons, List.length_cons]
      omega
    · rw [if_neg (by simpa using h1)]
      split
      · rw [List.length_cons, List.length_cons]; omega
      · rw [List.length_cons]; omega
theorem delK_lens {α : Type} (xs : List ByteArray) : ∀ K : List (ByteArray × α), (xs.foldl delK K).length ≤ K.length := by
  induction xs with
  | nil => exact fun K => Nat.le_refl _
  | cons x xs ih => exact fun K => Nat.le_trans (ih _) (delK_len K x)
theorem srtK_dels {α : Type} (xs : List ByteArray) : ∀ K : List (ByteArray × α), SrtK K → SrtK (xs.foldl delK K) := by
  induction xs with
  | nil => exact fun K h => h
  | cons x xs ih => exact fun K h => ih _ (srtK_del h x)
theorem getK_dels_out {α : Type} (xs : List ByteArray) (z : ByteArray) (hz : z ∉ xs) : ∀ K : List (ByteArray × α), SrtK K → getK (xs.foldl delK K) z = getK K z := by
  induction xs with
  | nil => intro K h; rfl
  | cons x xs ih =>
    intro K h
    rw [List.foldl_cons, ih (fun q => hz (List.mem_cons_of_mem _ q)) _ (srtK_del h x), getK_del h, if_neg (fun q => hz (by rw [q]; exact List.mem_cons_self ..))]
theorem getK_dels_none {α : Type} (xs : List ByteArray) (z : ByteArray) : ∀ K : List (ByteArray × α), SrtK K → getK K z = none → getK (xs.foldl delK K) z = none := by
  induction xs with
  | nil => intro K h q; exact q
  | cons x xs ih =>
    intro K h q
    rw [List.foldl_cons]
    refine ih _ (srtK_del h x) ?_
    rw [getK_del h, q]
    split <;> rfl
theorem getK_dels_in {α : Type} (xs : List ByteArray) (z : ByteArray) (hz : z ∈ xs) : ∀ K : List (ByteArray × α), SrtK K → getK (xs.foldl delK K) z = none := by
  induction xs with
  | nil => cases hz
  | cons x xs ih =>
    intro K h
    rw [List.foldl_cons]
    rcases List.mem_cons.1 hz with e | hz'
    · exact getK_dels_none xs z _ (srtK_del h x) (by rw [getK_del h, if_pos e])
    · exact ih hz' _ (srtK_del h x)
theorem dels_take {α : Type} {K : List (ByteArray × α)} {xs : List ByteArray} {i : Nat} (hi : i < xs.length) : (xs.take (i + 1)).foldl delK K = delK ((xs.take i).foldl delK K) xs[i] := by
  rw [List.take_succ_eq_append_getElem hi, List.foldl_append]
  rfl
/-- what is left of the chains is put back -/
def putsK (M : StM) (q : Int) (dn : List (ByteArray × SVal)) (K : List KC) : List KC := dn.foldl (fun K a => insK K a.1 (cutX M q a.1)) K
theorem putsK_snoc (M : StM) (q : Int) (dn : List (ByteArray × SVal)) (a : ByteArray × SVal) (K : List KC) : putsK M q (dn ++ [a]) K = insK (putsK M q dn K) a.1 (cutX M q a.1) := by simp [putsK]
theorem putsK_len (M : StM) (q : Int) (dn : List (ByteArray × SVal)) : ∀ K : List KC, (putsK M q dn K).length ≤ K.length + dn.length := by
  induction dn with
  | nil => exact fun K => Nat.le_refl _
  | cons a dn ih =>
    intro K
    have h1 := ih (insK K a.1 (cutX M q a.1))
    have h2 := insK_length K a.1 (cutX M q a.1)
    rw [List.length_cons]
    show (putsK M q dn (insK K a.1 (cutX M q a.1))).length ≤ _
    omega
theorem srtK_puts (M : StM) (q : Int) (dn : List (ByteArray × SVal)) : ∀ K : List KC, SrtK K → SrtK (putsK M q dn K) := by
  induction dn with
  | nil => exact fun K h => h
  | cons a dn ih => exact fun K h => ih _ (srtK_ins h _ _)
theorem getK_puts_in (M : StM) (q : Int) (z : ByteArray) (dn : List (ByteArray × SVal)) : ∀ K : List KC, SrtK K → (∃ a ∈ dn, a.1 = z) ∨ getK K z = some (cutX M q z) → getK (putsK M q dn K) z = some (cutX M q z) := by
  induction dn with
  | nil =>
    intro K h hz
    rcases hz with ⟨a, ha, _⟩ | hz
    · cases ha
    · exact hz
  | cons a dn ih =>
    intro K h hz
    refine ih _ (srtK_ins h a.1 (cutX M q a.1)) ?_
    rcases hz with ⟨b, hb, e⟩ | hz
    · rcases List.mem_cons.1 hb with rfl | hb'
      · right
        rw [getK_ins h, if_pos e.symm, e]
      · exact .inl ⟨b, hb', e⟩
    · right
      rw [getK_ins h]
      split
      · rename_i e; rw [e]
      · exact hz
theorem getK_puts_out (M : StM) (q : Int) (z : ByteArray) (dn : List (ByteArray × SVal)) (hz : ∀ a ∈ dn, a.1 ≠ z) : ∀ K : List KC, SrtK K → getK (putsK M q dn K) z = getK K z := by
  induction dn with
  | nil => exact fun K h => rfl
  | cons a dn ih =>
    intro K h
    show getK (putsK M q dn (insK K a.1 (cutX M q a.1))) z = _
    rw [ih (fun b hb => hz b (List.mem_cons_of_mem _ hb)) _ (srtK_ins h a.1 (cutX M q a.1)), getK_ins h, if_neg (fun e => hz a (List.mem_cons_self ..) e.symm)]
theorem cutC_same {c : List Ver} {q : Int} (h : ¬ (cutC c q).length < c.length) : cutC c q = c := by
  unfold cutC at *
  rw [List.length_drop] at h
  by_cases h0 : Go.Proofs.Ytmafibbnojdpjaa.C.cutN c q = 0
  · rw [h0]; rfl
  · have : c = [] := List.length_eq_zero_iff.1 (by omega)
    subst this
    simp
/-- what the loops leave is what Vacuum says -/
theorem vac_law {M : StM} (hs : SrtK M.K) (q : Int) {n6 : Nat} {X : World} {C dn : List (ByteArray × SVal)} (hC : CutOk M q n6 X C (M.K.map (·.1))) (hp : dn.Perm C) : putsK M q dn ((goneX M q (M.K.map (·.1))).foldl delK M.K) = vacK M.K q := by
  have hd := srtK_dels (goneX M q (M.K.map (·.1))) M.K hs
  refine srtK_ext (srtK_puts M q dn _ hd) (srtK_vac hs q) (fun z => ?_)
  rw [getK_vac hs]
  cases hg : getK M.K z with
  | none =>
    have hno : ∀ a ∈ dn, a.1 ≠ z := fun a ha e => by
      have hk := (hC.sub a (hp.mem_iff.1 ha)).1
      obtain ⟨b, hb, e2⟩ := List.mem_map.1 hk
      exact (getK_none.1 hg) b hb (e2.trans e)
    rw [getK_puts_out M q z dn hno _ hd, getK_dels_none _ z _ hs hg]
    rfl
  | some c =>
    have hch : chainK M.K z = c := by unfold chainK; rw [hg]; rfl
    have hx : cutX M q z = cutC c q := by unfold cutX; rw [hch]
    have hzk : z ∈ M.K.map (·.1) := List.mem_map.2 ⟨_, getK_mem hg, rfl⟩
    show _ = if cutC c q = [] then none else some (cutC c q)
    by_cases h0 : (cutX M q z).length = 0
    · have h0' : cutC c q = [] := by rw [← hx]; exact List.length_eq_zero_iff.1 h0
      have hno : ∀ a ∈ dn, a.1 ≠ z := fun a ha e => by
        have := (hC.sub a (hp.mem_iff.1 ha)).2.1
        rw [e] at this
        exact this h0
      rw [if_pos h0', getK_puts_out M q z dn hno _ hd]
      exact getK_dels_in _ z (by unfold goneX; rw [List.mem_filter]; exact ⟨hzk, by simpa using h0⟩) _ hs
    · rw [if_neg (fun e => h0 (by rw [hx, e]; rfl)), ← hx]
      have hng : z ∉ goneX M q (M.K.map (·.1)) := fun e => by
        unfold goneX at e
        rw [List.mem_filter] at e
        exact h0 (by simpa using e.2)
      refine getK_puts_in M q z dn _ hd ?_
      by_cases h2 : (cutX M q z).length < (chainK M.K z).length
      · left
        have hf := hC.all z hzk h0 h2
        obtain ⟨y, hy⟩ := Option.isSome_iff_exists.1 hf
        exact ⟨(z, y), hp.mem_iff.2 (Mv.find_mem hy), rfl⟩
      · right
        rw [getK_dels_out _ z hng _ hs, hg, hx, cutC_same (by rw [hx, hch] at h2; exact h2)]
theorem StoreC.keptH {G : Nat → Prop} {col : Nat → Nat} {w w' : World} {s : Nat} {M : StM} {H : Value} {L : List Tr.Item} (h : StoreC G col w s M H L) (hk : ∀ c k, c ≠ 3 → Hue G col c k → k < w.heap.size → w'.heap[k]? = w.heap[k]?) : StoreC G col w' s M H L :=
  ⟨h.tree.kept (hk 0 · (by decide)), F2.imp (fun a b q => q.kept (hk 1 · (by decide))) h.ch, Kd.R_step h.hist (hk 2 · (by decide))⟩
def colR (col : Nat → Nat) (rb k : Nat) : Nat := if k = rb then 3 else col k
theorem colR_ne {col : Nat → Nat} {rb k : Nat} (h : k ≠ rb) : colR col rb k = col k := by unfold colR; rw [if_neg h]
theorem colR_at {col : Nat → Nat} {rb : Nat} : colR col rb rb = 3 := by unfold colR; rw [if_pos rfl]
end Go.Proofs.Ytmafibbnojdpjaa.St
end
section
set_option linter.unusedVariables false
set_option maxRecDepth 100000
set_option linter.unusedSimpArgs false
namespace Go.Proofs.Ytmafibbnojdpjaa.St
open Go.Proofs.Ytmafibbnojdpjaa.Tr Go.RowKit Go.Proofs.YtmafibbnojdpjaaW.PrintWords Go.Proofs.YtmafibbnojdpjaaW.PrintLast Go.Proofs.YtmafibbnojdpjaaW.PrintMore Go.Proofs.Ytmafibbnojdpjaa.P
theorem cutV_all {c : List Ver} {q : Int} (h : ∀ v ∈ c, v.f0 ≤ q) : cutV c q = c := List.filter_eq_self.2 (fun v hv => decide_eq_true (h v hv))
theorem atO_top {c : List Ver} {t q : Int} (h : ChOk t c) (hq : t ≤ q) : atO c q = atO c t := by
  unfold atO
  rw [cutV_all (fun v hv => h.top v hv), cutV_all (fun v hv => Int.le_trans (h.top v hv) hq)]
theorem getO_top {M : StM} (h : Inv M) {q : Int} (hq : lastM M ≤ q) (z : ByteArray) : getO M z q = getO M z (lastM M) := atO_top (chainK_ok h.mid z) hq
/-- what a list of writes says of a key -/
def wrO (ws : List Wr) (z : ByteArray) : Option (Option ByteArray) := (ws.find? fun x => decide (x.f0 = z)).map fun x => if x.f2 then none else some x.f1
theorem wrO_none {ws : List Wr} {z : ByteArray} (h : (ws.filter fun x => decide (x.f0 = z)) = []) : wrO ws z = none := by
  unfold wrO
  rw [← List.head?_filter, h]
  rfl
theorem wrO_one {ws : List Wr} {z : ByteArray} {x : Wr} (h : (ws.filter fun x => decide (x.f0 = z)) = [x]) : wrO ws z = some (if x.f2 then none else some x.f1) := by
  unfold wrO
  rw [← List.head?_filter, h]
  rfl
theorem wrO_cons (x : Wr) (ws : List Wr) (z : ByteArray) : wrO (x :: ws) z = if x.f0 = z then some (if x.f2 then none else some x.f1) else wrO ws z := by
  unfold wrO
  rw [List.find?_cons]
  by_cases h : x.f0 = z
  · rw [if_pos h]; simp [h]
  · rw [if_neg h]; simp [h]
theorem getO_own {M : StM} (h : Inv M) {c : Cm} (hg : goodC M c = true) (z : ByteArray) : getO (comM M c) z c.f0 = (wrO c.f2 z).getD (getO M z (lastM M)) := by
  obtain ⟨h1, h2, h3, h4, h5, h6⟩ := goodC_iff.1 hg
  have hc := chainK_ok h.mid z
  show atO (chainK (putAll c.f0 M.K c.f2) z) c.f0 = _
  rw [chain_putAll c.f2 (right_pair h5) M.K h.srt z]
  rcases filter_one (right_pair h5) z with e | ⟨x, hx, e, e2⟩
  · rw [wrO_none e, e]
    show atO (chainK M.K z ++ []) c.f0 = atO (chainK M.K z) (lastM M)
    rw [List.append_nil]
    exact atO_top hc (by omega)
  · rw [wrO_one e, e]
    show atO (chainK M.K z ++ [verOf c.f0 x]) c.f0 = if x.f2 then none else some x.f1
    unfold atO
    rw [cutV_all (fun v hv => ?_)]
    · simp [verOf]
    · rcases List.mem_append.1 hv with hv | hv
      · have := hc.top v hv
        omega
      · rw [List.mem_singleton] at hv
        rw [hv]
        exact Int.le_refl _
-- the map of mailbaglaw09.At
abbrev KVs := List (ByteArray × ByteArray)
def putB (C : KVs) (ws : List Wr) : KVs := ws.foldl (fun C x => Mv.putC C x.f0 x.f1) C
def wrC (C : KVs) (x : Wr) : KVs := if x.f2 then Mv.delC C x.f0 else Mv.putC C x.f0 x.f1
def wrsC (C : KVs) (ws : List Wr) : KVs := ws.foldl wrC C
def atC (C : KVs) : List Cm → Int → KVs
  | [], _ => C
  | c :: cs, q => if q < c.f0 then C else atC (wrsC C c.f2) cs q
def atM (b : List Wr) (cs : List Cm) (q : Int) : KVs := atC (putB [] b) cs q
theorem find_wrC (C : KVs) (x : Wr) (z : ByteArray) : Mv.findC (wrC C x) z = if z = x.f0 then (if x.f2 then none else some x.f1) else Mv.findC C z := by
  unfold wrC
  cases hx : x.f2 with
  | true => rw [if_pos rfl, if_pos rfl, Mv.find_del]
  | false =>
    rw [if_neg Bool.false_ne_true, Mv.find_put]
    by_cases h : z = x.f0
    · rw [if_pos h, if_pos h, if_neg Bool.false_ne_true]
    · rw [if_neg h, if_neg h]
theorem find_wrs (ws : List Wr) : ws.Pairwise (fun a b => kl a.f0 b.f0) → ∀ (C : KVs) (z : ByteArray), Mv.findC (wrsC C ws) z = (wrO ws z).getD (Mv.findC C z) := by
  induction ws with
  | nil => intro _ C z; rfl
  | cons x ws ih =>
    intro hw C z
    obtain ⟨h1, h2⟩ := List.pairwise_cons.1 hw
    rw [show wrsC C (x :: ws) = wrsC (wrC C x) ws from rfl, ih h2, find_wrC, wrO_cons]
    by_cases e : z = x.f0
    · have hno : wrO ws z = none := wrO_none (by
        rw [List.filter_eq_nil_iff]
        intro y hy
        rw [decide_eq_true_eq]
        intro e2
        have := h1 y hy
        rw [e2, e] at this
        exact kl_irrefl _ this)
      rw [hno, if_pos e, if_pos e.symm]
      rfl
    · rw [if_neg e, if_neg (fun q => e q.symm)]
theorem putB_wrs {ws : List Wr} (h : ∀ x ∈ ws, x.f2 = false) : ∀ C : KVs, putB C ws = wrsC C ws := by
  induction ws with
  | nil => intro C; rfl
  | cons x ws ih =>
    intro C
    rw [show putB C (x :: ws) = putB (Mv.putC C x.f0 x.f1) ws from rfl, show wrsC C (x :: ws) = wrsC (wrC C x) ws from rfl, ih (fun y hy => h y (List.mem_cons_of_mem _ hy))]
    unfold wrC
    rw [h x (List.mem_cons_self ..), if_neg (by decide)]
theorem nd_wrC {C : KVs} (h : Mv.NdC C) (x : Wr) : Mv.NdC (wrC C x) := by
  unfold wrC
  split
  · exact Mv.nd_del h _
  · exact Mv.nd_put h _ _
theorem nd_wrs (ws : List Wr) : ∀ {C : KVs}, Mv.NdC C → Mv.NdC (wrsC C ws) := by
  induction ws with
  | nil => exact fun h => h
  | cons x ws ih => exact fun h => ih (nd_wrC h x)
theorem nd_putB (ws : List Wr) : ∀ {C : KVs}, Mv.NdC C → Mv.NdC (putB C ws) := by
  induction ws with
  | nil => exact fun h => h
  | cons x ws ih => exact fun h => ih (Mv.nd_put h _ _)
theorem nd_atC (q : Int) : ∀ (cs : List Cm) {C : KVs}, Mv.NdC C → Mv.NdC (atC C cs q)
  | [], _, h => h
  | c :: cs, C, h => by
    unfold atC
    split
    · exact h
    · exact nd_atC q cs (nd_wrs _ h)
theorem nd_atM (b : List Wr) (cs : List Cm) (q : Int) : Mv.NdC (atM b cs q) := nd_atC q cs (nd_putB b List.Pairwise.nil)
/-- a map that holds what a state shows -/
def Shows (C : KVs) (M : StM) (q : Int) : Prop := Mv.NdC C ∧ ∀ z, Mv.findC C z = getO M z q
theorem find_atC {q : Int} : ∀ (cs : List Cm) {C : KVs} {M M' : StM}, Inv M → (∀ z, Mv.findC C z = getO M z (lastM M)) → lastM M ≤ q → runM M cs = some M' → ∀ z, Mv.findC (atC C cs q) z = getO M' z q
  | [], C, M, M', hi, hC, hq, h, z => by
    cases h
    rw [getO_top hi hq]
    exact hC z
  | c :: cs, C, M, M', hi, hC, hq, h, z => by
    have h0 := h
    unfold runM at h
    split at h
    · rename_i hg
      have h1 := (goodC_iff.1 hg).1
      unfold atC
      by_cases hlt : q < c.f0
      · rw [if_pos hlt, (getO_run z (c :: cs) hi (by omega) h0).1, hC z, getO_top hi hq]
      · rw [if_neg hlt]
        have hl : lastM (comM M c) = c.f0 := by rw [last_com, h1]
        refine find_atC cs (inv_com hi hg) (fun z => ?_) (by rw [hl]; omega) h z
        rw [hl, getO_own hi hg, find_wrs c.f2 (right_pair (goodC_iff.1 hg).2.2.2.2.1), hC z]
    · cases h
theorem state_parts {q : Int} {b : List Wr} {cs : List Cm} {M : StM} (h : stateM q b cs = some M) : newOk q b = true ∧ runM (newM q b) cs = some M := by
  unfold stateM at h
  split at h
  · rename_i hn; exact ⟨hn, h⟩
  · cases h
theorem newOk_facts {q : Int} {ws : List Wr} (h : newOk q ws = true) : 0 ≤ q ∧ q ≤ maxSeq ∧ rises ws = true ∧ ∀ x ∈ ws, x.f2 = false := by
  unfold newOk at h
  simp only [Bool.and_eq_true, decide_eq_true_eq, List.all_eq_true] at h
  obtain ⟨⟨⟨h1, h2⟩, h3⟩, h4⟩ := h
  exact ⟨h1, h2, h3, fun x hx => by have := h4 x hx; simpa using this⟩
theorem find_new {q : Int} {b : List Wr} (h : newOk q b = true) (z : ByteArray) : Mv.findC (putB [] b) z = getO (newM q b) z q := by
  obtain ⟨_, _, h3, h4⟩ := newOk_facts h
  have hw := rises_pair h3
  obtain ⟨g1, g2⟩ := getO_new (q := q) hw z
  rw [putB_wrs h4, find_wrs b hw]
  rcases filter_one hw z with e | ⟨x, hx, e, e2⟩
  · rw [wrO_none e]
    cases hg : getO (newM q b) z q with
    | none => rfl
    | some v =>
      obtain ⟨x, hx, ex⟩ := g2 (by rw [hg]; rfl)
      have := List.filter_eq_nil_iff.1 e x hx
      rw [decide_eq_true_eq] at this
      exact absurd ex this
  · rw [wrO_one e, g1 x hx e2, h4 x hx]
    rfl
/-- behind any commit: what the writes up to it come to -/
theorem shows_at {q0 q : Int} {b : List Wr} {cs : List Cm} {M : StM} (h : stateM q0 b cs = some M) (hq : q0 ≤ q) : Shows (atM b cs q) M q := by
  obtain ⟨h1, h2⟩ := state_parts h
  have hl : lastM (newM q0 b) = q0 := by simp [lastM, newM]
  exact ⟨nd_atM b cs q, find_atC cs (inv_new h1) (by rw [hl]; exact find_new h1) (by rw [hl]; exact hq) h2⟩
-- what is shown, and the map
theorem key_in {M : StM} {z : ByteArray} {q : Int} {v : ByteArray} (h : getO M z q = some v) : z ∈ M.K.map (·.1) := by
  unfold getO chainK at h
  cases hg : getK M.K z with
  | none => rw [hg] at h; simp [atO, cutV] at h
  | some c => exact List.mem_map.2 ⟨_, getK_mem hg, rfl⟩
theorem mem_show (M : StM) (q : Int) (a : KV) : a ∈ showM M ⟨#[]⟩ ⟨#[]⟩ q ↔ getO M a.1 q = some a.2 := by
  rw [show_all, flat_sh, List.mem_map]
  constructor
  · rintro ⟨k, hk, rfl⟩
    have := (List.mem_filter.1 hk).2
    cases hg : getO M k q with
    | none => rw [hg] at this; cases this
    | some v => rfl
  · intro h
    refine ⟨a.1, List.mem_filter.2 ⟨key_in h, by rw [h]; rfl⟩, ?_⟩
    rw [h]
    rfl
theorem show_pair {M : StM} (h : Inv M) (q : Int) : (showM M ⟨#[]⟩ ⟨#[]⟩ q).Pairwise fun a b => kl a.1 b.1 := by
  rw [show_all, flat_sh, List.pairwise_map]
  have : (M.K.map (·.1)).Pairwise kl := by rw [List.pairwise_map]; exact h.srt
  exact this.filter _
theorem kv_nodup {C : KVs} (h : Mv.NdC C) : C.Nodup := List.Pairwise.imp (fun {a b} hab e => hab (by rw [e])) h
theorem Shows.perm {C : KVs} {M : StM} {q : Int} (hs : Shows C M q) (h : Inv M) : C.Perm (showM M ⟨#[]⟩ ⟨#[]⟩ q) := by
  refine (List.perm_ext_iff_of_nodup (kv_nodup hs.1) (List.Pairwise.imp (fun {a b} hab e => by rw [e] at hab; exact kl_irrefl _ hab) (show_pair h q))).2 (fun a => ?_)
  rw [mem_show, ← hs.2 a.1, Mv.find_iff hs.1]
theorem Shows.len {C : KVs} {M : StM} {q : Int} (hs : Shows C M q) (h : Inv M) : C.length = (showM M ⟨#[]⟩ ⟨#[]⟩ q).length := (hs.perm h).length_eq
/-- a key within bounds -/
def inB (x y k : ByteArray) : Bool := !decide (kl k x) && (decide (y = ⟨#[]⟩) || decide (kl k y))
theorem show_part (M : StM) (x y : ByteArray) (q : Int) : showM M x y q = (showM M ⟨#[]⟩ ⟨#[]⟩ q).filter fun a => inB x y a.1 := by
  rw [show_all]
  unfold showM
  induction M.K with
  | nil => rfl
  | cons b K ih =>
    have hsh : ∀ a ∈ sh M q b.1, a.1 = b.1 := fun a ha => by
      unfold sh at ha
      cases hg : getO M b.1 q with
      | none => rw [hg] at ha; cases ha
      | some v => rw [hg] at ha; rw [List.mem_singleton] at ha; rw [ha]
    have hin : ∀ P : Bool, inB x y b.1 = P → (sh M q b.1).filter (fun a => inB x y a.1) = if P then sh M q b.1 else [] := fun P hP => by
      cases P with
      | true => rw [if_pos rfl]; exact List.filter_eq_self.2 (fun a ha => by rw [hsh a ha]; exact hP)
      | false => rw [if_neg Bool.false_ne_true]; exact List.filter_eq_nil_iff.2 (fun a ha => by rw [hsh a ha, hP]; exact Bool.false_ne_true)
    rw [List.flatMap_cons, List.filter_append, ← ih, hin _ rfl]
    unfold inB
    cases h1 : !decide (kl b.1 x) with
    | false =>
      rw [List.filter_cons_of_neg (by rw [h1]; exact Bool.false_ne_true), Bool.false_and, if_neg Bool.false_ne_true, List.nil_append]
    | true =>
      rw [List.filter_cons_of_pos (p := fun b : KC => !decide (kl b.1 x)) h1, Bool.true_and]
      cases h2 : (decide (y = ⟨#[]⟩) || decide (kl b.1 y)) with
      | false => rw [List.filter_cons_of_neg (by rw [h2]; exact Bool.false_ne_true), if_neg Bool.false_ne_true, List.nil_append]
      | true => rw [List.filter_cons_of_pos (p := fun b : KC => decide (y = ⟨#[]⟩) || decide (kl b.1 y)) h2, List.flatMap_cons, if_pos rfl]
theorem Shows.part {C : KVs} {M : StM} {q : Int} (hs : Shows C M q) (h : Inv M) (x y : ByteArray) : (C.filter fun a => inB x y a.1).length = (showM M x y q).length := by
  rw [show_part]
  exact ((hs.perm h).filter _).length_eq
/-- what is met in a range -/
theorem Shows.met {C : KVs} {M : StM} {q : Int} (hs : Shows C M q) {x y : ByteArray} {a : KV} (ha : a ∈ showM M x y q) : Mv.findC C a.1 = some a.2 ∧ getO M a.1 q = some a.2 ∧ inB x y a.1 = true := by
  rw [show_part, List.mem_filter, mem_show] at ha
  exact ⟨by rw [hs.2]; exact ha.1, ha.1, ha.2⟩
theorem base_len (M : StM) (q : Int) : (baseM M q).length = (showM M ⟨#[]⟩ ⟨#[]⟩ q).length := List.length_map _
end Go.Proofs.Ytmafibbnojdpjaa.St
end
section
set_option linter.unusedVariables false
set_option maxRecDepth 100000
set_option linter.unusedSimpArgs false
namespace Go.Proofs.Ytmafibbnojdpjaa.St
open Go.Proofs.Ytmafibbnojdpjaa.Tr Go.RowKit Go.Proofs.YtmafibbnojdpjaaW.PrintWords Go.Proofs.YtmafibbnojdpjaaW.PrintLast Go.Proofs.YtmafibbnojdpjaaW.PrintMore Go.Proofs.Ytmafibbnojdpjaa.P
attribute [local go_sem] Oper.semAt_some
def eS (x : ByteArray) : Value := .string x
theorem putB_take {C : KVs} {ws : List Wr} {i : Nat} (h : i < ws.length) : putB C (ws.take (i + 1)) = Mv.putC (putB C (ws.take i)) (wA ws i).f0 (wA ws i).f1 := by
  rw [List.take_succ_eq_append_getElem h, wA_eq h]
  unfold putB
  rw [List.foldl_append]
  rfl
theorem wrs_take {C : KVs} {ws : List Wr} {i : Nat} (h : i < ws.length) : wrsC C (ws.take (i + 1)) = wrC (wrsC C (ws.take i)) (wA ws i) := by
  rw [List.take_succ_eq_append_getElem h, wA_eq h]
  unfold wrsC
  rw [List.foldl_append]
  rfl
theorem atC_drop {C : KVs} {cs : List Cm} {i : Nat} {q : Int} (h : i < cs.length) : atC C (cs.drop i) q = if q < (cA cs i).f0 then C else atC (wrsC C (cA cs i).f2) (cs.drop (i + 1)) q := by
  rw [List.drop_eq_getElem_cons h, cA_eq h]
  rfl
set_option maxHeartbeats 32000000 in
theorem at9_any (b : List Wr) (cs : List Cm) (q : Int) (A1 A2 : Option Addr) (c1 c2 : Nat) (w : World) (hr1 : Kd.C k31 w A1 b.length b) (hr2 : Kd.C k28 w A2 cs.length cs) (hn1 : b.length ≤ 1000) (hn2 : cs.length ≤ 1000) (hkb : ∀ x ∈ b, x.f0.size ≤ maxLen) (hkc : ∀ c ∈ cs, c.f2.length ≤ 1000 ∧ ∀ x ∈ c.f2, x.f0.size ≤ maxLen) :
    Calls Try.prog 50 #[.slice A1 b.length c1, .slice A2 cs.length c2, .int .i64 q] w fun e w' => ∃ m n, e = .returned (.map (some m)) ∧ w.heap.size ≤ m ∧ Mv.MapV TS eS w' m n (atM b cs q) ∧ Below w.heap.size w w' := by
  have HR1 := Aside0.mk hr1
  have HR2 := Aside0.mk hr2
  have HN := Aside0.mk (And.intro hn1 hn2)
  have HKB := Aside0.mk hkb
  have HKC := Aside0.mk hkc
  have hmm := @run_makeMap Try.prog
  have HM0 : Aside0 (Mv.MapV TS eS (w.alloc (.map #[] 0)) w.heap.size 0 (putB [] (b.take 0))) := ⟨Mv.MapV.new _ _ _⟩
  have HB0 : Aside0 (Below w.heap.size w (w.alloc (.map #[] 0))) := ⟨below_alloc (Below.refl _ _) _⟩
  clear hr1 hr2 hn1 hn2 hkb hkc
  go_enter Try.func50, Try.ntmps50
  go_wp2
  generalize w.alloc (.map #[] 0) = W1 at *
  obtain ⟨mb, hmb⟩ : ∃ mb, mb = w.heap.size := ⟨_, rfl⟩
  rw [← hmb] at HM0 ⊢
  have HMB := Aside0.mk hmb
  clear hmb
  go_loopg [17] (b.length + 1) (fun kq v17 wq => ∃ (i : Nat), v17 = .int .i64 (i : Int) ∧ i ≤ b.length ∧ b.length - i < kq ∧ Aside0 (Mv.MapV TS eS wq mb i (putB [] (b.take i))) ∧ Aside0 (Below w.heap.size w wq))
  case atStart => exact ⟨0, rfl, Nat.zero_le _, by omega, HM0, HB0⟩
  case round =>
    clear HM0 HB0
    obtain ⟨i, rfl, hi, hk, HM, HB⟩ := hrel
    have z0 : (0 : Int) ≤ (i : Int) := by omega
    have hmb := HMB.out
    by_cases hlt : i < b.length
    · have z1 : (i : Int) < (b.length : Int) := by omega
      obtain ⟨ad5, eA, f0, f1, f2⟩ := at_T31 (Kd.C_below HR1.out HB.out) (i : Int) z0 z1
      rw [rd_wA, Int.toNat_natCast] at f0 f1 f2
      subst eA
      have HTK := Aside0.mk (putB_take (C := []) hlt)
      have hsx : (wA b i).f0.size ≤ maxLen := HKB.out _ (by rw [wA_eq hlt]; exact List.getElem_mem hlt)
      have hib : i ≤ 1000 := by have := HN.out; omega
      generalize wA b i = x at *
      obtain ⟨d0, d1, d2⟩ := three_new wr 31 (.string x.f0) (.string x.f1) (.bool x.f2)
      have hb2 : Below wr.heap.size wr (wr.alloc (.cells #[.string x.f0, .string x.f1, .bool x.f2] 31)) := below_alloc (Below.refl _ _) _
      obtain ⟨w8, u1, u2, u3⟩ := (HM.out.below hb2).put Try.underlying77 (by unfold maxLen; omega) (x := x.f0) hsx x.f1
      replace u1 : Sem.run Try.prog (Instr.mapUpdate 77 (.map (some mb)) (.string x.f0) (.string x.f1)) (wr.alloc (.cells #[.string x.f0, .string x.f1, .bool x.f2] 31)) = .ok () w8 := u1
      have HM8 := Aside0.mk u2
      have hg := u3.grown
      have HB8 : Aside0 (Below w.heap.size w w8) := ⟨(HB.out.trans (hb2.mono HB.out.size)).trans ⟨hg.os, hg.tape, hg.output, hg.size, fun k hk => hg.block k (Nat.lt_of_lt_of_le hk (Nat.le_trans HB.out.size hb2.size)) (fun e => by injection e with e; omega)⟩⟩
      clear u2 u3 hg hb2 hsx hmb
      go_wp2
      go_roundg (gk - 1)
      case measure => omega
      case rel => exact ⟨i + 1, by go_num, by omega, by omega, ⟨by rw [HTK.out]; exact HM8.out⟩, HB8⟩
    · have hiz : i = b.length := by omega
      subst hiz
      rw [List.take_length] at HM
      have HMX : Aside0 (Mv.MapV TS eS wr mb (1000 + 0 * 1000) (putB [] b)) := ⟨HM.out.mono (by have := HN.out; omega)⟩
      have HAT : Aside0 (atC (putB [] b) (cs.drop 0) q = atM b cs q) := ⟨by rw [List.drop_zero]; rfl⟩
      clear hi hlt hk HM hmb z0
      go_wp2
      go_loopg [29] (cs.length + 1) (fun kq v29 wq => ∃ (i : Nat) (C : KVs), v29 = .int .i64 (i : Int) ∧ i ≤ cs.length ∧ cs.length - i < kq ∧ Aside0 (Mv.MapV TS eS wq mb (1000 + i * 1000) C) ∧ Aside0 (atC C (cs.drop i) q = atM b cs q) ∧ Aside0 (Below w.heap.size w wq))
      case atStart => exact ⟨0, _, rfl, Nat.zero_le _, by omega, HMX, HAT, HB⟩
      case round =>
        clear HMX HAT HB
        obtain ⟨i, C, rfl, hi, hk, HM, HAT, HB⟩ := hrel
        have z0 : (0 : Int) ≤ (i : Int) := by omega
        by_cases hlt : i < cs.length
        · have z1 : (i : Int) < (cs.length : Int) := by omega
          obtain ⟨ad5, A5, c5, eA, f0, f1, f2, f3, f4⟩ := at_T28 HR2.out (i : Int) z0 z1
          rw [rd_cA, Int.toNat_natCast] at f0 f1 f2
          rw [rd_cA] at f3 f4
          have f0 := up HB.out f0
          have f1 := up HB.out f1
          have f2 := up HB.out f2
          subst eA
          have hat := HAT.out
          rw [atC_drop hlt] at hat
          have HKX := Aside0.mk (HKC.out (cA cs i) (by rw [cA_eq hlt]; exact List.getElem_mem hlt))
          have hi1 : i < 1000 := by have := HN.out.2; omega
          generalize cA cs i = x at *
          obtain ⟨d0, d1, d2⟩ := three_new wr 28 (.int .i64 x.f0) (.int .i64 x.f1) (.slice A5 x.f2.length c5)
          have hb2 : Below wr.heap.size wr (wr.alloc (.cells #[.int .i64 x.f0, .int .i64 x.f1, .slice A5 x.f2.length c5] 28)) := below_alloc (Below.refl _ _) _
          have HX4 := Aside0.mk f4
          have HM2 := Aside0.mk (HM.out.below hb2)
          have HB2 := Aside0.mk (below_step HB.out hb2)
          clear f3 f4 hb2
          by_cases hqx : q < x.f0
          · rw [if_pos hqx] at hat
            have HR := Aside0.mk hat
            clear hat
            go_wp2
            go_ret
            exact ⟨mb, _, rfl, by rw [HMB.out]; exact Nat.le_refl _, by rw [← HR.out]; exact HM2.out, HB2.out⟩
          · rw [if_neg hqx] at hat
            have HR := Aside0.mk hat
            clear hat HAT
            go_wp2
            generalize wr.alloc (.cells #[.int .i64 x.f0, .int .i64 x.f1, .slice A5 x.f2.length c5] 28) = W2 at *
            obtain ⟨g0, hg0⟩ : ∃ g0, g0 = gk := ⟨_, rfl⟩
            have HG0 := Aside0.mk hg0
            clear hg0
            go_loopg [40] (x.f2.length + 1) (fun kq v40 wq => ∃ (j : Nat), v40 = .int .i64 (j : Int) ∧ j ≤ x.f2.length ∧ x.f2.length - j < kq ∧ Aside0 (Mv.MapV TS eS wq mb (1000 + i * 1000 + j) (wrsC C (x.f2.take j))) ∧ Aside0 (Below w.heap.size w wq))
            case atStart => exact ⟨0, rfl, Nat.zero_le _, by omega, HM2, HB2⟩
            case round =>
              clear HM HM2 HB HB2
              obtain ⟨j, rfl, hj, hkj, HM, HB⟩ := hrel
              have y0 : (0 : Int) ≤ (j : Int) := by omega
              have hmb := HMB.out
              by_cases hjl : j < x.f2.length
              · have y1 : (j : Int) < (x.f2.length : Int) := by omega
                obtain ⟨ad6, eB, g0', g1, g2⟩ := at_T31 (Kd.C_below HX4.out HB.out) (j : Int) y0 y1
                rw [rd_wA, Int.toNat_natCast] at g0' g1 g2
                subst eB
                have HTK := Aside0.mk (wrs_take (C := C) hjl)
                have hsx : (wA x.f2 j).f0.size ≤ maxLen := HKX.out.2 _ (by rw [wA_eq hjl]; exact List.getElem_mem hjl)
                have hjb : j < 1000 := by have := HKX.out.1; omega
                generalize wA x.f2 j = y at *
                obtain ⟨d0, d1, d2⟩ := three_new wr 31 (.string y.f0) (.string y.f1) (.bool y.f2)
                have hb2 : Below wr.heap.size wr (wr.alloc (.cells #[.string y.f0, .string y.f1, .bool y.f2] 31)) := below_alloc (Below.refl _ _) _
                cases hy : y.f2 with
                | true =>
                  rw [hy] at d0 d1 d2 hb2
                  obtain ⟨w8, u1, u2, u3⟩ := (HM.out.below hb2).del Try.underlying77 (x := y.f0) hsx 0
                  replace u1 : Sem.run Try.prog (Builtin.delete_ #[77, 9] 0 #[.map (some mb), .string y.f0]) (wr.alloc (.cells #[.string y.f0, .string y.f1, .bool true] 31)) = .ok (.tuple #[]) w8 := u1
                  have HM8 := Aside0.mk u2
                  have HWC : Aside0 (wrC (wrsC C (x.f2.take j)) y = Mv.delC (wrsC C (x.f2.take j)) y.f0) := ⟨by unfold wrC; rw [hy, if_pos rfl]⟩
                  have hg := u3.grown
                  have HB8 : Aside0 (Below w.heap.size w w8) := ⟨(HB.out.trans (hb2.mono HB.out.size)).trans ⟨hg.os, hg.tape, hg.output, hg.size, fun k hk => hg.block k (Nat.lt_of_lt_of_le hk (Nat.le_trans HB.out.size hb2.size)) (fun e => by injection e with e; omega)⟩⟩
                  clear u2 u3 hg hb2 hsx hmb
                  go_wp2
                  go_roundg (gk - 1)
                  case measure => omega
                  case rel => exact ⟨j + 1, by go_num, by omega, by omega, ⟨by rw [HTK.out, HWC.out]; exact HM8.out.mono (by omega)⟩, HB8⟩
                | false =>
                  rw [hy] at d0 d1 d2 hb2
                  obtain ⟨w8, u1, u2, u3⟩ := (HM.out.below hb2).put Try.underlying77 (by unfold maxLen; omega) (x := y.f0) hsx y.f1
                  replace u1 : Sem.run Try.prog (Instr.mapUpdate 77 (.map (some mb)) (.string y.f0) (.string y.f1)) (wr.alloc (.cells #[.string y.f0, .string y.f1, .bool false] 31)) = .ok () w8 := u1
                  have HM8 := Aside0.mk u2
                  have HWC : Aside0 (wrC (wrsC C (x.f2.take j)) y = Mv.putC (wrsC C (x.f2.take j)) y.f0 y.f1) := ⟨by unfold wrC; rw [hy, if_neg (by decide)]⟩
                  have hg := u3.grown
                  have HB8 : Aside0 (Below w.heap.size w w8) := ⟨(HB.out.trans (hb2.mono HB.out.size)).trans ⟨hg.os, hg.tape, hg.output, hg.size, fun k hk => hg.block k (Nat.lt_of_lt_of_le hk (Nat.le_trans HB.out.size hb2.size)) (fun e => by injection e with e; omega)⟩⟩
                  clear u2 u3 hg hb2 hsx hmb
                  go_wp2
                  go_roundg (gk - 1)
                  case measure => omega
                  case rel => exact ⟨j + 1, by go_num, by omega, by omega, ⟨by rw [HTK.out, HWC.out]; exact HM8.out⟩, HB8⟩
              · have hjz : j = x.f2.length := by omega
                subst hjz
                rw [List.take_length] at HM
                have hxl := HKX.out.1
                clear hj hjl hkj hmb
                go_wp2
                go_roundg (g0 - 1)
                case measure => have := HG0.out; omega
                case rel => exact ⟨i + 1, _, by go_num, by omega, by have := HG0.out; omega, ⟨HM.out.mono (by omega)⟩, HR, HB⟩
        · have hiz : i = cs.length := by omega
          subst hiz
          have hat := HAT.out
          rw [List.drop_length] at hat
          have HR := Aside0.mk hat
          clear hi hlt hk hat HAT
          go_wp2
          go_ret
          exact ⟨mb, _, rfl, by rw [HMB.out]; exact Nat.le_refl _, by rw [← HR.out]; exact HM.out, HB.out⟩
end Go.Proofs.Ytmafibbnojdpjaa.St
end
section
set_option linter.unusedVariables false
set_option maxRecDepth 100000
set_option linter.unusedSimpArgs false
namespace Go.Proofs.Ytmafibbnojdpjaa.St
open Go.Proofs.Ytmafibbnojdpjaa.Tr Go.RowKit Go.Proofs.YtmafibbnojdpjaaW.PrintWords Go.Proofs.YtmafibbnojdpjaaW.PrintLast Go.Proofs.YtmafibbnojdpjaaW.PrintMore Go.Proofs.Ytmafibbnojdpjaa.P
set_option maxHeartbeats 1000000 in
theorem clonec_any (cs : List Cm) (A : Option Addr) (c : Nat) (w : World) (okp : Nat → Prop) (hlt : ∀ k, okp k → k < w.heap.size) (hr : ReadsRow (k28.M w 0 okp) k28.sz w A cs.length cs) (hc : cs.length ≤ c) (hl : cs.length * 40 ≤ 140737488355328) :
    Calls Try.prog 82 #[.slice A cs.length c] w fun e w' => ∃ v, e = .returned v ∧ Kd.R k28 28 w' 0 (fun k => okp k ∨ w.heap.size ≤ k) v cs ∧ Below w.heap.size w w' := by
  have q23 : ∀ (w : World) (a : Option Addr) (n c n' c' : Nat), (binOp .eql 23 (.slice a n c) (.slice none n' c')).run Try.prog w = .ok (.bool a.isNone) w := fun w a n c n' c' => Lib.run_eql_slice_nil w _ _ a n c n' c' Try.underlying23
  cases A with
  | none =>
    have h0 : cs = [] := by
      rcases Nat.eq_zero_or_pos cs.length with h | h
      · exact List.length_eq_zero_iff.1 h
      · obtain ⟨ad, e, _⟩ := hr.2.2 h
        cases e
    subst h0
    clear hr
    go_enter Try.func82, Try.ntmps82
    go_wp2
    go_ret
    exact ⟨_, rfl, Kd.R_nil _ _ _ _ _, Below.refl _ _⟩
  | some ad =>
    have hb : Below w.heap.size w (w.alloc (.cells #[] 28)) := below_alloc (Below.refl _ _) _
    have HR : Aside0 (ReadsRow (k28.M (w.alloc (.cells #[] 28)) 0 okp) k28.sz (w.alloc (.cells #[] 28)) (some ad) cs.length cs) := ⟨ReadsRow.imp_ hr hb (fun x c hp => Kd.M_step hp (fun k hk hl => hb.block k hl))⟩
    have HE : Aside0 (Kd.R k28 28 (w.alloc (.cells #[] 28)) 0 (fun k => okp k ∨ w.heap.size ≤ k) (.slice (some ⟨w.heap.size, 0, none⟩) 0 0) []) := ⟨R_empty k28 _ 28 _ _ _ (Nat.zero_le _) (.inr (Nat.le_refl _)) (heap_alloc_new _ _)⟩
    have HOK : Aside0 (∀ k, okp k → (okp k ∨ w.heap.size ≤ k) ∧ some k ≠ (Value.slice (some ⟨w.heap.size, 0, none⟩) 0 0).ownBlock) := ⟨fun k hk => ⟨.inl hk, fun e => by have := hlt k hk; simp [Value.ownBlock] at e; omega⟩⟩
    have HFS : Aside0 (∀ k, (w.alloc (.cells #[] 28)).heap.size ≤ k → okp k ∨ w.heap.size ≤ k) := ⟨fun k hk => .inr (Nat.le_trans (by simp) hk)⟩
    have HB := Aside0.mk hb
    have HL := Aside0.mk hl
    clear hr hb hlt hl
    go_enter Try.func82, Try.ntmps82
    go_wp2_with (refine Kd.R_append_rows k28 (Rr := k28.M (w.alloc (.cells #[] 28)) 0 okp) (w0 := w.alloc (.cells #[] 28)) 0 rfl (.tmp 5) (.tmp 6) 23 28 (.agg #[.int .i64 0, .int .i64 0, .slice none 0 0]) 40 rfl Try.underlying23 info28 rfl (by decide) (by decide) _ [] cs (some ad) cs.length c (fun k => okp k ∨ w.heap.size ≤ k) okp rfl rfl HE.out HR.out (fun x cs h => h) HOK.out HFS.out (Below.refl _ _) (Nat.zero_le _) (by simpa using HL.out) ?_
                 intro v1 w1 h1 h2 h3 h4
                 have H1 := Aside0.mk h1
                 have H3 := Aside0.mk h3
                 clear h1 h2 h3 h4)
    go_ret
    refine ⟨v1, rfl, by simpa using H1.out, HB.out.trans ⟨H3.out.os, H3.out.tape, H3.out.output, H3.out.size, fun k hk => H3.out.block k (by simp; omega) (fun e => ?_)⟩⟩
    have e' : k = w.heap.size := Option.some.inj e
    omega
theorem rr_drop {α : Type} {R : α → List Value → Prop} {size : Nat} {w : World} {A : Option Addr} {xs : List α} {m c : Nat} (h : ReadsRow R size w A xs.length xs) (hm : m ≤ xs.length) (hc : xs.length ≤ c) : ReadsRow R size w (if c = m then A else A.map (·.add (m * size))) (xs.drop m).length (xs.drop m) := by
  have hl : (xs.drop m).length = xs.length - m := List.length_drop
  refine ⟨rfl, by rw [hl]; have := h.2.1; omega, fun hp => ?_⟩
  rw [hl] at hp
  obtain ⟨ad, rfl, hcell⟩ := h.2.2 (by omega)
  rw [if_neg (by omega)]
  refine ⟨ad.add (m * size), rfl, fun j p hj => ?_⟩
  rw [List.getElem?_drop] at hj
  obtain ⟨cs, h1, h2, h3⟩ := hcell (m + j) p hj
  refine ⟨cs, h1, h2, fun i u hu => ?_⟩
  rw [Tr.add_add, show m * size + (j * size + i) = (m + j) * size + i by rw [Nat.add_mul]; omega]
  exact h3 i u hu
/-- the store's commits from one on, as a row that is read -/
theorem hist_rows {G : Nat → Prop} {col : Nat → Nat} {w : World} {s : Nat} {M : StM} {H : Value} {L : List Tr.Item} (h : StoreC G col w s M H L) :
    ∃ A c, H = .slice A M.hist.length c ∧ M.hist.length ≤ c ∧ ReadsRow (k28.M w 0 (fun k => Hue G col 2 k ∧ k < w.heap.size)) k28.sz w A M.hist.length M.hist := by
  obtain ⟨_, hr⟩ := Kd.R_bound h.hist
  obtain ⟨A, c, he, hl, hr⟩ := OwnRow.reads hr
  exact ⟨A, c, he, hl, ReadsRow.imp_ hr (Below.refl _ _) (fun x cs hp => k28.M_mono (fun k hk => ⟨hk.1.1, hk.1.2.2.1⟩) hp)⟩
/-- the keys are as long as keys may be -/
def KeyOk (K : List KC) : Prop := ∀ b ∈ K, b.1.size ≤ 400
theorem keyOk_ins {K : List KC} (h : KeyOk K) {x : ByteArray} (hx : x.size ≤ 400) (c : List Ver) : KeyOk (insK K x c) := fun b hb => by
  rcases mem_insK.1 hb with rfl | ⟨h1, _⟩
  · exact hx
  · exact h b h1
theorem okW_key {x : Wr} (h : okW x = true) : x.f0.size ≤ 400 := by
  unfold okW at h
  simp only [Bool.and_eq_true, decide_eq_true_eq] at h
  exact h.1.1.2
theorem rises_okW {l : List Wr} (h : rises l = true) : ∀ x ∈ l, okW x = true := fun x hx => by
  obtain ⟨i, hi, rfl⟩ := List.mem_iff_getElem.1 hx
  have := rises_iff.1 h i hi
  unfold okAt at this
  rw [Bool.and_eq_true] at this
  rw [← wA_eq hi]
  exact this.1
theorem keyOk_putAll (s : Int) (ws : List Wr) : ∀ K : List KC, (∀ x ∈ ws, okW x = true) → KeyOk K → KeyOk (putAll s K ws) := by
  induction ws with
  | nil => exact fun K _ h => h
  | cons x ws ih => exact fun K hw h => ih _ (fun y hy => hw y (List.mem_cons_of_mem _ hy)) (keyOk_ins h (okW_key (hw x (List.mem_cons_self ..))) _)
theorem keyOk_com {M : StM} (h : KeyOk M.K) {c : Cm} (hg : goodC M c = true) : KeyOk (comM M c).K := by
  have h5 := (goodC_iff.1 hg).2.2.2.2.1
  unfold rightW at h5
  rw [Bool.and_eq_true] at h5
  exact keyOk_putAll c.f0 c.f2 M.K (rises_okW h5.2) h
theorem keyOk_newPuts (s : Int) (ws : List Wr) : ∀ K : List KC, (∀ x ∈ ws, okW x = true) → KeyOk K → KeyOk (ws.foldl (newPut s) K) := by
  induction ws with
  | nil => exact fun K _ h => h
  | cons x ws ih => exact fun K hw h => ih _ (fun y hy => hw y (List.mem_cons_of_mem _ hy)) (keyOk_ins h (okW_key (hw x (List.mem_cons_self ..))) _)
theorem keyOk_new {q : Int} {ws : List Wr} (h : newOk q ws = true) : KeyOk (newM q ws).K := by
  unfold newOk at h
  simp only [Bool.and_eq_true] at h
  exact keyOk_newPuts q ws [] (rises_okW h.1.2) (fun b hb => by cases hb)
end Go.Proofs.Ytmafibbnojdpjaa.St
end
section
set_option linter.unusedVariables false
set_option maxRecDepth 100000
set_option linter.unusedSimpArgs false
namespace Go.Proofs.Ytmafibbnojdpjaa.St
open Go.Proofs.Ytmafibbnojdpjaa.Tr Go.RowKit Go.Proofs.YtmafibbnojdpjaaW.PrintWords Go.Proofs.YtmafibbnojdpjaaW.PrintLast Go.Proofs.YtmafibbnojdpjaaW.PrintMore Go.Proofs.Ytmafibbnojdpjaa.P
attribute [local go_sem] Oper.semAt_some
/-- boxes made one behind the other -/
def allocs (W : World) (l : List (Value × TypeId)) : World := l.foldl (fun W a => W.alloc (.cells #[a.1] a.2)) W
theorem allocs_size (l : List (Value × TypeId)) : ∀ W : World, (allocs W l).heap.size = W.heap.size + l.length := by
  induction l with
  | nil => intro W; rfl
  | cons a l ih => intro W; rw [show allocs W (a :: l) = allocs (W.alloc (.cells #[a.1] a.2)) l from rfl, ih, World.size_alloc, List.length_cons]; omega
theorem allocs_keep (l : List (Value × TypeId)) : ∀ {W : World} {b : Nat} {t : TypeId} {v : Value}, Boxed W b t v → Boxed (allocs W l) b t v := by
  induction l with
  | nil => intro W b t v h; exact h
  | cons a l ih => intro W b t v h; exact ih (h.alloc _)
theorem allocs_box (l : List (Value × TypeId)) : ∀ (W : World) (i : Nat) (h : i < l.length), Boxed (allocs W l) (W.heap.size + i) l[i].2 l[i].1 := by
  induction l with
  | nil => intro W i h; cases h
  | cons a l ih =>
    intro W i h
    cases i with
    | zero => exact allocs_keep l (Boxed.new W a.2 a.1)
    | succ i =>
      have := ih (W.alloc (.cells #[a.1] a.2)) i (by rw [List.length_cons] at h; omega)
      rw [World.size_alloc] at this
      rw [show W.heap.size + (i + 1) = W.heap.size + 1 + i from by omega]
      exact this
theorem allocs_below (l : List (Value × TypeId)) : ∀ W : World, Below W.heap.size W (allocs W l) := by
  induction l with
  | nil => intro W; exact Below.refl _ _
  | cons a l ih => intro W; exact below_step (below_alloc (Below.refl _ _) _) (ih _)
theorem bytes_ne9 {a b : ByteArray} (h : ¬ a = b) : (a.toList == b.toList) = false := by
  rw [ByteArray.toList_eq, ByteArray.toList_eq]
  simp only [beq_eq_false_iff_ne, ne_eq]
  intro e
  apply h
  cases a
  cases b
  simpa using e
theorem results_bool {P : Program} {fn : Func} {p : Tmp} {ty : TypeId} (h : fn.results = #[.cell p ty]) (tmps : Array Value) (w : World) (a : Addr) (b : Bool)
    (hp : tmps.getD p undef = .pointer (some a)) (hc : w.cell? a = some (.bool b)) (hu : P.underlying ty = some .bool) : (results fn tmps).run P w = .ok (.bool b) w := by
  have hp' : tmps[p]?.getD undef = .pointer (some a) := by simpa using hp
  simp [results, h, hp', asAddr, loadVar, isAgg, run_underlying hu, go_sem, hc]
/-- the last key -/
def lastK (l : List KV) : ByteArray := match l.getLast? with | some a => a.1 | none => ⟨#[]⟩
theorem lastK_snoc (l : List KV) (a : KV) : lastK (l ++ [a]) = a.1 := by simp [lastK]
theorem lastK_lt {l S : List KV} {a : KV} (hp : l ++ [a] <+: S) (hS : S.Pairwise fun a b => kl a.1 b.1) (hne : l ≠ []) : kl (lastK l) a.1 := by
  have h1 := hS.sublist hp.sublist
  have h2 := (List.pairwise_append.1 h1).2.2
  unfold lastK
  obtain ⟨b, hb⟩ : ∃ b, l.getLast? = some b := by
    cases e : l.getLast? with
    | some b => exact ⟨b, rfl⟩
    | none => rw [List.getLast?_eq_none_iff] at e; exact absurd e hne
  rw [hb]
  exact h2 b (List.mem_of_getLast? hb) a (List.mem_singleton.2 rfl)
variable {G : Nat → Prop} {col : Nat → Nat} {w w' : World} {s : Nat} {M : StM} {H : Value} {L : List Tr.Item}
set_option maxHeartbeats 16000000 in
theorem shows_any (h : StoreC G col w s M H L) (hinv : Inv M) (hsz : M.K.length ≤ 2000000) (hks : KeyOk M.K) (mb n : Nat) (C : KVs) (hm : Mv.MapV TS eS w mb n C) (q : Int) (hC : Shows C M q) :
    Calls Try.prog 49 #[.pointer (some ⟨s, 0, none⟩), .map (some mb), .int .i64 q] w fun e w' => e = .returned (.bool true) ∧ Below w.heap.size w w' := by
  have SC := Aside0.mk (h.turn (G' := fun k => k < w.heap.size) (col' := col) (fun k hk _ => hk) (fun _ _ => rfl))
  have HMV := Aside0.mk hm
  have HSHO := Aside0.mk hC
  have HINV := Aside0.mk hinv
  have HKO := Aside0.mk hks
  have HLEN : Aside0 ((showM M ⟨#[]⟩ ⟨#[]⟩ q).length = C.length) := ⟨(hC.len hinv).symm⟩
  have HPAIR := Aside0.mk (show_pair hinv q)
  have hsl := showM_len M ⟨#[]⟩ ⟨#[]⟩ q
  clear h hm hC hinv hks
  refine (callsIn_wide (n := 5)).1 (callsIn_of_wp_marks Try.func49 rfl trivial ?_ rfl)
  simp only [Try.ntmps49, List.size_toArray, List.length_cons, List.length_nil, Nat.reduceAdd, Nat.reduceSub, Array.replicate_succ, Array.replicate_zero, List.push_toArray, List.append_toArray, List.nil_append, List.cons_append]
  refine wpIn_wide.2 ?_
  go_wp2_with (go_at_call 55; refine (srange_any _ _ _ _ _).mono ?_; rintro e w6 ⟨rfl, hw6⟩; have HW6 := Aside0.mk hw6; clear hw6)
  have hw6 : w6 = allocs w [(.pointer (some ⟨s, 0, none⟩), 32), (.map (some mb), 77), (.int .i64 q, 3), (.bool false, 4), (.int .i64 0, 3), (.string ⟨#[]⟩, 9), (.pointer (some ⟨s, 0, none⟩), 32), (.string ⟨#[]⟩, 9), (.string ⟨#[]⟩, 9), (.int .i64 q, 3)] := HW6.out
  clear HW6
  have hz6 : w6.heap.size = w.heap.size + 10 := by rw [hw6]; exact allocs_size _ _
  have hb6 : Below w.heap.size w w6 := by rw [hw6]; exact allocs_below _ _
  have hbx := fun i hi => allocs_box [((.pointer (some ⟨s, 0, none⟩) : Value), (32 : TypeId)), (.map (some mb), 77), (.int .i64 q, 3), (.bool false, 4), (.int .i64 0, 3), (.string ⟨#[]⟩, 9), (.pointer (some ⟨s, 0, none⟩), 32), (.string ⟨#[]⟩, 9), (.string ⟨#[]⟩, 9), (.int .i64 q, 3)] w i hi
  rw [← hw6] at hbx
  have x0 : Boxed w6 w.heap.size 32 (.pointer (some ⟨s, 0, none⟩)) := hbx 0 (by simp)
  have x1 : Boxed w6 (w.heap.size + 1) 77 (.map (some mb)) := hbx 1 (by simp)
  have x2 : Boxed w6 (w.heap.size + 1 + 1) 3 (.int .i64 q) := hbx 2 (by simp)
  have x3 : Boxed w6 (w.heap.size + 1 + 1 + 1) 4 (.bool false) := hbx 3 (by simp)
  have x4 : Boxed w6 (w.heap.size + 1 + 1 + 1 + 1) 3 (.int .i64 0) := hbx 4 (by simp)
  have x5 : Boxed w6 (w.heap.size + 1 + 1 + 1 + 1 + 1) 9 (.string ⟨#[]⟩) := hbx 5 (by simp)
  have x6 : Boxed w6 (w.heap.size + 1 + 1 + 1 + 1 + 1 + 1) 32 (.pointer (some ⟨s, 0, none⟩)) := hbx 6 (by simp)
  have x7 : Boxed w6 (w.heap.size + 1 + 1 + 1 + 1 + 1 + 1 + 1) 9 (.string ⟨#[]⟩) := hbx 7 (by simp)
  have x8 : Boxed w6 (w.heap.size + 1 + 1 + 1 + 1 + 1 + 1 + 2) 9 (.string ⟨#[]⟩) := hbx 8 (by simp)
  have x9 : Boxed w6 (w.heap.size + 1 + 1 + 1 + 1 + 1 + 1 + 3) 3 (.int .i64 q) := hbx 9 (by simp)
  clear hbx hw6
  generalize g1 : w.heap.size + 1 = b1 at *
  generalize g2 : b1 + 1 = b2 at *
  generalize g3 : b2 + 1 = b3 at *
  generalize g4 : b3 + 1 = b4 at *
  generalize g5 : b4 + 1 = b5 at *
  generalize g6 : b5 + 1 = b6 at *
  have HGG : Aside0 (b1 = w.heap.size + 1 ∧ b2 = w.heap.size + 2 ∧ b3 = w.heap.size + 3 ∧ b4 = w.heap.size + 4 ∧ b5 = w.heap.size + 5 ∧ b6 = w.heap.size + 6 ∧ w6.heap.size = w.heap.size + 10) := ⟨by omega, by omega, by omega, by omega, by omega, by omega, by omega⟩
  clear g1 g2 g3 g4 g5 g6 hz6
  refine (wpIn_wide (n := 5)).1 ?_
  have hgg := HGG.out
  have hseq := srange_el 4 (by omega) b6 (b6 + 1) (b6 + 2) (b6 + 3) s (fun k => k < w6.heap.size ∧ k ≠ b4 ∧ k ≠ b5) ⟨#[]⟩ ⟨#[]⟩ q w6 ⟨by omega, by omega, by omega⟩ ⟨by omega, by omega, by omega⟩ ⟨by omega, by omega, by omega⟩ ⟨by omega, by omega, by omega⟩ (SC.out.below hb6) HINV.out hsz (fun k hk h => ⟨hk, by have h' : k < w.heap.size := h; omega, by have h' : k < w.heap.size := h; omega⟩) x6 x7 x8 x9 (fun k h => h.1)
  have HB6 := Aside0.mk hb6
  clear x6 x7 x8 x9 hb6 hgg
  refine' rangeO rfl (enters_of Try.func84 (by kernel_rfl) rfl) (by omega) hseq (Below.refl _ _) (fun k hk => hk.1) (fun _ => rfl)
    (fun pre X => Boxed X b4 3 (.int .i64 (pre.length : Int)) ∧ Boxed X b5 9 (.string (lastK (valE pre))) ∧ Boxed X w.heap.size 32 (.pointer (some ⟨s, 0, none⟩)) ∧ Boxed X b1 77 (.map (some mb)) ∧ Boxed X b2 3 (.int .i64 q) ∧ Boxed X b3 4 (.bool false) ∧ Below w.heap.size w X ∧ w6.heap.size ≤ X.heap.size)
    (fun c pre X => ¬ valE pre <+: showM M ⟨#[]⟩ ⟨#[]⟩ q) ?hI (fun c s A B row hs hg hr => hs) ⟨x4, x5, x0, x1, x2, x3, HB6.out, Nat.le_refl _⟩ _ ?assign ?body ?done ?stop
  case hI =>
    rintro pre A C row ⟨h4, h5, h0, h1, h2, h3, hB, hz⟩ hg hr
    have hne : ∀ k cs t fr, A.heap[k]? = some (.cells cs t fr) → row ≠ some k := fun k cs t fr hk e => by
      obtain ⟨_, o, q1, q2⟩ := hr k e
      rw [hk] at q1
      injection q1 with q1
      rw [← q1] at q2
      cases q2
    have hu : ∀ {b : Nat} {t : TypeId} {v : Value}, Boxed A b t v → Boxed C b t v := fun h => (hg.block _ h.lt (fun e => hne _ _ _ _ h e.symm)).trans h
    exact ⟨hu h4, hu h5, hu h0, hu h1, hu h2, hu h3, hB.trans ⟨hg.os, hg.tape, hg.output, hg.size, fun k hk => hg.block k (Nat.lt_of_lt_of_le hk hB.size) (fun e => by have := (hr k e.symm).1; have := HGG.out; omega)⟩, Nat.le_trans hz hg.size⟩
  case assign =>
    intro l2 x W K hK
    dsimp only [kvV]
    gi_wp2
    exact hK
  case body =>
    rintro l2 pre e X ⟨h4, h5, h0, h1, h2, h3, hB, hz⟩ hl
    obtain ⟨⟨ek, ev⟩, he⟩ := e
    have he' : getO M ek q = some ev := he
    have hek : ek.size ≤ maxLen := by
      obtain ⟨b, hb, e⟩ := List.mem_map.1 (key_in he')
      have := HKO.out b hb
      rw [e] at this
      unfold maxLen
      omega
    have hlk := (HMV.out.below hB).look2 (z := .string ⟨#[]⟩) Try.underlying77 (Try.zeroValue9 _) (x := ek) hek
    rw [HSHO.out.2 ek, he'] at hlk
    replace hlk : Sem.run Try.prog (Instr.lookup 77 (.map (some mb)) (.string ek) true) X = .ok (.tuple #[.string ev, .bool true]) X := hlk
    have HGE := Aside0.mk (get_any (SC.out.below hB) HINV.out hsz ek q)
    rw [he'] at HGE
    have HSN : Aside0 (valE (pre ++ [(⟨(ek, ev), he⟩ : ShE M q)]) = valE pre ++ [(ek, ev)]) := ⟨valE_snoc _ _⟩
    have HSL : Aside0 ((pre ++ [(⟨(ek, ev), he⟩ : ShE M q)]).length = pre.length + 1) := ⟨by simp⟩
    have HPL : Aside0 (pre.length < 2000001) := ⟨by omega⟩
    have HVL : Aside0 ((valE pre).length = pre.length) := ⟨valE_len _⟩
    have c4 := h4.cell
    have z4 := h4.frozen
    have c5 := h5.cell
    have z5 := h5.frozen
    have c0 := h0.cell
    have c1 := h1.cell
    have c2 := h2.cell
    have z3 := h3.frozen
    have c3 := h3.cell
    have HX := Aside0.mk (And.intro h4 (And.intro h5 (And.intro h0 (And.intro h1 (And.intro h2 (And.intro h3 (And.intro hB hz)))))))
    clear h4 h5 h0 h1 h2 h3 hB hz he' hek hl
    generalize hvp : valE pre = vp at *
    generalize hpl : pre.length = i at *
    have hw1 : IntKind.i64.wrap ((i : Int) + 1) = ((i + 1 : Nat) : Int) := by have := HPL.out; rw [IntKind.wrap_i64]; omega
    have hw2 : wrap64 ((i : Int) + 1) = ((i + 1 : Nat) : Int) := by have := HPL.out; rw [w64 (by omega) (by omega)]; omega
    have HVP := Aside0.mk hvp
    have HPLi := Aside0.mk hpl
    clear hvp hpl
    dsimp only [kvV]
    have hcase : i = 0 ∨ (0 < i ∧ kl (lastK vp) ek) ∨ (0 < i ∧ kl ek (lastK vp)) ∨ (0 < i ∧ ek = lastK vp) := by
      rcases Nat.eq_zero_or_pos i with h | h
      · exact .inl h
      · rcases kl_tri (lastK vp) ek with hk | hk | hk
        · exact .inr (.inl ⟨h, hk⟩)
        · exact .inr (.inr (.inr ⟨h, hk.symm⟩))
        · exact .inr (.inr (.inl ⟨h, hk⟩))
    have hno : 0 < i → ¬ kl (lastK vp) ek → ¬ vp ++ [(ek, ev)] <+: showM M ⟨#[]⟩ ⟨#[]⟩ q := fun hi hkl hp => hkl (lastK_lt hp HPAIR.out (fun e => by have := HVL.out; rw [e] at this; exact absurd this.symm (by simp; omega)))
    rcases hcase with hi | ⟨hi, hkl⟩ | ⟨hi, hkl⟩ | ⟨hi, hkl⟩
    case' inl =>
      have n0 : ¬ (0 : Int) < (i : Int) := by omega
      have m0 : ¬ 0 < i := by omega
      have d0 : decide ((0 : Int) < (i : Int)) = false := decide_eq_false n0
    case' inr.inl =>
      have n0 : (0 : Int) < (i : Int) := by omega
      have m0 : 0 < i := by omega
      have d0 : decide ((0 : Int) < (i : Int)) = true := decide_eq_true n0
      have d1 : Op.bytesLess ek.toList (lastK vp).toList = false := by rw [less_kl]; exact decide_eq_false (kl_anti hkl)
      have d2 : (ek.toList == (lastK vp).toList) = false := bytes_ne9 (fun e => by rw [e] at hkl; exact kl_irrefl _ hkl)
    case' inr.inr.inl =>
      have n0 : (0 : Int) < (i : Int) := by omega
      have m0 : 0 < i := by omega
      have d0 : decide ((0 : Int) < (i : Int)) = true := decide_eq_true n0
      have d1 : Op.bytesLess ek.toList (lastK vp).toList = true := by rw [less_kl]; exact decide_eq_true hkl
      have HNP := Aside0.mk (hno hi (kl_anti hkl))
    case' inr.inr.inr =>
      have n0 : (0 : Int) < (i : Int) := by omega
      have m0 : 0 < i := by omega
      have d0 : decide ((0 : Int) < (i : Int)) = true := decide_eq_true n0
      have d1 : Op.bytesLess ek.toList (lastK vp).toList = false := by rw [less_kl, ← hkl]; exact decide_eq_false (kl_irrefl ek)
      have d2 : (ek.toList == (lastK vp).toList) = true := by rw [← hkl]; exact beq_self_eq_true _
      have HNP := Aside0.mk (hno hi (by rw [← hkl]; exact kl_irrefl ek))
    case' inr.inl | inr.inr.inl | inr.inr.inr => clear hkl
    all_goals
      clear hi hno
      generalize lastK vp = lk at *
    case inr.inr.inl =>
      gi_wp2
      have hx := HX.out
      have hgg := HGG.out
      exact ⟨⟨by rw [World.size_setCell]; exact Nat.le_refl _, fun k o hk ho hc => (Below.heap_setCell _ _ _ k (show k ≠ b3 by omega)).trans ho⟩, by
        show ¬ valE (pre ++ [(⟨(ek, ev), he⟩ : ShE M q)]) <+: _
        rw [HSN.out]
        exact HNP.out⟩
    case inr.inr.inr =>
      gi_wp2
      have hx := HX.out
      have hgg := HGG.out
      exact ⟨⟨by rw [World.size_setCell]; exact Nat.le_refl _, fun k o hk ho hc => (Below.heap_setCell _ _ _ k (show k ≠ b3 by omega)).trans ho⟩, by
        show ¬ valE (pre ++ [(⟨(ek, ev), he⟩ : ShE M q)]) <+: _
        rw [HSN.out]
        exact HNP.out⟩
    all_goals
      gi_wp2_with (first
        | (refine ⟨trivial, ?_⟩; refine (CallsIn.inRound l2 (callsIn_wide.2 HGE.out)).mono ?_; rintro e w7 ⟨rfl, hb7⟩
           have hx := HX.out
           have k4 := Boxed.upB hx.1 hb7
           have k5 := Boxed.upB hx.2.1 hb7
           have c4 := k4.cell
           have z4 := k4.frozen
           have c5 := k5.cell
           have z5 := k5.frozen
           have hgg := HGG.out
           have k6 : Boxed (w7.setCell ⟨b5, 0, none⟩ (.string ek)) b4 3 (.int .i64 (i : Int)) := (Below.heap_setCell w7 ⟨b5, 0, none⟩ (.string ek) b4 (show b4 ≠ b5 by omega)).trans k4
           have c6 := k6.cell
           have z6 := k6.frozen
           have HK6 := Aside0.mk k6
           have HK5 := Aside0.mk (k5.set (.string ek))
           have HB7 := Aside0.mk hb7
           clear hb7 hx k4 k5 k6 hgg))
      have hx := HX.out
      have hgg := HGG.out
      have hb7 := HB7.out
      obtain ⟨W', hW'⟩ : ∃ W', W' = (w7.setCell ⟨b5, 0, none⟩ (.string ek)).setCell ⟨b4, 0, none⟩ (.int .i64 ((i : Int) + 1)) := ⟨_, rfl⟩
      rw [← hW']
      have far : ∀ k, k ≠ b4 → k ≠ b5 → W'.heap[k]? = w7.heap[k]? := fun k h4 h5 => by rw [hW']; exact (Below.heap_setCell _ _ _ k h4).trans (Below.heap_setCell _ _ _ k h5)
      have hsz : W'.heap.size = w7.heap.size := by rw [hW', World.size_setCell, World.size_setCell]
      have q4 : Boxed W' b4 3 (.int .i64 ((i : Int) + 1)) := by rw [hW']; exact HK6.out.set _
      have q5 : Boxed W' b5 9 (.string ek) := by rw [hW']; exact (Below.heap_setCell _ _ _ b5 (show b5 ≠ b4 by omega)).trans HK5.out
      have hu : ∀ {b : Nat} {t : TypeId} {v : Value}, b ≠ b4 → b ≠ b5 → Boxed X b t v → Boxed W' b t v := fun h4 h5 h => (far _ h4 h5).trans (Boxed.upB h hb7)
      refine ⟨⟨by rw [hsz]; exact hb7.size, fun k o hk ho hc => (far k (by omega) (by omega)).trans ((hb7.block k (Array.getElem?_eq_some_iff.1 ho).1).trans ho)⟩, ⟨by rw [hsz]; exact hb7.size, fun k hk hl => (far k hk.2.1 hk.2.2).trans (hb7.block k hl), fun k o hk ho hf => (far k (by omega) (by omega)).trans ((hb7.block k (Array.getElem?_eq_some_iff.1 ho).1).trans ho)⟩, ?_⟩
      show Boxed W' b4 3 (.int .i64 ((pre ++ [(⟨(ek, ev), he⟩ : ShE M q)]).length : Int)) ∧ Boxed W' b5 9 (.string (lastK (valE (pre ++ [(⟨(ek, ev), he⟩ : ShE M q)])))) ∧ _
      rw [HSL.out, HSN.out, lastK_snoc]
      refine ⟨by rw [Int.natCast_add]; exact q4, q5, hu (by omega) (by omega) hx.2.2.1, hu (by omega) (by omega) hx.2.2.2.1, hu (by omega) (by omega) hx.2.2.2.2.1, hu (by omega) (by omega) hx.2.2.2.2.2.1, ?_, by rw [hsz]; exact Nat.le_trans hx.2.2.2.2.2.2.2 hb7.size⟩
      rw [hW']
      exact ((below_step hx.2.2.2.2.2.2.1 hb7).setCell (p := ⟨b5, 0, none⟩) (show w.heap.size ≤ b5 by omega) _).setCell (p := ⟨b4, 0, none⟩) (show w.heap.size ≤ b4 by omega) _
  case done =>
    rintro D xs X hD hxs ⟨h4, h5, h0, h1, h2, h3, hB, hz⟩ hK
    replace hxs : valE xs = showM M ⟨#[]⟩ ⟨#[]⟩ q := hxs
    have hl : xs.length = C.length := by rw [← valE_len xs, hxs]; exact HLEN.out
    rw [hl] at h4
    have HBA : Aside0 (∀ W, Below X.heap.size X W → Calls Try.prog 52 #[.pointer (some ⟨s, 0, none⟩), .int .i64 q] W fun e w' => ∃ A c, e = .returned (.slice A C.length c) ∧ Below W.heap.size W w') := ⟨fun W hW => by
      refine (base_any (SC.out.below (below_step hB hW)) HINV.out hsz q).mono ?_
      rintro e w' ⟨v, rfl, hr, hb⟩
      obtain ⟨A, c, ev⟩ := Kd.R_slice hr
      rw [base_len, HLEN.out] at ev
      subst ev
      exact ⟨A, c, rfl, hb⟩⟩
    have c4 := h4.cell
    have c1 := h1.cell
    have c0 := h0.cell
    have c2 := h2.cell
    have c3 := h3.cell
    have z3 := h3.frozen
    have HLM : Aside0 (∀ W, Below X.heap.size X W → Sem.run Try.prog (Builtin.len_ #[77] 3 #[.map (some mb)]) W = .ok (.int .i64 (C.length : Int)) W) := ⟨fun W hW => (HMV.out.below (below_step hB hW)).len Try.underlying77 3⟩
    have HX3 := Aside0.mk h3
    have HX4 := Aside0.mk h4
    have HX0 := Aside0.mk h0
    have HX1 := Aside0.mk h1
    have HX2 := Aside0.mk h2
    have HMB := Aside0.mk HMV.out.lt
    have HXB := Aside0.mk hB
    have HXK := Aside0.mk hK
    clear h4 h5 h0 h1 h2 h3 hB hxs hl hz hseq x0 x1 x2 x3 x4 x5
    gi_wp2
    have SD : Aside0 (∀ W, Below X.heap.size X W → (fun W : World => W.cell? ⟨b4, 0, none⟩ = some (.int .i64 (C.length : Int)) ∧ W.cell? ⟨b1, 0, none⟩ = some (.map (some mb)) ∧ W.cell? ⟨w.heap.size, 0, none⟩ = some (.pointer (some ⟨s, 0, none⟩)) ∧ W.cell? ⟨b2, 0, none⟩ = some (.int .i64 q) ∧ Sem.run Try.prog (Builtin.len_ #[77] 3 #[.map (some mb)]) W = .ok (.int .i64 (C.length : Int)) W) W) := ⟨fun W hW => ⟨up hW c4, up hW c1, up hW c0, up hW c2, HLM.out W hW⟩⟩
    have SE : Aside0 (∀ W v, Below X.heap.size X W → (fun W : World => W.cell? ⟨b4, 0, none⟩ = some (.int .i64 (C.length : Int)) ∧ W.cell? ⟨b1, 0, none⟩ = some (.map (some mb)) ∧ W.cell? ⟨w.heap.size, 0, none⟩ = some (.pointer (some ⟨s, 0, none⟩)) ∧ W.cell? ⟨b2, 0, none⟩ = some (.int .i64 q) ∧ Sem.run Try.prog (Builtin.len_ #[77] 3 #[.map (some mb)]) W = .ok (.int .i64 (C.length : Int)) W) (W.setCell ⟨b3, 0, none⟩ v)) := ⟨fun W v hW => by
      have hgg := HGG.out
      have hu : ∀ {b : Nat} {t : TypeId} {u : Value}, b ≠ b3 → Boxed X b t u → Boxed (W.setCell ⟨b3, 0, none⟩ v) b t u := fun hb h => (Below.heap_setCell W ⟨b3, 0, none⟩ v _ hb).trans (Boxed.upB h hW)
      have hmb := HMB.out
      refine ⟨(hu (by omega) HX4.out).cell, (hu (by omega) HX1.out).cell, (hu (by omega) HX0.out).cell, (hu (by omega) HX2.out).cell, ?_⟩
      exact ((HMV.out.below (below_step HXB.out hW)).same (Below.heap_setCell W ⟨b3, 0, none⟩ v mb (show mb ≠ b3 by omega))).len Try.underlying77 3⟩
    have S0 := SD.out X.drew (below_drew1 (Below.refl _ _))
    clear c4 c1 c0 c2 c3 z3
    go_wp2
    go_region_held3 (fun W : World => W.cell? ⟨b4, 0, none⟩ = some (.int .i64 (C.length : Int)) ∧ W.cell? ⟨b1, 0, none⟩ = some (.map (some mb)) ∧ W.cell? ⟨w.heap.size, 0, none⟩ = some (.pointer (some ⟨s, 0, none⟩)) ∧ W.cell? ⟨b2, 0, none⟩ = some (.int .i64 q) ∧ Sem.run Try.prog (Builtin.len_ #[77] 3 #[.map (some mb)]) W = .ok (.int .i64 (C.length : Int)) W) (first | exact S0 | exact S8 | exact S9) (first
      | (go_at_call 52; refine (HBA.out _ (by repeat (first | apply pw_below_drewN | apply below_drew1 | exact Below.refl _ _))).mono ?_; rintro e w8 ⟨A8, c8, rfl, hb8⟩
         have hb9 : Below X.heap.size X w8 := below_step (by repeat (first | apply pw_below_drewN | apply below_drew1 | exact Below.refl _ _)) hb8
         have S8 := SD.out w8 hb9
         have S9 := SE.out w8 (.bool true) hb9
         have k9 := Boxed.upB HX3.out hb9
         have c9 := k9.cell
         have z9 := k9.frozen
         have HB8 := Aside0.mk hb9
         clear hb8 hb9 k9))
    have hgg := HGG.out
    have hb8 := HB8.out
    have hD' : w6.heap.size ≤ D := hD
    have hDl : D < X.heap.size := (Array.getElem?_eq_some_iff.1 HXK.out).1
    have hKD : (w8.setCell ⟨b3, 0, none⟩ (.bool true)).heap[D]? = some (.deferred (some [])) := (Below.heap_setCell w8 ⟨b3, 0, none⟩ (.bool true) D (show D ≠ b3 by omega)).trans ((hb8.block D hDl).trans HXK.out)
    have hK3 : Boxed (w8.setCell ⟨b3, 0, none⟩ (.bool true)) b3 4 (.bool true) := (Boxed.upB HX3.out hb8).set (.bool true)
    have HKD := Aside0.mk hKD
    have HK3 := Aside0.mk hK3
    clear hgg hb8 hKD hK3 hDl
    go_wp2
    refine ⟨by simp, .inl ⟨_, _, rfl, run_takeDeferred HKD.out, ?_⟩⟩
    refine ⟨.bool true, results_bool rfl _ _ ⟨b3, 0, none⟩ true rfl ?_ Try.underlying4, rfl, ?_⟩
    · exact (World.cell?_of_block (World.putObj_heap_other (by have := HGG.out; show b3 ≠ D; omega))).trans HK3.out.cell
    · exact ((below_step HXB.out HB8.out).setCell (p := ⟨b3, 0, none⟩) (by have := HGG.out; show w.heap.size ≤ b3; omega) _).trans ⟨rfl, rfl, rfl, by simp, fun k hk => World.putObj_heap_other (by have := HGG.out; omega)⟩
  case stop =>
    rintro D c pre X hD hsp h hK
    exact absurd hsp h
end Go.Proofs.Ytmafibbnojdpjaa.St
end
section
set_option linter.unusedVariables false
set_option maxRecDepth 100000
set_option linter.unusedSimpArgs false
namespace Go.Proofs.Ytmafibbnojdpjaa.St
open Go.Proofs.Ytmafibbnojdpjaa.Tr Go.RowKit Go.Proofs.YtmafibbnojdpjaaW.PrintWords Go.Proofs.YtmafibbnojdpjaaW.PrintLast Go.Proofs.YtmafibbnojdpjaaW.PrintMore Go.Proofs.Ytmafibbnojdpjaa.P
attribute [local go_sem] Oper.semAt_some
variable {G : Nat → Prop} {col : Nat → Nat} {w w' : World} {s : Nat} {M : StM} {H : Value} {L : List Tr.Item}
def onlyNormal (Q : Exit → Act → World → Prop) : Exit → Act → World → Prop
  | .normal, a, w => Q .normal a w
  | _, _, _ => False
theorem onlyNormal_of {P : Program} {c : Code} {Q : Exit → Act → World → Prop} {a : Act} {w : World} (h : c.wp P (onlyNormal Q) a w) : c.wp P Q a w :=
  Code.wp_mono (fun e a w h => by cases e <;> first | exact h | exact h.elim) h
theorem vac_post {w X w7 X' : World} {n6 m : Nat} (hn : w.heap.size + 6 ≤ n6) (hb : Below X.heap.size X w7) (hs : w7.heap.size ≤ X'.heap.size)
    (hf : ∀ (i : Nat) (o : Obj), w7.heap[i]? = some o → i ≠ w.heap.size + 1 → i ≠ w.heap.size + 1 + 1 → (n6 ≤ i → o.isCells = false) → X'.heap[i]? = some o) :
    KeepsFrom n6 X X' ∧ Kf (fun _ => True) (fun k => k < n6 ∧ k ≠ w.heap.size + 1 ∧ k ≠ w.heap.size + 1 + 1) m X X' := by
  refine ⟨⟨Nat.le_trans hb.size hs, fun k o hk ho hc => hf k o ((hb.block k (Array.getElem?_eq_some_iff.1 ho).1).trans ho) (by omega) (by omega) (fun _ => hc)⟩, Nat.le_trans hb.size hs, fun k hk hl => ?_, fun k o hk ho hf => (hf trivial).elim⟩
  have ho : X.heap[k]? = some X.heap[k] := Array.getElem?_eq_getElem hl
  rw [ho]
  exact hf k _ ((hb.block k hl).trans ho) hk.2.1 hk.2.2 (fun h => absurd hk.1 (by omega))
set_option maxHeartbeats 16000000 in
theorem vac_good (h : StoreC G col w s M H L) (hG : ∀ k, w.heap.size ≤ k → G k) (hinv : Inv M) (hsz : M.K.length ≤ 2000000) (hh : M.hist.length ≤ 1000000) (hks : ∀ b ∈ M.K, b.1.size ≤ maxLen) (q : Int) (hq1 : M.low ≤ q) (hq2 : q ≤ lastM M) :
    Calls Try.prog 44 #[.pointer (some ⟨s, 0, none⟩), .int .i64 q] w fun e w' => e = .returned (.int .i64 0) ∧ StoreAt G w' s (vacM M q) ∧ Fr G w w' := by
  have HLA : Aside0 (∀ W, Below w.heap.size w W → Calls Try.prog 37 #[.pointer (some ⟨s, 0, none⟩)] W fun e w' => e = .returned (.int .i64 (lastM M)) ∧ ∃ n, w' = W.drewN n) := ⟨fun W hW => last_any (h.below hW) hinv.low hinv.last⟩
  have d0 : decide (q < M.low) = false := decide_eq_false (by omega)
  have d1 : decide (lastM M < q) = false := decide_eq_false (by omega)
  have hb1 : Below w.heap.size w (w.alloc (.cells #[.int .i64 q] 3)) := below_alloc (Below.refl _ _) _
  have S0 : (fun W : World => W.cell? ⟨w.heap.size, 0, none⟩ = some (.int .i64 q) ∧ W.cell? ⟨s, 2, none⟩ = some (.int .i64 M.low)) (w.alloc (.cells #[.int .i64 q] 3)).drew := ⟨(Boxed.new w 3 (.int .i64 q)).cell, up hb1 h.c2⟩
  have SC := Aside0.mk h
  clear h hb1
  refine (callsIn_wide (n := 5)).1 (callsIn_of_wp_marks Try.func44 rfl trivial ?_ rfl)
  simp only [Try.ntmps44, List.size_toArray, List.length_cons, List.length_nil, Nat.reduceAdd, Nat.reduceSub, Array.replicate_succ, Array.replicate_zero, List.push_toArray, List.append_toArray, List.nil_append, List.cons_append]
  refine wpIn_wide.2 ?_
  go_wp2
  go_region_held3 (fun W : World => W.cell? ⟨w.heap.size, 0, none⟩ = some (.int .i64 q) ∧ W.cell? ⟨s, 2, none⟩ = some (.int .i64 M.low)) (first | exact S0 | exact S1) (first
    | (go_at_call 37; refine (HLA.out _ (by repeat (first | apply below_alloc | apply pw_below_drewN | apply below_drew1 | exact Below.refl _ _))).mono ?_; rintro e w1 ⟨rfl, nq, rfl⟩; have S1 := S0))
  have hmm := @run_makeMap Try.prog
  go_wp2_with (go_at_call 79; refine (from_any _ _ _).mono ?_; rintro e w6 ⟨rfl, hw6⟩; have HW6 := Aside0.mk hw6; clear hw6)
  have hw6 := HW6.out
  clear HW6 S1 S0
  have hz6 : w6.heap.size = w.heap.size + 6 := by rw [hw6]; simp
  have hb6 : Below w.heap.size w w6 := by rw [hw6]; exact below_alloc (below_alloc (below_alloc (below_alloc (below_alloc (pw_below_drewN (below_alloc (Below.refl _ _) _) _) _) _) _) _) _
  obtain ⟨x0, x1, xm, x3, x4, x5⟩ : Boxed w6 w.heap.size 3 (.int .i64 q) ∧ Boxed w6 (w.heap.size + 1) 132 (.slice none 0 0) ∧ Mv.MapV TS SV w6 (w.heap.size + 1 + 1) 0 [] ∧ Boxed w6 (w.heap.size + 1 + 1 + 1) 133 (.map (some (w.heap.size + 1 + 1))) ∧
      Boxed w6 (w.heap.size + 1 + 1 + 1 + 1) 149 (.pointer (some ⟨s, 0, none⟩)) ∧ Boxed w6 (w.heap.size + 1 + 1 + 1 + 1 + 1) 9 (.string ⟨#[]⟩) := by
    rw [hw6]
    generalize hW1 : (w.alloc (.cells #[.int .i64 q] 3)).drewN (1 + nq) = W1
    have z1 : W1.heap.size = w.heap.size + 1 := by rw [← hW1]; simp
    have y0 : Boxed W1 w.heap.size 3 (.int .i64 q) := by rw [← hW1]; exact Boxed.new w 3 (.int .i64 q)
    generalize hW2 : W1.alloc (.cells #[.slice none 0 0] 132) = W2
    have z2 : W2.heap.size = w.heap.size + 1 + 1 := by rw [← hW2, World.size_alloc, z1]
    have y1 : Boxed W2 (w.heap.size + 1) 132 (.slice none 0 0) := by rw [← hW2, ← z1]; exact Boxed.new _ _ _
    replace y0 : Boxed W2 w.heap.size 3 (.int .i64 q) := by rw [← hW2]; exact y0.alloc _
    generalize hW3 : W2.alloc (.map #[] 0) = W3
    have z3 : W3.heap.size = w.heap.size + 1 + 1 + 1 := by rw [← hW3, World.size_alloc, z2]
    have ym : Mv.MapV TS SV W3 (w.heap.size + 1 + 1) 0 [] := by rw [← hW3, ← z2]; exact Mv.MapV.new _ _ _
    replace y0 : Boxed W3 w.heap.size 3 (.int .i64 q) := by rw [← hW3]; exact y0.alloc _
    replace y1 : Boxed W3 (w.heap.size + 1) 132 (.slice none 0 0) := by rw [← hW3]; exact y1.alloc _
    have hb3 : Below W3.heap.size W3 (((W3.alloc (.cells #[.map (some (w.heap.size + 1 + 1))] 133)).alloc (.cells #[.pointer (some ⟨s, 0, none⟩)] 149)).alloc (.cells #[.string ⟨#[]⟩] 9)) := below_alloc (below_alloc (below_alloc (Below.refl _ _) _) _) _
    refine ⟨Tr.Boxed.upB y0 hb3, Tr.Boxed.upB y1 hb3, ym.below hb3, ?_, ?_, ?_⟩
    · rw [← z3]
      exact ((Boxed.new W3 133 _).alloc _).alloc _
    · have := (Boxed.new (W3.alloc (.cells #[.map (some (w.heap.size + 1 + 1))] 133)) 149 (.pointer (some ⟨s, 0, none⟩))).alloc (.cells #[.string ⟨#[]⟩] 9)
      rwa [World.size_alloc, z3] at this
    · have := Boxed.new ((W3.alloc (.cells #[.map (some (w.heap.size + 1 + 1))] 133)).alloc (.cells #[.pointer (some ⟨s, 0, none⟩)] 149)) 9 (.string ⟨#[]⟩)
      rwa [World.size_alloc, World.size_alloc, z3] at this
  clear hw6
  have hF0 : F2 (ChAt (fun k => k < w.heap.size) w) L M.K := SC.out.ch.imp (fun a b q => q.turn (fun k hk hh => hk))
  obtain ⟨Z, hZ, hF⟩ := store_Z hF0
  have hT := SC.out.tree.turn (G := fun k => k < w.heap.size) (fun k hk _ => hk)
  rw [hZ] at hT
  have hkeys := F2_keys (fun a b h => h.1) hF
  have hZl : Z.length = M.K.length := by rw [← List.length_map (f := (·.1)), hkeys, List.length_map]
  have UP := Aside0.mk (fun (b : KC) (hb : b ∈ M.K) => And.intro (show chainK M.K b.1 = b.2 from by unfold chainK; rw [getK_some hinv.srt hb]; rfl) (show b.2.length < 2199023255600 from by
    have h1 := ch_len (hinv.ch b hb).1 (by have := hinv.last0; omega)
    have h2 := hinv.last
    unfold maxSeq at h2
    omega))
  have HF := Aside0.mk hF
  have HKEYS := Aside0.mk hkeys
  have HKS := Aside0.mk hks
  refine (wpIn_wide (n := 5)).1 ?_
  have hseq := SeqO.of (F := fun _ => True) (from_stops (n := 4) (by omega) (w.heap.size + 1 + 1 + 1 + 1) (w.heap.size + 1 + 1 + 1 + 1 + 1) s (fun k => k < w6.heap.size ∧ k ≠ w.heap.size + 1 ∧ k ≠ w.heap.size + 1 + 1) ⟨#[]⟩ Z w6 ⟨by omega, by omega, by omega⟩ ⟨by omega, by omega, by omega⟩ (by rw [hZl]; unfold maxTree; omega)
    ((hT.below hb6).turn (fun k _ hk => ⟨by omega, by omega, by omega⟩)) x4.cell x5.cell)
  have HB6 := Aside0.mk hb6
  have HI0 : Aside0 (VacI M q w w6.heap.size (.slice none 0 0) [] 0 [] w6) := ⟨⟨x1, Kd.R_nil _ _ _ _ _, xm, ⟨fun a ha => (by cases ha), fun k hk => (by cases hk)⟩, x3, x0, hb6, by omega, Nat.le_refl _⟩⟩
  clear x0 x1 xm x3 x4 x5 hb6 hF0 hZ hF hT hkeys hks
  refine' rangeO rfl (enters_of Try.func103 (by kernel_rfl) rfl) (by omega) hseq (Below.refl _ _) (fun k hk => hk.1) (fun _ => rfl)
    (fun pre X => ∃ v C, VacI M q w w6.heap.size v C pre.length ((vals pre).map (·.1)) X)
    (fun c pre X => False) ?hI (fun c s A B row hs hg hr => hs) ⟨_, _, HI0.out⟩ _ ?assign ?body ?done ?stop
  case hI =>
    rintro pre A D row ⟨v, C, h1⟩ hg hr
    refine ⟨v, C, h1.same hg.size (fun k hk => hg.block k (Nat.lt_of_lt_of_le hk h1.sz) (fun e => by have := (hr k e.symm).1; omega)) (fun k cs t hk => hg.block k (Array.getElem?_eq_some_iff.1 hk).1 (fun e => ?_)) hg.os hg.tape hg.output⟩
    obtain ⟨_, o, q1, q2⟩ := hr k e.symm
    rw [hk] at q1
    injection q1 with q1
    rw [← q1] at q2
    cases q2
  case assign =>
    intro l2 x W K hK
    dsimp only [pe]
    gi_wp2
    exact hK
  case body =>
    rintro l2 pre e X ⟨v, C, h1⟩ hl
    have c0 := h1.b0.cell
    have c1 := h1.g1.cell
    have c3 := h1.b3.cell
    have z1 := h1.g1.frozen
    obtain ⟨⟨ek, ev⟩, he⟩ := e
    obtain ⟨b, hb, hkx, hR, hlen⟩ := F2_mem HF.out he
    dsimp only at hkx hR hlen
    obtain ⟨ea, ec, hs, hcap, hC⟩ := Kd.R_reads (Kd.R_step hR (fun k hk hlt => h1.bl.block k hk))
    obtain ⟨hch, hcl⟩ := UP.out b hb
    have hsk := HKS.out b hb
    rw [← hkx] at hch hsk
    have HCU := Aside0.mk (cut_any b.2 ea ec q X hC hcap hcl)
    rw [← hch] at HCU
    have HSK := Aside0.mk hsk
    have hcx : cutC (chainK M.K ek) q = cutX M q ek := rfl
    rw [hcx] at HCU
    have HCHL : Aside0 (b.2.length = (chainK M.K ek).length) := ⟨by rw [hch]⟩
    have HI := Aside0.mk h1
    dsimp only [pe]
    rw [hs, HCHL.out]
    clear hlen hR hC hcap hcl hch hcx hkx hb h1 hsk
    have HL1 : Aside0 ((pre ++ [(⟨(ek, ev), he⟩ : El Z)]).length = pre.length + 1) := ⟨by simp⟩
    have HK1 : Aside0 ((vals (pre ++ [(⟨(ek, ev), he⟩ : El Z)])).map (·.1) = (vals pre).map (·.1) ++ [ek]) := ⟨by rw [vals_snoc]; simp⟩
    by_cases h0 : (cutX M q ek).length = 0
    · have H0 := Aside0.mk h0
      have HGL : Aside0 ((goneX M q ((vals pre).map (·.1))).length ≤ 2000000) := ⟨by
        have h1 : (goneX M q ((vals pre).map (·.1))).length ≤ ((vals pre).map (·.1)).length := List.length_filter_le _ _
        have h2 : ((vals pre).map (·.1)).length = pre.length := by simp [vals]
        omega⟩
      clear h0
      gi_wp2_with (first
        | (refine ⟨trivial, ?_⟩; refine (CallsIn.inRound l2 (callsIn_wide.2 HCU.out)).mono ?_; rintro e w7 ⟨v7, rfl, hr7, hb7⟩
           obtain ⟨A7, n7, ev7⟩ := Kd.R_slice hr7
           rw [H0.out] at ev7
           subst ev7
           have c0 := up hb7 c0
           have c1 := up hb7 c1
           have HI7 := Aside0.mk (HI.out.below hb7)
           have HB7 := Aside0.mk hb7
           have HFR : Aside0 (∀ k, w7.heap.size ≤ k → w6.heap.size ≤ k) := ⟨fun k hk => Nat.le_trans HI7.out.sz hk⟩
           have HPM : Aside0 (Kd.string.M w7 0 (fun _ => False) ek [.string ek]) := ⟨rfl⟩
           clear hr7 hb7)
        | (gi_at_builtin; refine R_append_in Kd.string (W := w7) [.string ek] 9 (by with_reducible rfl) 0 (by rfl) (.tmp 43) (.tmp 45) 132 (.string ⟨#[]⟩) 16 (by rfl) Try.underlying132 info9 (by rfl) (by decide) (by decide) v (goneX M q ((vals pre).map (·.1))) ek (fun k => w6.heap.size ≤ k) (fun _ => False) (by rfl) (by rfl) HPM.out (fun k h => h.elim) HFR.out HI7.out.g2 (Nat.zero_le _) (by have h9 := HGL.out; omega) ?_
           intro v1 w1 hr1 hg1
           obtain ⟨A1, n1, ev1⟩ := Kd.R_slice hr1
           subst ev1
           have hbx : Boxed w1 (w.heap.size + 1) 132 v := by
             refine (hg1.block _ HI7.out.g1.lt (fun e => ?_)).trans HI7.out.g1
             have h1 : w6.heap.size ≤ w.heap.size + 1 := (ownE HI7.out.g2 _ e.symm).1
             omega
           have c1 := hbx.cell
           have z1 := hbx.frozen
           have HR1 := Aside0.mk hr1
           have HG1 := Aside0.mk hg1
           clear hbx hr1 hg1))
      obtain ⟨r1, r2⟩ := VacI.gone HI7.out ek H0.out HG1.out HR1.out
      rw [show (goneX M q ((vals pre).map (·.1)) ++ [ek]).length = (goneX M q ((vals pre).map (·.1))).length + 1 from by simp] at r1 r2
      obtain ⟨p1, p2⟩ := vac_post (m := w6.heap.size + 2) HI7.out.lo HB7.out (by rw [World.size_setCell]; exact HG1.out.size) (fun i o ho h1 _ h3 => r2 i o ho h1 h3)
      refine ⟨p1, p2, .slice A1 ((goneX M q ((vals pre).map (·.1))).length + 1) n1, C, ?_⟩
      rw [HL1.out, HK1.out]
      exact r1
    · by_cases h2 : (cutX M q ek).length < (chainK M.K ek).length
      · have d3 : (((cutX M q ek).length : Int) == 0) = false := beq_eq_false_iff_ne.2 (by omega)
        have d4 : decide (((cutX M q ek).length : Int) < ((chainK M.K ek).length : Int)) = true := decide_eq_true (by omega)
        have d5 : ((cutX M q ek).length : Int) < ((chainK M.K ek).length : Int) := by omega
        have H0 := Aside0.mk h0
        have H2 := Aside0.mk h2
        clear h0 h2
        gi_wp2_with (first
          | (refine ⟨trivial, ?_⟩; refine (CallsIn.inRound l2 (callsIn_wide.2 HCU.out)).mono ?_; rintro e w7 ⟨v7, rfl, hr7, hb7⟩
             obtain ⟨A7, n7, ev7⟩ := Kd.R_slice hr7
             subst ev7
             have c0 := up hb7 c0
             have c1 := up hb7 c1
             have c3 := up hb7 c3
             have HI7 := Aside0.mk (HI.out.below hb7)
             have HB7 := Aside0.mk hb7
             have HR7 := Aside0.mk (Kd.R_mono (Kd.R_bound hr7) (ok' := fun k => w6.heap.size ≤ k) (fun k hk => Nat.le_trans HI.out.sz hk.2.1))
             obtain ⟨w8, u1, u2, u3⟩ := HI7.out.m1.put Try.underlying133 (by unfold maxLen; omega) (x := ek) HSK.out (A7, (cutX M q ek).length, n7)
             replace u1 : Sem.run Try.prog (Instr.mapUpdate 133 (.map (some (w.heap.size + 1 + 1))) (.string ek) (.slice A7 (cutX M q ek).length n7)) w7 = .ok () w8 := u1
             have HM8 := Aside0.mk u2
             have HT8 := Aside0.mk u3
             clear hr7 hb7 u2 u3))
        obtain ⟨r1, r2⟩ := VacI.put HI7.out ek (A7, (cutX M q ek).length, n7) H0.out H2.out (Kd.R_lower HR7.out (Nat.zero_le _)) HM8.out HT8.out
        obtain ⟨p1, p2⟩ := vac_post (m := w6.heap.size + 2) HI7.out.lo HB7.out HT8.out.grown.size (fun i o ho _ h2 _ => r2 i o ho h2)
        refine ⟨p1, p2, v, Mv.putC C ek (A7, (cutX M q ek).length, n7), ?_⟩
        rw [HL1.out, HK1.out]
        exact r1
      · have d3 : (((cutX M q ek).length : Int) == 0) = false := beq_eq_false_iff_ne.2 (by omega)
        have d4 : decide (((cutX M q ek).length : Int) < ((chainK M.K ek).length : Int)) = false := decide_eq_false (by omega)
        have d5 : ¬ ((cutX M q ek).length : Int) < ((chainK M.K ek).length : Int) := by omega
        have H0 := Aside0.mk h0
        have H2 := Aside0.mk h2
        clear h0 h2
        gi_wp2_with (first
          | (refine ⟨trivial, ?_⟩; refine (CallsIn.inRound l2 (callsIn_wide.2 HCU.out)).mono ?_; rintro e w7 ⟨v7, rfl, hr7, hb7⟩
             obtain ⟨A7, n7, ev7⟩ := Kd.R_slice hr7
             subst ev7
             have HI7 := Aside0.mk (HI.out.below hb7)
             have HB7 := Aside0.mk hb7
             clear hr7 hb7))
        obtain ⟨p1, p2⟩ := vac_post (m := w6.heap.size + 2) HI7.out.lo HB7.out (Nat.le_refl _) (fun i o ho _ _ _ => ho)
        refine ⟨p1, p2, v, C, ?_⟩
        rw [HL1.out, HK1.out]
        exact VacI.skip HI7.out ek H0.out H2.out
  case done =>
    rintro D xs X hD hxs ⟨v, C, h1⟩ hK
    replace hxs : vals xs = fromL Z ⟨#[]⟩ := hxs
    rw [hxs, fromL_all, HKEYS.out] at h1
    have HXL : Aside0 (xs.length ≤ 2000000) := ⟨by
      have h1 := congrArg List.length hxs
      rw [fromL_all] at h1
      unfold vals at h1
      rw [List.length_map] at h1
      omega⟩
    have HD := Aside0.mk hD
    have HDK := Aside0.mk hK
    obtain ⟨gn, hgn⟩ : ∃ gn, gn = goneX M q (M.K.map (·.1)) := ⟨_, rfl⟩
    have hg2 := h1.g2
    rw [← hgn] at hg2
    obtain ⟨Ag, ng, ev, hgc, hgC⟩ := Kd.R_reads hg2
    have hgl : gn.length ≤ 2000000 := by
      rw [hgn]
      refine Nat.le_trans (List.length_filter_le _ _) ?_
      rw [List.length_map]
      exact hsz
    have HSC1 : Aside0 (StoreC G (colV col w X) X s M H L) := ⟨(SC.out.turn (fun _ _ h => h) (fun k hk => colV_old hk)).below h1.bl⟩
    have HROW : Aside0 (∀ a ∈ C, Kd.R k118 118 X 0 (Hue G (colV col w X) 1) (SV a.2) (cutX M q a.1)) := ⟨fun a ha => by
      refine Kd.R_mono (Kd.R_bound (h1.m2.sub a ha).2.2.2) (fun k hk => ?_)
      obtain ⟨h2, _, _, t, ht, cells, hc⟩ := hk
      rw [show k118.E = [] from rfl] at ht
      have ht' : t = 118 := by simpa using ht
      subst ht'
      have lo := h1.lo
      have h2' : w6.heap.size ≤ k := h2
      exact ⟨hG k (by omega), colV_row (by omega) hc⟩⟩
    have HGR : Aside0 (Kd.R Kd.string 9 X 0 (fun k => colV col w X k = 3) v gn) := ⟨by
      refine Kd.R_mono (Kd.R_bound hg2) (fun k hk => ?_)
      obtain ⟨h2, _, _, t, ht, cells, hc⟩ := hk
      rw [show Kd.string.E = [] from rfl] at ht
      have ht' : t = 9 := by simpa using ht
      subst ht'
      have lo := h1.lo
      have h2' : w6.heap.size ≤ k := h2
      exact colV_cells (by omega) hc (by decide)⟩
    have HC0 : Aside0 (∀ k, X.heap.size ≤ k → colV col w X k = 0) := ⟨fun k hk => colV_new h1.bl.size hk⟩
    have HXW := Aside0.mk h1.bl.size
    have HB3 : Aside0 (colV col w X w.heap.size = 3 ∧ colV col w X (w.heap.size + 1) = 3 ∧ colV col w X (w.heap.size + 1 + 1) = 3 ∧ colV col w X (w.heap.size + 1 + 1 + 1) = 3 ∧ colV col w X D = 3) := ⟨⟨colV_cells (Nat.le_refl _) h1.b0 (by decide), colV_cells (by omega) h1.g1 (by decide), by
      obtain ⟨_, ⟨es, cl, hq, _⟩, _⟩ := h1.m1
      exact colV_obj (by omega) hq rfl, colV_cells (by omega) h1.b3 (by decide), colV_obj (by omega) hK rfl⟩⟩
    have HI := Aside0.mk h1
    have c0 := h1.b0.cell
    have c1 := h1.g1.cell
    have c3 := h1.b3.cell
    subst ev
    have HGL := Aside0.mk hgl
    have HGN := Aside0.mk hgn
    clear h1 hgC hgn hK hD hgl hg2 hxs
    generalize colV col w X = col1 at *
    gi_wp2
    go_wp2
    go_loopg [57] (gn.length + 1) (fun kq v57 wq => ∃ i : Nat, v57 = .int .i64 (i : Int) ∧ i ≤ gn.length ∧ gn.length - i < kq ∧ Aside0 (∃ L', StoreC G col1 wq s ⟨M.low, M.hist, (gn.take i).foldl delK M.K⟩ H L') ∧ Aside0 (Fr (Hue G col1 0) X wq))
    case atStart => exact ⟨0, rfl, Nat.zero_le _, by omega, ⟨L, HSC1.out⟩, ⟨Fr.refl _ _⟩⟩
    case round =>
      obtain ⟨i, rfl, hi, hk, HS, HFR⟩ := hrel
      obtain ⟨L', hS⟩ := HS.out
      have hwr : X.heap.size ≤ wr.heap.size := HFR.out.size
      have hG' : ∀ k, wr.heap.size ≤ k → G k := fun k hk => hG k (by have := HXW.out; omega)
      have hC' : ∀ k, wr.heap.size ≤ k → col1 k = 0 := fun k hk => HC0.out k (by omega)
      have hKl : ((gn.take i).foldl delK M.K).length ≤ maxTree := by
        have := delK_lens (gn.take i) M.K
        unfold maxTree
        omega
      have far : ∀ k, k < X.heap.size → col1 k = 3 → wr.heap[k]? = X.heap[k]? := fun k hk h3 => HFR.out.block k hk (fun q => by have := q.2; omega)
      have z0 : (0 : Int) ≤ (i : Int) := by omega
      by_cases hlt : i < gn.length
      · have z1 : (i : Int) < (gn.length : Int) := by omega
        obtain ⟨Ah, ch, eh, _, hCh⟩ := Kd.R_reads (Kd.R_step HGR.out (fun k h3 hk => far k hk h3))
        injection eh with eh _ eh2
        subst eh eh2
        obtain ⟨ad, eA, f0⟩ := Kd.at_string hCh (i : Int) z0 z1
        subst eA
        rw [show rdOf ByteArray.empty gn (i : Int) = gn[i] from by simp [rdOf, List.getD, hlt], Int.toNat_natCast] at f0
        have HW64 : Aside0 (wrap64 ((i : Int) + 1) = ((i + 1 : Nat) : Int)) := ⟨by have hgl := HGL.out; rw [w64 (by omega) (by omega)]; rfl⟩
        have HDR := Aside0.mk (drop_chain hS hG' hC' hKl gn[i])
        have HTK := Aside0.mk (dels_take (K := M.K) hlt)
        generalize gn[i] = x at *
        clear hS hG' hC' hKl far hCh hwr
        go_wp2_with (go_at_call 81; refine HDR.out.mono ?_; rintro e w8 ⟨rfl, hs8, hf8⟩; have HS8 := Aside0.mk hs8; have HF8 := Aside0.mk hf8; clear hs8 hf8)
        have hgl := HGL.out
        go_roundg (gk - 1)
        case measure => omega
        case rel => exact ⟨i + 1, by rw [HW64.out], by omega, by omega, ⟨_, by rw [HTK.out]; exact HS8.out⟩, ⟨HFR.out.trans HF8.out⟩⟩
      · have hiz : i = gn.length := by omega
        subst hiz
        rw [List.take_length] at hS hKl
        have hb3 := HB3.out
        have hlo := HI.out.lo
        have hszX := HI.out.sz
        have c3 : wr.cell? ⟨w.heap.size + 1 + 1 + 1, 0, none⟩ = some (.map (some (w.heap.size + 1 + 1))) := Boxed.cell (show Boxed wr _ 133 _ from (far _ (by omega) hb3.2.2.2.1).trans HI.out.b3)
        have hb0 : Boxed wr w.heap.size 3 (.int .i64 q) := (far _ (by omega) hb3.1).trans HI.out.b0
        obtain ⟨w9, u1, u2, u3, u4⟩ := (HI.out.m1.same (far _ (by omega) hb3.2.2.1)).range Try.underlying133
        obtain ⟨rb, hrb⟩ : ∃ rb, rb = wr.heap.size := ⟨_, rfl⟩
        have hS9 : StoreC G (colR col1 rb) w9 s ⟨M.low, M.hist, gn.foldl delK M.K⟩ H L' := (hS.turn (fun _ _ h => h) (fun k hk => colR_ne (by omega))).below u3
        have HROW9 : Aside0 (∀ a ∈ C, Kd.R k118 118 w9 0 (Hue G (colR col1 rb) 1) (SV a.2) (cutX M q a.1)) := ⟨fun a ha => by
          have h1 := Kd.R_step (HROW.out a ha) (fun k hk hl => HFR.out.block k hl (fun q => by have := q.2; have := hk.2; omega))
          exact Kd.R_below (Kd.R_mono (Kd.R_bound h1) (fun k hk => ⟨hk.1.1, by rw [colR_ne (by have := hk.2.2.1; omega)]; exact hk.1.2⟩)) u3⟩
        have HB09 := Aside0.mk (Boxed.upB hb0 u3)
        have HC9 : Aside0 (∀ k, w9.heap.size ≤ k → colR col1 rb k = 0) := ⟨fun k hk => by rw [colR_ne (by omega)]; exact HC0.out k (by omega)⟩
        have HG9 : Aside0 (∀ k, w9.heap.size ≤ k → G k) := ⟨fun k hk => hG k (by have := HXW.out; omega)⟩
        have HFR9 : Aside0 (Below X.heap.size wr w9) := ⟨u3.mono hwr⟩
        have HRB : Aside0 (rb < w9.heap.size ∧ X.heap.size ≤ rb) := ⟨by omega⟩
        rw [← hrb] at u1 u2
        replace u1 : Sem.run Try.prog (Instr.range 133 (.map (some (w.heap.size + 1 + 1)))) wr = .ok (.pointer (some ⟨rb, 0, none⟩)) w9 := u1
        have HRG := Aside0.mk u2
        have HS9 := Aside0.mk hS9
        have HCS : Aside0 (C.length ≤ 2000000) := ⟨Nat.le_trans u2.map.le HXL.out⟩
        have HKL : Aside0 ((gn.foldl delK M.K).length ≤ 2000000) := ⟨Nat.le_trans (delK_lens gn M.K) hsz⟩
        clear hS hS9 hKl far hwr hG' hC' hb3 hlo hszX hb0 u2 u3 u4 hrb hk hlt hi HS
        obtain ⟨g0, hg0⟩ : ∃ g0, g0 = gk := ⟨_, rfl⟩
        clear hg0
        have HCB : Aside0 (colR col1 rb (w.heap.size + 1 + 1) = 3 ∧ colR col1 rb w.heap.size = 3 ∧ colR col1 rb D = 3) := ⟨by
          have hb3 := HB3.out
          have h1 := HXW.out
          have h2 := HRB.out
          have h3 := HI.out.lo
          have h4 := HI.out.sz
          have h5 := (Array.getElem?_eq_some_iff.1 HDK.out).1
          exact ⟨(colR_ne (by omega)).trans hb3.2.2.1, (colR_ne (by omega)).trans hb3.1, (colR_ne (by omega)).trans hb3.2.2.2.2⟩⟩
        obtain ⟨K1, hK1⟩ : ∃ K1, K1 = gn.foldl delK M.K := ⟨_, rfl⟩
        rw [← hK1] at HS9 HKL
        have HK1 := Aside0.mk hK1
        clear hK1
        go_wp2
        go_loopg [12] (C.length + 1) (fun kq v12 wq => ∃ dn : List (ByteArray × SVal), C.length - dn.length < kq ∧ dn.length ≤ C.length ∧ Aside0 (Mv.Rng TS SV wq (w.heap.size + 1 + 1) rb xs.length C dn) ∧ Aside0 (∃ L', StoreC G (colR col1 rb) wq s ⟨M.low, M.hist, putsK M q dn K1⟩ H L') ∧ Aside0 (Fr (fun k => Hue G (colR col1 rb) 0 k ∨ k = rb) w9 wq))
        case atStart => exact ⟨[], by simp, Nat.zero_le _, HRG, ⟨L', HS9.out⟩, ⟨Fr.refl _ _⟩⟩
        case round =>
          obtain ⟨dn, hk, hdl, HR, HS, HF⟩ := hrel
          obtain ⟨L2, hS⟩ := HS.out
          rcases HR.out.next 0 with ⟨hp, hrun⟩ | ⟨⟨ak, aA, an, ac⟩, w3, ha, hna, hok, hrun, hr3, hg3, hs3, hen⟩
          · have hkv : putsK M q dn K1 = vacK M.K q := by
              rw [HK1.out, HGN.out]
              exact vac_law hinv.srt q HI.out.m2 hp
            rw [hkv] at hS
            obtain ⟨AH, cH, eH, hcH, hRR⟩ := hist_rows hS
            subst eH
            have hb0r : Boxed wr w.heap.size 3 (.int .i64 q) := (HF.out.block _ HB09.out.lt (fun e => by
              rcases e with e | e
              · have := e.2; have := HCB.out.2.1; omega
              · have h1 := HRB.out; have h2 := HI.out.lo; have h3 := HI.out.sz; omega)).trans HB09.out
            have c0 := Boxed.cell hb0r
            have HB0R := Aside0.mk hb0r
            have hdl : D < X.heap.size := (Array.getElem?_eq_some_iff.1 HDK.out).1
            have hd1 : w9.heap[D]? = X.heap[D]? := (HFR9.out.block D hdl).trans (HFR.out.block D hdl (fun q => by have := q.2; have := HB3.out.2.2.2.2; omega))
            have hdw : wr.heap[D]? = some (.deferred (some [])) := (HF.out.block D (by have := HFR9.out.size; have := HFR.out.size; have := HRB.out; omega) (fun e => by
              rcases e with e | e
              · have := e.2; have := HCB.out.2.2; omega
              · have h1 := HRB.out; omega)).trans (hd1.trans HDK.out)
            have HDW := Aside0.mk hdw
            have hws : w9.heap.size ≤ wr.heap.size := HF.out.size
            have HX9 : Aside0 (X.heap.size ≤ w9.heap.size ∧ w9.heap.size ≤ wr.heap.size ∧ X.heap.size ≤ rb ∧ D < X.heap.size) := ⟨by have := HRB.out; omega, hws, HRB.out.2, hdl⟩
            have HFW : Aside0 (Fr G w wr) := ⟨(Fr.below HI.out.bl).trans ((HFR.out.mono (fun k _ h => h.1)).trans ((show Fr G _ w9 from ⟨HFR9.out.os, HFR9.out.tape, HFR9.out.output, HFR9.out.size, fun k hk hn => HFR9.out.block k (Nat.lt_of_not_le fun h => hn (hG k (by have := HI.out.lo; have := HI.out.sz; omega)))⟩).trans (HF.out.mono (fun k _ h => by
              rcases h with h | h
              · exact h.1
              · rw [h]; exact hG rb (by have := HRB.out; have := HI.out.lo; have := HI.out.sz; omega)))))⟩
            have HGW : Aside0 (∀ k, wr.heap.size ≤ k → G k) := ⟨fun k hk => hG k (by have := HRB.out; have := HI.out.lo; have := HI.out.sz; omega)⟩
            have HNE : Aside0 (s < w.heap.size ∧ w.heap.size + 6 ≤ D ∧ G D) := ⟨SC.out.lt, by have := HI.out.lo; have := HD.out; omega, hG D (by have := HI.out.lo; have := HD.out; omega)⟩
            clear hb0r hdl hd1 hdw hws
            have c2 := hS.c2
            have c3 := hS.c3
            have z3 := hS.fz 3
            have z2 := hS.fz 2
            have hlow := hinv.last
            have hlw0 := hinv.low
            unfold lastM maxSeq at hlow
            unfold lastM at hq2
            obtain ⟨k, hkq⟩ : ∃ k : Nat, q = M.low + (k : Int) := ⟨(q - M.low).toNat, by omega⟩
            have hkl : k ≤ M.hist.length := by omega
            have e3 : IntKind.i64.wrap (q - M.low) = (k : Int) := by rw [IntKind.wrap_i64]; omega
            have e3' : wrap64 (q - M.low) = (k : Int) := by rw [w64 (by omega) (by omega)]; omega
            have e4 : (0 : Int) ≤ (k : Int) := by omega
            have e5 : (k : Int) ≤ (M.hist.length : Int) := by omega
            have HVM : Aside0 (vacM M q = ⟨q, M.hist.drop k, vacK M.K q⟩) := ⟨by unfold vacM; rw [show (q - M.low).toNat = k from by omega]⟩
            have hc9 : M.hist.length ≤ cH := hcH
            have hRD := rr_drop hRR hkl hcH
            obtain ⟨A1, hA1⟩ : ∃ A1, (if cH = k then AH else AH.map (·.add (k * k28.sz))) = A1 := ⟨_, rfl⟩
            rw [hA1] at hRD
            have hA2 : (if cH = k then AH else AH.map (·.add (k * 3))) = A1 := hA1
            have HCL : Aside0 (∀ W, Below wr.heap.size wr W → Calls Try.prog 82 #[.slice A1 (M.hist.drop k).length (cH - k)] W fun e w5 => ∃ A5 n5, e = .returned (.slice A5 (M.hist.drop k).length n5) ∧
                w5.cell? ⟨s, 3, none⟩ = some (.slice AH M.hist.length cH) ∧ w5.frozen? ⟨s, 3, none⟩ = false ∧
                (w5.setCell ⟨s, 3, none⟩ (.slice A5 (M.hist.drop k).length n5)).cell? ⟨s, 2, none⟩ = some (.int .i64 M.low) ∧ (w5.setCell ⟨s, 3, none⟩ (.slice A5 (M.hist.drop k).length n5)).frozen? ⟨s, 2, none⟩ = false ∧
                (w5.setCell ⟨s, 3, none⟩ (.slice A5 (M.hist.drop k).length n5)).cell? ⟨w.heap.size, 0, none⟩ = some (.int .i64 q) ∧
                Aside0 ((w5.setCell ⟨s, 3, none⟩ (.slice A5 (M.hist.drop k).length n5)).heap[D]? = some (.deferred (some [])) ∧ Fr G w (w5.setCell ⟨s, 3, none⟩ (.slice A5 (M.hist.drop k).length n5)) ∧
                  ∃ col3, col3 D = 3 ∧ StoreC G col3 (w5.setCell ⟨s, 3, none⟩ (.slice A5 (M.hist.drop k).length n5)) s ⟨M.low, M.hist.drop k, vacK M.K q⟩ (.slice A5 (M.hist.drop k).length n5) L2)) := ⟨fun W hW => by
              refine (clonec_any (M.hist.drop k) A1 (cH - k) W _ (fun i hi => Nat.lt_of_lt_of_le hi.2 hW.size) (ReadsRow.imp_ hRD hW (fun x cs hp => Kd.M_step hp (fun i hi hl => hW.block i hl))) (by rw [List.length_drop]; omega) (by rw [List.length_drop]; omega)).mono ?_
              rintro e w5 ⟨v5, rfl, hr5, hb5⟩
              obtain ⟨A5, n5, ev5⟩ := Kd.R_slice hr5
              subst ev5
              have hb6 : Below wr.heap.size wr w5 := below_step hW hb5
              have hS5 : StoreC G (fun k => if k < wr.heap.size then colR col1 rb k else 2) w5 s ⟨M.low, M.hist, vacK M.K q⟩ (.slice AH M.hist.length cH) L2 := (hS.turn (fun _ _ h => h) (fun k hk => if_pos hk)).below hb6
              have hS6 := StoreC.setHist hS5 (Kd.R_mono hr5 (fun i hi => by
                rcases hi with hi | hi
                · exact ⟨hi.1.1, (if_pos hi.2).trans hi.1.2⟩
                · have hi' : wr.heap.size ≤ i := Nat.le_trans hW.size hi
                  exact ⟨HGW.out i hi', if_neg (by omega)⟩))
              have hb7 : Boxed (w5.setCell ⟨s, 3, none⟩ (.slice A5 (M.hist.drop k).length n5)) w.heap.size 3 (.int .i64 q) := (Below.heap_setCell _ _ _ _ (fun e => by have e' : w.heap.size = s := e; have := HNE.out.1; omega)).trans (Boxed.upB HB0R.out hb6)
              have hd7 : (w5.setCell ⟨s, 3, none⟩ (.slice A5 (M.hist.drop k).length n5)).heap[D]? = some (.deferred (some [])) := (Below.heap_setCell _ _ _ _ (fun e => by have e' : D = s := e; have := HNE.out; omega)).trans ((hb6.block D (by have := HX9.out; omega)).trans HDW.out)
              exact ⟨A5, n5, rfl, (hS.below hb6).c3, (hS.below hb6).fz 3, hS6.c2, hS6.fz 2, hb7.cell, ⟨hd7, (HFW.out.trans (Fr.below hb6)).trans (Fr.setCell _ _ _ _ hS.inG), (fun k => if k < wr.heap.size then colR col1 rb k else 2), (if_pos (show D < wr.heap.size by have := HX9.out; omega)).trans HCB.out.2.2, hS6⟩⟩⟩
            rw [List.length_drop] at HCL
            have hsG := hS.inG
            have HSG := Aside0.mk hsG
            clear hS hRR hRD hkv hp hkq hlow hq2 hq1 hlw0 hA1 hsG
            clear HS9 HSC1 HROW HGR HROW9 HCS HKL HK1 HRG HS HR HGN HGL UP HKEYS HKS hseq HI0
            go_wp2
            refine onlyNormal_of ?_
            go_region_law (first
              | (rw [if_pos (by rfl)]; go_simp; refine (HCL.out _ (by repeat (first | apply below_alloc | apply pw_below_drewN | apply below_drew1 | exact Below.refl _ _))).mono ?_; rintro e w5 ⟨A5, n5, rfl, c3, z3, y2, yz, y0, HE5⟩))
            all_goals
              dsimp only [onlyNormal]
              go_wp2
              obtain ⟨hd, hf, col3, hcd, hs3⟩ := HE5.out
              refine ⟨by simp, .inl ⟨_, _, rfl, run_takeDeferred ((Below.heap_setCell _ _ _ _ (fun e => by have e' : D = s := e; have := HNE.out; omega)).trans hd), ?_⟩⟩
              refine ⟨_, results_tmp rfl _ _ _, rfl, ?_, ?_⟩
              · rw [HVM.out]
                exact ⟨col3, _, _, StoreC.keptH (StoreC.setLow hs3 q) (fun c k' hc hk' hl => World.putObj_heap_other (fun e => hc (by rw [← hk'.2]; subst e; exact hcd)))⟩
              · exact (hf.trans (Fr.setCell _ _ _ _ HSG.out)).trans ⟨rfl, rfl, rfl, by simp, fun k' hk' hn => World.putObj_heap_other (fun e => hn (by subst e; exact HNE.out.2.2))⟩
          · change (Instr.next (.pointer (some ⟨rb, 0, none⟩)) false 0).run Try.prog wr = .ok (.tuple #[.bool true, .string ak, .slice aA an ac]) w3 at hrun
            change (Instr.entry (.pointer (some ⟨rb, 0, none⟩))).run Try.prog w3 = .ok (.tuple #[.string ak, .slice aA an ac]) w3 at hen
            have h2 := HRB.out
            have hws : w9.heap.size ≤ wr.heap.size := HF.out.size
            have hl := hr3.len
            rw [List.length_append, List.length_singleton] at hl
            have hS3 := hS.keptH (w' := w3) (fun c k hc hk hl => hg3.block k hl (fun e => hc (by injection e with e; rw [← hk.2, e]; exact colR_at)))
            have hR3 : Kd.R k118 118 w3 0 (Hue G (colR col1 rb) 1) (SV (aA, an, ac)) (cutX M q ak) := Kd.R_step (Kd.R_step (HROW9.out _ ha) (fun k hk hl => HF.out.block k hl (fun q => by
              rcases q with q | q
              · have := q.2; have := hk.2; omega
              · have := hk.2; rw [q, colR_at] at this; omega))) (fun k hk hl => hg3.block k hl (fun e => by injection e with e; have := hk.2; rw [e, colR_at] at this; omega))
            have hKl : (putsK M q dn K1).length ≤ maxTree := by
              have h5 := putsK_len M q dn K1
              have h6 := HKL.out
              have h7 := HCS.out
              unfold maxTree
              omega
            have HPC := Aside0.mk (put_chain hS3 (fun k hk => HG9.out k (by omega)) (fun k hk => HC9.out k (by omega)) hKl ak (aA, an, ac) hR3)
            have HPS := Aside0.mk (putsK_snoc M q dn (ak, aA, an, ac) K1)
            have HR3 := Aside0.mk hr3
            have HG3 := Aside0.mk hg3
            have hS3c := hS3.lt
            clear hS hS3 hR3 hKl hr3 hg3 ha hna hok hs3
            go_wp2_with (go_at_call 65; refine HPC.out.mono ?_; rintro e w4 ⟨rfl, hs4, hf4⟩; have HS4 := Aside0.mk hs4; have HF4 := Aside0.mk hf4; clear hs4 hf4)
            go_roundg (gk - 1)
            case measure => omega
            case rel =>
              refine ⟨dn ++ [(ak, aA, an, ac)], by rw [List.length_append, List.length_singleton]; omega, by rw [List.length_append, List.length_singleton]; exact hl, ⟨HR3.out.same (HF4.out.block _ HR3.out.map.lt (fun q => by have := q.2; have := HCB.out.1; omega)) (HF4.out.block _ HR3.out.lt (fun q => by have := q.2; rw [colR_at] at this; omega))⟩, ⟨_, by rw [HPS.out]; exact HS4.out⟩, ⟨?_⟩⟩
              exact (HF.out.trans (Fr.row HG3.out (fun k e => .inr (by injection e with e; exact e.symm)))).trans ⟨HF4.out.os, HF4.out.tape, HF4.out.output, HF4.out.size, fun k hk hn => HF4.out.block k hk (fun q => hn (.inl q))⟩
  case stop =>
    rintro D c pre X hD hsp h hK
    exact h.elim
end Go.Proofs.Ytmafibbnojdpjaa.St
end
section
set_option linter.unusedVariables false
set_option maxRecDepth 100000
set_option linter.unusedSimpArgs false
namespace Go.Proofs.Ytmafibbnojdpjaa.St
open Go.Proofs.Ytmafibbnojdpjaa.Tr Go.RowKit Go.Proofs.YtmafibbnojdpjaaW.PrintWords Go.Proofs.YtmafibbnojdpjaaW.PrintLast Go.Proofs.YtmafibbnojdpjaaW.PrintMore Go.Proofs.Ytmafibbnojdpjaa.P
theorem ChOk.drop {t : Int} {c : List Ver} (h : ChOk t c) (n : Nat) : ChOk t (c.drop n) :=
  ⟨h.up.sublist (List.drop_sublist _ _), fun v hv => h.low v (List.mem_of_mem_drop hv), fun v hv => h.top v (List.mem_of_mem_drop hv)⟩
theorem last_vac {M : StM} {q : Int} (h1 : M.low ≤ q) (h2 : q ≤ lastM M) : lastM (vacM M q) = lastM M := by
  unfold lastM vacM at *
  rw [List.length_drop]
  show q + ((M.hist.length - (q - M.low).toNat : Nat) : Int) = M.low + (M.hist.length : Int)
  omega
theorem inv_vac {M : StM} (h : Inv M) (q : Int) (h1 : M.low ≤ q) (h2 : q ≤ lastM M) : Inv (vacM M q) := by
  refine ⟨Int.le_trans h.low h1, by rw [last_vac h1 h2]; exact h.last, srtK_vac h.srt q, fun a ha => ?_, fun c hc => h.ws c (List.mem_of_mem_drop hc)⟩
  rw [last_vac h1 h2]
  obtain ⟨b, hb, he⟩ := List.mem_filterMap.1 ha
  split at he
  · cases he
  · cases he
    exact ⟨(h.ch b hb).1.drop _, by assumption⟩
def kc1 : Cm := ⟨1, 0, [⟨⟨#[97]⟩, ⟨#[120]⟩, false⟩]⟩
def kc2 : Cm := ⟨2, 0, [⟨⟨#[97]⟩, ⟨#[]⟩, true⟩]⟩
def kM1 : StM := comM hM0 kc1
def kM2 : StM := comM kM1 kc2
theorem kG1 : goodC hM0 kc1 = true := by decide +kernel
theorem kG2 : goodC kM1 kc2 = true := by decide +kernel
theorem kI1 : Inv kM1 := inv_com hI0 kG1
theorem kI2 : Inv kM2 := inv_com kI1 kG2
theorem kL1 : kM1.hist.length ≤ 1000000 ∧ kM1.K.length ≤ 1000000 := by decide +kernel
theorem kA1 : getO kM2 ⟨#[97]⟩ 1 = some ⟨#[120]⟩ := by decide +kernel
theorem kA2 : getO kM2 ⟨#[97]⟩ 2 = none := by decide +kernel
theorem kV2 : versM (vacM kM2 2) = 0 := by decide +kernel
theorem kI3 : Inv (vacM kM2 2) := inv_vac kI2 2 (by decide +kernel) (by decide +kernel)
theorem kKO : KeyOk kM2.K := keyOk_com (keyOk_com (keyOk_new hN0) kG1) kG2
set_option maxHeartbeats 8000000 in
theorem head09_any (w : World) : Calls Try.prog 34 #[] w fun e w' => e = .returned (.bool true) ∧ Below w.heap.size w w' := by
  have HNW := Aside0.mk (new_any 0 [] none 0 w (Kd.C_nil _ _) (Nat.le_refl _) (by decide))
  have HC1 : Aside0 (∀ (W : World) (s b : Nat), StoreAt (fun k => w.heap.size ≤ k) W s hM0 → w.heap.size ≤ W.heap.size → W.heap[b]? = some (.cells #[.string ⟨#[97]⟩, .string ⟨#[120]⟩, .bool false] 31 (0, 0)) → Calls Try.prog 36 #[.pointer (some ⟨s, 0, none⟩), .agg #[.int .i64 1, .int .i64 0, .slice (some ⟨b, 0, none⟩) 1 1]] W fun e w' => e = .returned (.int .i64 0) ∧ StoreAt (fun k => w.heap.size ≤ k) w' s kM1 ∧ Fr (fun k => w.heap.size ≤ k) W w') := ⟨fun W s b hs hl hh => by
    have := com_any hs hI0 (fun k hk => Nat.le_trans hl hk) hL0 kc1 (some ⟨b, 0, none⟩) 1 (one_w ⟨⟨#[97]⟩, ⟨#[120]⟩, false⟩ hh) (Nat.le_refl _) (by decide)
    unfold errC stepM at this
    rw [if_pos kG1, if_pos kG1] at this
    exact this⟩
  have HC2 : Aside0 (∀ (W : World) (s b : Nat), StoreAt (fun k => w.heap.size ≤ k) W s kM1 → w.heap.size ≤ W.heap.size → W.heap[b]? = some (.cells #[.string ⟨#[97]⟩, .string ⟨#[]⟩, .bool true] 31 (0, 0)) → Calls Try.prog 36 #[.pointer (some ⟨s, 0, none⟩), .agg #[.int .i64 2, .int .i64 0, .slice (some ⟨b, 0, none⟩) 1 1]] W fun e w' => e = .returned (.int .i64 0) ∧ StoreAt (fun k => w.heap.size ≤ k) w' s kM2 ∧ Fr (fun k => w.heap.size ≤ k) W w') := ⟨fun W s b hs hl hh => by
    have := com_any hs kI1 (fun k hk => Nat.le_trans hl hk) kL1 kc2 (some ⟨b, 0, none⟩) 1 (one_w ⟨⟨#[97]⟩, ⟨#[]⟩, true⟩ hh) (Nat.le_refl _) (by decide)
    unfold errC stepM at this
    rw [if_pos kG2, if_pos kG2] at this
    exact this⟩
  have HG1 : Aside0 (∀ (W : World) (s : Nat), StoreAt (fun k => w.heap.size ≤ k) W s kM2 → Calls Try.prog 51 #[.pointer (some ⟨s, 0, none⟩), .string ⟨#[97]⟩, .int .i64 1] W fun e w' => e = .returned (.tuple #[.string ⟨#[120]⟩, .bool true]) ∧ Below W.heap.size W w') := ⟨fun W s hs => by
    obtain ⟨col, H, L, hs⟩ := hs
    have := get_any hs kI2 (by decide +kernel) ⟨#[97]⟩ 1
    rw [kA1] at this
    exact this⟩
  have HG2 : Aside0 (∀ (W : World) (s : Nat), StoreAt (fun k => w.heap.size ≤ k) W s kM2 → Calls Try.prog 51 #[.pointer (some ⟨s, 0, none⟩), .string ⟨#[97]⟩, .int .i64 2] W fun e w' => e = .returned (.tuple #[.string ⟨#[]⟩, .bool false]) ∧ Below W.heap.size W w') := ⟨fun W s hs => by
    obtain ⟨col, H, L, hs⟩ := hs
    have := get_any hs kI2 (by decide +kernel) ⟨#[97]⟩ 2
    rw [kA2] at this
    exact this⟩
  have HVA : Aside0 (∀ (W : World) (s : Nat), w.heap.size ≤ W.heap.size → StoreAt (fun k => w.heap.size ≤ k) W s kM2 → Calls Try.prog 44 #[.pointer (some ⟨s, 0, none⟩), .int .i64 2] W fun e w' => e = .returned (.int .i64 0) ∧ StoreAt (fun k => w.heap.size ≤ k) w' s (vacM kM2 2) ∧ Fr (fun k => w.heap.size ≤ k) W w') := ⟨fun W s hl hs => by
    obtain ⟨col, H, L, hs⟩ := hs
    exact vac_good hs (fun k hk => Nat.le_trans hl hk) kI2 (by decide +kernel) (by decide +kernel) (fun b hb => by have := kKO b hb; unfold maxLen; omega) 2 (by decide +kernel) (by decide +kernel)⟩
  have HVE : Aside0 (∀ (W : World) (s : Nat), StoreAt (fun k => w.heap.size ≤ k) W s (vacM kM2 2) → Calls Try.prog 45 #[.pointer (some ⟨s, 0, none⟩)] W fun e w' => e = .returned (.int .i64 0) ∧ Below W.heap.size W w') := ⟨fun W s hs => by
    obtain ⟨col, H, L, hs⟩ := hs
    have := versions_any hs kI3 (by decide +kernel)
    rw [kV2] at this
    exact this⟩
  go_enter Try.func34, Try.ntmps34
  go_wp2_with (first
    | (go_at_call 35; refine HNW.out.mono ?_; rintro e w1 ⟨hb, _, h1⟩; obtain ⟨s, rfl, hs⟩ := h1 hN0; have HS1 := Aside0.mk hs; have HB1 := Aside0.mk hb; clear hb h1 hs))
  have hq1 : Below w1.heap.size w1 (w1.alloc (.cells #[.string ⟨#[97]⟩, .string ⟨#[120]⟩, .bool false] 31)) := below_alloc (Below.refl _ _) _
  refine (HC1.out _ s _ (HS1.out.below hq1) (Nat.le_trans HB1.out.size hq1.size) (heap_alloc_new _ _)).mono ?_
  rintro e w2 ⟨rfl, hs2, hf2⟩
  have HS2 := Aside0.mk hs2
  have HB2 := Aside0.mk (fr_below (fun k hk => hk) (HB1.out.trans (hq1.mono HB1.out.size)) hf2)
  clear hs2 hf2 hq1 HB1 HS1 HC1
  go_wp2_with fail
  have hq2 : Below w2.heap.size w2 (w2.alloc (.cells #[.string ⟨#[97]⟩, .string ⟨#[]⟩, .bool true] 31)) := below_alloc (Below.refl _ _) _
  refine (HC2.out _ s _ (HS2.out.below hq2) (Nat.le_trans HB2.out.size hq2.size) (heap_alloc_new _ _)).mono ?_
  rintro e w3 ⟨rfl, hs3, hf3⟩
  have HS3 := Aside0.mk hs3
  have HB3 := Aside0.mk (fr_below (fun k hk => hk) (HB2.out.trans (hq2.mono HB2.out.size)) hf3)
  clear hs3 hf3 hq2 HB2 HS2 HC2
  go_wp2_with (first
    | (go_at_call 51; (with_reducible refine (HG1.out _ s HS3.out).mono ?_); rintro e w4 ⟨rfl, hb4⟩; have HS4 := Aside0.mk (HS3.out.below hb4); have HB4 := Aside0.mk (below_step HB3.out hb4); clear hb4)
    | (go_at_call 51; (with_reducible refine (HG2.out _ s HS4.out).mono ?_); rintro e w5 ⟨rfl, hb5⟩; have HS5 := Aside0.mk (HS4.out.below hb5); have HB5 := Aside0.mk (below_step HB4.out hb5); clear hb5)
    | (go_at_call 44; refine (HVA.out _ s HB5.out.size HS5.out).mono ?_; rintro e w6 ⟨rfl, hs6, hf6⟩; have HS6 := Aside0.mk hs6; have HB6 := Aside0.mk (fr_below (fun k hk => hk) HB5.out hf6); clear hs6 hf6)
    | (go_at_call 45; refine (HVE.out _ s HS6.out).mono ?_; rintro e w7 ⟨rfl, hb7⟩; have HB7 := Aside0.mk (below_step HB6.out hb7); clear hb7))
  go_ret
  exact ⟨rfl, HB7.out⟩
end Go.Proofs.Ytmafibbnojdpjaa.St
end
