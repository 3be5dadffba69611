/- Tree, by hand: Put. -/
import Derived.Test.YtmpcmpanolnpfaaTa
set_option linter.unusedVariables false
set_option linter.unusedSimpArgs false
namespace Go.Proofs.Ytmpcmpanolnpfaa.Tr
open Go.RowKit Go.Proofs.YtmpcmpanolnpfaaW.PrintWords Go.Proofs.YtmpcmpanolnpfaaW.PrintLast Go.Proofs.YtmpcmpanolnpfaaW.PrintMore

def tl (M : List Leaf) : List (List Item) := M.map (·.2.2)
theorem tl_get {M : List Leaf} {i : Nat} (hi : i < (tl M).length) : ∃ m, M[i]? = some m ∧ lf (tl M) i = m.2.2 := by
  have hi' : i < M.length := by simpa [tl] using hi
  exact ⟨M[i], List.getElem?_eq_getElem hi', lf_map (List.getElem?_eq_getElem hi')⟩
/-- what the walks ask of the sizes -/
structure Small (M : List Leaf) : Prop where
  pos : ∀ m ∈ M, 0 < m.2.2.length
  len : M.length ≤ 4398046511000
  each : ∀ m ∈ M, m.2.2.length ≤ 4398046511000
theorem Small.lf {M : List Leaf} (h : Small M) (i : Nat) : (Tr.lf (tl M) i).length < 4611686018427387904 := by
  by_cases hi : i < (tl M).length
  · obtain ⟨m, hm, e⟩ := tl_get hi
    rw [e]
    have := h.each m (List.mem_of_getElem? hm)
    omega
  · unfold Tr.lf
    rw [List.getD, List.getElem?_eq_none (by omega)]
    decide
theorem lf_tl {M : List Leaf} {i : Nat} {m : Leaf} (hm : M[i]? = some m) : lf (tl M) i = m.2.2 := lf_map hm
variable {F : Nat → Prop} {w : World} {g : Nat} {S : Value} {M : List Leaf} {z : Int}
theorem findM (h : TreeM F w g S M z) (hs : Small M) (x : ByteArray) :
    Calls Try.prog 23 #[.pointer (some ⟨g, 0, none⟩), .string x] w fun e w' => e = .returned (.tuple #[.int .i64 ((findT (tl M) x).1 : Int), .int .i64 ((findT (tl M) x).2.1 : Int), .bool (findT (tl M) x).2.2]) ∧ Below w.heap.size w w' := by
  obtain ⟨A, c, e, hl⟩ := h.leaves hs.pos
  have c0 := h.c0
  rw [e] at c0
  exact find_any g c A (tl M) x w (by have := hs.len; simp [tl]; omega) hs.lf hl c0
theorem run_store1 {P : Program} (w : World) (a : Addr) (v u : Value) (hv : v.oneCell' = true) (hc : w.cell? a = some u) (hf : w.frozen? a = false) : (storeCells a [v]).run P w = .ok () (w.setCell a v) := by
  rw [storeCells, storeCells, Sem.run_bind, Addr.add_zero', run_store P w a v _ hv]
  simp [stored, hc, hf]
theorem setCell_same {w : World} {b i : Nat} {v : Value} (h : w.cell? ⟨b, i, none⟩ = some v) : w.setCell ⟨b, i, none⟩ v = w := by
  unfold World.cell? at h
  split at h
  · rename_i c t fr hh
    simp at h
    rw [setCell_eq_setRow w b i c t fr v hh]
    have hi : i < c.size := (Array.getElem?_eq_some_iff.1 h).1
    have : c.setIfInBounds i v = c := by
      apply Array.ext_getElem?
      intro j
      rw [Array.getElem?_setIfInBounds]
      split
      · rename_i hj
        subst hj
        rw [h]
      · rfl
    rw [this]
    exact setRow_self w b c t fr hh
  · cases h
/-- one value in a leaf -/
theorem TreeM.setVal (h : TreeM F w g S M z) {i b cap k : Nat} {l : List Item} (hm : M[i]? = some (b, cap, l)) (hk : k < l.length) {v : Value} (hv : v.oneCell' = true) : TreeM F (w.setCell ⟨b, k * 2 + 1, none⟩ v) g S (M.set i (b, cap, l.set k ((itm l k).1, v))) z := by
  have ok := h.leaf _ (List.mem_of_getElem? hm)
  obtain ⟨sb, c, e1, e2, e3, e4, e5⟩ := h.leafAt hm
  have hne : sb ≠ b := fun e => (h.apart sb (by rw [e1]; rfl)).2.2 _ (List.mem_of_getElem? hm) (by rw [e])
  obtain ⟨o1, o2⟩ := World.ownsRow.stored ok.own (k * 2 + 1) v
  have h2 := h.setLeaf (m' := (b, cap, l.set k ((itm l k).1, v))) hm e1 o2 (by
    rw [flat_set1 l v k hk]
    simpa [lv] using o1) (by
    intro x hx
    rcases List.mem_or_eq_of_mem_set hx with hx | rfl
    · exact ok.one x hx
    · exact hv) ok.inF (.inl rfl)
  have e : lv (b, cap, l.set k ((itm l k).1, v)) = lv (b, cap, l) := by simp [lv]
  rw [e, setCell_same] at h2
  · exact h2
  · rw [World.cell?_of_block (Below.heap_setCell w _ _ _ hne)]
    exact e3
theorem upf {w w1 : World} (hb : Below w.heap.size w w1) {a : Addr} (ha : a.block < w.heap.size) (h : w.frozen? a = false) : w1.frozen? a = false := (hb.frozen ha).trans h
set_option maxHeartbeats 1000000 in
set_option maxRecDepth 100000 in
theorem put_there (h : TreeM F w g S M z) (hs : Small M) (x : ByteArray) (y : Int) (ht : (findT (tl M) x).2.2 = true) (b cap : Nat) (l : List Item) (hm : M[(findT (tl M) x).1]? = some (b, cap, l)) :
    Calls Try.prog 11 #[.pointer (some ⟨g, 0, none⟩), .string x, .int .i64 y] w fun e w' => e = .returned (.bool true) ∧ TreeM F w' g S (M.set (findT (tl M) x).1 (b, cap, l.set (findT (tl M) x).2.1 ((itm l (findT (tl M) x).2.1).1, .int .i64 y))) z ∧ Fr F w w' := by
  have hf := findM h hs x
  obtain ⟨t1, t2, _⟩ := findT_there (tl M) x ht
  rw [lf_tl hm] at t2
  rw [ht] at hf
  generalize (findT (tl M) x).1 = i at *
  generalize (findT (tl M) x).2.1 = k at *
  have HF := Aside0.mk hf
  have H := Aside0.mk h
  obtain ⟨sb, c, e1, e2, e3, e4, e5⟩ := h.leafAt hm
  have ok := h.leaf _ (List.mem_of_getElem? hm)
  have hi : i < M.length := (List.getElem?_eq_some_iff.1 hm).1
  have hit := ok.items k t2
  obtain ⟨ad, ea, f0, f1⟩ := hit
  cases ea
  rw [Addr.add_lit, Nat.zero_add] at f0 f1
  have c0 := h.c0
  rw [e1] at c0
  have hfz : w.frozen? ⟨b, k * 2 + 1, none⟩ = false := World.ownsRow.frozenAt ok.own (k * 2 + 1)
  have hbl : b < w.heap.size := ok.lt
  obtain ⟨o1, o2, _⟩ := own_caps ok.own
  change w.cell? _ = some (.slice (some ⟨b, 0, none⟩) l.length cap) at e3
  change w.cell? ⟨b, _, none⟩ = _ at f0
  change w.cell? ⟨b, _, none⟩ = some (itm l k).2 at f1
  change k < l.length at t2
  have E1 := Aside0.mk e1
  have OK := Aside0.mk ok
  have HM := Aside0.mk hm
  have HT := Aside0.mk ht
  have HSm := Aside0.mk hs
  clear hf h e1 ok hm ht hs f0
  go_enter Try.func11, Try.ntmps11
  go_wp2_with (go_at_call 23; refine HF.out.mono ?_; rintro e w1 ⟨rfl, hb⟩; have c0 := up hb c0; have e3 := up hb e3; have f1 := up hb f1; have hfz := upf hb hbl hfz; have HB := Aside0.mk hb; clear hb)
  go_ret
  refine ⟨rfl, (H.out.below HB.out).setVal HM.out t2 rfl, (Fr.below HB.out).trans (Fr.setCell _ _ _ _ OK.out.inF)⟩
theorem TreeM.fzr (h : TreeM F w g S M z) (i : Nat) : w.frozen? ⟨g, i, none⟩ = false := by simp [World.frozen?, h.head]
set_option maxHeartbeats 1000000 in
set_option maxRecDepth 100000 in
theorem put_first (h : TreeM F w g S [] z) (hF : ∀ k, w.heap.size ≤ k → F k) (hz0 : 0 ≤ z) (hz1 : z ≤ 4398046511000) (x : ByteArray) (y : Int) :
    Calls Try.prog 11 #[.pointer (some ⟨g, 0, none⟩), .string x, .int .i64 y] w fun e w' => e = .returned (.bool false) ∧ (∃ S' b, TreeM F w' g S' [(b, 1, [(x, .int .i64 y)])] (z + 1)) ∧ Fr F w w' := by
  have hs : Small [] := ⟨by simp, by simp, by simp⟩
  have hf := findM h hs x
  rw [show findT (tl []) x = (0, 0, false) from rfl] at hf
  have HF := Aside0.mk hf
  have H := Aside0.mk h
  obtain ⟨A, c, e1, _⟩ := h.leaves hs.pos
  have c0 := h.c0
  have c1 := h.c1
  have z0 := h.fz 0
  have z1 := h.fz 1
  have hgl := h.lt
  rw [e1] at c0
  have hw : IntKind.i64.wrap (z + 1) = z + 1 := by rw [IntKind.wrap_i64]; omega
  have HFa := Aside0.mk hF
  have E1 := Aside0.mk e1
  clear hf h hF hs e1
  go_enter Try.func11, Try.ntmps11
  go_wp2_with (go_at_call 23; refine HF.out.mono ?_; rintro e w1 ⟨rfl, hb⟩; have c0 := up hb c0; have c1 := up hb c1; have z0 := upf hb hgl z0; have z1 := upf hb hgl z1; have HB := Aside0.mk hb; have h1 := (H.out.below hb).setSize (z + 1); have h3 := (h1.below (below_alloc (Below.refl _ _) (.cells #[.string x, .int .i64 y] 64))).below (below_alloc (Below.refl _ _) (.cells #[.slice (some ⟨w1.heap.size, 0, none⟩) 1 1] 65)); have p0 := h3.c0; rw [E1.out] at p0; have pf := h3.fz 0; have H3 := Aside0.mk h3; clear h1 h3 hb)
  go_ret
  have hsz : w.heap.size ≤ w1.heap.size := HB.out.size
  have hg1 : g < w1.heap.size := by omega
  refine ⟨rfl, ⟨_, w1.heap.size, H3.out.setRow (S' := .slice (some ⟨w1.heap.size + 1, 0, none⟩) 1 1) (M' := [(w1.heap.size, 1, [(x, .int .i64 y)])]) rfl ?_ ?_ ?_ ?_⟩, ?_⟩
  · have := World.ownsRow_lit (base := 0) (e := 65) (size := 1) ((w1.setCell ⟨g, 1, none⟩ (.int .i64 (z + 1))).alloc (.cells #[.string x, .int .i64 y] 64)) #[.slice (some ⟨w1.heap.size, 0, none⟩) 1 1] 1 (Nat.zero_le _) (by decide) rfl
    rw [World.size_alloc, size_setCell] at this
    exact this
  · intro k hk
    cases hk
    refine ⟨HFa.out _ (by show w.heap.size ≤ w1.heap.size + 1; omega), by show w1.heap.size + 1 ≠ g; omega, ?_⟩
    intro m hm
    simp at hm
    subst hm
    show w1.heap.size ≠ w1.heap.size + 1
    omega
  · intro m hm
    simp at hm
    subst hm
    refine ⟨?_, HFa.out _ hsz, by show w1.heap.size ≠ g; omega, ?_⟩
    · have := World.ownsRow_lit (base := 0) (e := 64) (size := 2) (w1.setCell ⟨g, 1, none⟩ (.int .i64 (z + 1))) #[.string x, .int .i64 y] 1 (Nat.zero_le _) (by decide) rfl
      rw [size_setCell] at this
      exact this.alloc _
    · intro a ha
      simp at ha
      subst ha
      rfl
  · simp
  · exact (((Fr.below HB.out).trans (Fr.setCell _ _ _ _ H.out.inF)).trans (Fr.alloc _ _)).trans ((Fr.alloc _ _).trans (Fr.setCell _ _ _ _ H.out.inF))
theorem srch_le (l : List Item) (x : ByteArray) : srch l x ≤ l.length := (bs_range _ l.length _ 0 l.length rfl (Nat.zero_le _) (Nat.le_refl _)).2
theorem findT_le {M : List Leaf} (x : ByteArray) (hM : M ≠ []) : ∃ b cap l, M[(findT (tl M) x).1]? = some (b, cap, l) ∧ (findT (tl M) x).2.1 ≤ l.length := by
  have hl : (tl M).length ≠ 0 := by simp [tl]; exact hM
  unfold findT
  rw [if_neg hl]
  have := lsrch_le (tl M) x
  obtain ⟨m, hm, e⟩ := tl_get (M := M) (i := lsrch (tl M) x - 1) (by omega)
  obtain ⟨b, cap, l⟩ := m
  refine ⟨b, cap, l, hm, ?_⟩
  rw [e]
  exact srch_le l x
/-- what the store of a leaf finds, when the leaf's block alone has been turned -/
theorem TreeM.after (h : TreeM F w g S M z) {i : Nat} {m : Leaf} (hm : M[i]? = some m) {sb n c : Nat} (hS : S = .slice (some ⟨sb, 0, none⟩) n c) {w' : World} (hg : w.grownBy w' (some m.1)) :
    w'.cell? ⟨g, 0, none⟩ = some S ∧ w'.cell? ⟨sb, i, none⟩ = some (lv m) ∧ w'.frozen? ⟨sb, i, none⟩ = false ∧ w'.frozen? ⟨g, 0, none⟩ = false ∧ M.length = n := by
  have okm := h.leaf m (List.mem_of_getElem? hm)
  have hsb := h.apart sb (by rw [hS]; rfl)
  obtain ⟨sb', c', e1, _, e3, e4, e5⟩ := h.leafAt hm
  rw [hS] at e1
  cases e1
  have hne : m.1 ≠ sb := hsb.2.2 m (List.mem_of_getElem? hm)
  have n1 : some g ≠ some m.1 := fun e => okm.neg (by cases e; rfl)
  have n2 : some sb ≠ some m.1 := fun e => hne (by cases e; rfl)
  exact ⟨hg.cell h.c0 n1, hg.cell e3 n2, (World.frozen?_of_block (hg.block sb e5 n2)).trans e4, (World.frozen?_of_block (hg.block g h.lt n1)).trans (h.fz 0), rfl⟩
theorem own_cell0 {w w' : World} {r : Option Nat} (hg : w.grownBy w' r) {a : Addr} {v : Value} (h : w.cell? a = some v) (hne : some a.block ≠ r) : w'.cell? a = some v := hg.cell h hne
theorem own_fz {w w' : World} {r : Option Nat} (hg : w.grownBy w' r) {a : Addr} (hl : a.block < w.heap.size) (h : w.frozen? a = false) (hne : some a.block ≠ r) : w'.frozen? a = false := (World.frozen?_of_block (hg.block _ hl hne)).trans h
set_option maxHeartbeats 1000000 in
set_option maxRecDepth 100000 in
theorem put_in (h : TreeM F w g S M z) (hs : Small M) (hF : ∀ k, w.heap.size ≤ k → F k) (hz0 : 0 ≤ z) (hz1 : z ≤ 4398046511000) (x : ByteArray) (y : Int) (ht : (findT (tl M) x).2.2 = false)
    (b cap : Nat) (l : List Item) (hm : M[(findT (tl M) x).1]? = some (b, cap, l)) (hk : (findT (tl M) x).2.1 ≤ l.length) (h8 : l.length + 1 ≤ 8) :
    Calls Try.prog 11 #[.pointer (some ⟨g, 0, none⟩), .string x, .int .i64 y] w fun e w' => e = .returned (.bool false) ∧
      (∃ b' cap', TreeM F w' g S (M.set (findT (tl M) x).1 (b', cap', l.take (findT (tl M) x).2.1 ++ [(x, .int .i64 y)] ++ l.drop (findT (tl M) x).2.1)) (z + 1)) ∧ Fr F w w' := by
  have hf := findM h hs x
  rw [ht] at hf
  generalize (findT (tl M) x).1 = i at *
  generalize (findT (tl M) x).2.1 = k at *
  obtain ⟨l', hl'⟩ : ∃ l' : List Item, l' = l.take k ++ [(x, .int .i64 y)] ++ l.drop k := ⟨_, rfl⟩
  have hlen : l'.length = l.length + 1 := by rw [hl']; simp; omega
  have hfl : flat l' = (flat l).take (k * 2) ++ [.string x, .int .i64 y] ++ (flat l).drop (k * 2) := by rw [hl', flat_append, flat_append, flat_take, flat_drop]; rfl
  rw [← hl']
  have HF := Aside0.mk hf
  have H := Aside0.mk h
  obtain ⟨sb, c, e1, e2, e3, e4, e5⟩ := h.leafAt hm
  have ok := h.leaf _ (List.mem_of_getElem? hm)
  have hi : i < M.length := (List.getElem?_eq_some_iff.1 hm).1
  have hpos := hs.pos _ (List.mem_of_getElem? hm)
  change 0 < l.length at hpos
  have c0 := h.c0
  rw [e1] at c0
  have c1 := h.c1
  have z0 := h.fz 0
  have z1 := h.fz 1
  have hgl := h.lt
  have hbl : b < w.heap.size := ok.lt
  change w.cell? _ = some (.slice (some ⟨b, 0, none⟩) l.length cap) at e3
  have hw : IntKind.i64.wrap (z + 1) = z + 1 := by rw [IntKind.wrap_i64]; omega
  have hsbg : sb ≠ g := (h.apart sb (by rw [e1]; rfl)).2.1
  have hsbb : b ≠ sb := (h.apart sb (by rw [e1]; rfl)).2.2 _ (List.mem_of_getElem? hm)
  have hbg : b ≠ g := ok.neg
  have hM0 : ¬ M.length = 0 := by omega
  have a0 : (0 : Int) ≤ (i : Int) := by omega
  have a1 : (i : Int) < (M.length : Int) := by omega
  have hMne : M ≠ [] := by intro e; rw [e] at hi; cases hi
  have a3 : ((M.length : Int) == 0) = false := by simpa using hMne
  have a4 : ¬ (8 : Int) < (l.length : Int) + 1 := by omega
  have E1 := Aside0.mk e1
  have OK := Aside0.mk ok
  have HM := Aside0.mk hm
  have HFa := Aside0.mk hF
  have HL := Aside0.mk hl'
  have HSm := Aside0.mk hs
  have HFL := Aside0.mk hfl
  have HLE := Aside0.mk hlen
  clear hf h e1 ok hm ht hs hF hl' hfl hlen
  go_enter Try.func11, Try.ntmps11
  go_wp2_with (first
    | (go_at_call 23; refine HF.out.mono ?_; rintro e w1 ⟨rfl, hb⟩; have hsz := hb.size; have h1 := (H.out.below hb).setSize (z + 1); have h2 := h1.below (below_alloc (Below.refl _ _) (.cells #[.string x, .int .i64 y] 64)); have c0 := up hb c0; have c1 := up hb c1; have z0 := upf hb hgl z0; have z1 := upf hb hgl z1; have e3 := up hb e3; have e4 := upf hb e5 e4; have HB := Aside0.mk hb;
       have p0 : (w1.setCell ⟨g, 1, none⟩ (.int .i64 (z + 1))).cell? ⟨g, 0, none⟩ = _ := h1.c0; rw [E1.out] at p0;
       have p3 : (w1.setCell ⟨g, 1, none⟩ (.int .i64 (z + 1))).cell? ⟨sb, i, none⟩ = _ := (World.cell?_of_block (Below.heap_setCell w1 _ _ _ hsbg)).trans e3;
       have hv := heap_alloc_new (w1.setCell ⟨g, 1, none⟩ (.int .i64 (z + 1))) (.cells #[.string x, .int .i64 y] 64); rw [size_setCell] at hv; have HV := Aside0.mk hv; have hvb : w1.heap.size ≠ b := (by omega);
       have H2 := Aside0.mk h2; clear h1 h2 hb hv)
    | (go_at_call 24; refine (insert_any 0 b l.length k cap w1.heap.size (flat l) [.string x, .int .i64 y] 64 _ (H2.out.leaf _ (List.mem_of_getElem? HM.out)).own (Nat.zero_le _) hk hpos (by omega) rfl HV.out hvb (by intro u hu; simp at hu; rcases hu with rfl | rfl <;> rfl) (flat_one (H2.out.leaf _ (List.mem_of_getElem? HM.out)).one)).mono ?_;
       rintro e w2 ⟨gb, cap2, rfl, ho, hg, hgb⟩; obtain ⟨q0, q3, q4, _, _⟩ := H2.out.after HM.out E1.out hg; rw [E1.out] at q0; have HO := Aside0.mk ho; have HG := Aside0.mk hg; have HGB := Aside0.mk hgb; clear ho hg hgb))
  go_ret
  have hone : ∀ a ∈ l', a.2.oneCell' = true := by
    intro a ha
    rw [HL.out] at ha
    simp only [List.mem_append, List.mem_singleton] at ha
    rcases ha with (ha | ha) | ha
    · exact OK.out.one a (List.mem_of_mem_take ha)
    · subst ha; rfl
    · exact OK.out.one a (List.mem_of_mem_drop ha)
  have hFg : F gb := by
    rcases HGB.out with e | e
    · rw [e]; exact OK.out.inF
    · refine HFa.out _ (Nat.le_trans hsz (Nat.le_trans ?_ e))
      rw [World.size_alloc, size_setCell]
      exact Nat.le_succ _
  have h3 := H2.out.setLeaf (m' := (gb, cap2, l')) HM.out E1.out HG.out (by
    rw [HFL.out]
    show w2.ownsRow 0 64 2 (.slice (some ⟨gb, 0, none⟩) l'.length cap2) l'.length _
    rw [HLE.out]
    exact HO.out) hone hFg HGB.out
  rw [show lv (gb, cap2, l') = .slice (some ⟨gb, 0, none⟩) (l.length + 1) cap2 by simp [lv, HLE.out]] at h3
  exact ⟨rfl, ⟨gb, cap2, h3⟩, (((Fr.below HB.out).trans (Fr.setCell _ _ _ _ H.out.inF)).trans (Fr.alloc _ _)).trans ((Fr.grown HG.out OK.out.inF).trans (Fr.setCell _ _ _ _ (H.out.apart sb (by rw [E1.out]; rfl)).1))⟩
end Go.Proofs.Ytmpcmpanolnpfaa.Tr
