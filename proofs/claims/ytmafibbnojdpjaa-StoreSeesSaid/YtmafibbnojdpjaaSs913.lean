/- Lemmas that the proof needs, part 13. -/
import Derived.RangeFuncNested
import Derived.RangeFuncBound
import Derived.RangeFuncCalls
import Derived.RangeFuncLeaves
import Derived.Shelf.Abstract
import Derived.Shelf.RegionOpen
import Derived.WalkKit
import Derived.OwnWalkIn
import Derived.TacticsInMore
import Derived.LoopNIn
import Derived.LoopIn
import Derived.Scope
import Derived.RangeFuncFrom
import Derived.RangeFuncBox
import Derived.Test.YtmafibbnojdpjaaSs91
import Derived.Test.YtmafibbnojdpjaaSs92
import Derived.Test.YtmafibbnojdpjaaSs93
import Derived.Test.YtmafibbnojdpjaaSs94
import Derived.Test.YtmafibbnojdpjaaSs95
section
set_option linter.unusedVariables false
set_option maxRecDepth 100000
set_option linter.unusedSimpArgs false
namespace Go.Proofs.Ytmafibbnojdpjaa.Tr
open Go.RowKit Go.Proofs.YtmafibbnojdpjaaW.PrintWords Go.Proofs.YtmafibbnojdpjaaW.PrintLast Go.Proofs.YtmafibbnojdpjaaW.PrintMore
attribute [local go_sem] Oper.semAt_some
set_option maxHeartbeats 1000000 in
theorem from_any (p : Option Addr) (x : ByteArray) (w : World) : Calls Try.prog 79 #[.pointer p, .string x] w fun e w' =>
    e = .returned (.func (.func 103) #[] #[.pointer (some ⟨w.heap.size, 0, none⟩), .pointer (some ⟨w.heap.size + 1, 0, none⟩)]) ∧ w' = (w.alloc (.cells #[.pointer p] 149)).alloc (.cells #[.string x] 9) := by
  go_enter Try.func79, Try.ntmps79
  go_wp2
  go_ret
  exact ⟨rfl, rfl⟩
theorem noGoto_normal {Q : Exit → Act → World → Prop} {a : Act} {w : World} (h : Q .normal a w) : Exit.noGoto Q .normal a w := h
abbrev Pair := ByteArray × SVal
def zi (a : Pair) : Item := (a.1, SV a.2)
def pe (a : Pair) : Array Value := #[.string a.1, SV a.2]
/-- the blocks of B lie as they lay -/
structure Kb (B : Nat → Prop) (W W' : World) : Prop where
  size : W.heap.size ≤ W'.heap.size
  block : ∀ k, B k → k < W.heap.size → W'.heap[k]? = W.heap[k]?
section
variable {R : Value × Value} {B : Nat → Prop} {W W1 W2 : World}
theorem Kb.refl (B : Nat → Prop) (W : World) : Kb B W W := ⟨Nat.le_refl _, fun _ _ _ => rfl⟩
theorem Kb.trans (h : Kb B W W1) (k : Kb B W1 W2) : Kb B W W2 := ⟨Nat.le_trans h.size k.size, fun i hi hl => (k.block i hi (Nat.lt_of_lt_of_le hl h.size)).trans (h.block i hi hl)⟩
theorem Kb.below (h : Below W.heap.size W W1) : Kb B W W1 := ⟨h.size, fun k _ hl => h.block k hl⟩
theorem Kb.alloc (W : World) (o : Obj) : Kb B W (W.alloc o) := .below (below_alloc (Below.refl _ _) _)
theorem Kb.cell (h : Kb B W W1) {b i : Nat} {v : Value} (hB : B b) (hc : W.cell? ⟨b, i, none⟩ = some v) : W1.cell? ⟨b, i, none⟩ = some v := (World.cell?_of_block (h.block b hB (World.block_lt_of_cell? W ⟨b, i, none⟩ hc))).trans hc
theorem TreeM.keptB {g : Nat} {S : Value} {M : List Leaf} {z : Int} (h : TreeM R B W g S M z) (hk : Kb B W W1) : TreeM R B W1 g S M z := h.kept hk.block
theorem TreeAt.keptB {g : Nat} {L : List Item} (h : TreeAt R B W g L) (hk : Kb B W W1) : TreeAt R B W1 g L := h.kept hk.block
end
def fromL (Z : List Pair) (x : ByteArray) : List Pair := Z.filter fun a => !decide (kl a.1 x)
theorem map_filter_zi (Z : List Pair) (p : ByteArray → Bool) : (Z.filter fun a => p a.1).map zi = (Z.map zi).filter fun a => p a.1 := by
  induction Z with
  | nil => rfl
  | cons a Z ih =>
    rw [List.map_cons, List.filter_cons, List.filter_cons]
    show _ = if p a.1 = true then _ else _
    cases p a.1 with
    | true => rw [if_pos rfl, if_pos rfl, List.map_cons, ih]
    | false => rw [if_neg (by simp), if_neg (by simp), ih]
/-- where the walk begins: all from x on lie behind that place -/
theorem from_start {T : List (List Item)} (h : TOk T) (x : ByteArray) : (T.drop (findT T x).1).flatten.drop (findT T x).2.1 = T.flatten.filter (fun a => !decide (kl a.1 x)) ∧ ((findT T x).1 < T.length → (findT T x).2.1 ≤ (lf T (findT T x).1).length) := by
  by_cases hT : T = []
  · subst hT
    exact ⟨by simp, fun e => by cases e⟩
  obtain ⟨hi, hk, hP, hQ, _⟩ := findT_spec h hT x
  generalize (findT T x).1 = i at *
  generalize (findT T x).2.1 = k at *
  refine ⟨?_, fun _ => hk⟩
  have hd : T.drop i = lf T i :: T.drop (i + 1) := by
    rw [List.drop_eq_getElem_cons hi]
    simp [lf, List.getD, hi]
  rw [hd, List.flatten_cons, List.drop_append_of_le_length hk]
  have hL : T.flatten = ((T.take i).flatten ++ (lf T i).take k) ++ ((lf T i).drop k ++ (T.drop (i + 1)).flatten) := by
    rw [flat_split hi, List.append_assoc, List.append_assoc, ← List.append_assoc ((lf T i).take k), List.take_append_drop]
  rw [hL, List.filter_append, List.filter_eq_nil_iff.2 (fun a ha => by simpa using hP a ha), List.nil_append, List.filter_eq_self.2 (fun a ha => by simpa using hQ a ha)]
theorem findT_fst_le (T : List (List Item)) (x : ByteArray) : (findT T x).1 ≤ T.length := by
  unfold findT
  split
  · exact Nat.zero_le _
  · have := lsrch_le T x
    simp only
    omega
set_option maxRecDepth 100000 in
set_option maxHeartbeats 4000000 in
theorem from1 {R : Value × Value} (l bt bk g n : Nat) (hn : 1 ≤ n) (B : Nat → Prop) (hB1 : B bt) (hB2 : B bk) (x : ByteArray) (Z : List Pair) (hlen : Z.length ≤ maxTree) (J Jx : List Pair → World → Prop)
    (hY : ∀ pre a W1, a ∈ Z → J pre W1 → pre.length < Z.length → YieldAt Fence.wide (n - 1) Try.prog l (pe a) W1 fun e W' =>
      (e = .returned (.bool true) ∧ J (pre ++ [a]) W' ∧ Kb B W1 W') ∨ (e = .returned (.bool false) ∧ Jx (pre ++ [a]) W'))
    (W : World) (hJa : AbidesFrom W.heap.size J) (hT : TreeAt R B W g (Z.map zi)) (h1 : W.cell? ⟨bt, 0, none⟩ = some (.pointer (some ⟨g, 0, none⟩))) (h2 : W.cell? ⟨bk, 0, none⟩ = some (.string x)) (h0 : J [] W) :
    CallsIn Fence.wide n Try.prog 103 #[.func (.yield l) #[] #[], .pointer (some ⟨bt, 0, none⟩), .pointer (some ⟨bk, 0, none⟩)] W fun e W' => (∃ v, e = .returned v) ∧
      ((∃ xs, xs = fromL Z x ∧ J xs W') ∨ (∃ pre, pre <+: fromL Z x ∧ Jx pre W')) := by
  obtain ⟨S, M, hM, hTo, hfl⟩ := hT
  have hs : Small M := small_of hTo (by rw [hfl, List.length_map]; exact hlen)
  have hf := findM hM hs x
  obtain ⟨st1, st2⟩ := from_start hTo x
  have htot : (fromL Z x).map zi = (tl M).flatten.filter (fun a => !decide (kl a.1 x)) := by
    rw [hfl]; exact map_filter_zi Z (fun k => !decide (kl k x))
  rw [← htot] at st1
  have hMl := hs.len
  have htl : (tl M).length = M.length := tl_length M
  have hfll : (fromL Z x).length ≤ Z.length := List.length_filter_le _ _
  have hmem : ∀ a ∈ fromL Z x, a ∈ Z := fun a ha => (List.mem_filter.1 ha).1
  have hi00 : (findT (tl M) x).1 ≤ M.length := by rw [← htl]; exact findT_fst_le (tl M) x
  generalize (findT (tl M) x).1 = i0 at *
  generalize (findT (tl M) x).2.1 = k0 at *
  generalize (findT (tl M) x).2.2 = th at *
  generalize htt : fromL Z x = tot at *
  have HF := Aside0.mk hf
  have HM := Aside0.mk hM
  have HY := Aside0.mk hY
  have HJ := Aside0.mk hJa
  have HS := Aside0.mk hs
  have H0 := Aside0.mk h0
  have ST1 := Aside0.mk st1
  have ST2 := Aside0.mk st2
  have HTT := Aside0.mk htt
  have HME := Aside0.mk hmem
  clear hmem hf hM hY hJa hs h0 st1 st2 htt htot hfl
  refine callsIn_of_wp Try.func103 rfl trivial ?_ rfl
  simp only [Try.ntmps103, List.size_toArray, List.length_cons, List.length_nil, Nat.reduceAdd, Nat.reduceSub, Array.replicate_succ, Array.replicate_zero, List.push_toArray, List.append_toArray, List.nil_append, List.cons_append]
  refine wpIn_wide.2 (wp_scope_straight (wpIn_wide (n := n).1 ?_))
  gi_wp2_with (refine ⟨trivial, ?_⟩; gi_at_call 92; refine (callsIn_wide.2 HF.out).mono ?_; rintro e w1 ⟨rfl, hb⟩; have h1 := up hb h1; have h2 := up hb h2; have HB := Aside0.mk hb; clear hb)
  refine wpIn_label ?_
  gi_wp2
  gi_loopw [4, 5] (fun v4 v5 wr => ∃ i k p : Nat, v4 = .int .i64 (i : Int) ∧ v5 = .int .i64 (k : Int) ∧ i ≤ M.length ∧ p ≤ tot.length ∧ Aside0 (((tl M).drop i).flatten.drop k = (tot.drop p).map zi) ∧ Aside0 (i < M.length → k ≤ (lf (tl M) i).length) ∧
      Aside0 (J (tot.take p) wr) ∧ Aside0 (TreeM R B wr g S M ((Z.map zi).length : Int)) ∧ wr.cell? ⟨bt, 0, none⟩ = some (.pointer (some ⟨g, 0, none⟩)) ∧ wr.cell? ⟨bk, 0, none⟩ = some (.string x) ∧ W.heap.size ≤ wr.heap.size)
    (fun v4 _ _ => M.length - (intOf v4).toNat)
  case atStart => exact ⟨i0, k0, 0, rfl, rfl, hi00, Nat.zero_le _, ST1, ⟨fun e => ST2.out (by rw [htl]; exact e)⟩, ⟨HJ.out _ _ _ none H0.out (below_grown HB.out none) (fun r e => by cases e)⟩, ⟨HM.out.below HB.out⟩, h1, h2, HB.out.size⟩
  case round =>
    obtain ⟨i, k, p, rfl, rfl, hil, hpl, HR, HK, HJs, HMr, h1, h2, hsz⟩ := hrel
    have c0 := HMr.out.c0
    by_cases hi : i < M.length
    · obtain ⟨⟨b, cap, lf1⟩, hm⟩ : ∃ m, M[i]? = some m := ⟨_, List.getElem?_eq_getElem hi⟩
      obtain ⟨sb, c, e1, e2, e3, e4, e5⟩ := HMr.out.leafAt hm
      rw [e1] at c0
      change wr.cell? _ = some (.slice (some ⟨b, 0, none⟩) lf1.length cap) at e3
      have hlf : lf (tl M) i = lf1 := lf_tl hm
      have hkl := HK.out hi
      rw [hlf] at hkl
      obtain ⟨o1, o2, _⟩ := own_caps (HMr.out.leaf _ (List.mem_of_getElem? hm)).own
      change lf1.length ≤ cap at o1
      have hll := HS.out.each _ (List.mem_of_getElem? hm)
      change lf1.length ≤ _ at hll
      have a0 : (0 : Int) ≤ (i : Int) := by omega
      have a1 : (i : Int) < (M.length : Int) := by omega
      have a2 : (0 : Int) ≤ (k : Int) := by omega
      have a3 : (k : Int) ≤ (lf1.length : Int) := by omega
      have hR' : Aside0 ((tot.drop p).map zi = lf1.drop k ++ ((tl M).drop (i + 1)).flatten) := ⟨by
        have hd : (tl M).drop i = lf1 :: (tl M).drop (i + 1) := by
          rw [List.drop_eq_getElem_cons (by rw [htl]; exact hi), ← hlf]
          simp [lf, List.getD, (by rw [htl]; exact hi : i < (tl M).length)]
        rw [← HR.out, hd, List.flatten_cons, List.drop_append_of_le_length hkl]⟩
      obtain ⟨A, hA, hAd⟩ : ∃ A : Addr, (if cap = k then some (⟨b, 0, none⟩ : Addr) else some ⟨b, k * 2, none⟩) = some A ∧ Aside0 (k < lf1.length → A = ⟨b, k * 2, none⟩) := by
        by_cases h : cap = k
        · exact ⟨⟨b, 0, none⟩, by simp [h], ⟨fun q => by omega⟩⟩
        · exact ⟨⟨b, k * 2, none⟩, by simp [h], ⟨fun _ => rfl⟩⟩
      have HMi := Aside0.mk hm
      have HLF := Aside0.mk hlf
      clear hm hlf HK HR e1
      gi_wp2
      gi_loopw [39] (fun v39 wq => ∃ j : Nat, v39 = .int .i64 (j : Int) ∧ j ≤ lf1.length - k ∧ p + j ≤ tot.length ∧ Aside0 (J (tot.take (p + j)) wq) ∧ Aside0 (TreeM R B wq g S M ((Z.map zi).length : Int)) ∧ wq.cell? ⟨bt, 0, none⟩ = some (.pointer (some ⟨g, 0, none⟩)) ∧ wq.cell? ⟨bk, 0, none⟩ = some (.string x) ∧ W.heap.size ≤ wq.heap.size)
        (fun v39 _ => (lf1.length - k) - (intOf v39).toNat)
      case atStart => exact ⟨0, rfl, by omega, by omega, HJs, HMr, h1, h2, hsz⟩
      case round =>
        obtain ⟨j, rfl, hj, hpj, HJq, HMq, h1, h2, hsz⟩ := hrel
        by_cases hjl : j < lf1.length - k
        · have hA2 := hAd.out (by omega)
          subst hA2
          have hkj : k + j < lf1.length := by omega
          obtain ⟨ad, ea, f0, f1⟩ := (HMq.out.leaf _ (List.mem_of_getElem? HMi.out)).items (k + j) hkj
          cases ea
          rw [Addr.add_lit, Nat.zero_add] at f0 f1
          have hget : (lf1.drop k ++ ((tl M).drop (i + 1)).flatten)[j]? = some lf1[k + j] := by
            rw [List.getElem?_append_left (by rw [List.length_drop]; omega), List.getElem?_drop, List.getElem?_eq_getElem hkj]
          have hpl2 : p + j < tot.length := by
            have h1 : j < (lf1.drop k ++ ((tl M).drop (i + 1)).flatten).length := (List.getElem?_eq_some_iff.1 hget).1
            rw [← hR'.out, List.length_map, List.length_drop] at h1
            omega
          obtain ⟨a, ha⟩ : ∃ a, a = tot[p + j] := ⟨_, rfl⟩
          have hza : itm lf1 (k + j) = zi a := by
            rw [← hR'.out, List.getElem?_map, List.getElem?_drop, List.getElem?_eq_getElem hpl2] at hget
            simp only [Option.map_some, Option.some.injEq] at hget
            rw [itm_eq hkj, ← hget, ha]
          rw [hza, show (k + j) * 2 = k * 2 + j * 2 by omega] at f0 f1
          change wr.cell? ⟨b, k * 2 + j * 2, none⟩ = some (.string a.1) at f0
          change wr.cell? ⟨b, k * 2 + j * 2 + 1, none⟩ = some (SV a.2) at f1
          have hJ2 := HJ.out _ _ (wr.alloc (.cells #[.string a.1, SV a.2] 153)) none HJq.out (World.grownBy_alloc wr _ none) (fun r e => by cases e)
          obtain ⟨fn, tmps, assign, body, hy, hR⟩ := HY.out _ a _ (HME.out a (by rw [ha]; exact List.getElem_mem _)) hJ2 (by rw [List.length_take]; omega)
          simp only [pe] at hy
          have hnext : tot.take (p + j) ++ [a] = tot.take (p + j + 1) := by rw [ha, List.take_succ_eq_append_getElem hpl2]
          have HN := Aside0.mk hnext
          have HR1 := Aside0.mk hR
          clear hR hnext hJ2 hza hget ha
          gi_wp2
          refine HR1.out.mono ?_
          rintro e W3 (⟨rfl, hJ3, hk3⟩ | ⟨rfl, hJx3⟩)
          · have hka := (Kb.alloc (B := B) wr (.cells #[.string a.1, SV a.2] 153)).trans hk3
            rw [HN.out] at hJ3
            have HJ3 := Aside0.mk hJ3
            have HM3 := Aside0.mk (HMq.out.keptB hka)
            have k1 := hka.cell hB1 h1
            have k2 := hka.cell hB2 h2
            have hsz3 : W.heap.size ≤ W3.heap.size := Nat.le_trans hsz hka.size
            clear hJ3 hka hk3 hy
            gi_wp2
            go_roundw
            case rel => exact ⟨j + 1, by simp, by omega, by omega, HJ3, HM3, k1, k2, hsz3⟩
            case measure => simp [intOf]; omega
          · rw [HN.out] at hJx3
            gi_wp2
            refine noGoto_normal ?_
            go_end0
            exact ⟨⟨_, rfl⟩, .inr ⟨_, List.take_prefix _ _, hJx3⟩⟩
        · obtain rfl : j = lf1.length - k := by omega
          gi_wp2
          refine ⟨⟨i + 1, 0, p + (lf1.length - k), by simp, rfl, by omega, by omega, ⟨?_⟩, ⟨fun _ => Nat.zero_le _⟩, HJq, HMq, h1, h2, hsz⟩, by simp [intOf]; omega⟩
          have hdd : tot.drop (p + (lf1.length - k)) = (tot.drop p).drop (lf1.length - k) := by rw [List.drop_drop]
          rw [List.drop_zero, hdd, List.map_drop, hR'.out, List.drop_left' (by rw [List.length_drop])]
    · obtain rfl : i = M.length := by omega
      have hall : tot.take p = tot := by
        have h := HR.out
        rw [show (tl M).drop M.length = [] from List.drop_of_length_le (by rw [htl]; exact Nat.le_refl _), List.flatten_nil, List.drop_nil] at h
        have h2 := congrArg List.length h
        rw [List.length_nil, List.length_map, List.length_drop] at h2
        exact List.take_of_length_le (by omega)
      have hJe := HJs.out
      rw [hall] at hJe
      have HJe := Aside0.mk hJe
      obtain ⟨A, c, e1, _⟩ := HMr.out.leaves HS.out.pos
      rw [e1, List.length_map] at c0
      clear hJe hall e1
      gi_wp2
      refine noGoto_normal ?_
      go_end0
      exact ⟨⟨_, rfl⟩, .inl ⟨_, rfl, HJe.out⟩⟩
end Go.Proofs.Ytmafibbnojdpjaa.Tr
end
section
set_option linter.unusedVariables false
set_option maxRecDepth 100000
set_option linter.unusedSimpArgs false
namespace Go.Proofs.Ytmafibbnojdpjaa.Tr
open Go.RowKit Go.Proofs.YtmafibbnojdpjaaW.PrintWords Go.Proofs.YtmafibbnojdpjaaW.PrintLast Go.Proofs.YtmafibbnojdpjaaW.PrintMore
attribute [local go_sem] Oper.semAt_some
/-- a pair of Z -/
abbrev El (Z : List Pair) := { a : Pair // a ∈ Z }
def vals {Z : List Pair} (l : List (El Z)) : List Pair := l.map (·.1)
theorem from_stops {R : Value × Value} (n : Nat) (hn : 1 ≤ n) (bt bk g : Nat) (B : Nat → Prop) (x : ByteArray) (Z : List Pair) (w : World) (hB1 : B bt) (hB2 : B bk) (hlen : Z.length ≤ maxTree) (hT : TreeAt R B w g (Z.map zi))
    (h1 : w.cell? ⟨bt, 0, none⟩ = some (.pointer (some ⟨g, 0, none⟩))) (h2 : w.cell? ⟨bk, 0, none⟩ = some (.string x)) :
    SeqStopsK Fence.wide n Try.prog 103 #[.pointer (some ⟨bt, 0, none⟩), .pointer (some ⟨bk, 0, none⟩)] (fun a : El Z => pe a.1) (Kb B) (fun xs => vals xs = fromL Z x) (fun pre => vals pre <+: fromL Z x) Z.length w :=
  fun l J Jx W hW hJ hJx hY h0 => by
    refine (from1 l bt bk g n hn B hB1 hB2 x Z hlen (fun pre W => ∃ q : List (El Z), vals q = pre ∧ J q W) (fun pre W => ∃ q : List (El Z), vals q = pre ∧ Jx q W) (fun pre a W1 ha hq hl => ?_) W
      (fun s A B row hs hg hr => ⟨hs.choose, hs.choose_spec.1, hJ _ A B row hs.choose_spec.2 hg hr⟩) (hT.below hW) (up hW h1) (up hW h2) ⟨[], rfl, h0⟩).mono ?_
    · obtain ⟨q, rfl, hq⟩ := hq
      have hl' : q.length < Z.length := by simpa [vals] using hl
      obtain ⟨fn, tmps, assign, body, hy, hR⟩ := hY q ⟨a, ha⟩ W1 hq hl'
      refine ⟨fn, tmps, assign, body, hy, hR.mono ?_⟩
      rintro e W' (⟨he, h1, h2⟩ | ⟨he, h1⟩)
      · exact .inl ⟨he, ⟨_, by simp [vals], h1⟩, h2⟩
      · exact .inr ⟨he, ⟨_, by simp [vals], h1⟩⟩
    · rintro e W' ⟨hv, ⟨xs, hx, q, hq, hJ⟩ | ⟨pre, hp, q, hq, hJ⟩⟩
      · exact ⟨hv, .inl ⟨q, hq.trans hx, hJ⟩⟩
      · exact ⟨hv, .inr ⟨q, by show vals q <+: _; rw [hq]; exact hp, hJ⟩⟩
variable {R : Value × Value} {F : Nat → Prop} {w w' : World} {g : Nat} {Z : List Pair}
end Go.Proofs.Ytmafibbnojdpjaa.Tr
end
section
set_option linter.unusedVariables false
set_option maxRecDepth 100000
set_option maxRecDepth 100000
set_option linter.unusedSimpArgs false
namespace Go.Proofs.Ytmafibbnojdpjaa.Tr
open Go.RowKit Go.Proofs.YtmafibbnojdpjaaW.PrintWords Go.Proofs.YtmafibbnojdpjaaW.PrintLast Go.Proofs.YtmafibbnojdpjaaW.PrintMore
def SrtZ (Z : List Pair) : Prop := Z.Pairwise fun a b => kl a.1 b.1
theorem srtZ_of {Z : List Pair} (h : Srt (Z.map zi)) : SrtZ Z := by
  unfold Srt at h
  rw [List.pairwise_map] at h
  exact h
theorem vals_snoc {Z : List Pair} (pre : List (El Z)) (a : El Z) : vals (pre ++ [a]) = vals pre ++ [a.1] := by simp [vals]
theorem Boxed.upB {W W' : World} {b : Nat} {t : TypeId} {v : Value} (h : Boxed W b t v) (hb : Below W.heap.size W W') : Boxed W' b t v := (hb.block b h.lt).trans h
theorem kl_nil (x : ByteArray) : ¬ kl x ⟨#[]⟩ := by
  unfold kl cmpS
  show ¬ Lib.compareBytes _ [] < 0
  cases x.data.toList with
  | nil => decide
  | cons a l => simp [Lib.compareBytes]
theorem fromL_all (Z : List Pair) : fromL Z ⟨#[]⟩ = Z := by
  unfold fromL
  refine List.filter_eq_self.2 (fun a _ => ?_)
  simp only [Bool.not_eq_true', decide_eq_false_iff_not]
  exact kl_nil a.1
end Go.Proofs.Ytmafibbnojdpjaa.Tr
end
section
set_option linter.unusedVariables false
set_option maxRecDepth 100000
set_option linter.unusedSimpArgs false
namespace Go.Proofs.Ytmafibbnojdpjaa.Tr
open Go.RowKit
theorem Kb.imp {B C : Nat → Prop} {W W' : World} (h : Kb C W W') (hBC : ∀ k, B k → C k) : Kb B W W' := ⟨h.size, fun k hk hl => h.block k (hBC k hk) hl⟩
/-- rows of writes: what a loop's body may fill -/
def Foe (o : Obj) : Prop := ∃ cs fr, o = .cells cs 31 fr
theorem not_foe_box {v : Value} {t : TypeId} (h : t ≠ 31) : ¬ Foe (.cells #[v] t (0, 0)) := fun ⟨_, _, e⟩ => by injection e with _ e2 _; exact h e2
theorem not_foe_cells {o : Obj} (h : o.isCells = false) : ¬ Foe o := fun ⟨_, _, e⟩ => by subst e; cases h
/-- what a round leaves: B's blocks; the iterator's own (all that isn't a row of writes) -/
structure Kf (F : Obj → Prop) (B : Nat → Prop) (n : Nat) (W W' : World) : Prop where
  size : W.heap.size ≤ W'.heap.size
  block : ∀ k, B k → k < W.heap.size → W'.heap[k]? = W.heap[k]?
  fresh : ∀ k o, n ≤ k → W.heap[k]? = some o → ¬ F o → W'.heap[k]? = some o
theorem Kf.trans {F : Obj → Prop} {B : Nat → Prop} {n : Nat} {a b c : World} (h : Kf F B n a b) (k : Kf F B n b c) : Kf F B n a c :=
  ⟨Nat.le_trans h.size k.size, fun i hi hl => (k.block i hi (Nat.lt_of_lt_of_le hl h.size)).trans (h.block i hi hl), fun i o hn ho hf => k.fresh i o hn (h.fresh i o hn ho hf) hf⟩
theorem Kf.kb {F : Obj → Prop} {B : Nat → Prop} {n : Nat} {a b : World} (h : Kf F B n a b) : Kb B a b := ⟨h.size, h.block⟩
theorem Kf.boxed {B : Nat → Prop} {n : Nat} {W W' : World} (h : Kf Foe B n W W') {b : Nat} {t : TypeId} {v : Value} (hn : n ≤ b) (ht : t ≠ 31) (hb : Boxed W b t v) : Boxed W' b t v := h.fresh b _ hn hb (not_foe_box ht)
theorem Kf.below {F : Obj → Prop} {B : Nat → Prop} {n : Nat} {W W' : World} (h : Below W.heap.size W W') : Kf F B n W W' := ⟨h.size, fun k _ hl => h.block k hl, fun k o _ ho _ => (h.block k (Array.getElem?_eq_some_iff.1 ho).1).trans ho⟩
/-- The iterator may turn blocks of its own that are no cells; a round leaves B's blocks and the iterator's own as they lay. -/
def SeqO {α : Type} (F : Obj → Prop) (n : Nat) (P : Program) (g : Nat) (lb : Array Value) (encs : α → Array Value) (B : Nat → Prop) (S Sp : List α → Prop) (N : Nat) (w : World) : Prop :=
  ∀ (l : Nat) (J Jx : List α → World → Prop) (W : World), Below w.heap.size w W → OwnFrom W.heap.size J → OwnFrom W.heap.size Jx →
    (∀ pre x W1, J pre W1 → pre.length < N → YieldAt Fence.wide (n - 1) P l (encs x) W1 fun e W' =>
      (e = .returned (.bool true) ∧ J (pre ++ [x]) W' ∧ Kf F B W.heap.size W1 W') ∨ (e = .returned (.bool false) ∧ Jx (pre ++ [x]) W' ∧ KeepsFrom W.heap.size W1 W')) →
    J [] W → CallsIn Fence.wide n P g (#[.func (.yield l) #[] #[]] ++ lb) W fun e W' => (∃ v, e = .returned v) ∧ ((∃ xs, S xs ∧ J xs W') ∨ (∃ pre, Sp pre ∧ Jx pre W'))
theorem abides_of_own {β : Type} {B : Nat} {J : β → World → Prop} (h : OwnFrom B J) : AbidesFrom B J := fun s W W' row hs hg hr =>
  h s W W' row hs hg (fun r e => by obtain ⟨h1, o, h2, h3⟩ := hr r e; exact ⟨h1, o, h2, Obj.not_cells_of_walk h3⟩)
theorem SeqO.of {α : Type} {F : Obj → Prop} {n : Nat} {P : Program} {g : Nat} {lb : Array Value} {encs : α → Array Value} {B : Nat → Prop} {S Sp : List α → Prop} {N : Nat} {w : World} (h : SeqStopsK Fence.wide n P g lb encs (Kb B) S Sp N w) :
    SeqO F n P g lb encs B S Sp N w := fun l J Jx W hW hJ hJx hY h0 => h l J Jx W hW (abides_of_own hJ) (abides_of_own hJx) (fun pre x W1 hj hl => (hY pre x W1 hj hl).mono (fun e W' q => by
      rcases q with ⟨h1, h2, h3⟩ | q
      · exact .inl ⟨h1, h2, h3.kb⟩
      · exact .inr ⟨q.1, q.2.1⟩)) h0
section
variable {α : Type} {n : Nat} {P : Program} {Q : Exit → Act → World → Prop} {a : Act} {w : World}
/-- one round of the loop whose record lies at l and is ready -/
theorem round_at {F : Fence} {m l : Nat} {W : World} {fn : Nat} {tmps : Array Value} {ps : Array Tmp} {assign body : Code} {df : Nat} {args : Array Value} {a₁ : Act} {R : Ending → World → Prop} (hfn : F.fn fn)
    (hl : W.heap[l]? = some (.loop { state := .ready, pending := none, fn := fn, tmps := tmps, params := ps, assign := assign, body := body, defers := df })) (hs : args.size = ps.size)
    (ha : ∀ (K : Act → World → Prop), K a₁ W → assign.wpIn (F.inRound l) m P (Exit.then K (fun _ _ _ => False)) { tmps := (ps.zip args).foldl (fun t (p, v) => t.setIfInBounds p v) tmps, defers := [] } W)
    (hb : body.wpIn (F.inRound l) m P (roundPost P l R) a₁ (W.putObj l (.loop { state := .busy, pending := none, fn := fn, tmps := tmps, params := ps, assign := assign, body := body, defers := df }))) : YieldAt F m P l args W R :=
  ⟨fn, _, assign, body, run_yield hl hs, roundIn_of_wpIn hfn (ha _ ⟨_, run_beginRound hl rfl, hb⟩)⟩
theorem rangeO {g : Operand} {ps : Array Tmp} {assign body : Code} {gf : Nat} {lb : Array Value} (hg : a.eval g = .func (.func gf) #[] lb) (eg : ∀ args w, (callFunc gf args).run P w = .ok (.enter gf args) w) (h1 : 1 ≤ n)
    {encs : α → Array Value} {F : Obj → Prop} {B : Nat → Prop} {S Sp : List α → Prop} {N : Nat} {w0 : World} (hseq : SeqO F (n - 1) P gf lb encs B S Sp N w0) (hb0 : Below w0.heap.size w0 w) (hB : ∀ k, B k → k < w.heap.size) (hps : ∀ x, (encs x).size = ps.size)
    (I : List α → World → Prop) (Ix : Code → List α → World → Prop) (hI : OwnFrom w.heap.size I) (hIx : ∀ c, OwnFrom w.heap.size (Ix c)) (h0 : I [] w) (a₁ : α → Act)
    (hassign : ∀ (l : Nat) (x : α) (W : World) (K : Act → World → Prop), K (a₁ x) W →
      assign.wpIn (Fence.wide.inRound l) (n - 1 - 1) P (Exit.then K (fun _ _ _ => False)) { tmps := (ps.zip (encs x)).foldl (fun t (p, v) => t.setIfInBounds p v) a.tmps, defers := [] } W)
    (hbody : ∀ (l : Nat) (pre : List α) (x : α) (W : World), I pre W → pre.length < N → body.wpIn (Fence.wide.inRound l) (n - 1 - 1) P (ownPostG w.heap.size (Kf F B (w.heap.size + 2)) I Ix (pre ++ [x]) W) (a₁ x) W)
    (hdone : ∀ (D : Nat) (xs : List α) (W : World), w.heap.size ≤ D → S xs → I xs W → W.heap[D]? = some (.deferred (some [])) → Q .normal { a with defers := { target := .collected D, args := #[] } :: a.defers } W)
    (hstop : ∀ (D : Nat) (c : Code) (pre : List α) (W : World), w.heap.size ≤ D → Sp pre → Ix c pre W → W.heap[D]? = some (.deferred (some [])) → c.wpIn Fence.wide n P Q { a with defers := { target := .collected D, args := #[] } :: a.defers } W) :
    (Code.rangeFunc g ps assign body).wpIn Fence.wide n P Q a w := by
  refine wpIn_rangeFunc fun fn hfn => ?_
  let rec0 : LoopState → Option Code → Loop := fun st pe => { state := st, pending := pe, fn := fn, tmps := a.tmps, params := ps, assign := assign, body := body, defers := w.heap.size }
  have hL : ((w.alloc (.deferred (some []))).alloc (.loop (rec0 .ready none))).heap[w.heap.size + 1]? = some (.loop (rec0 .ready none)) := by
    have := World.alloc_heap_new (w.alloc (.deferred (some []))) (.loop (rec0 .ready none))
    rwa [World.size_alloc] at this
  have hD : ((w.alloc (.deferred (some []))).alloc (.loop (rec0 .ready none))).heap[w.heap.size]? = some (.deferred (some [])) := (Below.heap_alloc _ _ _ (by simp)).trans (World.alloc_heap_new w _)
  have hs1 : ((w.alloc (.deferred (some []))).alloc (.loop (rec0 .ready none))).heap.size = w.heap.size + 2 := by simp
  have hI1 : I [] ((w.alloc (.deferred (some []))).alloc (.loop (rec0 .ready none))) := hI.alloc _ (hI.alloc _ h0)
  have hb1 : Below w0.heap.size w0 ((w.alloc (.deferred (some []))).alloc (.loop (rec0 .ready none))) := hb0.trans ((((Below.refl _ w).alloc (Nat.le_refl _) _).alloc (by simp) _).mono hb0.size)
  refine ⟨w.heap.size + 1, [{ target := .collected w.heap.size, args := #[] }], _, { target := .fn (.func gf) lb, args := #[.func (.yield (w.heap.size + 1)) #[] #[]] }, _, gf,
    #[.func (.yield (w.heap.size + 1)) #[] #[]] ++ lb, _, run_enterLoop_outer _ _ _ _ _, by simp only [resolve, hg]; simp [go_sem]; rfl, fun _ _ => trivial, by simp [invoke, go_sem, eg]; rfl, fun _ => h1, ?_⟩
  generalize (w.alloc (.deferred (some []))).alloc (.loop (rec0 .ready none)) = W1 at *
  -- the two blocks of the loop itself lie below the iterator's
  have far : ∀ {X Y : World} {row : Option Nat} {k : Nat} {o : Obj}, X.grownBy Y row → (∀ r, row = some r → W1.heap.size ≤ r ∧ ∃ o : Obj, X.heap[r]? = some o ∧ o.isCells = false) → k < w.heap.size + 2 → X.heap[k]? = some o → Y.heap[k]? = some o :=
    fun hgr hr hk ho => (hgr.block _ (Array.getElem?_eq_some_iff.1 ho).1 (fun e => by have := (hr _ e.symm).1; omega)).trans ho
  have up2 : ∀ {β : Type} {J : β → World → Prop} {s : β} {X Y : World} {row : Option Nat}, OwnFrom w.heap.size J → J s X → X.grownBy Y row → (∀ r, row = some r → W1.heap.size ≤ r ∧ ∃ o : Obj, X.heap[r]? = some o ∧ o.isCells = false) → J s Y :=
    fun hJ hs hgr hr => hJ _ _ _ _ hs hgr (fun r e => ⟨by have := (hr r e).1; omega, (hr r e).2⟩)
  refine (hseq (w.heap.size + 1) (fun pre W => I pre W ∧ W.heap[w.heap.size + 1]? = some (.loop (rec0 .ready none)) ∧ W.heap[w.heap.size]? = some (.deferred (some [])))
    (fun pre W => ∃ c, Ix c pre W ∧ W.heap[w.heap.size + 1]? = some (.loop (rec0 .done (some c))) ∧ W.heap[w.heap.size]? = some (.deferred (some []))) W1 hb1
    (fun s X Y row hs hgr hr => ⟨up2 hI hs.1 hgr hr, far hgr hr (by omega) hs.2.1, far hgr hr (by omega) hs.2.2⟩)
    (fun s X Y row hs hgr hr => by obtain ⟨c, q1, q2, q3⟩ := hs; exact ⟨c, up2 (hIx c) q1 hgr hr, far hgr hr (by omega) q2, far hgr hr (by omega) q3⟩)
    (fun pre x W hj hlen => ?_) ⟨hI1, hL, hD⟩).mono ?_
  · obtain ⟨q1, q2, q3⟩ := hj
    have hlt := (Array.getElem?_eq_some_iff.1 q2).1
    refine round_at (args := encs x) hfn q2 (hps x) (fun K hK => hassign _ x W K hK) (wpIn_mono (hbody _ pre x _ (hI.putObj _ q1 (by omega) q2 rfl) hlen) ?_)
    have p2 : (W.putObj (w.heap.size + 1) (.loop (rec0 .busy none))).heap[w.heap.size + 1]? = some (.loop (rec0 .busy none)) := World.putObj_heap_same hlt
    have p3 : (W.putObj (w.heap.size + 1) (.loop (rec0 .busy none))).heap[w.heap.size]? = some (.deferred (some [])) := (World.putObj_heap_other (by omega)).trans q3
    have over : ∀ (jump : Option Code) (W3 : World), KeepsFrom w.heap.size (W.putObj (w.heap.size + 1) (.loop (rec0 .busy none))) W3 →
        (Instr.endRound (w.heap.size + 1) jump).run P W3 = .ok (.bool jump.isNone) (W3.putObj (w.heap.size + 1) (.loop (rec0 (if jump.isNone then .ready else .done) jump))) ∧ W3.heap[w.heap.size + 1]? = some (.loop (rec0 .busy none)) ∧
        (W3.putObj (w.heap.size + 1) (.loop (rec0 (if jump.isNone then .ready else .done) jump))).heap[w.heap.size + 1]? = some (.loop (rec0 (if jump.isNone then .ready else .done) jump)) ∧
        (W3.putObj (w.heap.size + 1) (.loop (rec0 (if jump.isNone then .ready else .done) jump))).heap[w.heap.size]? = some (.deferred (some [])) := fun jump W3 hk => by
      have r2 := hk.same _ _ (by omega) p2 rfl
      exact ⟨run_endRound (P := P) jump r2, r2, World.putObj_heap_same (Array.getElem?_eq_some_iff.1 r2).1, (World.putObj_heap_other (by omega)).trans (hk.same _ _ (Nat.le_refl _) p3 rfl)⟩
    have gone : ∀ {W3 : World} {o : Obj}, KeepsFrom w.heap.size (W.putObj (w.heap.size + 1) (.loop (rec0 .busy none))) W3 → KeepsFrom W1.heap.size W (W3.putObj (w.heap.size + 1) o) := fun {W3 o} hk =>
      ⟨by have := hk.size; simpa using this, fun k o' hB1 ho hc => (World.putObj_heap_other (by omega)).trans (hk.same k o' (by omega) ((World.putObj_heap_other (by omega)).trans ho) hc)⟩
    intro e a3 W3 hp
    cases e with
    | normal =>
      obtain ⟨k1, k2, k3⟩ := hp
      obtain ⟨r1, r2, r3, r4⟩ := over none W3 k1
      have hput : ∀ (X : World) (o : Obj), Kf F B W1.heap.size X (X.putObj (w.heap.size + 1) o) := fun X o => ⟨by simp, fun k hk _ => World.putObj_heap_other (by have := hB k hk; omega), fun k o' hk ho _ => (World.putObj_heap_other (by omega)).trans ho⟩
      rw [← hs1] at k2
      refine ⟨_, _, r1, .inl ⟨rfl, ⟨hI.putObj _ k3 (by omega) r2 rfl, r3, r4⟩, ((hput W _).trans k2).trans (hput W3 _)⟩⟩
    | ret =>
      obtain ⟨r1, r2, r3, r4⟩ := over (some .ret) W3 hp.1
      exact ⟨_, _, r1, .inr ⟨rfl, ⟨.ret, (hIx _).putObj _ hp.2 (by omega) r2 rfl, r3, r4⟩, gone hp.1⟩⟩
    | exit id =>
      obtain ⟨r1, r2, r3, r4⟩ := over (some (.exit id)) W3 hp.1
      exact ⟨_, _, r1, .inr ⟨rfl, ⟨.exit id, (hIx _).putObj _ hp.2 (by omega) r2 rfl, r3, r4⟩, gone hp.1⟩⟩
    | goto t =>
      obtain ⟨r1, r2, r3, r4⟩ := over (some (.goto t)) W3 hp.1
      exact ⟨_, _, r1, .inr ⟨rfl, ⟨.goto t, (hIx _).putObj _ hp.2 (by omega) r2 rfl, r3, r4⟩, gone hp.1⟩⟩
    | panic ch => exact hp.elim
    | outgrown => exact hp.elim
  · rintro e W2 ⟨⟨v, rfl⟩, ⟨xs, hS, q1, q2, q3⟩ | ⟨pre, hS, c, q1, q2, q3⟩⟩
    · exact ⟨none, _, run_endLoop (P := P) q2 (by simp [rec0]), hdone _ xs _ (Nat.le_refl _) hS (hI.putObj _ q1 (by omega) q2 rfl) ((World.putObj_heap_other (by omega)).trans q3)⟩
    · exact ⟨some c, _, run_endLoop (P := P) q2 (by simp [rec0]), hstop _ c pre _ (Nat.le_refl _) hS ((hIx c).putObj _ q1 (by omega) q2 rfl) ((World.putObj_heap_other (by omega)).trans q3)⟩
end
end Go.Proofs.Ytmafibbnojdpjaa.Tr
end
section
set_option linter.unusedVariables false
set_option maxRecDepth 100000
set_option linter.unusedSimpArgs false
namespace Go.Proofs.Ytmafibbnojdpjaa.Tr
open Go.RowKit Go.Proofs.YtmafibbnojdpjaaW.PrintWords Go.Proofs.YtmafibbnojdpjaaW.PrintLast Go.Proofs.YtmafibbnojdpjaaW.PrintMore
attribute [local go_sem] Oper.semAt_some
def inTo (y : ByteArray) (a : Pair) : Bool := decide (y = ⟨#[]⟩) || decide (kl a.1 y)
def rangeL (Z : List Pair) (x y : ByteArray) : List Pair := (fromL Z x).filter (inTo y)
theorem inTo_mono {y : ByteArray} {a b : Pair} (h : kl a.1 b.1) (hb : inTo y b = true) : inTo y a = true := by
  unfold inTo at *
  rw [Bool.or_eq_true, decide_eq_true_eq, decide_eq_true_eq] at *
  rcases hb with hb | hb
  · exact .inl hb
  · exact .inr (kl_trans h hb)
theorem srt_from {Z : List Pair} (h : SrtZ Z) (x : ByteArray) : SrtZ (fromL Z x) := List.Pairwise.filter _ h
/-- all of a beginning below: the range begins so -/
theorem range_pre {Z : List Pair} {x y : ByteArray} {p : List Pair} (hp : p <+: fromL Z x) (ha : ∀ a ∈ p, inTo y a = true) : p <+: rangeL Z x y := by
  have := hp.filter (inTo y)
  rwa [List.filter_eq_self.2 ha] at this
theorem range_all {Z : List Pair} {x y : ByteArray} (ha : ∀ a ∈ fromL Z x, inTo y a = true) : rangeL Z x y = fromL Z x := List.filter_eq_self.2 ha
/-- the first that is not below ends the range -/
theorem range_end {Z : List Pair} (h : SrtZ Z) {x y : ByteArray} {p : List Pair} {b : Pair} (hp : p ++ [b] <+: fromL Z x) (ha : ∀ a ∈ p, inTo y a = true) (hb : inTo y b = false) : rangeL Z x y = p := by
  obtain ⟨t, ht⟩ := hp
  have hs := srt_from h x
  unfold rangeL
  rw [← ht] at hs ⊢
  rw [List.append_assoc, List.filter_append, List.filter_eq_self.2 ha, List.filter_eq_nil_iff.2, List.append_nil]
  intro c hc
  rw [List.singleton_append, List.mem_cons] at hc
  rcases hc with rfl | hc
  · rw [hb]; decide
  · intro hcc
    have hlt : kl b.1 c.1 := by
      rw [List.append_assoc] at hs
      have := (List.pairwise_append.1 hs).2.1
      exact (List.pairwise_cons.1 this).1 c hc
    rw [inTo_mono hlt hcc] at hb
    cases hb
theorem boxed_const {β : Type} (B : Nat) (b : Nat) (t : TypeId) (v : Value) : OwnFrom B (fun (_ : β) W => Boxed W b t v) := Own.from (boxed_own b t (fun _ => v)) B
theorem own_up {β : Type} {B B' : Nat} {I : β → World → Prop} (h : OwnFrom B I) (hb : B ≤ B') : OwnFrom B' I := fun s W W' row hs hg hr => h s W W' row hs hg (fun r e => ⟨Nat.le_trans hb (hr r e).1, (hr r e).2⟩)
set_option maxRecDepth 100000 in
set_option maxHeartbeats 4000000 in
theorem range_stops {R : Value × Value} (n : Nat) (hn : 2 ≤ n) (bt bf bo g : Nat) (B : Nat → Prop) (x y : ByteArray) (Z : List Pair) (w : World) (hB1 : B bt) (hB2 : B bf) (hB3 : B bo) (hlen : Z.length ≤ maxTree) (hT : TreeAt R B w g (Z.map zi))
    (h1 : Boxed w bt 149 (.pointer (some ⟨g, 0, none⟩))) (h2 : Boxed w bf 9 (.string x)) (h3 : Boxed w bo 9 (.string y)) (hBl : ∀ k, B k → k < w.heap.size) :
    SeqO Foe n Try.prog 108 #[.pointer (some ⟨bt, 0, none⟩), .pointer (some ⟨bf, 0, none⟩), .pointer (some ⟨bo, 0, none⟩)] (fun a : El Z => pe a.1) B (fun xs => vals xs = rangeL Z x y) (fun pre => vals pre <+: rangeL Z x y) Z.length w :=
  fun l J Jx W hW hJ hJx hY h0 => by
    have hn1 : 1 ≤ n := by omega
    have SZ := Aside0.mk (srtZ_of hT.srt)
    obtain ⟨V, hV⟩ : ∃ V, V = W.alloc (.cells #[.func (.yield l) #[] #[]] 114) := ⟨_, rfl⟩
    have hbV : Below W.heap.size W V := by rw [hV]; exact below_alloc (Below.refl _ _) _
    have hVs : V.heap.size = W.heap.size + 1 := by rw [hV, World.size_alloc]
    have YX : Boxed V W.heap.size 114 (.func (.yield l) #[] #[]) := by rw [hV]; exact Boxed.new _ _ _
    have hws := hW.size
    have b1 := Boxed.upB (Boxed.upB h1 hW) hbV
    have b2 := Boxed.upB (Boxed.upB h2 hW) hbV
    have b3 := Boxed.upB (Boxed.upB h3 hW) hbV
    have c1 := b1.cell
    have c2 := b2.cell
    have TV := Aside0.mk ((hT.below hW).below hbV)
    have B3 := Aside0.mk b3
    have HJ0 : Aside0 (J [] V) := ⟨by rw [hV]; exact hJ.alloc _ h0⟩
    have HY := Aside0.mk hY
    have HVS := Aside0.mk hVs
    have HBl : Aside0 (∀ k, B k → k < W.heap.size) := ⟨fun k hk => Nat.lt_of_lt_of_le (hBl k hk) hws⟩
    clear hT h1 h2 h3 b1 b2 b3 hY h0 hbV hVs
    refine callsIn_of_wp_marks Try.func108 rfl trivial ?_ rfl
    simp only [Try.ntmps108, List.size_toArray, List.length_cons, List.length_nil, Nat.reduceAdd, Nat.reduceSub, Array.replicate_succ, Array.replicate_zero, List.push_toArray, List.append_toArray, List.nil_append, List.cons_append]
    rw [hV] at c1 c2
    have HV := Aside0.mk hV
    clear hV
    gi_wp2_with (first
      | (refine ⟨trivial, ?_⟩; gi_at_call 79; refine (callsIn_wide.2 (from_any _ _ _)).mono ?_; rintro e w6 ⟨rfl, rfl⟩))
    have hV := HV.out
    have hVs := HVS.out
    rw [← hV, ← hVs]
    clear hV c1 c2
    obtain ⟨W2, hW2⟩ : ∃ W2, W2 = (V.alloc (.cells #[.pointer (some ⟨g, 0, none⟩)] 149)).alloc (.cells #[.string x] 9) := ⟨_, rfl⟩
    rw [← hW2]
    have hb2 : Below V.heap.size V W2 := by rw [hW2]; exact ((Below.refl _ _).alloc (Nat.le_refl _) _).alloc (by simp) _
    have hz2 : W2.heap.size = V.heap.size + 2 := by rw [hW2]; simp
    have bx1 : Boxed W2 V.heap.size 149 (.pointer (some ⟨g, 0, none⟩)) := by rw [hW2]; exact (Boxed.new _ _ _).alloc _
    have bx2 : Boxed W2 (V.heap.size + 1) 9 (.string x) := by
      rw [hW2]
      have := Boxed.new (V.alloc (.cells #[.pointer (some ⟨g, 0, none⟩)] 149)) 9 (.string x)
      rw [World.size_alloc] at this
      exact this
    have BX2 := Aside0.mk (And.intro bx1 bx2)
    have HJ2 : Aside0 (J [] W2) := ⟨by rw [hW2]; exact hJ.alloc _ (hJ.alloc _ HJ0.out)⟩
    clear hW2
    have hseq := SeqO.of (F := Foe) (from_stops (n - 1) (by omega) V.heap.size (V.heap.size + 1) g (fun k => B k ∨ k = V.heap.size ∨ k = V.heap.size + 1) x Z W2 (.inr (.inl rfl)) (.inr (.inr rfl)) hlen
      ((TV.out.turn (G := fun k => B k ∨ k = V.heap.size ∨ k = V.heap.size + 1) (fun k _ hk => .inl hk)).below hb2) bx1.cell bx2.cell)
    refine' rangeO rfl (enters_of Try.func103 (by kernel_rfl) rfl) (by omega) hseq (Below.refl _ _) (fun k hk => by rcases hk with hk | hk | hk; exact Nat.lt_trans (HBl.out k hk) (by omega); omega; omega) (fun _ => rfl)
      (fun pre X => (J pre X ∧ (∀ a ∈ vals pre, inTo y a = true)) ∧ (Boxed X W.heap.size 114 (.func (.yield l) #[] #[]) ∧ (Boxed X bo 9 (.string y) ∧ (Boxed X V.heap.size 149 (.pointer (some ⟨g, 0, none⟩)) ∧ Boxed X (V.heap.size + 1) 9 (.string x)))))
      (fun c pre X => c = .ret ∧ ((Jx pre X ∧ (∀ a ∈ vals pre, inTo y a = true)) ∨ (∃ (p : List (El Z)) (b : El Z), pre = p ++ [b] ∧ J p X ∧ (∀ a ∈ vals p, inTo y a = true) ∧ inTo y b.1 = false)))
      (OwnFrom.and (OwnFrom.and (own_up hJ (by omega)) (ownFrom_pure _ _)) (OwnFrom.and (boxed_const _ _ _ _) (OwnFrom.and (boxed_const _ _ _ _) (OwnFrom.and (boxed_const _ _ _ _) (boxed_const _ _ _ _)))))
      (fun c s A B row hs hg hr => ?hix)
      ⟨⟨HJ2.out, by simp [vals]⟩, ?hbx⟩ _ ?assign ?body ?done ?stop
    case hix =>
      obtain ⟨q0, hs⟩ := hs
      refine ⟨q0, ?_⟩
      rcases hs with ⟨q1, q2⟩ | ⟨p, b, q1, q2, q3⟩
      · exact .inl ⟨own_up hJx (by omega) _ _ _ _ q1 hg hr, q2⟩
      · exact .inr ⟨p, b, q1, own_up hJ (by omega) _ _ _ _ q2 hg hr, q3⟩
    case hbx => exact ⟨Boxed.upB YX hb2, Boxed.upB B3.out hb2, BX2.out⟩
    case assign =>
      intro l2 x W K hK
      dsimp only [pe]
      gi_wp2
      exact hK
    case body =>
      rintro l2 pre e X ⟨⟨hj, ha⟩, hy, hbo, hg1, hg2⟩ hl
      have c0 := hbo.cell
      have HG1 := Aside0.mk hg1
      have HG2 := Aside0.mk hg2
      clear hg1 hg2
      have cy := hy.cell
      obtain ⟨fn, tmps, asg, bdy, hyy, hF, hr⟩ := HY.out pre e X hj hl
      have hin : inTo y e.1 = true → ∀ a ∈ vals (pre ++ [e]), inTo y a = true := fun h a hm => by
        rw [vals_snoc, List.mem_append, List.mem_singleton] at hm
        rcases hm with hm | rfl
        · exact ha a hm
        · exact h
      have HIN := Aside0.mk hin
      have HA := Aside0.mk ha
      have HYB := Aside0.mk hy
      have HBO := Aside0.mk hbo
      have HJp := Aside0.mk hj
      obtain ⟨⟨ek, ev⟩, he⟩ := e
      simp only [pe] at hyy
      have HR := Aside0.mk hr
      clear hin ha hy hbo hr hF hj
      have step : ∀ (e' : Ending) (X' : World), (e' = .returned (.bool true) ∧ J (pre ++ [⟨(ek, ev), he⟩]) X' ∧ Kf Foe B W.heap.size X X') → inTo y (ek, ev) = true →
          KeepsFrom W2.heap.size X X' ∧ Kf Foe (fun k => B k ∨ k = V.heap.size ∨ k = V.heap.size + 1) (W2.heap.size + 2) X X' ∧ (J (pre ++ [⟨(ek, ev), he⟩]) X' ∧ (∀ a ∈ vals (pre ++ [⟨(ek, ev), he⟩]), inTo y a = true)) ∧ (Boxed X' W.heap.size 114 (.func (.yield l) #[] #[]) ∧ (Boxed X' bo 9 (.string y) ∧ (Boxed X' V.heap.size 149 (.pointer (some ⟨g, 0, none⟩)) ∧ Boxed X' (V.heap.size + 1) 9 (.string x)))) := fun e' X' h hi => by
        obtain ⟨_, h2, h3⟩ := h
        have g1 := h3.boxed (b := V.heap.size) (by omega) (by decide) HG1.out
        have g2 := h3.boxed (b := V.heap.size + 1) (by omega) (by decide) HG2.out
        refine ⟨⟨h3.size, fun k o hk ho hc => h3.fresh k o (by omega) ho (not_foe_cells hc)⟩, ⟨h3.size, fun k hk hl => ?_, fun k o hk ho hf => h3.fresh k o (by omega) ho hf⟩, ⟨h2, HIN.out hi⟩, h3.boxed (Nat.le_refl _) (by decide) HYB.out, (h3.block _ hB3 HBO.out.lt).trans HBO.out, g1, g2⟩
        rcases hk with hk | rfl | rfl
        · exact h3.block k hk hl
        · exact Eq.trans g1 (Eq.symm HG1.out)
        · exact Eq.trans g2 (Eq.symm HG2.out)
      have STEP := Aside0.mk step
      clear step
      by_cases hy0 : y = ⟨#[]⟩
      · have hi : inTo y (ek, ev) = true := by simp [inTo, hy0]
        have HI := Aside0.mk hi
        clear hi
        gi_wp2
        refine ⟨fun h => (by simp [Fence.wide] at h), RoundIn.mono (⟨trivial, fun c cs _ => HR.out c cs (room_wide _)⟩ : RoundIn (Fence.wide.inRound l2) _ Try.prog l fn tmps asg bdy X _) ?_⟩
        rintro e' X' (h | ⟨rfl, hj', hk'⟩)
        · have hq := Aside0.mk (STEP.out e' X' h HI.out)
          obtain rfl := h.1
          clear h
          gi_wp2
          exact hq.out
        · gi_wp2
          exact ⟨⟨hk'.size, fun k o hk ho hc => hk'.same k o (by omega) ho hc⟩, rfl, .inl ⟨hj', HIN.out HI.out⟩⟩
      · have hyE : y.toList.isEmpty = false := by
          rw [ByteArray.toList_eq]
          cases hd : y.data.toList with
          | nil => exact absurd (show y = ⟨#[]⟩ by cases y; simp at hd; rw [hd]) hy0
          | cons _ _ => rfl
        by_cases hkl : kl ek y
        · have hbl : Op.bytesLess ek.toList y.toList = true := by rw [cb_less, ByteArray.toList_eq, ByteArray.toList_eq]; exact decide_eq_true hkl
          have HI : Aside0 (inTo y (ek, ev) = true) := ⟨by simp [inTo, hkl]⟩
          gi_wp2
          refine ⟨fun h => (by simp [Fence.wide] at h), RoundIn.mono (⟨trivial, fun c cs _ => HR.out c cs (room_wide _)⟩ : RoundIn (Fence.wide.inRound l2) _ Try.prog l fn tmps asg bdy X _) ?_⟩
          rintro e' X' (h | ⟨rfl, hj', hk'⟩)
          · have hq := Aside0.mk (STEP.out e' X' h HI.out)
            obtain rfl := h.1
            clear h
            gi_wp2
            exact hq.out
          · gi_wp2
            exact ⟨⟨hk'.size, fun k o hk ho hc => hk'.same k o (by omega) ho hc⟩, rfl, .inl ⟨hj', HIN.out HI.out⟩⟩
        · have hbl : Op.bytesLess ek.toList y.toList = false := by rw [cb_less, ByteArray.toList_eq, ByteArray.toList_eq]; exact decide_eq_false hkl
          have HI : Aside0 (inTo y (ek, ev) = false) := ⟨by simp [inTo, hy0, hkl]⟩
          gi_wp2
          refine ⟨fun _ h => (by cases h), ?_⟩
          gi_wp2
          exact ⟨KeepsFrom.refl _ _, rfl, .inr ⟨pre, _, rfl, HJp.out, HA.out, HI.out⟩⟩
    case done =>
      rintro D xs X hD hxs ⟨⟨hj, ha⟩, _⟩ hK
      replace hxs : vals xs = fromL Z x := hxs
      rw [hxs] at ha
      gi_wp2
      refine ⟨by simp, .inl ⟨_, _, rfl, run_takeDeferred hK, ?_⟩⟩
      exact ⟨_, results_none rfl _ _ _, ⟨_, rfl⟩, .inl ⟨xs, hxs.trans (range_all ha).symm, hJ.putObj _ hj (by omega) hK rfl⟩⟩
    case stop =>
      rintro D c pre X hD hsp ⟨rfl, hx⟩ hK
      replace hsp : vals pre <+: fromL Z x := hsp
      gi_wp2
      refine ⟨by simp, .inl ⟨_, _, rfl, run_takeDeferred hK, ?_⟩⟩
      refine ⟨_, results_none rfl _ _ _, ⟨_, rfl⟩, ?_⟩
      rcases hx with ⟨q1, q2⟩ | ⟨p, b, rfl, q1, q2, q3⟩
      · exact .inr ⟨pre, range_pre hsp q2, hJx.putObj _ q1 (by omega) hK rfl⟩
      · rw [vals_snoc] at hsp
        exact .inl ⟨p, (range_end SZ.out hsp q2 q3).symm, hJ.putObj _ q1 (by omega) hK rfl⟩
end Go.Proofs.Ytmafibbnojdpjaa.Tr
end
section
set_option linter.unusedVariables false
set_option maxRecDepth 100000
set_option linter.unusedSimpArgs false
namespace Go.Proofs.Ytmafibbnojdpjaa.Tr
open Go.RowKit Go.Proofs.YtmafibbnojdpjaaW.PrintWords Go.Proofs.YtmafibbnojdpjaaW.PrintLast Go.Proofs.YtmafibbnojdpjaaW.PrintMore
theorem range_any (p : Option Addr) (x y : ByteArray) (w : World) : Calls Try.prog 85 #[.pointer p, .string x, .string y] w fun e w' =>
    e = .returned (.func (.func 108) #[] #[.pointer (some ⟨w.heap.size, 0, none⟩), .pointer (some ⟨w.heap.size + 1, 0, none⟩), .pointer (some ⟨w.heap.size + 2, 0, none⟩)]) ∧ w' = ((w.alloc (.cells #[.pointer p] 149)).alloc (.cells #[.string x] 9)).alloc (.cells #[.string y] 9) := by
  go_enter Try.func85, Try.ntmps85
  go_wp2
  go_ret
  exact ⟨rfl, rfl⟩
section
variable {α : Type} {n : Nat} {P : Program} {Q : Exit → Act → World → Prop} {a : Act} {w : World}
end
end Go.Proofs.Ytmafibbnojdpjaa.Tr
end
