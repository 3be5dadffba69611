/- Tree, by hand: From: the iterator. -/
import Derived.RangeFuncNested
import Derived.RangeFuncBound
import Derived.RangeFuncCalls
import Derived.RangeFuncLeaves
import Derived.Shelf.Abstract
import Derived.Shelf.RegionOpen
import Derived.WalkKit
import Derived.OwnWalkIn
import Derived.TacticsInMore
import Derived.LoopNIn
import Derived.LoopIn
import Derived.Scope
import Derived.Test.YtmpcmpanolnpfaaTw
set_option linter.unusedVariables false
set_option linter.unusedSimpArgs false
namespace Go.Proofs.Ytmpcmpanolnpfaa.Tr
open Go.RowKit Go.Proofs.YtmpcmpanolnpfaaW.PrintWords Go.Proofs.YtmpcmpanolnpfaaW.PrintLast Go.Proofs.YtmpcmpanolnpfaaW.PrintMore
attribute [local go_sem] Oper.semAt_some

set_option maxHeartbeats 1000000 in
theorem from_any (p : Option Addr) (x : ByteArray) (w : World) : Calls Try.prog 13 #[.pointer p, .string x] w fun e w' =>
    e = .returned (.func (.func 30) #[] #[.pointer (some ⟨w.heap.size, 0, none⟩), .pointer (some ⟨w.heap.size + 1, 0, none⟩)]) ∧ w' = (w.alloc (.cells #[.pointer p] 25)).alloc (.cells #[.string x] 9) := by
  go_enter Try.func13, Try.ntmps13
  go_wp2
  go_ret
  exact ⟨rfl, rfl⟩
theorem noGoto_normal {Q : Exit → Act → World → Prop} {a : Act} {w : World} (h : Q .normal a w) : Exit.noGoto Q .normal a w := h
abbrev Pair := ByteArray × Int
def zi (a : Pair) : Item := (a.1, .int .i64 a.2)
def pe (a : Pair) : Array Value := #[.string a.1, .int .i64 a.2]
set_option maxRecDepth 100000 in
set_option maxHeartbeats 2000000 in
theorem from_nil (l bt bk : Nat) (x : ByteArray) (J : List Pair → World → Prop) (W : World) (h1 : W.cell? ⟨bt, 0, none⟩ = some (.pointer none)) (h2 : W.cell? ⟨bk, 0, none⟩ = some (.string x)) (h0 : J [] W) (n : Nat) (hn : 1 ≤ n) :
    CallsIn Fence.wide n Try.prog 30 #[.func (.yield l) #[] #[], .pointer (some ⟨bt, 0, none⟩), .pointer (some ⟨bk, 0, none⟩)] W fun e W' => (∃ v, e = .returned v) ∧ J [] W' := by
  refine callsIn_of_wp Try.func30 rfl trivial ?_ rfl
  simp only [Try.ntmps30, List.size_toArray, List.length_cons, List.length_nil, Nat.reduceAdd, Nat.reduceSub, Array.replicate_succ, Array.replicate_zero, List.push_toArray, List.append_toArray, List.nil_append, List.cons_append]
  refine wpIn_wide.2 (wp_scope_straight (wpIn_wide (n := n).1 ?_))
  gi_wp2_with (refine ⟨trivial, ?_⟩; gi_at_call 23; refine (callsIn_wide.2 (find_nil x _)).mono ?_; rintro e w1 ⟨rfl, rfl⟩)
  refine wpIn_label ?_
  gi_wp2
  gi_loopw [4] (fun i wr => i = .int .i64 0 ∧ J [] wr ∧ wr.cell? ⟨bt, 0, none⟩ = some (.pointer none)) (fun _ _ => 0)
  case atStart => exact ⟨rfl, h0, h1⟩
  case round =>
    obtain ⟨rfl, hJs, h1⟩ := hrel
    gi_wp2
    refine noGoto_normal ?_
    go_end0
    exact ⟨⟨_, rfl⟩, hJs⟩
/-- the blocks of B lie as they lay -/
structure Kb (B : Nat → Prop) (W W' : World) : Prop where
  size : W.heap.size ≤ W'.heap.size
  block : ∀ k, B k → k < W.heap.size → W'.heap[k]? = W.heap[k]?
section
variable {B : Nat → Prop} {W W1 W2 : World}
theorem Kb.refl (B : Nat → Prop) (W : World) : Kb B W W := ⟨Nat.le_refl _, fun _ _ _ => rfl⟩
theorem Kb.trans (h : Kb B W W1) (k : Kb B W1 W2) : Kb B W W2 := ⟨Nat.le_trans h.size k.size, fun i hi hl => (k.block i hi (Nat.lt_of_lt_of_le hl h.size)).trans (h.block i hi hl)⟩
theorem Kb.below (h : Below W.heap.size W W1) : Kb B W W1 := ⟨h.size, fun k _ hl => h.block k hl⟩
theorem Kb.alloc (W : World) (o : Obj) : Kb B W (W.alloc o) := .below (below_alloc (Below.refl _ _) _)
theorem Kb.cell (h : Kb B W W1) {b i : Nat} {v : Value} (hB : B b) (hc : W.cell? ⟨b, i, none⟩ = some v) : W1.cell? ⟨b, i, none⟩ = some v := (World.cell?_of_block (h.block b hB (World.block_lt_of_cell? W ⟨b, i, none⟩ hc))).trans hc
theorem TreeM.keptB {g : Nat} {S : Value} {M : List Leaf} {z : Int} (h : TreeM B W g S M z) (hk : Kb B W W1) : TreeM B W1 g S M z := h.kept hk.block
theorem TreeAt.keptB {g : Nat} {L : List Item} (h : TreeAt B W g L) (hk : Kb B W W1) : TreeAt B W1 g L := h.kept hk.block
end
def fromL (Z : List Pair) (x : ByteArray) : List Pair := Z.filter fun a => !decide (kl a.1 x)
theorem map_filter_zi (Z : List Pair) (p : ByteArray → Bool) : (Z.filter fun a => p a.1).map zi = (Z.map zi).filter fun a => p a.1 := by
  induction Z with
  | nil => rfl
  | cons a Z ih =>
    rw [List.map_cons, List.filter_cons, List.filter_cons]
    show _ = if p a.1 = true then _ else _
    cases p a.1 with
    | true => rw [if_pos rfl, if_pos rfl, List.map_cons, ih]
    | false => rw [if_neg (by simp), if_neg (by simp), ih]
/-- where the walk begins: all from x on lie behind that place -/
theorem from_start {T : List (List Item)} (h : TOk T) (x : ByteArray) : (T.drop (findT T x).1).flatten.drop (findT T x).2.1 = T.flatten.filter (fun a => !decide (kl a.1 x)) ∧ ((findT T x).1 < T.length → (findT T x).2.1 ≤ (lf T (findT T x).1).length) := by
  by_cases hT : T = []
  · subst hT
    exact ⟨by simp, fun e => by cases e⟩
  obtain ⟨hi, hk, hP, hQ, _⟩ := findT_spec h hT x
  generalize (findT T x).1 = i at *
  generalize (findT T x).2.1 = k at *
  refine ⟨?_, fun _ => hk⟩
  have hd : T.drop i = lf T i :: T.drop (i + 1) := by
    rw [List.drop_eq_getElem_cons hi]
    simp [lf, List.getD, hi]
  rw [hd, List.flatten_cons, List.drop_append_of_le_length hk]
  have hL : T.flatten = ((T.take i).flatten ++ (lf T i).take k) ++ ((lf T i).drop k ++ (T.drop (i + 1)).flatten) := by
    rw [flat_split hi, List.append_assoc, List.append_assoc, ← List.append_assoc ((lf T i).take k), List.take_append_drop]
  rw [hL, List.filter_append, List.filter_eq_nil_iff.2 (fun a ha => by simpa using hP a ha), List.nil_append, List.filter_eq_self.2 (fun a ha => by simpa using hQ a ha)]
theorem findT_fst_le (T : List (List Item)) (x : ByteArray) : (findT T x).1 ≤ T.length := by
  unfold findT
  split
  · exact Nat.zero_le _
  · have := lsrch_le T x
    simp only
    omega
set_option maxRecDepth 100000 in
set_option maxHeartbeats 4000000 in
theorem from1 (l bt bk g n : Nat) (hn : 1 ≤ n) (B : Nat → Prop) (hB1 : B bt) (hB2 : B bk) (x : ByteArray) (Z : List Pair) (hlen : Z.length ≤ maxTree) (J Jx : List Pair → World → Prop)
    (hY : ∀ pre a W1, a ∈ Z → J pre W1 → pre.length < Z.length → YieldAt Fence.wide (n - 1) Try.prog l (pe a) W1 fun e W' =>
      (e = .returned (.bool true) ∧ J (pre ++ [a]) W' ∧ Kb B W1 W') ∨ (e = .returned (.bool false) ∧ Jx (pre ++ [a]) W'))
    (W : World) (hJa : AbidesFrom W.heap.size J) (hT : TreeAt B W g (Z.map zi)) (h1 : W.cell? ⟨bt, 0, none⟩ = some (.pointer (some ⟨g, 0, none⟩))) (h2 : W.cell? ⟨bk, 0, none⟩ = some (.string x)) (h0 : J [] W) :
    CallsIn Fence.wide n Try.prog 30 #[.func (.yield l) #[] #[], .pointer (some ⟨bt, 0, none⟩), .pointer (some ⟨bk, 0, none⟩)] W fun e W' => (∃ v, e = .returned v) ∧
      ((∃ xs, xs = fromL Z x ∧ J xs W') ∨ (∃ pre, pre <+: fromL Z x ∧ Jx pre W')) := by
  obtain ⟨S, M, hM, hTo, hfl⟩ := hT
  have hs : Small M := small_of hTo (by rw [hfl, List.length_map]; exact hlen)
  have hf := findM hM hs x
  obtain ⟨st1, st2⟩ := from_start hTo x
  have htot : (fromL Z x).map zi = (tl M).flatten.filter (fun a => !decide (kl a.1 x)) := by
    rw [hfl]; exact map_filter_zi Z (fun k => !decide (kl k x))
  rw [← htot] at st1
  have hMl := hs.len
  have htl : (tl M).length = M.length := tl_length M
  have hfll : (fromL Z x).length ≤ Z.length := List.length_filter_le _ _
  have hmem : ∀ a ∈ fromL Z x, a ∈ Z := fun a ha => (List.mem_filter.1 ha).1
  have hi00 : (findT (tl M) x).1 ≤ M.length := by rw [← htl]; exact findT_fst_le (tl M) x
  generalize (findT (tl M) x).1 = i0 at *
  generalize (findT (tl M) x).2.1 = k0 at *
  generalize (findT (tl M) x).2.2 = th at *
  generalize htt : fromL Z x = tot at *
  have HF := Aside0.mk hf
  have HM := Aside0.mk hM
  have HY := Aside0.mk hY
  have HJ := Aside0.mk hJa
  have HS := Aside0.mk hs
  have H0 := Aside0.mk h0
  have ST1 := Aside0.mk st1
  have ST2 := Aside0.mk st2
  have HTT := Aside0.mk htt
  have HME := Aside0.mk hmem
  clear hmem hf hM hY hJa hs h0 st1 st2 htt htot hfl
  refine callsIn_of_wp Try.func30 rfl trivial ?_ rfl
  simp only [Try.ntmps30, List.size_toArray, List.length_cons, List.length_nil, Nat.reduceAdd, Nat.reduceSub, Array.replicate_succ, Array.replicate_zero, List.push_toArray, List.append_toArray, List.nil_append, List.cons_append]
  refine wpIn_wide.2 (wp_scope_straight (wpIn_wide (n := n).1 ?_))
  gi_wp2_with (refine ⟨trivial, ?_⟩; gi_at_call 23; refine (callsIn_wide.2 HF.out).mono ?_; rintro e w1 ⟨rfl, hb⟩; have h1 := up hb h1; have h2 := up hb h2; have HB := Aside0.mk hb; clear hb)
  refine wpIn_label ?_
  gi_wp2
  gi_loopw [4, 5] (fun v4 v5 wr => ∃ i k p : Nat, v4 = .int .i64 (i : Int) ∧ v5 = .int .i64 (k : Int) ∧ i ≤ M.length ∧ p ≤ tot.length ∧ Aside0 (((tl M).drop i).flatten.drop k = (tot.drop p).map zi) ∧ Aside0 (i < M.length → k ≤ (lf (tl M) i).length) ∧
      Aside0 (J (tot.take p) wr) ∧ Aside0 (TreeM B wr g S M ((Z.map zi).length : Int)) ∧ wr.cell? ⟨bt, 0, none⟩ = some (.pointer (some ⟨g, 0, none⟩)) ∧ wr.cell? ⟨bk, 0, none⟩ = some (.string x) ∧ W.heap.size ≤ wr.heap.size)
    (fun v4 _ _ => M.length - (intOf v4).toNat)
  case atStart => exact ⟨i0, k0, 0, rfl, rfl, hi00, Nat.zero_le _, ST1, ⟨fun e => ST2.out (by rw [htl]; exact e)⟩, ⟨HJ.out _ _ _ none H0.out (below_grown HB.out none) (fun r e => by cases e)⟩, ⟨HM.out.below HB.out⟩, h1, h2, HB.out.size⟩
  case round =>
    obtain ⟨i, k, p, rfl, rfl, hil, hpl, HR, HK, HJs, HMr, h1, h2, hsz⟩ := hrel
    have c0 := HMr.out.c0
    by_cases hi : i < M.length
    · obtain ⟨⟨b, cap, lf1⟩, hm⟩ : ∃ m, M[i]? = some m := ⟨_, List.getElem?_eq_getElem hi⟩
      obtain ⟨sb, c, e1, e2, e3, e4, e5⟩ := HMr.out.leafAt hm
      rw [e1] at c0
      change wr.cell? _ = some (.slice (some ⟨b, 0, none⟩) lf1.length cap) at e3
      have hlf : lf (tl M) i = lf1 := lf_tl hm
      have hkl := HK.out hi
      rw [hlf] at hkl
      obtain ⟨o1, o2, _⟩ := own_caps (HMr.out.leaf _ (List.mem_of_getElem? hm)).own
      change lf1.length ≤ cap at o1
      have hll := HS.out.each _ (List.mem_of_getElem? hm)
      change lf1.length ≤ _ at hll
      have a0 : (0 : Int) ≤ (i : Int) := by omega
      have a1 : (i : Int) < (M.length : Int) := by omega
      have a2 : (0 : Int) ≤ (k : Int) := by omega
      have a3 : (k : Int) ≤ (lf1.length : Int) := by omega
      have hR' : Aside0 ((tot.drop p).map zi = lf1.drop k ++ ((tl M).drop (i + 1)).flatten) := ⟨by
        have hd : (tl M).drop i = lf1 :: (tl M).drop (i + 1) := by
          rw [List.drop_eq_getElem_cons (by rw [htl]; exact hi), ← hlf]
          simp [lf, List.getD, (by rw [htl]; exact hi : i < (tl M).length)]
        rw [← HR.out, hd, List.flatten_cons, List.drop_append_of_le_length hkl]⟩
      obtain ⟨A, hA, hAd⟩ : ∃ A : Addr, (if cap = k then some (⟨b, 0, none⟩ : Addr) else some ⟨b, k * 2, none⟩) = some A ∧ Aside0 (k < lf1.length → A = ⟨b, k * 2, none⟩) := by
        by_cases h : cap = k
        · exact ⟨⟨b, 0, none⟩, by simp [h], ⟨fun q => by omega⟩⟩
        · exact ⟨⟨b, k * 2, none⟩, by simp [h], ⟨fun _ => rfl⟩⟩
      have HMi := Aside0.mk hm
      have HLF := Aside0.mk hlf
      clear hm hlf HK HR e1
      gi_wp2
      gi_loopw [39] (fun v39 wq => ∃ j : Nat, v39 = .int .i64 (j : Int) ∧ j ≤ lf1.length - k ∧ p + j ≤ tot.length ∧ Aside0 (J (tot.take (p + j)) wq) ∧ Aside0 (TreeM B wq g S M ((Z.map zi).length : Int)) ∧ wq.cell? ⟨bt, 0, none⟩ = some (.pointer (some ⟨g, 0, none⟩)) ∧ wq.cell? ⟨bk, 0, none⟩ = some (.string x) ∧ W.heap.size ≤ wq.heap.size)
        (fun v39 _ => (lf1.length - k) - (intOf v39).toNat)
      case atStart => exact ⟨0, rfl, by omega, by omega, HJs, HMr, h1, h2, hsz⟩
      case round =>
        obtain ⟨j, rfl, hj, hpj, HJq, HMq, h1, h2, hsz⟩ := hrel
        by_cases hjl : j < lf1.length - k
        · have hA2 := hAd.out (by omega)
          subst hA2
          have hkj : k + j < lf1.length := by omega
          obtain ⟨ad, ea, f0, f1⟩ := (HMq.out.leaf _ (List.mem_of_getElem? HMi.out)).items (k + j) hkj
          cases ea
          rw [Addr.add_lit, Nat.zero_add] at f0 f1
          have hget : (lf1.drop k ++ ((tl M).drop (i + 1)).flatten)[j]? = some lf1[k + j] := by
            rw [List.getElem?_append_left (by rw [List.length_drop]; omega), List.getElem?_drop, List.getElem?_eq_getElem hkj]
          have hpl2 : p + j < tot.length := by
            have h1 : j < (lf1.drop k ++ ((tl M).drop (i + 1)).flatten).length := (List.getElem?_eq_some_iff.1 hget).1
            rw [← hR'.out, List.length_map, List.length_drop] at h1
            omega
          obtain ⟨a, ha⟩ : ∃ a, a = tot[p + j] := ⟨_, rfl⟩
          have hza : itm lf1 (k + j) = zi a := by
            rw [← hR'.out, List.getElem?_map, List.getElem?_drop, List.getElem?_eq_getElem hpl2] at hget
            simp only [Option.map_some, Option.some.injEq] at hget
            rw [itm_eq hkj, ← hget, ha]
          rw [hza, show (k + j) * 2 = k * 2 + j * 2 by omega] at f0 f1
          change wr.cell? ⟨b, k * 2 + j * 2, none⟩ = some (.string a.1) at f0
          change wr.cell? ⟨b, k * 2 + j * 2 + 1, none⟩ = some (.int .i64 a.2) at f1
          have hJ2 := HJ.out _ _ (wr.alloc (.cells #[.string a.1, .int .i64 a.2] 64)) none HJq.out (World.grownBy_alloc wr _ none) (fun r e => by cases e)
          obtain ⟨fn, tmps, assign, body, hy, hR⟩ := HY.out _ a _ (HME.out a (by rw [ha]; exact List.getElem_mem _)) hJ2 (by rw [List.length_take]; omega)
          simp only [pe] at hy
          have hnext : tot.take (p + j) ++ [a] = tot.take (p + j + 1) := by rw [ha, List.take_succ_eq_append_getElem hpl2]
          have HN := Aside0.mk hnext
          have HR1 := Aside0.mk hR
          clear hR hnext hJ2 hza hget ha
          gi_wp2
          refine HR1.out.mono ?_
          rintro e W3 (⟨rfl, hJ3, hk3⟩ | ⟨rfl, hJx3⟩)
          · have hka := (Kb.alloc (B := B) wr (.cells #[.string a.1, .int .i64 a.2] 64)).trans hk3
            rw [HN.out] at hJ3
            have HJ3 := Aside0.mk hJ3
            have HM3 := Aside0.mk (HMq.out.keptB hka)
            have k1 := hka.cell hB1 h1
            have k2 := hka.cell hB2 h2
            have hsz3 : W.heap.size ≤ W3.heap.size := Nat.le_trans hsz hka.size
            clear hJ3 hka hk3 hy
            gi_wp2
            go_roundw
            case rel => exact ⟨j + 1, by simp, by omega, by omega, HJ3, HM3, k1, k2, hsz3⟩
            case measure => simp [intOf]; omega
          · rw [HN.out] at hJx3
            gi_wp2
            refine noGoto_normal ?_
            go_end0
            exact ⟨⟨_, rfl⟩, .inr ⟨_, List.take_prefix _ _, hJx3⟩⟩
        · obtain rfl : j = lf1.length - k := by omega
          gi_wp2
          refine ⟨⟨i + 1, 0, p + (lf1.length - k), by simp, rfl, by omega, by omega, ⟨?_⟩, ⟨fun _ => Nat.zero_le _⟩, HJq, HMq, h1, h2, hsz⟩, by simp [intOf]; omega⟩
          have hdd : tot.drop (p + (lf1.length - k)) = (tot.drop p).drop (lf1.length - k) := by rw [List.drop_drop]
          rw [List.drop_zero, hdd, List.map_drop, hR'.out, List.drop_left' (by rw [List.length_drop])]
    · obtain rfl : i = M.length := by omega
      have hall : tot.take p = tot := by
        have h := HR.out
        rw [show (tl M).drop M.length = [] from List.drop_of_length_le (by rw [htl]; exact Nat.le_refl _), List.flatten_nil, List.drop_nil] at h
        have h2 := congrArg List.length h
        rw [List.length_nil, List.length_map, List.length_drop] at h2
        exact List.take_of_length_le (by omega)
      have hJe := HJs.out
      rw [hall] at hJe
      have HJe := Aside0.mk hJe
      obtain ⟨A, c, e1, _⟩ := HMr.out.leaves HS.out.pos
      rw [e1, List.length_map] at c0
      clear hJe hall e1
      gi_wp2
      refine noGoto_normal ?_
      go_end0
      exact ⟨⟨_, rfl⟩, .inl ⟨_, rfl, HJe.out⟩⟩
end Go.Proofs.Ytmpcmpanolnpfaa.Tr
