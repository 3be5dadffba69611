/- Claims, by hand: Of. -/
import Derived.Test.YtpfpejkndjdgkaaQa
import Derived.Test.YtpfpejkndjdgkaaQs
import Derived.Sort.OwnSorted
import Derived.RangeFuncLeaves
import Derived.LoopIn
import Derived.TacticsInMore
set_option linter.unusedVariables false
set_option linter.unusedSimpArgs false
namespace Go.Proofs.Ytpfpejkndjdgkaa.Q
open Go.RowKit Go.Maps Go.WideMaps Go.Proofs.YtpfpejkndjdgkaaW.PrintWords Go.Proofs.YtpfpejkndjdgkaaW.PrintLast Go.Proofs.YtpfpejkndjdgkaaW.PrintMore
attribute [local go_sem] Oper.semAt_some

/-- the keys at which who is, not yet in order -/
def rawC (C : List Pair) (who : Int) : List (List UInt8) := (C.filter fun a => decide (a.2 = who)).map fun a => a.1.data.toList
theorem mem_raw {C : List Pair} {who : Int} {x : List UInt8} : x ∈ rawC C who ↔ ∃ a ∈ C, a.2 = who ∧ a.1.data.toList = x := by
  unfold rawC
  rw [List.mem_map]
  constructor
  · rintro ⟨a, ha, e⟩
    rw [List.mem_filter, decide_eq_true_eq] at ha
    exact ⟨a, ha.1, ha.2, e⟩
  · rintro ⟨a, h1, h2, e⟩
    exact ⟨a, by rw [List.mem_filter, decide_eq_true_eq]; exact ⟨h1, h2⟩, e⟩
theorem raw_nodup {C : List Pair} (h : NdC C) (who : Int) : (rawC C who).Nodup := by
  unfold rawC
  refine List.pairwise_map.2 ((List.Pairwise.filter _ h).imp (fun {a b} hne e => hne (ext_data e)))
/-- what has been collected while entries are still to come -/
def PartC (C : List Pair) (who : Int) (left : Lit → Bool) (ss : List (List UInt8)) : Prop := ss.Nodup ∧ ∀ x, x ∈ ss ↔ (x ∈ rawC C who ∧ left (.string x) = false)
theorem PartC.add {C : List Pair} {who : Int} {left : Lit → Bool} {ss : List (List UInt8)} (h : PartC C who left ss) {x : List UInt8} (hl : left (.string x) = true) (hx : x ∈ rawC C who) : PartC C who (fun z => left z && !z.sameKey (.string x)) (ss ++ [x]) := by
  have hnew : x ∉ ss := fun hx => by have := ((h.2 x).1 hx).2; rw [hl] at this; cases this
  refine ⟨List.nodup_append.2 ⟨h.1, by simp, fun a ha b hb => by simp at hb; subst hb; exact fun e => hnew (e ▸ ha)⟩, fun y => ?_⟩
  by_cases hy : y = x
  · subst hy; simp [hx, Lit.sameKey]
  · simp [h.2 y, hy, Lit.sameKey]
theorem PartC.skip {C : List Pair} {who : Int} {left : Lit → Bool} {ss : List (List UInt8)} (h : PartC C who left ss) {x : List UInt8} (hl : left (.string x) = true) (hx : x ∉ rawC C who) : PartC C who (fun z => left z && !z.sameKey (.string x)) ss := by
  refine ⟨h.1, fun y => ?_⟩
  by_cases hy : y = x
  · subst hy
    rw [h.2 y]
    simp [hx]
  · simp [h.2 y, hy, Lit.sameKey]
theorem PartC.done {C : List Pair} (hn : NdC C) {who : Int} {left : Lit → Bool} {ss : List (List UInt8)} (h : PartC C who left ss) (hl : ∀ kl, left kl = false) : ss.mergeSort leB = ofC C who := by
  refine mergeSort_of_perm ((List.perm_ext_iff_of_nodup h.1 (raw_nodup hn who)).2 fun x => ?_)
  rw [h.2 x, hl]
  simp
theorem of_length (C : List Pair) (who : Int) : (ofC C who).length = (C.filter fun a => decide (a.2 = who)).length := by
  unfold ofC
  rw [List.length_mergeSort, List.length_map]
theorem info9 : (Try.prog.info? 9).map (fun i => (i.zero, i.size, i.bytes)) = some (some (.string ⟨#[]⟩), 1, 16) := by kernel_rfl
set_option maxRecDepth 100000 in
set_option maxHeartbeats 4000000 in
theorem of_in {w : World} {p b n : Nat} {C : List Pair} (h : ClaimAt w p b n C) (hn : n ≤ 1000000) (who : Int) :
    CallsIn Fence.wide 4 Try.prog 14 #[.pointer (some ⟨p, 0, none⟩), .int .i64 who] w fun e w' => ∃ v, e = .returned v ∧ w'.ownsRow w.heap.size 9 1 v (ofC C who).length ((ofC C who).map encStr) ∧ Below w.heap.size w w' := by
  obtain ⟨D, hm⟩ := h.map
  have hown := hm.own
  have c0 := h.c0
  have hsz := hown.size_le
  have HM := Aside0.mk hm
  have hb := hm.lt
  clear hm
  obtain ⟨i0, hi, hz0, hz1, hz2⟩ := info_parts info9
  refine callsIn_of_wp_marks Try.func14 rfl trivial ?_ rfl
  simp only [Try.ntmps14, List.size_toArray, List.length_cons, List.length_nil, Nat.reduceAdd, Nat.reduceSub, Array.replicate_succ, Array.replicate_zero, List.push_toArray, List.append_toArray, List.nil_append, List.cons_append]
  gi_wp2_with (first
    | (gi_at_range; refine wpListIn_range_own _ rfl _ 28 rfl 9 3 keyed9 Try.underlying28 _ _ _ _ rfl hown ?_; intro w2 hrg hg hs; have HRG := Aside0.mk hrg; have HG := Aside0.mk hg; clear hrg hg hs)
    | gi_in)
  go_frame
  gi_loopw [5] (fun v5 wq => ∃ (left : Lit → Bool) (cnt : Nat) (ss : List (List UInt8)), wq.ranges Try.prog 9 (plainElem Try.prog 3) b w.heap.size n D left cnt ∧ ss.length + cnt ≤ Maps.size D ∧ wq.ownsRow w.heap.size 9 1 v5 ss.length (ss.map encStr) ∧ Aside0 (PartC C who left ss) ∧ Aside0 (Below w.heap.size w wq)) (fun _ wq => wq.rangeLeft b w.heap.size)
  case atStart =>
    refine ⟨_, _, [], HRG.out, by simp, World.ownsRow_nil _ _ _ _, ⟨List.nodup_nil, fun x => ?_⟩, ⟨(Below.refl _ _).grown HG.out (Nat.le_refl _) (fun k e => by cases e)⟩⟩
    constructor
    · intro h; cases h
    · rintro ⟨h1, h2⟩
      obtain ⟨a, ha, _, e⟩ := mem_raw.1 h1
      have h3 := HM.out.hs a.1
      rw [hasC_iff.2 ⟨a, ha, rfl⟩] at h3
      rw [← e, h3] at h2
      cases h2
  case round =>
    clear HRG HG hown c0
    obtain ⟨left, cnt, ss, hrg, hcs, hrow, HP, HBq⟩ := hrel
    gi_wp2_with (first
      | (gi_at_next; refine wpListIn_next_ranges _ rfl _ rfl 9 keyed9 (plainElem Try.prog 3) encStr (Value.int .i64) (fun key kl hk => by obtain ⟨x, hx, _⟩ := Maps.keyOf_str Try.underlying9 hk; exact ⟨x, hx⟩) (fun v y hv => by obtain ⟨c, rfl, _⟩ := plainElem_int_inv Try.underlying3 hv; exact ⟨c, rfl⟩) b w.heap.size n _ _ _ rfl hrg ?_ ?_)
      | gi_in)
    · intro hc0 hl0
      have hdone := HP.out.done HM.out.nd hl0
      have hlen : ss.length ≤ 1000000 := by omega
      rcases hrow.2 with ⟨hnil, hz⟩ | ⟨g, cap, cur, rfl, hbase, hbk, h1, h2, h3, h4⟩
      · have hss : ss = [] := List.length_eq_zero_iff.1 (by first | exact hz | exact hz.1 | (have := hz; omega))
        subst hnil
        subst hss
        rw [List.mergeSort_nil] at hdone
        have HRW := Aside0.mk hrow
        have HDN := Aside0.mk hdone
        clear hrow hdone hrg
        gi_wp2_with (first
          | (refine ⟨trivial, ?_⟩; gi_at_call 23; refine (callsIn_wide.2 (sort_none none 0 _)).mono ?_; rintro e w7 ⟨rfl, rfl⟩))
        exact ⟨_, results_tmp rfl _ _ _, _, rfl, by rw [← HDN.out]; exact HRW.out, HBq.out⟩
      · have hH := holds_of_block hbk (by simpa using h4)
        have hgl : g < wr.heap.size := (Array.getElem?_eq_some_iff.1 hbk).1
        have hc := sort_str g 0 cap ss wr hH hgl (by omega)
        have HC := Aside0.mk hc
        have HBK := Aside0.mk hbk
        have HDN := Aside0.mk hdone
        have H3 := Aside0.mk h3
        clear hc hbk h3 h4 hH hrg hrow hdone
        gi_wp2_with (first
          | (refine ⟨trivial, ?_⟩; gi_at_call 23; refine (callsIn_wide.2 HC.out).mono ?_; rintro e w7 ⟨rfl, nn, os, rfl⟩))
        have ho := ownsRow_sorted (n := nn) (os := os) (ts := ss.mergeSort leB) (by simp) hbase HBK.out h1 h2 H3.out
        have hl2 : (ofC C who).length = ss.length := by rw [← HDN.out]; simp
        refine ⟨_, results_tmp rfl _ _ _, _, rfl, ?_, ?_⟩
        · rw [hl2, ← HDN.out]
          exact ho
        · refine HBq.out.grown (grownBy_sorted _) HBq.out.size (fun j hj => by cases hj; exact hbase)
    · intro x c kl yd yp w3 cnt2 hkey hlk hv hat hrg2 hlt hg2 hs2 hen
      obtain ⟨x', ex, rfl, _⟩ := Maps.keyOf_str Try.underlying9 hkey
      obtain rfl : x = x' := encStr_inj ex
      obtain ⟨c', ec, ey, hwc⟩ := plainElem_int_inv Try.underlying3 hv
      cases ec
      cases ey
      have hh := HM.out.hs ⟨x.toArray⟩
      rw [show Maps.has D (lk ⟨x.toArray⟩) = true by simpa [lk] using has_true_of_atKey hat] at hh
      obtain ⟨⟨ak, av⟩, ha, eak⟩ := hasC_iff.1 hh.symm
      replace eak : ak = ⟨x.toArray⟩ := eak
      subst eak
      have hva := valC_of HM.out.nd ha
      have hvc : av = c := by
        have h1 := (HM.out.at' ⟨x.toArray⟩).symm.trans (by simpa [lk] using hat (.lit (.int .i64 0)))
        exact hva.symm.trans (lit_inj h1)
      subst hvc
      have hrow2 := hrow.kept hg2 (Or.inr (row_ne_iter hrow hrg).symm)
      have HLE := Aside0.mk hrg.left_eq
      have HLT := Aside0.mk hlt
      have HB3 := Aside0.mk (HBq.out.grown hg2 HBq.out.size (fun k e => by cases e; exact Nat.le_refl _))
      have HRG2 := Aside0.mk hrg2
      have HR2 := Aside0.mk hrow2
      have hws := HBq.out.size
      clear hs2 hh hva hat hg2 hrg hrow hrg2 hrow2 hkey hv hlt
      by_cases hw : av = who
      · have HMR : Aside0 (x ∈ rawC C who) := ⟨mem_raw.2 ⟨_, ha, hw, by simp⟩⟩
        have hbq : (av == who) = true := by simpa using hw
        clear ha
        subst hw
        gi_wp2_with (first
          | (gi_at_builtin; refine wpListIn_append_own _ rfl _ _ 32 rfl w.heap.size 9 i0 (.string ⟨#[]⟩) 1 16 Try.underlying32 hi hz0 hz1 hz2 rfl (by decide) _ _ _ rfl (HR2.out.alloc _) ⟨w3.heap.size, 0, none⟩ 1 1 [encStr x] rfl rfl (cell_one_new _ _ _) (by simp [Value.oneCell', encStr]) (by unfold maxLen at *; omega) (by omega) (by have := HB3.out.size; rw [World.size_alloc]; omega) ?_
             intro v' w4 hown' hg3 hnil3
             have HO := Aside0.mk hown'
             have HG3 := Aside0.mk hg3
             clear hown' hg3 hnil3
             go_frame)
          | gi_in)
        have hrg3 := (HRG2.out.alloc _).kept HG3.out (row_ne_low HR2.out hb) (row_ne_iter HR2.out HRG2.out)
        refine ⟨⟨_, cnt2, ss ++ [x], hrg3, by have := HLT.out; simp; omega, by simpa using HO.out, ⟨HP.out.add hlk HMR.out⟩, ⟨?_⟩⟩, ?_⟩
        · exact (HB3.out.alloc HB3.out.size _).grown HG3.out (by have := HB3.out.size; rw [World.size_alloc]; omega) (fun j hj => (HR2.out.lt j hj).1)
        · rw [hrg3.left_eq, HLE.out]
          exact HLT.out
      · have HMR : Aside0 (x ∉ rawC C who) := ⟨fun hx => by
          obtain ⟨a2, h1, h2, h3⟩ := mem_raw.1 hx
          have e : a2.1 = ⟨x.toArray⟩ := ext_data (by rw [h3])
          have h4 := valC_of HM.out.nd h1
          have h5 := valC_of HM.out.nd ha
          rw [e] at h4
          exact hw (h5.symm.trans (h4.trans h2))⟩
        have hbq : (av == who) = false := by simpa using hw
        clear ha
        gi_wp2
        refine ⟨⟨_, cnt2, ss, HRG2.out, by have := HLT.out; omega, HR2.out, ⟨HP.out.skip hlk HMR.out⟩, HB3⟩, ?_⟩
        rw [HRG2.out.left_eq, HLE.out]
        exact HLT.out
end Go.Proofs.Ytpfpejkndjdgkaa.Q
