/- Claims, by hand: Free; nobody's claims. -/
import Derived.Test.YtpfpejkndjdgkaaQb
set_option linter.unusedVariables false
set_option linter.unusedSimpArgs false
namespace Go.Proofs.Ytpfpejkndjdgkaa.Q
open Go.RowKit Go.Maps Go.WideMaps Go.Proofs.YtpfpejkndjdgkaaW.PrintWords Go.Proofs.YtpfpejkndjdgkaaW.PrintLast Go.Proofs.YtpfpejkndjdgkaaW.PrintMore
attribute [local go_sem] Oper.semAt_some

theorem row_slice {W : World} {base m : Nat} {v : Value} {ks : List (List UInt8)} (h : W.ownsRow base 9 1 v m (ks.map encStr)) : ∃ A cap, v = .slice A m cap := by
  rcases h.2 with ⟨e, hz⟩ | ⟨g, cap, cur, e, _⟩
  · have h0 := h.1
    refine ⟨none, 0, ?_⟩
    rw [e]
    have : m = 0 := by first | exact hz | exact hz.1 | (have := hz; omega)
    rw [this]
  · exact ⟨_, _, e⟩
theorem row_cell {W : World} {base m cap j : Nat} {A : Option Addr} {ks : List (List UInt8)} (h : W.ownsRow base 9 1 (.slice A m cap) m (ks.map encStr)) (hm : ks.length = m) (hj : j < m) : ∃ ad, A = some ad ∧ W.cell? (ad.add j) = some (.string ⟨(ks[j]'(by omega)).toArray⟩) := by
  rcases h.2 with ⟨e, hz⟩ | ⟨g, cap', cur, e, _⟩
  · exfalso
    have : m = 0 := by first | exact hz | exact hz.1 | (have := hz; omega)
    omega
  · cases e
    refine ⟨_, rfl, ?_⟩
    exact h.cells (g := g) rfl j _ (by rw [List.getElem?_map, List.getElem?_eq_getElem (by omega)]; rfl)
theorem of_any {w : World} {p b n : Nat} {C : List Pair} (h : ClaimAt w p b n C) (hn : n ≤ 1000000) (who : Int) :
    Calls Try.prog 14 #[.pointer (some ⟨p, 0, none⟩), .int .i64 who] w fun e w' => ∃ A cap, e = .returned (.slice A (ofC C who).length cap) ∧ w'.ownsRow w.heap.size 9 1 (.slice A (ofC C who).length cap) (ofC C who).length ((ofC C who).map encStr) ∧ Below w.heap.size w w' := by
  refine (callsIn_wide.1 (of_in h hn who)).mono ?_
  rintro e w' ⟨v, rfl, hr, hb⟩
  obtain ⟨A, cap, rfl⟩ := row_slice hr
  exact ⟨A, cap, rfl, hr, hb⟩
theorem of_nil (who : Int) (w : World) : Calls Try.prog 14 #[.pointer none, .int .i64 who] w fun e w' => e = .returned (.slice none 0 0) ∧ w' = w := by
  refine (callsIn_wide (n := 4)).1 ?_
  refine callsIn_of_wp_marks Try.func14 rfl trivial ?_ rfl
  simp only [Try.ntmps14, List.size_toArray, List.length_cons, List.length_nil, Nat.reduceAdd, Nat.reduceSub, Array.replicate_succ, Array.replicate_zero, List.push_toArray, List.append_toArray, List.nil_append, List.cons_append]
  gi_wp2_with (first
    | (refine ⟨trivial, ?_⟩; gi_at_call 23; refine (callsIn_wide.2 (sort_none none 0 _)).mono ?_; rintro e w7 ⟨rfl, rfl⟩))
  exact ⟨_, results_tmp rfl _ _ _, rfl, rfl⟩
-- the map loses a key
def delC (C : List Pair) (x : ByteArray) : List Pair := C.filter fun a => decide (¬ a.1 = x)
theorem hasC_del {C : List Pair} {x z : ByteArray} : hasC (delC C x) z = (hasC C z && decide (¬ z = x)) := by
  rw [Bool.eq_iff_iff, Bool.and_eq_true, hasC_iff, hasC_iff, decide_eq_true_eq]
  unfold delC
  constructor
  · rintro ⟨a, ha, rfl⟩
    rw [List.mem_filter, decide_eq_true_eq] at ha
    exact ⟨⟨a, ha.1, rfl⟩, ha.2⟩
  · rintro ⟨⟨a, ha, rfl⟩, h⟩
    exact ⟨a, by rw [List.mem_filter, decide_eq_true_eq]; exact ⟨ha, h⟩, rfl⟩
theorem ndC_del {C : List Pair} (h : NdC C) (x : ByteArray) : NdC (delC C x) := List.Pairwise.filter _ h
theorem valC_del {C : List Pair} (h : NdC C) {x z : ByteArray} (hz : z ≠ x) : valC (delC C x) z = valC C z := by
  cases hh : hasC C z with
  | true =>
    obtain ⟨a, ha, rfl⟩ := hasC_iff.1 hh
    rw [valC_of h ha, valC_of (ndC_del h x) (a := a) (by unfold delC; rw [List.mem_filter, decide_eq_true_eq]; exact ⟨ha, hz⟩)]
  | false => rw [valC_none hh, valC_none (by rw [hasC_del, hh]; rfl)]
theorem delC_length {C : List Pair} (h : NdC C) (x : ByteArray) : (delC C x).length + (if hasC C x = true then 1 else 0) = C.length := by
  unfold delC
  induction C with
  | nil => rfl
  | cons a C ih =>
    obtain ⟨h1, h2⟩ := List.pairwise_cons.1 h
    have i := ih h2
    by_cases e : a.1 = x
    · have hno : hasC C x = false := by
        cases hh : hasC C x with
        | false => rfl
        | true =>
          obtain ⟨c, hc, ec⟩ := hasC_iff.1 hh
          exact absurd (e.trans ec.symm) (h1 c hc)
      rw [hno] at i
      have hy : hasC (a :: C) x = true := hasC_iff.2 ⟨a, List.mem_cons_self .., e⟩
      rw [hy, List.filter_cons_of_neg (by simp [e]), List.length_cons]
      simpa using i
    · have hy : hasC (a :: C) x = hasC C x := by simp [hasC, e]
      rw [hy, List.filter_cons_of_pos (by simp [e]), List.length_cons, List.length_cons]
      omega
theorem MapC.del {w : World} {b n : Nat} {C : List Pair} {D : DataW Unit} (h : MapC w b n C D) {x : ByteArray} (hx : x.size ≤ maxLen) (ty : TypeId) :
    ∃ w' D', (Builtin.delete_ #[28, 9] ty #[.map (some b), .string x]).run Try.prog w = .ok (.tuple #[]) w' ∧ MapC w' b n (delC C x) D' ∧ w.grownBy w' (some b) := by
  have hk := keyOf_string_mk Try.underlying9 hx
  obtain ⟨w', hrun, ho, ht⟩ := h.own.drop keyed9 Try.underlying28 hk ty
  refine ⟨w', _, hrun, ⟨ho, fun z => ?_, fun z => ?_, ?_, ndC_del h.nd x⟩, ht.grown⟩
  · rw [hasC_del]
    by_cases e : z = x
    · subst e
      rw [show Maps.has (D.del (Lit.string z.data.toList)) (lk z) = false from has_del_same]
      simp
    · rw [show Maps.has (D.del (Lit.string x.data.toList)) (lk z) = Maps.has D (lk z) from has_del_other (lk_ne e), h.hs z]
      simp [e]
  · by_cases e : z = x
    · subst e
      rw [valC_none (by rw [hasC_del]; simp)]
      exact atKey_del_same _
    · rw [valC_del h.nd e, ← h.at' z]
      exact atKey_del_other (lk_ne e) _
  · have h1 := size_del (k := Lit.string x.data.toList) (h.own.tidy keyed9)
    have h2 := delC_length h.nd x
    rw [show Maps.has D (Lit.string x.data.toList) = hasC C x from h.hs x, h.sz] at h1
    omega
theorem ClaimAt.del {w : World} {p b n : Nat} {C : List Pair} (h : ClaimAt w p b n C) {x : ByteArray} (hx : x.size ≤ maxLen) (ty : TypeId) :
    ∃ w', (Builtin.delete_ #[28, 9] ty #[.map (some b), .string x]).run Try.prog w = .ok (.tuple #[]) w' ∧ ClaimAt w' p b n (delC C x) ∧ w.grownBy w' (some b) := by
  obtain ⟨D, hm⟩ := h.map
  obtain ⟨w', D', h1, h2, h3⟩ := hm.del hx ty
  have hne := h.ne
  exact ⟨w', h1, ⟨(h3.block p h.lt (fun e => hne (by cases e; rfl))).trans h.head, D', h2⟩, h3⟩
/-- without the first of the keys -/
def lessC (C : List Pair) (ks : List (List UInt8)) : List Pair := C.filter fun a => decide (¬ a.1.data.toList ∈ ks)
theorem less_nil (C : List Pair) : lessC C [] = C := by
  unfold lessC
  exact List.filter_eq_self.2 (fun a _ => by simp)
theorem less_succ (C : List Pair) (ks : List (List UInt8)) {j : Nat} (hj : j < ks.length) : lessC C (ks.take (j + 1)) = delC (lessC C (ks.take j)) ⟨(ks[j]).toArray⟩ := by
  unfold lessC delC
  rw [List.take_succ_eq_append_getElem hj, List.filter_filter]
  refine List.filter_congr (fun a _ => ?_)
  rw [Bool.eq_iff_iff]
  simp only [List.mem_append, List.mem_singleton, decide_eq_true_eq, Bool.and_eq_true, not_or]
  constructor
  · rintro ⟨h1, h2⟩
    exact ⟨fun e => h2 (by rw [e]), h1⟩
  · rintro ⟨h1, h2⟩
    exact ⟨h2, fun e => h1 (ext_data (by rw [e]))⟩
theorem mem_of {C : List Pair} {who : Int} {x : List UInt8} : x ∈ ofC C who ↔ x ∈ rawC C who := by
  unfold ofC rawC
  exact (List.mergeSort_perm _ _).mem_iff
theorem less_all {C : List Pair} (h : NdC C) (who : Int) : lessC C (ofC C who) = freeC C who := by
  unfold lessC freeC
  refine List.filter_congr (fun a ha => ?_)
  rw [Bool.eq_iff_iff, decide_eq_true_eq, decide_eq_true_eq, mem_of, mem_raw]
  constructor
  · intro h1 h2
    exact h1 ⟨a, ha, h2, rfl⟩
  · rintro h1 ⟨c, hc, h2, h3⟩
    have e : c.1 = a.1 := ext_data h3
    have h4 := valC_of h hc
    have h5 := valC_of h ha
    rw [e] at h4
    exact h1 (h5.symm.trans (h4.trans h2))
theorem raw_small {w : World} {p b n : Nat} {C : List Pair} (h : ClaimAt w p b n C) {who : Int} {x : List UInt8} (hx : x ∈ ofC C who) : x.length ≤ maxLen := by
  obtain ⟨D, hm⟩ := h.map
  obtain ⟨a, ha, _, e⟩ := mem_raw.1 (mem_of.1 hx)
  have h1 := hm.hs a.1
  rw [hasC_iff.2 ⟨a, ha, rfl⟩] at h1
  refine strKeys_le hm.own Try.underlying9 x ?_
  obtain ⟨es, rfl, hko⟩ := hm.own.keysOf
  rw [← e]
  show a.1.data.toList ∈ es.map fun p => strOf p.1
  rw [List.mem_map]
  rw [has_eq, List.any_eq_true] at h1
  obtain ⟨q, hq, hs⟩ := h1
  obtain ⟨v, hv⟩ := hko q hq
  obtain ⟨y, _, hy, _⟩ := Maps.keyOf_str Try.underlying9 hv
  refine ⟨q, hq, ?_⟩
  rw [hy] at hs ⊢
  simpa [Lit.sameKey, strOf, lk] using hs
set_option maxRecDepth 100000 in
set_option maxHeartbeats 4000000 in
theorem free_any {w : World} {p b n : Nat} {C : List Pair} (h : ClaimAt w p b n C) (hn : n ≤ 1000000) (hC : C.length ≤ 1000000) (who : Int) :
    Calls Try.prog 11 #[.pointer (some ⟨p, 0, none⟩), .int .i64 who] w fun e w' => ∃ A cap, e = .returned (.slice A (ofC C who).length cap) ∧ w'.ownsRow w.heap.size 9 1 (.slice A (ofC C who).length cap) (ofC C who).length ((ofC C who).map encStr) ∧ ClaimAt w' p b n (freeC C who) ∧ w.grownBy w' (some b) := by
  refine (callsIn_wide (n := 4)).1 ?_
  have hof := of_any h hn who
  have hsm : ∀ x ∈ ofC C who, x.length ≤ maxLen := fun x hx => raw_small h hx
  have hml : (ofC C who).length ≤ 1000000 := by rw [of_length]; exact Nat.le_trans (List.length_filter_le _ _) hC
  have hall := less_all h.nd who
  have hbl := h.mlt
  have H := Aside0.mk h
  generalize ofC C who = ks at *
  have HOF := Aside0.mk hof
  have HSM := Aside0.mk hsm
  have HALL := Aside0.mk hall
  clear hof hsm hall h
  refine callsIn_of_wp_marks Try.func11 rfl trivial ?_ rfl
  simp only [Try.ntmps11, List.size_toArray, List.length_cons, List.length_nil, Nat.reduceAdd, Nat.reduceSub, Array.replicate_succ, Array.replicate_zero, List.push_toArray, List.append_toArray, List.nil_append, List.cons_append]
  gi_wp2_with (first
    | (refine ⟨trivial, ?_⟩; gi_at_call 14; refine (callsIn_wide.2 HOF.out).mono ?_; rintro e w2 ⟨A, cap, rfl, hr, hb⟩
       have HR := Aside0.mk hr
       have HB := Aside0.mk hb
       clear hr hb))
  gi_loopw [13] (fun v13 wq => ∃ j : Nat, v13 = .int .i64 (j : Int) ∧ j ≤ ks.length ∧ Aside0 (ClaimAt wq p b n (lessC C (ks.take j))) ∧ Aside0 (wq.ownsRow w.heap.size 9 1 (.slice A ks.length cap) ks.length (ks.map encStr)) ∧ Aside0 (w.grownBy wq (some b))) (fun v13 _ => ks.length - (intOf v13).toNat)
  case atStart => exact ⟨0, rfl, Nat.zero_le _, ⟨by rw [List.take_zero, less_nil]; exact H.out.below HB.out⟩, HR, ⟨HB.out.os, HB.out.tape, HB.out.output, HB.out.size, fun k hk _ => HB.out.block k hk⟩⟩
  case round =>
    clear HR HB
    obtain ⟨j, rfl, hj, HCq, HRq, HGq⟩ := hrel
    have g0 : (0 : Int) ≤ (j : Int) := by omega
    by_cases hlt : j < ks.length
    · have g1 : (j : Int) < (ks.length : Int) := by omega
      obtain ⟨ad, ea, e0⟩ := row_cell HRq.out rfl hlt
      have hls := less_succ C ks hlt
      have hxs := HSM.out _ (List.getElem_mem hlt)
      obtain ⟨x, hx⟩ : ∃ x : ByteArray, x = ⟨(ks[j]).toArray⟩ := ⟨_, rfl⟩
      rw [← hx] at e0 hls
      have hxz : x.size ≤ maxLen := by rw [hx]; exact hxs
      have c0 := HCq.out.c0
      obtain ⟨w9, u1, u2, u3⟩ := HCq.out.del hxz 0
      have HLS := Aside0.mk hls
      have U2 := Aside0.mk u2
      have U3 := Aside0.mk u3
      clear hls hxs hx u2 u3
      subst ea
      gi_wp2
      refine ⟨⟨j + 1, by simp, by omega, ⟨by rw [HLS.out]; exact U2.out⟩, ⟨HRq.out.kept U3.out (Or.inr (row_ne_low HRq.out hbl).symm)⟩, ⟨HGq.out.andThen U3.out (fun j hj => by cases hj; exact .inr rfl)⟩⟩, by simp [intOf]; omega⟩
    · have hjz : j = ks.length := by omega
      subst hjz
      rw [List.take_length, HALL.out] at HCq
      clear hj hlt
      gi_wp2
      exact ⟨_, results_tmp rfl _ _ _, A, cap, rfl, HRq.out, HCq.out, HGq.out⟩
set_option maxRecDepth 100000 in
set_option maxHeartbeats 4000000 in
theorem free_nil (who : Int) (w : World) : Calls Try.prog 11 #[.pointer none, .int .i64 who] w fun e w' => e = .returned (.slice none 0 0) ∧ w' = w := by
  refine (callsIn_wide (n := 4)).1 ?_
  refine callsIn_of_wp_marks Try.func11 rfl trivial ?_ rfl
  simp only [Try.ntmps11, List.size_toArray, List.length_cons, List.length_nil, Nat.reduceAdd, Nat.reduceSub, Array.replicate_succ, Array.replicate_zero, List.push_toArray, List.append_toArray, List.nil_append, List.cons_append]
  gi_wp2_with (first
    | (refine ⟨trivial, ?_⟩; gi_at_call 14; refine (callsIn_wide.2 (of_nil who _)).mono ?_; rintro e w2 ⟨rfl, rfl⟩))
  gi_loopw [13] (fun v13 wq => v13 = .int .i64 0 ∧ wq = w2) (fun _ _ => 0)
  case atStart => exact ⟨rfl, rfl⟩
  case round =>
    obtain ⟨rfl, rfl⟩ := hrel
    gi_wp2
    exact ⟨_, results_tmp rfl _ _ _, rfl, rfl⟩
end Go.Proofs.Ytpfpejkndjdgkaa.Q
