/- TreeVals, the walk. -/
import Derived.Test.YtmpcmpanolnpfaaSd
import Derived.Test.YtmpcmpanolnpfaaTz
set_option linter.unusedVariables false
set_option linter.unusedSimpArgs false
namespace Go.Proofs.Ytmpcmpanolnpfaa.Tr.Sr
open Go.RowKit Go.WideMaps Go.Proofs.YtmpcmpanolnpfaaW.PrintWords Go.Proofs.YtmpcmpanolnpfaaW.PrintLast Go.Proofs.YtmpcmpanolnpfaaW.PrintMore
attribute [local go_sem] Oper.semAt_some

def StrA (w : World) (A : Option Addr) (l : List ByteArray) : Prop := ∀ i, i < l.length → ∃ ad, A = some ad ∧ w.cell? (ad.add i) = some (.string (kA l i))
theorem StrA.up {w w1 : World} (hb : Below w.heap.size w w1) {A : Option Addr} {l : List ByteArray} (h : StrA w A l) : StrA w1 A l := fun i hi => by
  obtain ⟨ad, e, h0⟩ := h i hi
  exact ⟨ad, e, Tr.up hb h0⟩
theorem kA_eq {l : List ByteArray} {i : Nat} (h : i < l.length) : kA l i = l[i] := by simp [kA, List.getD, h]
theorem kA_none {l : List ByteArray} {i : Nat} (h : ¬ i < l.length) : kA l i = ⟨#[]⟩ := by simp [kA, List.getD, h]
theorem vals_new (w1 X : World) (hX : X = (w1.alloc (.cells #[.slice none 0 0, .int .i64 0] 43)).alloc (.map #[] 0)) :
    MapS X (w1.heap.size + 1) 0 [] (.map []) ∧ TreeAt (fun k => k = w1.heap.size ∨ w1.heap.size + 1 < k) X w1.heap.size [] ∧ X.heap.size = w1.heap.size + 2 ∧ Below w1.heap.size w1 X := by
  subst hX
  have h1 := MapS.new (w1.alloc (.cells #[.slice none 0 0, .int .i64 0] 43))
  rw [World.size_alloc] at h1
  refine ⟨h1, ?_, by simp, ((Below.refl _ _).alloc (Nat.le_refl _) _).alloc (by simp) _⟩
  exact ((tree_newS w1).turn (G := fun k => k = w1.heap.size ∨ w1.heap.size + 1 < k) (fun k hk hq => by simp at hk; left; omega)).below (below_alloc (Below.refl _ _) _)
theorem bytes_neV {a b : ByteArray} (h : ¬ a = b) : (a.toList == b.toList) = false := by
  rw [ByteArray.toList_eq, ByteArray.toList_eq]
  simp only [beq_eq_false_iff_ne, ne_eq]
  intro e
  apply h
  cases a
  cases b
  simp at e
  rw [e]
set_option maxRecDepth 100000 in
set_option maxHeartbeats 8000000 in
theorem vals_in (A A2 : Option Addr) (c c2 : Nat) (ks vs : List ByteArray) (w : World) (hA : StrA w A ks) (hA2 : StrA w A2 vs) (hn : ks.length < 4611686018427387904) (hn2 : vs.length < 4611686018427387904) (hc : ks.length ≤ c) (hc2 : vs.length ≤ c2)
    (hk : ∀ x ∈ ks, x.size ≤ 140737488351232) (hk2 : ∀ x ∈ vs, x.size ≤ 140737488351232) :
    CallsIn Fence.wide 4 Try.prog 5 #[.slice A ks.length c, .slice A2 vs.length c2] w fun e w' => e = .returned (.bool true) ∧ Below w.heap.size w w' := by
  have hh : ∀ W, CallsIn Fence.wide 3 Try.prog 9 #[] W fun e w' => e = .returned (.bool true) ∧ Below W.heap.size W w' := head_in
  have HA := Aside0.mk hA
  have HA2 := Aside0.mk hA2
  have HK2 := Aside0.mk hk2
  clear hA hA2 hk hk2
  refine callsIn_of_wp_marks Try.func5 rfl trivial ?_ rfl
  simp only [Try.ntmps5, List.size_toArray, List.length_cons, List.length_nil, Nat.reduceAdd, Nat.reduceSub, Array.replicate_succ, Array.replicate_zero, List.push_toArray, List.append_toArray, List.nil_append, List.cons_append]
  have hcase : (¬ ks.length ≤ 60) ∨ (ks.length ≤ 60 ∧ ¬ vs.length ≤ 60) ∨ (ks.length ≤ 60 ∧ vs.length ≤ 60) := by omega
  rcases hcase with h1 | ⟨h1, h2⟩ | ⟨h1, h2⟩
  · have h4 : (60 : Int) < (ks.length : Int) := by omega
    gi_wp2_with (first
      | (refine ⟨trivial, ?_⟩; gi_at_call 9; refine (hh _).mono ?_; rintro e w1 ⟨rfl, hb⟩; have HB := Aside0.mk hb; clear hb))
    exact ⟨_, results_tmp rfl _ _ _, rfl, HB.out⟩
  · have h4 : ¬ (60 : Int) < (ks.length : Int) := by omega
    have h5 : (60 : Int) < (vs.length : Int) := by omega
    gi_wp2_with (first
      | (refine ⟨trivial, ?_⟩; gi_at_call 9; refine (hh _).mono ?_; rintro e w1 ⟨rfl, hb⟩; have HB := Aside0.mk hb; clear hb))
    exact ⟨_, results_tmp rfl _ _ _, rfl, HB.out⟩
  have h4 : ¬ (60 : Int) < (ks.length : Int) := by omega
  have h5 : ¬ (60 : Int) < (vs.length : Int) := by omega
  have hmm := @run_makeMap Try.prog
  gi_wp2_with (first
    | (refine ⟨trivial, ?_⟩; gi_at_call 9; refine (hh _).mono ?_; rintro e w1 ⟨rfl, hb⟩; have HB := Aside0.mk hb; clear hb))
  obtain ⟨X0, hX0⟩ : ∃ X0, X0 = (w1.alloc (.cells #[.slice none 0 0, .int .i64 0] 43)).alloc (.map #[] 0) := ⟨_, rfl⟩
  rw [← hX0]
  obtain ⟨ms0, ta0, hz0, hb0⟩ := vals_new w1 X0 hX0
  have MS0 : Aside0 (MapS X0 (w1.heap.size + 1) 0 (lastsI ks vs 0) (.map [])) := ⟨ms0⟩
  have TA0 : Aside0 (TreeAt (fun k => k = w1.heap.size ∨ w1.heap.size + 1 < k) X0 w1.heap.size (lastsI ks vs 0)) := ⟨ta0⟩
  have HB0 := Aside0.mk (HB.out.trans (hb0.mono HB.out.size))
  clear hX0 ms0 ta0 hz0 hb0 hmm
  gi_loopw [31] (fun v31 wr => ∃ i : Nat, v31 = .int .i64 (i : Int) ∧ i ≤ ks.length ∧ (∃ D, MapS wr (w1.heap.size + 1) i (lastsI ks vs i) D) ∧ Aside0 (TreeAt (fun k => k = w1.heap.size ∨ w1.heap.size + 1 < k) wr w1.heap.size (lastsI ks vs i)) ∧ Aside0 (Below w.heap.size w wr)) (fun v31 _ => ks.length - (intOf v31).toNat)
  case atStart => exact ⟨0, rfl, Nat.zero_le _, ⟨_, MS0.out⟩, TA0, HB0⟩
  case round =>
    obtain ⟨i, rfl, hi, ⟨D, hm⟩, HTr, HBr⟩ := hrel
    have HM := Aside0.mk hm
    have hml := World.ownsMap.lt hm.own
    clear hm MS0 TA0 HB0
    have g0 : (0 : Int) ≤ (i : Int) := by omega
    by_cases hlt : i < ks.length
    · have g1 : (i : Int) < (ks.length : Int) := by omega
      have HAr : Aside0 (StrA wr A ks) := ⟨HA.out.up HBr.out⟩
      have HAr2 : Aside0 (StrA wr A2 vs) := ⟨HA2.out.up HBr.out⟩
      obtain ⟨ad, ea, e0⟩ := HAr.out i hlt
      subst ea
      obtain ⟨x, hx⟩ : ∃ x, x = kA ks i := ⟨_, rfl⟩
      have HLS0 : Aside0 (lastsI ks vs (i + 1) = ins (lastsI ks vs i) x (.string (kA vs i))) := ⟨by rw [lastsI, ← hx]⟩
      rw [← hx] at e0
      clear hx
      by_cases h40 : x.size ≤ 40
      · have h41 : ¬ (40 : Int) < (x.size : Int) := by omega
        obtain ⟨s0, l1⟩ := HM.out.look2 (x := x) (by simp only [maxLen]; omega)
        have hF : ∀ k, wr.heap.size ≤ k → k = w1.heap.size ∨ w1.heap.size + 1 < k := fun k hk => by omega
        by_cases hiv : i < vs.length
        · have g3 : (i : Int) < (vs.length : Int) := by omega
          obtain ⟨ad2, ea2, e2⟩ := HAr2.out i hiv
          subst ea2
          have hys : (kA vs i).size ≤ 140737488351232 := HK2.out _ (by rw [kA_eq hiv]; exact List.getElem_mem hiv)
          generalize kA vs i = y at *
          have HLS := HLS0
          have HYS : Aside0 (y.size ≤ maxLen) := ⟨by simp only [maxLen]; omega⟩
          clear HLS0
          cases hh2 : Tr.has (lastsI ks vs i) x with
          | true =>
            rw [hh2] at l1
            have hput := put_any HTr.out hF (show (lastsI ks vs i).length ≤ maxTree by have := (lasts_len ks vs i).2; unfold maxTree; omega) x y
            rw [hh2] at hput
            have HPT := Aside0.mk hput
            clear hput
            gi_wp2_with (first
              | (refine ⟨trivial, ?_⟩; gi_at_call 15; refine (callsIn_wide.2 HPT.out).mono ?_; rintro e w5 ⟨rfl, ht, hf⟩
                 obtain ⟨w9, u1, u2, u3⟩ := (HM.out.same (w' := w5) (hf.block _ (World.ownsMap.lt HM.out.own) (by omega))).put (lasts_len ks vs i).1 (by simp only [maxLen]; omega) (x := x) (y := y) (by simp only [maxLen]; omega) HYS.out
                 have HT5 := Aside0.mk ht
                 have HF5 := Aside0.mk hf
                 have U2 := Aside0.mk u2
                 have U3 := Aside0.mk u3
                 clear ht hf u2 u3))
            refine ⟨⟨i + 1, by simp, by omega, ⟨_, by rw [HLS.out]; exact U2.out⟩, ⟨by rw [HLS.out]; exact HT5.out.kept (fun k hk hl => U3.out.block k hl (fun e => by cases e; omega))⟩, ⟨?_⟩⟩, by simp [intOf]; omega⟩
            refine Below.grown ?_ U3.out (Nat.le_trans HBr.out.size HF5.out.size) (fun k e => by cases e; have := HB.out.size; omega)
            exact ⟨HF5.out.os.trans HBr.out.os, HF5.out.tape.trans HBr.out.tape, HF5.out.output.trans HBr.out.output, Nat.le_trans HBr.out.size HF5.out.size, fun k hk => (HF5.out.block k (Nat.lt_of_lt_of_le hk HBr.out.size) (by have := HB.out.size; omega)).trans (HBr.out.block k hk)⟩
          | false =>
            rw [hh2] at l1
            have hput := put_any HTr.out hF (show (lastsI ks vs i).length ≤ maxTree by have := (lasts_len ks vs i).2; unfold maxTree; omega) x y
            rw [hh2] at hput
            have HPT := Aside0.mk hput
            clear hput
            gi_wp2_with (first
              | (refine ⟨trivial, ?_⟩; gi_at_call 15; refine (callsIn_wide.2 HPT.out).mono ?_; rintro e w5 ⟨rfl, ht, hf⟩
                 obtain ⟨w9, u1, u2, u3⟩ := (HM.out.same (w' := w5) (hf.block _ (World.ownsMap.lt HM.out.own) (by omega))).put (lasts_len ks vs i).1 (by simp only [maxLen]; omega) (x := x) (y := y) (by simp only [maxLen]; omega) HYS.out
                 have HT5 := Aside0.mk ht
                 have HF5 := Aside0.mk hf
                 have U2 := Aside0.mk u2
                 have U3 := Aside0.mk u3
                 clear ht hf u2 u3))
            refine ⟨⟨i + 1, by simp, by omega, ⟨_, by rw [HLS.out]; exact U2.out⟩, ⟨by rw [HLS.out]; exact HT5.out.kept (fun k hk hl => U3.out.block k hl (fun e => by cases e; omega))⟩, ⟨?_⟩⟩, by simp [intOf]; omega⟩
            refine Below.grown ?_ U3.out (Nat.le_trans HBr.out.size HF5.out.size) (fun k e => by cases e; have := HB.out.size; omega)
            exact ⟨HF5.out.os.trans HBr.out.os, HF5.out.tape.trans HBr.out.tape, HF5.out.output.trans HBr.out.output, Nat.le_trans HBr.out.size HF5.out.size, fun k hk => (HF5.out.block k (Nat.lt_of_lt_of_le hk HBr.out.size) (by have := HB.out.size; omega)).trans (HBr.out.block k hk)⟩
        · have g3 : ¬ (i : Int) < (vs.length : Int) := by omega
          have HLS : Aside0 (lastsI ks vs (i + 1) = ins (lastsI ks vs i) x (.string ⟨#[]⟩)) := ⟨by rw [HLS0.out, kA_none hiv]⟩
          have HYS : Aside0 ((⟨#[]⟩ : ByteArray).size ≤ maxLen) := ⟨Nat.zero_le _⟩
          clear HLS0
          cases hh2 : Tr.has (lastsI ks vs i) x with
          | true =>
            rw [hh2] at l1
            have hput := put_any HTr.out hF (show (lastsI ks vs i).length ≤ maxTree by have := (lasts_len ks vs i).2; unfold maxTree; omega) x ⟨#[]⟩
            rw [hh2] at hput
            have HPT := Aside0.mk hput
            clear hput
            gi_wp2_with (first
              | (refine ⟨trivial, ?_⟩; gi_at_call 15; refine (callsIn_wide.2 HPT.out).mono ?_; rintro e w5 ⟨rfl, ht, hf⟩
                 obtain ⟨w9, u1, u2, u3⟩ := (HM.out.same (w' := w5) (hf.block _ (World.ownsMap.lt HM.out.own) (by omega))).put (lasts_len ks vs i).1 (by simp only [maxLen]; omega) (x := x) (y := ⟨#[]⟩) (by simp only [maxLen]; omega) HYS.out
                 have HT5 := Aside0.mk ht
                 have HF5 := Aside0.mk hf
                 have U2 := Aside0.mk u2
                 have U3 := Aside0.mk u3
                 clear ht hf u2 u3))
            refine ⟨⟨i + 1, by simp, by omega, ⟨_, by rw [HLS.out]; exact U2.out⟩, ⟨by rw [HLS.out]; exact HT5.out.kept (fun k hk hl => U3.out.block k hl (fun e => by cases e; omega))⟩, ⟨?_⟩⟩, by simp [intOf]; omega⟩
            refine Below.grown ?_ U3.out (Nat.le_trans HBr.out.size HF5.out.size) (fun k e => by cases e; have := HB.out.size; omega)
            exact ⟨HF5.out.os.trans HBr.out.os, HF5.out.tape.trans HBr.out.tape, HF5.out.output.trans HBr.out.output, Nat.le_trans HBr.out.size HF5.out.size, fun k hk => (HF5.out.block k (Nat.lt_of_lt_of_le hk HBr.out.size) (by have := HB.out.size; omega)).trans (HBr.out.block k hk)⟩
          | false =>
            rw [hh2] at l1
            have hput := put_any HTr.out hF (show (lastsI ks vs i).length ≤ maxTree by have := (lasts_len ks vs i).2; unfold maxTree; omega) x ⟨#[]⟩
            rw [hh2] at hput
            have HPT := Aside0.mk hput
            clear hput
            gi_wp2_with (first
              | (refine ⟨trivial, ?_⟩; gi_at_call 15; refine (callsIn_wide.2 HPT.out).mono ?_; rintro e w5 ⟨rfl, ht, hf⟩
                 obtain ⟨w9, u1, u2, u3⟩ := (HM.out.same (w' := w5) (hf.block _ (World.ownsMap.lt HM.out.own) (by omega))).put (lasts_len ks vs i).1 (by simp only [maxLen]; omega) (x := x) (y := ⟨#[]⟩) (by simp only [maxLen]; omega) HYS.out
                 have HT5 := Aside0.mk ht
                 have HF5 := Aside0.mk hf
                 have U2 := Aside0.mk u2
                 have U3 := Aside0.mk u3
                 clear ht hf u2 u3))
            refine ⟨⟨i + 1, by simp, by omega, ⟨_, by rw [HLS.out]; exact U2.out⟩, ⟨by rw [HLS.out]; exact HT5.out.kept (fun k hk hl => U3.out.block k hl (fun e => by cases e; omega))⟩, ⟨?_⟩⟩, by simp [intOf]; omega⟩
            refine Below.grown ?_ U3.out (Nat.le_trans HBr.out.size HF5.out.size) (fun k e => by cases e; have := HB.out.size; omega)
            exact ⟨HF5.out.os.trans HBr.out.os, HF5.out.tape.trans HBr.out.tape, HF5.out.output.trans HBr.out.output, Nat.le_trans HBr.out.size HF5.out.size, fun k hk => (HF5.out.block k (Nat.lt_of_lt_of_le hk HBr.out.size) (by have := HB.out.size; omega)).trans (HBr.out.block k hk)⟩
      · have h41 : (40 : Int) < (x.size : Int) := by omega
        gi_wp2
        exact ⟨_, results_tmp rfl _ _ _, rfl, HBr.out⟩
    · have hiz : i = ks.length := by omega
      subst hiz
      clear hi hlt
      obtain ⟨L, hL⟩ : ∃ L, L = lastsI ks vs ks.length := ⟨_, rfl⟩
      obtain ⟨srt, hLl⟩ := lasts_len ks vs ks.length
      rw [← hL] at HM HTr srt hLl
      have SRT := Aside0.mk srt
      have HHS := Aside0.mk HM.out.hs
      have HAT := Aside0.mk HM.out.at'
      have HSZ := Aside0.mk HM.out.sz
      have HST := Aside0.mk HM.out.str
      have hown := HM.out.own
      clear hL srt
      gi_wp2_with (first
        | (gi_at_range; refine wpListIn_range_own _ rfl _ 44 rfl 9 9 keyed9S Try.underlying44 _ _ _ _ rfl hown ?_; intro w2 hrg hg hs; have HRG := Aside0.mk hrg; have HG := Aside0.mk hg; clear hrg hg hs)
        | gi_in)
      go_frame
      gi_loopw [65] (fun _ wq => ∃ (left : Lit → Bool) (cnt : Nat), wq.ranges Try.prog 9 (plainElem Try.prog 9) (w1.heap.size + 1) wr.heap.size ks.length D left cnt ∧ Aside0 (∀ kl, left kl = true → Maps.has D kl = true) ∧ Aside0 (TreeAt (fun k => (k = w1.heap.size ∨ w1.heap.size + 1 < k) ∧ k ≠ wr.heap.size) wq w1.heap.size L) ∧ Aside0 (Below w.heap.size w wq)) (fun _ wq => wq.rangeLeft (w1.heap.size + 1) wr.heap.size)
      case atStart =>
        refine ⟨_, _, HRG.out, ⟨fun kl h => h⟩, ⟨?_⟩, ⟨HBr.out.grown HG.out HBr.out.size (fun k e => by cases e)⟩⟩
        exact (HTr.out.turn (G := fun k => (k = w1.heap.size ∨ w1.heap.size + 1 < k) ∧ k ≠ wr.heap.size) (fun k hk hq => ⟨hq, by omega⟩)).kept (fun k _ hl => HG.out.block k hl (by simp))
      case round =>
        have hwr := HBr.out.size
        clear HTr HBr HRG HG hown
        obtain ⟨left, cnt, hrg, HLF, HTq, HBq⟩ := hrel
        gi_wp2_with (first
          | (gi_at_next; refine wpListIn_next_ranges _ rfl _ rfl 9 keyed9S (plainElem Try.prog 9) Value.string Value.string (fun key kl hk => Maps.keyOf_string_inv Try.underlying9 hk) (fun v y hv => by obtain ⟨s, hs, _⟩ := elem_inv hv; exact ⟨s, hs⟩) _ _ _ _ _ _ rfl hrg ?_ ?_)
          | gi_in)
        · intro hc0 hl0
          have hlen := Sr.lent HTq.out
          have hml2 := World.ownsMap.len hrg.owns Try.underlying44 3
          rw [HSZ.out] at hml2
          gi_wp2_with (first
            | (refine ⟨trivial, ?_⟩; gi_at_call 17; refine (callsIn_wide.2 hlen).mono ?_; rintro e w7 ⟨rfl, rfl⟩))
          exact ⟨_, results_tmp rfl _ _ _, rfl, HBq.out⟩
        · intro x c kl yd yp w3 cnt2 hkey hlk hv hat hrg2 hlt hg2 hs2 hen
          obtain ⟨x', ex, ekl, hxs⟩ := string_of_keyOf Try.underlying9 hkey
          cases ex
          obtain ⟨c', ec, ey, hcs⟩ := elem_inv hv
          cases ec
          cases ey
          subst ekl
          have hDx := HLF.out _ hlk
          have hLx : Tr.has L x = true := by rw [← HHS.out x]; exact hDx
          obtain ⟨⟨ak, av⟩, ha, eak⟩ := has_iff.1 hLx
          obtain ⟨s, es⟩ := HST.out _ ha
          replace eak : ak = x := eak
          replace es : av = .string s := es
          subst eak es
          have hvx := valI_of SRT.out ha
          have hsc : s = c := by
            have h1 := (HAT.out ak s ha (.lit (lkS s))).symm.trans (hat (.lit (lkS s)))
            injection h1 with h2
            exact lkS_inj h2
          subst hsc
          replace hvx : valI L ak = .string s := hvx
          have hT3 := HTq.out.kept (w' := w3) (fun k hk hl => hg2.block k hl (fun e => by cases e; exact hk.2 rfl))
          have hget := get_str hT3 (by unfold maxTree; omega) ak
          rw [hvx, hLx] at hget
          have HGT := Aside0.mk hget
          have HRG2 := Aside0.mk hrg2
          have HT3 := Aside0.mk hT3
          have HB3 := Aside0.mk (HBq.out.grown hg2 HBq.out.size (fun k e => by cases e; exact hwr))
          have HLE := Aside0.mk hrg.left_eq
          have HLT := Aside0.mk hlt
          clear hs2 hget hrg2 hT3 hDx hLx ha hvx hat hlk hg2 hrg hlt hkey hv
          gi_wp2_with (first
            | (refine ⟨trivial, ?_⟩; gi_at_call 16; refine (callsIn_wide.2 HGT.out).mono ?_; rintro e w7 ⟨rfl, hb7⟩; have HB7 := Aside0.mk hb7; clear hb7))
          have hrg3 := HRG2.out.kept (w' := w7) (row := none) ⟨HB7.out.os, HB7.out.tape, HB7.out.output, HB7.out.size, fun k hk _ => HB7.out.block k hk⟩ (by simp) (by simp)
          refine ⟨⟨_, cnt2, hrg3, ⟨fun kl h => HLF.out kl (by simp at h; exact h.1)⟩, ⟨HT3.out.below HB7.out⟩, ⟨HB3.out.trans (HB7.out.mono HB3.out.size)⟩⟩, ?_⟩
          rw [hrg3.left_eq, HLE.out]
          exact HLT.out
end Go.Proofs.Ytmpcmpanolnpfaa.Tr.Sr
