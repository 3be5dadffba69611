/- ClaimActs, the walk. -/
import Derived.Test.YtpfpejkndjdgkaaQm
set_option linter.unusedVariables false
set_option linter.unusedSimpArgs false
namespace Go.Proofs.Ytpfpejkndjdgkaa.Q
open Go.RowKit Go.Maps Go.WideMaps Go.Proofs.YtpfpejkndjdgkaaW.PrintWords Go.Proofs.YtpfpejkndjdgkaaW.PrintLast Go.Proofs.YtpfpejkndjdgkaaW.PrintMore
attribute [local go_sem] Oper.semAt_some

set_option maxRecDepth 100000 in
set_option maxHeartbeats 8000000 in
theorem acts_in (A : Option Addr) (c : Nat) (l : List S30) (who : Int) (key : ByteArray) (w : World) (hw : (Lit.int .i64 who).wf = true) (hA : ActA w A l) (hn : l.length < 4611686018427387904) (hc : l.length ≤ c) (hwf : ∀ a ∈ l, (Lit.int .i64 a.f0).wf = true ∧ (Lit.int .i64 a.f1).wf = true) :
    CallsIn Fence.wide 4 Try.prog 3 #[.slice A l.length c, .int .i64 who, .string key] w fun e w' => e = .returned (.bool true) ∧ Below w.heap.size w w' := by
  have HA := Aside0.mk hA
  have HWF := Aside0.mk hwf
  have HW := Aside0.mk hw
  clear hA hwf hw
  refine callsIn_of_wp_marks Try.func3 rfl trivial ?_ rfl
  simp only [Try.ntmps3, List.size_toArray, List.length_cons, List.length_nil, Nat.reduceAdd, Nat.reduceSub, Array.replicate_succ, Array.replicate_zero, List.push_toArray, List.append_toArray, List.nil_append, List.cons_append]
  have hcase : 60 < l.length ∨ (l.length ≤ 60 ∧ 100 < key.size) ∨ (l.length ≤ 60 ∧ key.size ≤ 100) := by omega
  rcases hcase with h1 | ⟨h1, h2⟩ | ⟨h1, h2⟩
  · have h4 : (60 : Int) < (l.length : Int) := by omega
    gi_wp2_with (first
      | (refine ⟨trivial, ?_⟩; gi_at_call 8; refine (callsIn_wide.2 (head_any _)).mono ?_; rintro e w1 ⟨rfl, hb⟩; have HB := Aside0.mk hb; clear hb))
    exact ⟨_, results_tmp rfl _ _ _, rfl, HB.out⟩
  · have h4 : ¬ (60 : Int) < (l.length : Int) := by omega
    have h5 : (100 : Int) < (key.size : Int) := by omega
    gi_wp2_with (first
      | (refine ⟨trivial, ?_⟩; gi_at_call 8; refine (callsIn_wide.2 (head_any _)).mono ?_; rintro e w1 ⟨rfl, hb⟩; have HB := Aside0.mk hb; clear hb))
    exact ⟨_, results_tmp rfl _ _ _, rfl, HB.out⟩
  have h4 : ¬ (60 : Int) < (l.length : Int) := by omega
  have h5 : ¬ (100 : Int) < (key.size : Int) := by omega
  have hkm : key.size ≤ maxLen := by simp only [maxLen]; omega
  have hmm := @run_makeMap Try.prog
  gi_wp2_with (first
    | (refine ⟨trivial, ?_⟩; gi_at_call 8; refine (callsIn_wide.2 (head_any _)).mono ?_; rintro e w1 ⟨rfl, hb⟩; have HB := Aside0.mk hb; clear hb)
    | (refine ⟨trivial, ?_⟩; gi_at_call 9; refine (callsIn_wide.2 (new_any _)).mono ?_; rintro e w2 ⟨rfl, hcl, hb⟩; have HC := Aside0.mk hcl; have HB2 := Aside0.mk (HB.out.trans (hb.mono HB.out.size)); clear hcl hb)
    | (refine ⟨trivial, ?_⟩; gi_at_call 10; refine (callsIn_wide.2 (busy_made _ _ _)).mono ?_; rintro e w3 ⟨rfl, b1, b2, hb⟩; have HB3 := Aside0.mk hb; have B1 := Aside0.mk b1; have B2 := Aside0.mk b2; clear hb b1 b2))
  have S0 : Aside0 (ASt w (w3.alloc (.map #[] 0)) (w1.heap.size + 1) w1.heap.size w2.heap.size w3.heap.size who 0 0 (actsC (l.take 0)) (actsC (l.take 0))) := ⟨by
    have hal : Below w3.heap.size w3 (w3.alloc (.map #[] 0)) := below_alloc (Below.refl _ _) _
    refine ⟨⟨HB.out.size, Nat.lt_succ_self _, HC.out.lt, World.block_lt_of_cell? w3 _ B2.out⟩, (HC.out.below HB3.out).below hal, ⟨_, MapC.new w3⟩, up hal B1.out, up hal B2.out, (HB2.out.trans (HB3.out.mono HB2.out.size)).trans (hal.mono ?_)⟩
    exact Nat.le_trans HB2.out.size HB3.out.size⟩
  generalize w3.alloc (.map #[] 0) = w4 at *
  generalize hpp : w1.heap.size + 1 = p at *
  generalize w1.heap.size = b at *
  generalize w2.heap.size = bc at *
  generalize w3.heap.size = m at *
  clear HC B1 B2 HB HB2 HB3 hmm hpp
  gi_loopw [49] (fun v49 wq => ∃ i : Nat, v49 = .int .i64 (i : Int) ∧ i ≤ l.length ∧ Aside0 (ASt w wq p b bc m who i i (actsC (l.take i)) (actsC (l.take i)))) (fun v49 _ => l.length - (intOf v49).toNat)
  case atStart => exact ⟨0, rfl, Nat.zero_le _, S0⟩
  case round =>
    clear S0
    obtain ⟨i, rfl, hi, S⟩ := hrel
    have g0 : (0 : Int) ≤ (i : Int) := by omega
    have hnd : Aside0 (NdC (actsC (l.take i))) := ⟨acts_nd _ _ List.Pairwise.nil⟩
    have hln : (actsC (l.take i)).length ≤ i := by
      have := acts_len (l.take i) []
      rw [List.length_take] at this
      simp at this
      exact Nat.le_trans this (Nat.min_le_left _ _)
    by_cases hlt : i < l.length
    · have g1 : (i : Int) < (l.length : Int) := by omega
      obtain ⟨ad, ea, e0, e1, e2⟩ := (HA.out.up S.out.bel) i hlt
      have hst := actsC_take hlt
      have hwa := HWF.out _ (List.getElem_mem hlt)
      rw [← actA_eq hlt] at hst hwa
      obtain ⟨C2, hCE⟩ : ∃ C2, C2 = actsC (l.take (i + 1)) := ⟨_, rfl⟩
      rw [← hCE] at hst
      have HCE := Aside0.mk hCE
      clear hCE
      generalize actsC (l.take i) = C at *
      generalize actA l i = a at *
      subst ea
      have HST := Aside0.mk hst
      have HWA := Aside0.mk hwa
      clear hst hwa
      obtain ⟨V, hV⟩ : ∃ V, V = wr.alloc (.cells #[.int .i64 a.f0, .int .i64 a.f1, .string a.f2] 30) := ⟨_, rfl⟩
      have hbV : Below wr.heap.size wr V := by rw [hV]; exact below_alloc (Below.refl _ _) _
      have AB : Aside0 (ActB V wr.heap.size a) := ⟨⟨by rw [hV]; exact heap_alloc_new wr _⟩⟩
      have SV := Aside0.mk (S.out.below hbV)
      have hmV : m < wr.heap.size := S.out.mlt
      have d0 := AB.out.c0
      have d1 := AB.out.c1
      have d2 := AB.out.c2
      by_cases hx : a.f2.size ≤ 100
      · have hx2 : ¬ (100 : Int) < (a.f2.size : Int) := by omega
        have hxm : a.f2.size ≤ maxLen := by simp only [maxLen]; omega
        obtain ⟨U, hU⟩ : ∃ U : Nat, a.f0 % 18446744073709551616 = (U : Int) := ⟨(a.f0 % 18446744073709551616).toNat, by omega⟩
        have wu : IntKind.u64.wrap a.f0 = (U : Int) := by rw [IntKind.wrap_u64]; exact hU
        have hUl : U < 18446744073709551616 := by omega
        obtain ⟨R, hR⟩ : ∃ R, R = U % 3 := ⟨_, rfl⟩
        have hR3 : R < 3 := by omega
        have hr2 : (U : Int) % 3 = (R : Int) := by omega
        have hr3 : Int.tmod (U : Int) 3 = (R : Int) := by rw [Int.tmod_eq_emod_of_nonneg (by omega)]; exact hr2
        have HKU : Aside0 (kindU a.f0 = (R : Int)) := ⟨by unfold kindU; rw [hU]; exact hr2⟩
        clear hU hR
        by_cases hk2 : R = 2
        · have hC2 : C2 = freeC C a.f1 := by rw [HST.out]; unfold stepC; rw [if_pos (by rw [HKU.out, hk2]; rfl)]
          have hkb : ((R : Int) == 2) = true := by rw [hk2]; rfl
          have HFR := Aside0.mk (free_any SV.out.cl (by omega) (by omega) a.f1)
          obtain ⟨ks, hks⟩ : ∃ ks, ks = ofC C a.f1 := ⟨_, rfl⟩
          have HKM : Aside0 (∀ x, x ∈ ks ↔ (hasC C ⟨x.toArray⟩ = true ∧ valC C ⟨x.toArray⟩ = a.f1)) := ⟨fun x => by rw [hks]; exact raw_has hnd.out⟩
          have hkl : (ofC C a.f1).length = ks.length := by rw [hks]
          have hkl2 : ks.length ≤ 60 := by
            rw [hks, of_length]
            exact Nat.le_trans (List.length_filter_le _ _) (by omega)
          rw [← hks] at HFR
          have HKL := Aside0.mk hkl
          have HC2 := Aside0.mk hC2
          clear hks hkl hC2
          subst hV
          gi_wp2_with (first
            | (refine ⟨trivial, ?_⟩; gi_at_call 11; refine (callsIn_wide.2 HFR.out).mono ?_; rintro e w7 ⟨A7, c7, rfl, hr, hcl, hg⟩
               have S7 := Aside0.mk (SV.out.claim hcl hg)
               have AB7 := Aside0.mk (AB.out.kept hg (fun e => by have := S.out.cl.mlt; cases e; omega))
               have HR7 := Aside0.mk hr
               obtain ⟨D7, hm7⟩ := S7.out.mp
               have hown7 := hm7.own
               have HM7 := Aside0.mk hm7
               clear hr hcl hg hm7)
            | (gi_at_range; refine wpListIn_range_own _ rfl _ 28 rfl 9 3 keyed9 Try.underlying28 _ _ _ _ rfl hown7 ?_; intro w8 hrg hg hs; have HRG := Aside0.mk hrg; have HG := Aside0.mk hg; clear hrg hg hs))
          go_frame
          have HB7 := Aside0.mk (S7.out.other (r := none) (fun k e => by cases e) HG.out)
          have AB8 := Aside0.mk (AB7.out.kept HG.out (by simp))
          have HR8 := Aside0.mk (HR7.out.kept HG.out (Decidable.em _))
          have HM8 : Aside0 (MapC w8 m i C D7) := ⟨HM7.out.same (HG.out.block m HM7.out.lt (by simp))⟩
          have hr0 : m < w7.heap.size := S7.out.mlt
          have hbl : wr.heap.size < w7.heap.size := AB7.out.lt
          have hst0 := left_start (C := C) (who := a.f1) (left := Maps.has D7) (fun e he => by rw [HM7.out.hs e.1]; exact hasC_iff.2 ⟨e, he, rfl⟩)
          have HST0 := Aside0.mk hst0
          have hVs : (wr.alloc (Obj.cells #[.int .i64 a.f0, .int .i64 a.f1, .string a.f2] 30)).heap.size = wr.heap.size + 1 := World.size_alloc _ _
          rw [hVs] at HR8
          clear hst0 HG S7 AB7 HR7 HFR AB SV d0 d1 d2 hbV hVs hown7
          generalize w7.heap.size = r0 at *
          gi_loopw [13] (fun v13 wq => ∃ (left : Lit → Bool) (cnt t : Nat) (D' : DataW Unit), v13 = .int .i64 (t : Int) ∧ wq.ranges Try.prog 9 (plainElem Try.prog 3) m r0 i D' left cnt ∧ Aside0 (t = (goneC C a.f1 left).length) ∧ Aside0 (MapC wq m i (leftC C a.f1 left) D') ∧ Aside0 (wq.ownsRow (wr.heap.size + 1) 9 1 (.slice A7 ks.length c7) ks.length (ks.map encStr)) ∧ Aside0 (ASt w wq p b bc m who i i (freeC C a.f1) (leftC C a.f1 left)) ∧ Aside0 (ActB wq wr.heap.size a)) (fun _ wq => wq.rangeLeft m r0)
          case atStart => exact ⟨_, _, 0, D7, rfl, HRG.out, ⟨by rw [HST0.out.2]; rfl⟩, ⟨by rw [HST0.out.1]; exact HM8.out⟩, HR8, ⟨by rw [HST0.out.1]; exact HB7.out⟩, AB8⟩
          case round =>
            clear HRG HM8 HR8 HB7 AB8 HST0 HM7
            obtain ⟨left, cnt, t, D', rfl, hrg, HT, HM, HR, SS, AB⟩ := hrel
            have htl : t ≤ 60 := by
              rw [HT.out]
              exact Nat.le_trans (List.length_filter_le _ _) (by omega)
            have d1 := AB.out.c1
            gi_wp2_with (first
              | (gi_at_next; refine wpListIn_next_ranges _ rfl _ rfl 9 keyed9 (plainElem Try.prog 3) encStr (Value.int .i64) (fun key kl hk => by obtain ⟨x, hx, _⟩ := Maps.keyOf_str Try.underlying9 hk; exact ⟨x, hx⟩) (fun v y hv => by obtain ⟨c, rfl, _⟩ := plainElem_int_inv Try.underlying3 hv; exact ⟨c, rfl⟩) m r0 i _ _ _ rfl hrg ?_ ?_)
              | gi_in)
            · intro hc0 hl0
              obtain ⟨q1, q2⟩ := left_end C a.f1 hl0
              have htk : t = ks.length := by rw [HT.out, q2, HKL.out]
              rw [q1, ← HC2.out] at SS
              have S9 : Aside0 (ASt w wr p b bc m who i i C2 C2) := SS
              subst htk
              clear SS HM q1 q2 hrg
              cases hh : hasC C2 key with
              | true =>
                by_cases hv : valC C2 key = who
                · have hBZ : busyC C2 who key = false := by unfold busyC; simp [hv]
                  have hb : (valC C2 key == who) = true := by simpa using hv
                  obtain ⟨DT, hmT⟩ := S9.out.mp
                  have lT := hmT.look2 hkm
                  rw [hh, hv] at lT
                  have lenT := hmT.len 3
                  have HBT := S9.out.b1
                  have HBU := S9.out.b2
                  clear hmT
                  gi_wp2_with (first
                    | (refine ⟨trivial, ?_⟩; gi_at_call 22; refine (callsIn_wide.2 (busy1_any S9.out.cl _ _ who hkm HBT HBU)).mono ?_; rw [hBZ]; rintro e wT ⟨rfl, rfl⟩)
                    | (refine ⟨trivial, ?_⟩; gi_at_call 13; refine (callsIn_wide.2 (len_any S9.out.cl)).mono ?_; rintro e wT ⟨rfl, rfl⟩))
                  exact ⟨⟨i + 1, by simp, by omega, ⟨by rw [← HCE.out]; exact S9.out.more (by omega) (by omega)⟩⟩, by simp [intOf]; omega⟩
                · have hBZ : busyC C2 who key = true := by unfold busyC; simp [hv, hh]
                  have hb : (valC C2 key == who) = false := by simpa using hv
                  have hbn : (valC C2 key != who) = true := by simpa using hv
                  obtain ⟨vk, hvk⟩ : ∃ vk, vk = valC C2 key := ⟨_, rfl⟩
                  rw [← hvk] at hv hb hbn
                  have HVK := Aside0.mk hvk
                  clear hvk
                  obtain ⟨DT, hmT⟩ := S9.out.mp
                  have lT := hmT.look2 hkm
                  rw [hh, ← HVK.out] at lT
                  have lenT := hmT.len 3
                  have HBT := S9.out.b1
                  have HBU := S9.out.b2
                  clear hmT
                  gi_wp2_with (first
                    | (refine ⟨trivial, ?_⟩; gi_at_call 22; refine (callsIn_wide.2 (busy1_any S9.out.cl _ _ who hkm HBT HBU)).mono ?_; rw [hBZ]; rintro e wT ⟨rfl, rfl⟩)
                    | (refine ⟨trivial, ?_⟩; gi_at_call 13; refine (callsIn_wide.2 (len_any S9.out.cl)).mono ?_; rintro e wT ⟨rfl, rfl⟩))
                  exact ⟨⟨i + 1, by simp, by omega, ⟨by rw [← HCE.out]; exact S9.out.more (by omega) (by omega)⟩⟩, by simp [intOf]; omega⟩
              | false =>
                have hBZ : busyC C2 who key = false := by unfold busyC; simp [hh]
                obtain ⟨DT, hmT⟩ := S9.out.mp
                have lT := hmT.look2 hkm
                rw [hh] at lT
                have lenT := hmT.len 3
                have HBT := S9.out.b1
                have HBU := S9.out.b2
                clear hmT
                gi_wp2_with (first
                  | (refine ⟨trivial, ?_⟩; gi_at_call 22; refine (callsIn_wide.2 (busy1_any S9.out.cl _ _ who hkm HBT HBU)).mono ?_; rw [hBZ]; rintro e wT ⟨rfl, rfl⟩)
                  | (refine ⟨trivial, ?_⟩; gi_at_call 13; refine (callsIn_wide.2 (len_any S9.out.cl)).mono ?_; rintro e wT ⟨rfl, rfl⟩))
                exact ⟨⟨i + 1, by simp, by omega, ⟨by rw [← HCE.out]; exact S9.out.more (by omega) (by omega)⟩⟩, by simp [intOf]; omega⟩
            · intro x cx kl yd yp w3 cnt2 hkey hlk hv hat hrg2 hlt3 hg2 hs2 hen
              obtain ⟨x', ex, rfl, _⟩ := Maps.keyOf_str Try.underlying9 hkey
              obtain rfl : x = x' := encStr_inj ex
              obtain ⟨c', ec, ey, hwc⟩ := plainElem_int_inv Try.underlying3 hv
              cases ec
              cases ey
              have hh := HM.out.hs ⟨x.toArray⟩
              rw [show Maps.has D' (lk ⟨x.toArray⟩) = true by simpa [lk] using has_true_of_atKey hat] at hh
              have hvl : valC (leftC C a.f1 left) ⟨x.toArray⟩ = cx := lit_inj ((HM.out.at' ⟨x.toArray⟩).symm.trans (by simpa [lk] using hat (.lit (.int .i64 0))))
              have hmem := val_mem HM.out.nd hh.symm
              rw [hvl] at hmem
              have hmC : (⟨x.toArray⟩, cx) ∈ C := (List.mem_filter.1 hmem).1
              have hasx : hasC C ⟨x.toArray⟩ = true := hasC_iff.2 ⟨_, hmC, rfl⟩
              have hvx : valC C ⟨x.toArray⟩ = cx := valC_of hnd.out hmC
              have hmr : some m ≠ some r0 := fun e => by cases e; exact Nat.lt_irrefl _ hr0
              have S3 := Aside0.mk (SS.out.other (r := some r0) (fun k e => by cases e; exact hr0) hg2)
              have AB3 := Aside0.mk (AB.out.kept hg2 (fun e => by cases e; exact Nat.lt_irrefl _ hbl))
              have HR3 := Aside0.mk (HR.out.kept hg2 (Or.inr (row_ne_iter HR.out hrg).symm))
              have HM3 : Aside0 (MapC w3 m i (leftC C a.f1 left) D') := ⟨HM.out.same (hg2.block m HM.out.lt hmr)⟩
              have HLE := Aside0.mk hrg.left_eq
              have HLT := Aside0.mk hlt3
              have HRG2 := Aside0.mk hrg2
              have d13 := AB3.out.c1
              have HHX := Aside0.mk hasx
              have HVX := Aside0.mk hvx
              have HLK := Aside0.mk hlk
              have HKEY := Aside0.mk hkey
              clear hs2 hh hvl hmem hmC hasx hvx hat hg2 hrg hrg2 hkey hv hlt3 d1 AB SS HR HM hlk
              by_cases hcw : cx = a.f1
              · have hcb : (cx == a.f1) = true := by simpa using hcw
                have hlen1 := left_del hnd.out HHX.out (HVX.out.trans hcw) HLK.out
                have HL1 := Aside0.mk hlen1
                clear hlen1
                gi_wp2_with (first
                  | (gi_at_delete; refine wpListIn_delete_ranges _ rfl _ _ 28 9 rfl 3 keyed9 Try.underlying28 _ m r0 i _ _ _ rfl HRG2.out (encStr x) _ rfl HKEY.out ?_
                     intro w9 cnt3 hrg3 hle3 hmt3
                     have HRG3 := Aside0.mk hrg3
                     have HLE3 := Aside0.mk hle3
                     have HG3 := Aside0.mk hmt3.grown
                     clear hrg3 hle3 hmt3)
                  | gi_in)
                have S9 := Aside0.mk (S3.out.map (HM3.out.lost (x := ⟨x.toArray⟩) HRG3.out.owns) HG3.out)
                have AB9 := Aside0.mk (AB3.out.kept HG3.out (fun e => by cases e; omega))
                have HR9 := Aside0.mk (HR3.out.kept HG3.out (Or.inr (row_ne_low HR3.out (by omega)).symm))
                have HM9 := Aside0.mk (HM3.out.lost (x := ⟨x.toArray⟩) HRG3.out.owns)
                have hxk : x ∈ ks := (HKM.out x).2 ⟨HHX.out, HVX.out.trans hcw⟩
                have HXK := Aside0.mk hxk
                clear S3 AB3 HR3 HM3 HRG2 d13 HHX HVX HKEY hxk hen HG3
                gi_loopw [16, 84] (fun v16 v84 wq => ∃ j : Nat, v84 = .int .i64 (j : Int) ∧ v16 = .bool (decide (x ∈ ks.take j)) ∧ j ≤ ks.length ∧ wq = w9) (fun _ v84 _ => ks.length - (intOf v84).toNat)
                case atStart => exact ⟨0, rfl, by simp, Nat.zero_le _, rfl⟩
                case round =>
                  obtain ⟨j, rfl, rfl, hj, rfl⟩ := hrel
                  have g2 : (0 : Int) ≤ (j : Int) := by omega
                  by_cases hjl : j < ks.length
                  · have g3 : (j : Int) < (ks.length : Int) := by omega
                    obtain ⟨ad2, ea2, e20⟩ := row_cell HR9.out rfl hjl
                    have htk := List.take_succ_eq_append_getElem hjl
                    obtain ⟨y, hy⟩ : ∃ y, y = ks[j] := ⟨_, rfl⟩
                    rw [← hy] at e20 htk
                    clear hy
                    subst ea2
                    by_cases hin : x ∈ ks.take j
                    · have hdc : decide (x ∈ ks.take j) = true := decide_eq_true hin
                      have hdn : decide (x ∈ ks.take (j + 1)) = true := by rw [htk]; exact decide_eq_true (List.mem_append_left _ hin)
                      have HDN := Aside0.mk hdn
                      clear hdn htk hin
                      rw [hdc]
                      gi_wp2
                      exact ⟨⟨j + 1, by simp, by rw [HDN.out], by omega, trivial⟩, by simp [intOf]; omega⟩
                    · have hdc : decide (x ∈ ks.take j) = false := decide_eq_false hin
                      rw [hdc]
                      by_cases hyx : y = x
                      · have hdn : decide (x ∈ ks.take (j + 1)) = true := by rw [htk]; exact decide_eq_true (List.mem_append_right _ (by simp [hyx]))
                        have HDN := Aside0.mk hdn
                        clear hdn htk hin hdc
                        subst hyx
                        gi_wp2
                        exact ⟨⟨j + 1, by simp, by rw [HDN.out], by omega, trivial⟩, by simp [intOf]; omega⟩
                      · have hdn : decide (x ∈ ks.take (j + 1)) = false := by rw [htk]; exact decide_eq_false (fun h => (List.mem_append.1 h).elim hin (fun h2 => hyx (List.mem_singleton.1 h2).symm))
                        have HDN := Aside0.mk hdn
                        have hne : ((⟨y.toArray⟩ : ByteArray).toList == (⟨x.toArray⟩ : ByteArray).toList) = false := by
                          rw [ByteArray.toList_eq, ByteArray.toList_eq]
                          simpa using hyx
                        clear hdn htk hin hdc
                        gi_wp2
                        exact ⟨⟨j + 1, by simp, by rw [HDN.out]; simp [hyx], by omega, trivial⟩, by simp [intOf]; omega⟩
                  · have hjz : j = ks.length := by omega
                    subst hjz
                    have hdc : decide (x ∈ ks.take ks.length) = true := by rw [List.take_length]; exact decide_eq_true HXK.out
                    rw [hdc]
                    clear hj hjl hdc
                    gi_wp2
                    have HRG4 := HRG3.out
                    rw [twice] at HRG4
                    refine ⟨⟨_, cnt3, t + 1, _, by simp, HRG4, ⟨by rw [HL1.out.2, ← HT.out]⟩, ⟨by rw [HL1.out.1]; exact HM9.out⟩, HR9, ⟨by rw [HL1.out.1]; exact S9.out⟩, AB9⟩, ?_⟩
                    rw [HRG4.left_eq, HLE.out]
                    exact Nat.lt_of_le_of_lt HLE3.out HLT.out
              · have hcb : (cx == a.f1) = false := by simpa using hcw
                obtain ⟨q1, q2⟩ := left_skip hnd.out (left := left) HHX.out (fun e => hcw (HVX.out.symm.trans e))
                have Q1 := Aside0.mk q1
                have Q2 := Aside0.mk q2
                clear q1 q2
                gi_wp2
                refine ⟨⟨_, cnt2, t, D', rfl, HRG2.out, ⟨by rw [HT.out]; exact (congrArg List.length Q2.out).symm⟩, ⟨by rw [show leftC C a.f1 (fun z => left z && !z.sameKey (Lit.string x)) = leftC C a.f1 left from Q1.out]; exact HM3.out⟩, HR3, ⟨by rw [show leftC C a.f1 (fun z => left z && !z.sameKey (Lit.string x)) = leftC C a.f1 left from Q1.out]; exact S3.out⟩, AB3⟩, ?_⟩
                rw [HRG2.out.left_eq, HLE.out]
                exact HLT.out
        · have hC2 : C2 = (takeC C a.f1 a.f2).2 := by rw [HST.out]; unfold stepC; rw [if_neg (by rw [HKU.out]; omega)]
          have hkb : ((R : Int) == 2) = false := by
            have : ¬ (R : Int) = 2 := by omega
            simpa using this
          obtain ⟨D0, hm0⟩ := SV.out.mp
          have l0 := hm0.look2 hxm
          have HTK := Aside0.mk (take_any SV.out.cl (by simp only [maxLen]; omega) a.f1 HWA.out.2 hxm)
          clear hm0
          cases hh0 : hasC C a.f2 with
          | true =>
            rw [hh0] at l0
            by_cases hv0 : valC C a.f2 = a.f1
            · have e1 : takeC C a.f1 a.f2 = (true, C) := by unfold takeC; rw [if_pos hh0, hv0]; simp
              have hb0 : (valC C a.f2 == a.f1) = true := by simpa using hv0
              rw [e1] at HTK hC2
              rw [hv0] at l0
              replace hC2 : C2 = C := hC2
              rw [← hC2] at HTK
              have HC2 := Aside0.mk hC2
              clear hC2 hh0 hv0 e1 hb0
              subst hV
              cases hh : hasC C2 key with
              | true =>
                by_cases hv : valC C2 key = who
                · have hBZ : busyC C2 who key = false := by unfold busyC; simp [hv]
                  have hb : (valC C2 key == who) = true := by simpa using hv
                  gi_wp2_with (first
                    | (refine ⟨trivial, ?_⟩; gi_at_call 12; refine (callsIn_wide.2 HTK.out).mono ?_; rintro e w5 ⟨rfl, hcl, hg⟩
                       have S9 : Aside0 (ASt w w5 p b bc m who (i + 1) (i + 1) C2 C2) := ⟨by have h := (SV.out.claim hcl hg).more (Nat.le_refl _) (Nat.le_succ _); rw [← HC2.out] at h; exact h⟩
                       have AB5 := Aside0.mk (AB.out.kept hg (fun e => by have := S.out.cl.mlt; cases e; omega))
                       have d15 := AB5.out.c1
                       have d25 := AB5.out.c2
                       obtain ⟨DT, hmT⟩ := S9.out.mp
                       have lT := hmT.look2 hkm
                       rw [hh, hv] at lT
                       have lenT := hmT.len 3
                       have HBT := S9.out.b1
                       have HBU := S9.out.b2
                       clear hcl hg hmT)
                    | (refine ⟨trivial, ?_⟩; gi_at_call 22; refine (callsIn_wide.2 (busy1_any S9.out.cl _ _ who hkm HBT HBU)).mono ?_; rw [hBZ]; rintro e wT ⟨rfl, rfl⟩)
                    | (refine ⟨trivial, ?_⟩; gi_at_call 13; refine (callsIn_wide.2 (len_any S9.out.cl)).mono ?_; rintro e wT ⟨rfl, rfl⟩))
                  exact ⟨⟨i + 1, by simp, by omega, ⟨by rw [← HCE.out]; exact S9.out⟩⟩, by simp [intOf]; omega⟩
                · have hBZ : busyC C2 who key = true := by unfold busyC; simp [hv, hh]
                  have hb : (valC C2 key == who) = false := by simpa using hv
                  have hbn : (valC C2 key != who) = true := by simpa using hv
                  obtain ⟨vk, hvk⟩ : ∃ vk, vk = valC C2 key := ⟨_, rfl⟩
                  rw [← hvk] at hv hb hbn
                  have HVK := Aside0.mk hvk
                  clear hvk
                  gi_wp2_with (first
                    | (refine ⟨trivial, ?_⟩; gi_at_call 12; refine (callsIn_wide.2 HTK.out).mono ?_; rintro e w5 ⟨rfl, hcl, hg⟩
                       have S9 : Aside0 (ASt w w5 p b bc m who (i + 1) (i + 1) C2 C2) := ⟨by have h := (SV.out.claim hcl hg).more (Nat.le_refl _) (Nat.le_succ _); rw [← HC2.out] at h; exact h⟩
                       have AB5 := Aside0.mk (AB.out.kept hg (fun e => by have := S.out.cl.mlt; cases e; omega))
                       have d15 := AB5.out.c1
                       have d25 := AB5.out.c2
                       obtain ⟨DT, hmT⟩ := S9.out.mp
                       have lT := hmT.look2 hkm
                       rw [hh, ← HVK.out] at lT
                       have lenT := hmT.len 3
                       have HBT := S9.out.b1
                       have HBU := S9.out.b2
                       clear hcl hg hmT)
                    | (refine ⟨trivial, ?_⟩; gi_at_call 22; refine (callsIn_wide.2 (busy1_any S9.out.cl _ _ who hkm HBT HBU)).mono ?_; rw [hBZ]; rintro e wT ⟨rfl, rfl⟩)
                    | (refine ⟨trivial, ?_⟩; gi_at_call 13; refine (callsIn_wide.2 (len_any S9.out.cl)).mono ?_; rintro e wT ⟨rfl, rfl⟩))
                  exact ⟨⟨i + 1, by simp, by omega, ⟨by rw [← HCE.out]; exact S9.out⟩⟩, by simp [intOf]; omega⟩
              | false =>
                have hBZ : busyC C2 who key = false := by unfold busyC; simp [hh]
                gi_wp2_with (first
                  | (refine ⟨trivial, ?_⟩; gi_at_call 12; refine (callsIn_wide.2 HTK.out).mono ?_; rintro e w5 ⟨rfl, hcl, hg⟩
                     have S9 : Aside0 (ASt w w5 p b bc m who (i + 1) (i + 1) C2 C2) := ⟨by have h := (SV.out.claim hcl hg).more (Nat.le_refl _) (Nat.le_succ _); rw [← HC2.out] at h; exact h⟩
                     have AB5 := Aside0.mk (AB.out.kept hg (fun e => by have := S.out.cl.mlt; cases e; omega))
                     have d15 := AB5.out.c1
                     have d25 := AB5.out.c2
                     obtain ⟨DT, hmT⟩ := S9.out.mp
                     have lT := hmT.look2 hkm
                     rw [hh] at lT
                     have lenT := hmT.len 3
                     have HBT := S9.out.b1
                     have HBU := S9.out.b2
                     clear hcl hg hmT)
                  | (refine ⟨trivial, ?_⟩; gi_at_call 22; refine (callsIn_wide.2 (busy1_any S9.out.cl _ _ who hkm HBT HBU)).mono ?_; rw [hBZ]; rintro e wT ⟨rfl, rfl⟩)
                  | (refine ⟨trivial, ?_⟩; gi_at_call 13; refine (callsIn_wide.2 (len_any S9.out.cl)).mono ?_; rintro e wT ⟨rfl, rfl⟩))
                exact ⟨⟨i + 1, by simp, by omega, ⟨by rw [← HCE.out]; exact S9.out⟩⟩, by simp [intOf]; omega⟩
            · have e1 : takeC C a.f1 a.f2 = (false, C) := by unfold takeC; rw [if_pos hh0]; simp [hv0]
              have hb0 : (valC C a.f2 == a.f1) = false := by simpa using hv0
              rw [e1] at HTK hC2
              replace hC2 : C2 = C := hC2
              rw [← hC2] at HTK
              have HC2 := Aside0.mk hC2
              obtain ⟨v0, hv1⟩ : ∃ v0, v0 = valC C a.f2 := ⟨_, rfl⟩
              rw [← hv1] at hv0 hb0 l0
              clear hC2 hh0 e1 hv1
              subst hV
              cases hh : hasC C2 key with
              | true =>
                by_cases hv : valC C2 key = who
                · have hBZ : busyC C2 who key = false := by unfold busyC; simp [hv]
                  have hb : (valC C2 key == who) = true := by simpa using hv
                  gi_wp2_with (first
                    | (refine ⟨trivial, ?_⟩; gi_at_call 12; refine (callsIn_wide.2 HTK.out).mono ?_; rintro e w5 ⟨rfl, hcl, hg⟩
                       have S9 : Aside0 (ASt w w5 p b bc m who (i + 1) (i + 1) C2 C2) := ⟨by have h := (SV.out.claim hcl hg).more (Nat.le_refl _) (Nat.le_succ _); rw [← HC2.out] at h; exact h⟩
                       have AB5 := Aside0.mk (AB.out.kept hg (fun e => by have := S.out.cl.mlt; cases e; omega))
                       have d15 := AB5.out.c1
                       have d25 := AB5.out.c2
                       obtain ⟨DT, hmT⟩ := S9.out.mp
                       have lT := hmT.look2 hkm
                       rw [hh, hv] at lT
                       have lenT := hmT.len 3
                       have HBT := S9.out.b1
                       have HBU := S9.out.b2
                       clear hcl hg hmT)
                    | (refine ⟨trivial, ?_⟩; gi_at_call 22; refine (callsIn_wide.2 (busy1_any S9.out.cl _ _ who hkm HBT HBU)).mono ?_; rw [hBZ]; rintro e wT ⟨rfl, rfl⟩)
                    | (refine ⟨trivial, ?_⟩; gi_at_call 13; refine (callsIn_wide.2 (len_any S9.out.cl)).mono ?_; rintro e wT ⟨rfl, rfl⟩))
                  exact ⟨⟨i + 1, by simp, by omega, ⟨by rw [← HCE.out]; exact S9.out⟩⟩, by simp [intOf]; omega⟩
                · have hBZ : busyC C2 who key = true := by unfold busyC; simp [hv, hh]
                  have hb : (valC C2 key == who) = false := by simpa using hv
                  have hbn : (valC C2 key != who) = true := by simpa using hv
                  obtain ⟨vk, hvk⟩ : ∃ vk, vk = valC C2 key := ⟨_, rfl⟩
                  rw [← hvk] at hv hb hbn
                  have HVK := Aside0.mk hvk
                  clear hvk
                  gi_wp2_with (first
                    | (refine ⟨trivial, ?_⟩; gi_at_call 12; refine (callsIn_wide.2 HTK.out).mono ?_; rintro e w5 ⟨rfl, hcl, hg⟩
                       have S9 : Aside0 (ASt w w5 p b bc m who (i + 1) (i + 1) C2 C2) := ⟨by have h := (SV.out.claim hcl hg).more (Nat.le_refl _) (Nat.le_succ _); rw [← HC2.out] at h; exact h⟩
                       have AB5 := Aside0.mk (AB.out.kept hg (fun e => by have := S.out.cl.mlt; cases e; omega))
                       have d15 := AB5.out.c1
                       have d25 := AB5.out.c2
                       obtain ⟨DT, hmT⟩ := S9.out.mp
                       have lT := hmT.look2 hkm
                       rw [hh, ← HVK.out] at lT
                       have lenT := hmT.len 3
                       have HBT := S9.out.b1
                       have HBU := S9.out.b2
                       clear hcl hg hmT)
                    | (refine ⟨trivial, ?_⟩; gi_at_call 22; refine (callsIn_wide.2 (busy1_any S9.out.cl _ _ who hkm HBT HBU)).mono ?_; rw [hBZ]; rintro e wT ⟨rfl, rfl⟩)
                    | (refine ⟨trivial, ?_⟩; gi_at_call 13; refine (callsIn_wide.2 (len_any S9.out.cl)).mono ?_; rintro e wT ⟨rfl, rfl⟩))
                  exact ⟨⟨i + 1, by simp, by omega, ⟨by rw [← HCE.out]; exact S9.out⟩⟩, by simp [intOf]; omega⟩
              | false =>
                have hBZ : busyC C2 who key = false := by unfold busyC; simp [hh]
                gi_wp2_with (first
                  | (refine ⟨trivial, ?_⟩; gi_at_call 12; refine (callsIn_wide.2 HTK.out).mono ?_; rintro e w5 ⟨rfl, hcl, hg⟩
                     have S9 : Aside0 (ASt w w5 p b bc m who (i + 1) (i + 1) C2 C2) := ⟨by have h := (SV.out.claim hcl hg).more (Nat.le_refl _) (Nat.le_succ _); rw [← HC2.out] at h; exact h⟩
                     have AB5 := Aside0.mk (AB.out.kept hg (fun e => by have := S.out.cl.mlt; cases e; omega))
                     have d15 := AB5.out.c1
                     have d25 := AB5.out.c2
                     obtain ⟨DT, hmT⟩ := S9.out.mp
                     have lT := hmT.look2 hkm
                     rw [hh] at lT
                     have lenT := hmT.len 3
                     have HBT := S9.out.b1
                     have HBU := S9.out.b2
                     clear hcl hg hmT)
                  | (refine ⟨trivial, ?_⟩; gi_at_call 22; refine (callsIn_wide.2 (busy1_any S9.out.cl _ _ who hkm HBT HBU)).mono ?_; rw [hBZ]; rintro e wT ⟨rfl, rfl⟩)
                  | (refine ⟨trivial, ?_⟩; gi_at_call 13; refine (callsIn_wide.2 (len_any S9.out.cl)).mono ?_; rintro e wT ⟨rfl, rfl⟩))
                exact ⟨⟨i + 1, by simp, by omega, ⟨by rw [← HCE.out]; exact S9.out⟩⟩, by simp [intOf]; omega⟩
          | false =>
            have e1 : takeC C a.f1 a.f2 = (true, C ++ [(a.f2, a.f1)]) := by unfold takeC; rw [if_neg (by rw [hh0]; decide)]
            rw [e1] at HTK hC2
            rw [hh0] at l0
            replace hC2 : C2 = C ++ [(a.f2, a.f1)] := hC2
            rw [← hC2] at HTK
            have HC2 := Aside0.mk hC2
            have HH0 := Aside0.mk hh0
            clear hC2 hh0 e1
            subst hV
            cases hh : hasC C2 key with
            | true =>
              by_cases hv : valC C2 key = who
              · have hBZ : busyC C2 who key = false := by unfold busyC; simp [hv]
                have hb : (valC C2 key == who) = true := by simpa using hv
                gi_wp2_with (first
                  | (refine ⟨trivial, ?_⟩; gi_at_call 12; refine (callsIn_wide.2 HTK.out).mono ?_; rintro e w5 ⟨rfl, hcl, hg⟩
                     have S5 := Aside0.mk (SV.out.claim hcl hg)
                     have AB5 := Aside0.mk (AB.out.kept hg (fun e => by have := S.out.cl.mlt; cases e; omega))
                     have d15 := AB5.out.c1
                     have d25 := AB5.out.c2
                     obtain ⟨D5, hm5⟩ := S5.out.mp
                     obtain ⟨w9, D9, u1, u2, u3⟩ := hm5.put (by simp only [maxLen]; omega) hxm HWA.out.2 HH0.out
                     have S9 : Aside0 (ASt w w9 p b bc m who (i + 1) (i + 1) C2 C2) := ⟨by have h := S5.out.map u2 u3; rw [← HC2.out] at h; exact h⟩
                     obtain ⟨DT, hmT⟩ := S9.out.mp
                     have lT := hmT.look2 hkm
                     rw [hh, hv] at lT
                     have lenT := hmT.len 3
                     have HBT := S9.out.b1
                     have HBU := S9.out.b2
                     clear hcl hg hmT hm5 u2 u3)
                  | (refine ⟨trivial, ?_⟩; gi_at_call 22; refine (callsIn_wide.2 (busy1_any S9.out.cl _ _ who hkm HBT HBU)).mono ?_; rw [hBZ]; rintro e wT ⟨rfl, rfl⟩)
                  | (refine ⟨trivial, ?_⟩; gi_at_call 13; refine (callsIn_wide.2 (len_any S9.out.cl)).mono ?_; rintro e wT ⟨rfl, rfl⟩))
                exact ⟨⟨i + 1, by simp, by omega, ⟨by rw [← HCE.out]; exact S9.out⟩⟩, by simp [intOf]; omega⟩
              · have hBZ : busyC C2 who key = true := by unfold busyC; simp [hv, hh]
                have hb : (valC C2 key == who) = false := by simpa using hv
                have hbn : (valC C2 key != who) = true := by simpa using hv
                obtain ⟨vk, hvk⟩ : ∃ vk, vk = valC C2 key := ⟨_, rfl⟩
                rw [← hvk] at hv hb hbn
                have HVK := Aside0.mk hvk
                clear hvk
                gi_wp2_with (first
                  | (refine ⟨trivial, ?_⟩; gi_at_call 12; refine (callsIn_wide.2 HTK.out).mono ?_; rintro e w5 ⟨rfl, hcl, hg⟩
                     have S5 := Aside0.mk (SV.out.claim hcl hg)
                     have AB5 := Aside0.mk (AB.out.kept hg (fun e => by have := S.out.cl.mlt; cases e; omega))
                     have d15 := AB5.out.c1
                     have d25 := AB5.out.c2
                     obtain ⟨D5, hm5⟩ := S5.out.mp
                     obtain ⟨w9, D9, u1, u2, u3⟩ := hm5.put (by simp only [maxLen]; omega) hxm HWA.out.2 HH0.out
                     have S9 : Aside0 (ASt w w9 p b bc m who (i + 1) (i + 1) C2 C2) := ⟨by have h := S5.out.map u2 u3; rw [← HC2.out] at h; exact h⟩
                     obtain ⟨DT, hmT⟩ := S9.out.mp
                     have lT := hmT.look2 hkm
                     rw [hh, ← HVK.out] at lT
                     have lenT := hmT.len 3
                     have HBT := S9.out.b1
                     have HBU := S9.out.b2
                     clear hcl hg hmT hm5 u2 u3)
                  | (refine ⟨trivial, ?_⟩; gi_at_call 22; refine (callsIn_wide.2 (busy1_any S9.out.cl _ _ who hkm HBT HBU)).mono ?_; rw [hBZ]; rintro e wT ⟨rfl, rfl⟩)
                  | (refine ⟨trivial, ?_⟩; gi_at_call 13; refine (callsIn_wide.2 (len_any S9.out.cl)).mono ?_; rintro e wT ⟨rfl, rfl⟩))
                exact ⟨⟨i + 1, by simp, by omega, ⟨by rw [← HCE.out]; exact S9.out⟩⟩, by simp [intOf]; omega⟩
            | false =>
              have hBZ : busyC C2 who key = false := by unfold busyC; simp [hh]
              gi_wp2_with (first
                | (refine ⟨trivial, ?_⟩; gi_at_call 12; refine (callsIn_wide.2 HTK.out).mono ?_; rintro e w5 ⟨rfl, hcl, hg⟩
                   have S5 := Aside0.mk (SV.out.claim hcl hg)
                   have AB5 := Aside0.mk (AB.out.kept hg (fun e => by have := S.out.cl.mlt; cases e; omega))
                   have d15 := AB5.out.c1
                   have d25 := AB5.out.c2
                   obtain ⟨D5, hm5⟩ := S5.out.mp
                   obtain ⟨w9, D9, u1, u2, u3⟩ := hm5.put (by simp only [maxLen]; omega) hxm HWA.out.2 HH0.out
                   have S9 : Aside0 (ASt w w9 p b bc m who (i + 1) (i + 1) C2 C2) := ⟨by have h := S5.out.map u2 u3; rw [← HC2.out] at h; exact h⟩
                   obtain ⟨DT, hmT⟩ := S9.out.mp
                   have lT := hmT.look2 hkm
                   rw [hh] at lT
                   have lenT := hmT.len 3
                   have HBT := S9.out.b1
                   have HBU := S9.out.b2
                   clear hcl hg hmT hm5 u2 u3)
                | (refine ⟨trivial, ?_⟩; gi_at_call 22; refine (callsIn_wide.2 (busy1_any S9.out.cl _ _ who hkm HBT HBU)).mono ?_; rw [hBZ]; rintro e wT ⟨rfl, rfl⟩)
                | (refine ⟨trivial, ?_⟩; gi_at_call 13; refine (callsIn_wide.2 (len_any S9.out.cl)).mono ?_; rintro e wT ⟨rfl, rfl⟩))
              exact ⟨⟨i + 1, by simp, by omega, ⟨by rw [← HCE.out]; exact S9.out⟩⟩, by simp [intOf]; omega⟩
      · have hx2 : (100 : Int) < (a.f2.size : Int) := by omega
        subst hV
        gi_wp2
        exact ⟨_, results_tmp rfl _ _ _, rfl, SV.out.bel⟩
    · have hiz : i = l.length := by omega
      subst hiz
      clear hi hlt g0
      generalize actsC (l.take l.length) = C at *
      have HOF := Aside0.mk (of_any S.out.cl (by omega) who)
      obtain ⟨ks, hks⟩ : ∃ ks, ks = ofC C who := ⟨_, rfl⟩
      have HKM : Aside0 (∀ x, x ∈ ks ↔ (hasC C ⟨x.toArray⟩ = true ∧ valC C ⟨x.toArray⟩ = who)) := ⟨fun x => by rw [hks]; exact raw_has hnd.out⟩
      have hkl : (ofC C who).length = ks.length := by rw [hks]
      have hkl2 : ks.length ≤ 60 := by
        rw [hks, of_length]
        exact Nat.le_trans (List.length_filter_le _ _) (by omega)
      have HRI : Aside0 (∀ i (hi : i + 1 < ks.length), ks[i] < ks[i + 1]) := ⟨by rw [hks]; exact fun i hi => of_rise hnd.out who hi⟩
      have HSZ : Aside0 (∀ x ∈ ks, x.length ≤ maxLen) := ⟨fun x hx => raw_small S.out.cl (who := who) (by rw [← hks]; exact hx)⟩
      rw [← hks] at HOF
      have HKL := Aside0.mk hkl
      clear hks hkl
      have hmr : m < wr.heap.size := S.out.mlt
      gi_wp2_with (first
        | (refine ⟨trivial, ?_⟩; gi_at_call 14; refine (callsIn_wide.2 HOF.out).mono ?_; rintro e w7 ⟨A7, c7, rfl, hr, hb⟩
           have S7 := Aside0.mk (S.out.below hb)
           have HR7 := Aside0.mk hr
           obtain ⟨D7, hm7⟩ := S7.out.mp
           have hown7 := hm7.own
           have HM7 := Aside0.mk hm7
           clear hr hb hm7)
        | (gi_at_range; refine wpListIn_range_own _ rfl _ 28 rfl 9 3 keyed9 Try.underlying28 _ _ _ _ rfl hown7 ?_; intro w8 hrg hg hs; have HRG := Aside0.mk hrg; have HG := Aside0.mk hg; clear hrg hg hs))
      go_frame
      have HB7 := Aside0.mk (S7.out.other (r := none) (fun k e => by cases e) HG.out)
      have HR8 := Aside0.mk (HR7.out.kept HG.out (Decidable.em _))
      have HM8 : Aside0 (MapC w8 m l.length C D7) := ⟨HM7.out.same (HG.out.block m HM7.out.lt (by simp))⟩
      have hr0 : m < w7.heap.size := S7.out.mlt
      have hst0 := left_start (C := C) (who := who) (left := Maps.has D7) (fun e he => by rw [HM7.out.hs e.1]; exact hasC_iff.2 ⟨e, he, rfl⟩)
      have HST0 := Aside0.mk hst0
      clear hst0 HG S7 HR7 HOF hown7
      generalize w7.heap.size = r0 at *
      gi_loopw [24] (fun v24 wq => ∃ (left : Lit → Bool) (cnt t : Nat), v24 = .int .i64 (t : Int) ∧ wq.ranges Try.prog 9 (plainElem Try.prog 3) m r0 l.length D7 left cnt ∧ Aside0 (t = (goneC C who left).length) ∧ Aside0 (MapC wq m l.length C D7) ∧ Aside0 (wq.ownsRow wr.heap.size 9 1 (.slice A7 ks.length c7) ks.length (ks.map encStr)) ∧ Aside0 (ASt w wq p b bc m who l.length l.length C C)) (fun _ wq => wq.rangeLeft m r0)
      case atStart => exact ⟨_, _, 0, rfl, HRG.out, ⟨by rw [HST0.out.2]; rfl⟩, HM8, HR8, HB7⟩
      case round =>
        clear HRG HM8 HR8 HB7 HST0 HM7
        obtain ⟨left, cnt, t, rfl, hrg, HT, HM, HR, SS⟩ := hrel
        have htl : t ≤ 60 := by
          rw [HT.out]
          exact Nat.le_trans (List.length_filter_le _ _) (by omega)
        gi_wp2_with (first
          | (gi_at_next; refine wpListIn_next_ranges _ rfl _ rfl 9 keyed9 (plainElem Try.prog 3) encStr (Value.int .i64) (fun key kl hk => by obtain ⟨x, hx, _⟩ := Maps.keyOf_str Try.underlying9 hk; exact ⟨x, hx⟩) (fun v y hv => by obtain ⟨c, rfl, _⟩ := plainElem_int_inv Try.underlying3 hv; exact ⟨c, rfl⟩) m r0 l.length _ _ _ rfl hrg ?_ ?_)
          | gi_in)
        · intro hc0 hl0
          obtain ⟨q1, q2⟩ := left_end C who hl0
          have htk : t = ks.length := by rw [HT.out, q2, HKL.out]
          subst htk
          have HH : Aside0 (∀ x ∈ ks, (Instr.lookup 28 (.map (some m)) (.string ⟨x.toArray⟩) true).run Try.prog wr = .ok (.tuple #[.int .i64 who, .bool true]) wr) := ⟨fun x hx => by
            obtain ⟨y1, y2⟩ := (HKM.out x).1 hx
            have := HM.out.look2 (x := ⟨x.toArray⟩) (HSZ.out x hx)
            rw [y1, y2] at this
            exact this⟩
          clear HM q1 q2 hrg
          gi_wp2
          gi_loopw [170] (fun v170 wq => ∃ j : Nat, v170 = .int .i64 (j : Int) ∧ j ≤ ks.length ∧ wq = wr) (fun v170 _ => ks.length - (intOf v170).toNat)
          case atStart => exact ⟨0, rfl, Nat.zero_le _, rfl⟩
          case round =>
            obtain ⟨j, rfl, hj, rfl⟩ := hrel
            have g2 : (0 : Int) ≤ (j : Int) := by omega
            by_cases hjl : j < ks.length
            · have g3 : (j : Int) < (ks.length : Int) := by omega
              obtain ⟨ad2, ea2, e20⟩ := row_cell HR.out rfl hjl
              have l1 := HH.out _ (List.getElem_mem hjl)
              obtain ⟨x, hx⟩ : ∃ x, x = ks[j] := ⟨_, rfl⟩
              rw [← hx] at e20 l1
              rcases Nat.eq_zero_or_pos j with hj0 | hj0
              · have g6 : ¬ (0 : Int) < (j : Int) := by omega
                clear hj0 hx
                subst ea2
                gi_wp2
                exact ⟨⟨j + 1, by simp, by omega, trivial⟩, by simp [intOf]; omega⟩
              · obtain ⟨j0, hj1⟩ : ∃ j0, j = j0 + 1 := ⟨j - 1, by omega⟩
                have hri := HRI.out j0 (by omega)
                obtain ⟨ad3, ea3, e30⟩ := row_cell HR.out rfl (show j0 < ks.length by omega)
                rw [ea2] at ea3
                cases ea3
                have hbl : Op.bytesLess (⟨ks[j0].toArray⟩ : ByteArray).toList (⟨x.toArray⟩ : ByteArray).toList = true := by
                  rw [ByteArray.toList_eq, ByteArray.toList_eq, bytesLess_eq, hx]
                  subst hj1
                  exact decide_eq_true hri
                have hbl2 : Op.bytesLess ks[j0] x = true := by
                  rw [bytesLess_eq, hx]
                  subst hj1
                  exact decide_eq_true hri
                clear hri hx hj0
                generalize ks[j0] = y at *
                subst ea2
                have g4 : (0 : Int) ≤ (j0 : Int) := by omega
                have g5 : (j0 : Int) < (ks.length : Int) := by omega
                have g6 : (0 : Int) < (j : Int) := by omega
                have g7 : (j : Int) - 1 = (j0 : Int) := by omega
                clear hj1
                gi_wp2
                exact ⟨⟨j + 1, by simp, by omega, trivial⟩, by simp [intOf]; omega⟩
            · have hjz : j = ks.length := by omega
              subst hjz
              clear hj hjl HH
              gi_wp2_with (first
                | (refine ⟨trivial, ?_⟩; gi_at_call 12; refine (callsIn_wide.2 (take_nil _ _ _)).mono ?_; rintro e wT ⟨rfl, rfl⟩)
                | (refine ⟨trivial, ?_⟩; gi_at_call 10; refine (callsIn_wide.2 (busy_made _ _ _)).mono ?_; rintro e w5 ⟨rfl, b1, b2, hb⟩; have HB5 := Aside0.mk (SS.out.bel.trans (hb.mono SS.out.bel.size)); clear hb)
                | (refine ⟨trivial, ?_⟩; gi_at_call 22; refine (callsIn_wide.2 (busy1_nil _ _ _ _ b1)).mono ?_; rintro e w6 ⟨rfl, rfl⟩)
                | (refine ⟨trivial, ?_⟩; gi_at_call 11; refine (callsIn_wide.2 (free_nil _ _)).mono ?_; rintro e w7 ⟨rfl, rfl⟩)
                | (refine ⟨trivial, ?_⟩; gi_at_call 14; refine (callsIn_wide.2 (of_nil _ _)).mono ?_; rintro e w8 ⟨rfl, rfl⟩)
                | (refine ⟨trivial, ?_⟩; gi_at_call 13; refine (callsIn_wide.2 (len_nilC _)).mono ?_; rintro e w9 ⟨rfl, rfl⟩))
              exact ⟨_, results_tmp rfl _ _ _, by simp, HB5.out⟩
        · intro x cx kl yd yp w3 cnt2 hkey hlk hv hat hrg2 hlt3 hg2 hs2 hen
          obtain ⟨x', ex, rfl, _⟩ := Maps.keyOf_str Try.underlying9 hkey
          obtain rfl : x = x' := encStr_inj ex
          obtain ⟨c', ec, ey, hwc⟩ := plainElem_int_inv Try.underlying3 hv
          cases ec
          cases ey
          have hh := HM.out.hs ⟨x.toArray⟩
          rw [show Maps.has D7 (lk ⟨x.toArray⟩) = true by simpa [lk] using has_true_of_atKey hat] at hh
          have hvx : valC C ⟨x.toArray⟩ = cx := lit_inj ((HM.out.at' ⟨x.toArray⟩).symm.trans (by simpa [lk] using hat (.lit (.int .i64 0))))
          have hmr2 : some m ≠ some r0 := fun e => by cases e; exact Nat.lt_irrefl _ hr0
          have S3 := Aside0.mk (SS.out.other (r := some r0) (fun k e => by cases e; exact hr0) hg2)
          have HR3 := Aside0.mk (HR.out.kept hg2 (Or.inr (row_ne_iter HR.out hrg).symm))
          have HM3 : Aside0 (MapC w3 m l.length C D7) := ⟨HM.out.same (hg2.block m HM.out.lt hmr2)⟩
          have HLE := Aside0.mk hrg.left_eq
          have HLT := Aside0.mk hlt3
          have HRG2 := Aside0.mk hrg2
          by_cases hcw : cx = who
          · have hcb : (cx == who) = true := by simpa using hcw
            have HL1 := Aside0.mk (left_del hnd.out (left := left) hh.symm (hvx.trans hcw) hlk)
            clear hs2 hh hvx hat hg2 hrg hrg2 hkey hv hlt3 SS HR HM hlk
            gi_wp2
            refine ⟨⟨_, cnt2, t + 1, by simp, HRG2.out, ⟨by rw [HT.out]; exact HL1.out.2.symm⟩, HM3, HR3, S3⟩, ?_⟩
            rw [HRG2.out.left_eq, HLE.out]
            exact HLT.out
          · have hcb : (cx == who) = false := by simpa using hcw
            have HL1 := Aside0.mk (left_skip hnd.out (left := left) hh.symm (fun e => hcw (hvx.symm.trans e)))
            clear hs2 hh hvx hat hg2 hrg hrg2 hkey hv hlt3 SS HR HM hlk
            gi_wp2
            refine ⟨⟨_, cnt2, t, rfl, HRG2.out, ⟨by rw [HT.out]; exact (congrArg List.length HL1.out.2).symm⟩, HM3, HR3, S3⟩, ?_⟩
            rw [HRG2.out.left_eq, HLE.out]
            exact HLT.out
end Go.Proofs.Ytpfpejkndjdgkaa.Q
