/- TreeActs, the walk. -/
import Derived.Test.YtmpcmpanolnpfaaGa
set_option linter.unusedVariables false
set_option linter.unusedSimpArgs false
namespace Go.Proofs.Ytmpcmpanolnpfaa.Tr
open Go.RowKit Go.Proofs.YtmpcmpanolnpfaaW.PrintWords Go.Proofs.YtmpcmpanolnpfaaW.PrintLast Go.Proofs.YtmpcmpanolnpfaaW.PrintMore
attribute [local go_sem] Oper.semAt_some

theorem bytes_ne {a b : ByteArray} (h : ¬ a = b) : (a.toList == b.toList) = false := by
  rw [ByteArray.toList_eq, ByteArray.toList_eq]
  simp only [beq_eq_false_iff_ne, ne_eq]
  intro e
  apply h
  cases a
  cases b
  simp at e
  rw [e]
set_option maxRecDepth 100000 in
set_option maxHeartbeats 4000000 in
theorem acts_in (A : Option Addr) (c : Nat) (l : List S81) (key : ByteArray) (w : World) (hA : ActsAt w A l) (hn : l.length < 4611686018427387904) (hc : l.length ≤ c) (hk : ∀ a ∈ l, a.f2.size ≤ 140737488351232) (hkk : key.size ≤ 140737488351232) :
    CallsIn Fence.wide 4 Try.prog 6 #[.slice A l.length c, .string key] w fun e w' => e = .returned (.bool true) ∧ Below w.heap.size w w' := by
  have hh : ∀ W, CallsIn Fence.wide 3 Try.prog 9 #[] W fun e w' => e = .returned (.bool true) ∧ Below W.heap.size W w' := head_in
  have HA := Aside0.mk hA
  have HK := Aside0.mk hk
  clear hA hk
  refine callsIn_of_wp_marks Try.func6 rfl trivial ?_ rfl
  simp only [Try.ntmps6, List.size_toArray, List.length_cons, List.length_nil, Nat.reduceAdd, Nat.reduceSub, Array.replicate_succ, Array.replicate_zero, List.push_toArray, List.append_toArray, List.nil_append, List.cons_append]
  have hcase : fewB l = false ∨ (fewB l = true ∧ ¬ key.size ≤ 60) ∨ (fewB l = true ∧ key.size ≤ 60) := by
    cases fewB l
    · exact .inl rfl
    · by_cases h : key.size ≤ 60
      · exact .inr (.inr ⟨rfl, h⟩)
      · exact .inr (.inl ⟨rfl, h⟩)
  rcases hcase with hfw | ⟨hfw, hk60⟩ | ⟨hfw, hk60⟩
  · gi_wp2_with (first
      | (refine ⟨trivial, ?_⟩; gi_at_call 9; refine (hh _).mono ?_; rintro e w1 ⟨rfl, hb⟩; have b1 := Boxed.upB (Boxed.new w 4 (.bool false)) hb; have c1 := b1.cell; have f1 := b1.frozen; have HB := Aside0.mk (((Below.refl w.heap.size w).alloc (Nat.le_refl _) (.cells #[.bool false] 4)).trans (hb.mono (by rw [World.size_alloc]; omega))); have B1 := Aside0.mk b1; clear hb b1)
      | (refine ⟨trivial, ?_⟩; gi_at_call 18; refine (callsIn_wide.2 (few_any A c l w1 (HA.out.up HB.out) hn hc HK.out)).mono ?_; rw [hfw]; rintro e w2 ⟨rfl, hb⟩; have B2 := Aside0.mk (Boxed.upB B1.out hb); have c2 := B2.out.cell; have f2 := B2.out.frozen; have HB2 := Aside0.mk (HB.out.trans (hb.mono HB.out.size)); clear hb))
    refine ⟨.bool true, results_bool rfl _ _ ⟨w.heap.size, 0, none⟩ true rfl (B2.out.set (.bool true)).cell Try.underlying4, rfl, HB2.out.setCell (p := ⟨w.heap.size, 0, none⟩) (Nat.le_refl _) _⟩
  · have hk61 : (60 : Int) < (key.size : Int) := by omega
    gi_wp2_with (first
      | (refine ⟨trivial, ?_⟩; gi_at_call 9; refine (hh _).mono ?_; rintro e w1 ⟨rfl, hb⟩; have b1 := Boxed.upB (Boxed.new w 4 (.bool false)) hb; have c1 := b1.cell; have f1 := b1.frozen; have HB := Aside0.mk (((Below.refl w.heap.size w).alloc (Nat.le_refl _) (.cells #[.bool false] 4)).trans (hb.mono (by rw [World.size_alloc]; omega))); have B1 := Aside0.mk b1; clear hb b1)
      | (refine ⟨trivial, ?_⟩; gi_at_call 18; refine (callsIn_wide.2 (few_any A c l w1 (HA.out.up HB.out) hn hc HK.out)).mono ?_; rw [hfw]; rintro e w2 ⟨rfl, hb⟩; have B2 := Aside0.mk (Boxed.upB B1.out hb); have c2 := B2.out.cell; have f2 := B2.out.frozen; have HB2 := Aside0.mk (HB.out.trans (hb.mono HB.out.size)); clear hb))
    refine ⟨.bool true, results_bool rfl _ _ ⟨w.heap.size, 0, none⟩ true rfl (B2.out.set (.bool true)).cell Try.underlying4, rfl, HB2.out.setCell (p := ⟨w.heap.size, 0, none⟩) (Nat.le_refl _) _⟩
  have hk61 : ¬ (60 : Int) < (key.size : Int) := by omega
  have hl200 := (fewB_spec hfw).1
  obtain ⟨Z, hZ⟩ : ∃ Z, Z = playZ l := ⟨_, rfl⟩
  have hzl : Z.length ≤ 200 := by rw [hZ]; exact Nat.le_trans (playZ_len l) hl200
  have hplay := play_any A c l
  rw [← hZ] at hplay
  have HPL := Aside0.mk hplay
  clear hplay hZ
  gi_wp2_with (first
    | (refine ⟨trivial, ?_⟩; gi_at_call 9; refine (hh _).mono ?_; rintro e w1 ⟨rfl, hb⟩; have b1 := Boxed.upB (Boxed.new w 4 (.bool false)) hb; have c1 := b1.cell; have f1 := b1.frozen; have HB := Aside0.mk (((Below.refl w.heap.size w).alloc (Nat.le_refl _) (.cells #[.bool false] 4)).trans (hb.mono (by rw [World.size_alloc]; omega))); have B1 := Aside0.mk b1; clear hb b1)
    | (refine ⟨trivial, ?_⟩; gi_at_call 18; refine (callsIn_wide.2 (few_any A c l w1 (HA.out.up HB.out) hn hc HK.out)).mono ?_; rw [hfw]; rintro e w2 ⟨rfl, hb⟩; have B2 := Aside0.mk (Boxed.upB B1.out hb); have c2 := B2.out.cell; have f2 := B2.out.frozen; have HB2 := Aside0.mk (HB.out.trans (hb.mono HB.out.size)); clear hb)
    | (refine ⟨trivial, ?_⟩; gi_at_call 19; refine (callsIn_wide.2 (HPL.out w2 (HA.out.up HB2.out) hl200 hc)).mono ?_; rintro e w5 ⟨g, lb, cap, rfl, hp⟩
       have B5 := Aside0.mk (Boxed.upB B2.out hp.bel)
       have HB5 := Aside0.mk (HB2.out.trans (hp.bel.mono HB2.out.size))
       have HP := Aside0.mk hp
       clear hp)
    | (refine ⟨trivial, ?_⟩; gi_at_call 13; refine (callsIn_wide.2 (from_any _ _ _)).mono ?_; rintro e w6 ⟨rfl, rfl⟩))
  obtain ⟨V, hV⟩ : ∃ V, V = w5.alloc (.cells #[.slice (some ⟨lb, 0, none⟩) Z.length cap] 51) := ⟨_, rfl⟩
  rw [← hV]
  have hVs : V.heap.size = w5.heap.size + 1 := by rw [hV, World.size_alloc]
  rw [← hVs]
  have HVS := Aside0.mk hVs
  clear hVs
  obtain ⟨W2, hW2⟩ : ∃ W2, W2 = ((V.alloc (.cells #[.int .i64 0] 3)).alloc (.cells #[.pointer (some ⟨g, 0, none⟩)] 25)).alloc (.cells #[.string ⟨#[]⟩] 9) := ⟨_, rfl⟩
  rw [← hW2]
  obtain ⟨bx1, bx2, bx3⟩ := three_boxes V (.int .i64 0) (.pointer (some ⟨g, 0, none⟩)) (.string ⟨#[]⟩) 3 25 9
  rw [← hW2] at bx1 bx2 bx3
  have hb2 : Below V.heap.size V W2 := by
    rw [hW2]
    exact ((((Below.refl _ _).alloc (Nat.le_refl _) _).alloc (by simp) _).alloc (by simp; omega) _)
  have hz2 : W2.heap.size = V.heap.size + 3 := by rw [hW2]; simp
  have hwv : w5.heap.size < V.heap.size := by have := HVS.out; omega
  have hbV : Below w5.heap.size w5 V := by rw [hV]; exact below_alloc (Below.refl _ _) _
  have LX : Aside0 (Boxed V w5.heap.size 51 (.slice (some ⟨lb, 0, none⟩) Z.length cap)) := ⟨by rw [hV]; exact Boxed.new _ _ _⟩
  have HPV := Aside0.mk (HP.out.below hbV)
  have RX := Aside0.mk (Boxed.upB B5.out hbV)
  have HBV := Aside0.mk (HB5.out.trans (hbV.mono HB5.out.size))
  have hrl := B5.out.lt
  have hwl := HB5.out.size
  have hgl := HPV.out.tree.lt
  obtain ⟨o1, o2, o3, o4, o5⟩ := own_caps HPV.out.row
  have SZ := Aside0.mk HPV.out.srt
  clear hW2 hV hbV c1 f1 c2 f2 HP B5 HB5
  have hseq := from_stops 3 (by omega) (V.heap.size + 1) (V.heap.size + 1 + 1) g (fun k => k < V.heap.size ∨ k = V.heap.size + 1 ∨ k = V.heap.size + 1 + 1) ⟨#[]⟩ Z W2 (.inr (.inl rfl)) (.inr (.inr rfl)) (by unfold maxTree; omega)
    ((HPV.out.tree.turn (G := fun k => k < V.heap.size ∨ k = V.heap.size + 1 ∨ k = V.heap.size + 1 + 1) (fun k hk _ => .inl hk)).below hb2) bx2.cell bx3.cell
  refine' wpIn_rangeFunc_ownF rfl (by omega) (gf := 30) (lb := #[.pointer (some ⟨V.heap.size + 1, 0, none⟩), .pointer (some ⟨V.heap.size + 1 + 1, 0, none⟩)]) rfl trivial (enters_of Try.func30 (by kernel_rfl) rfl) hseq Kb.trans
    (fun W l o o' hl _ _ _ => kb_putObj (n := V.heap.size + 3) (fun k hk => by omega) W l o' (by omega)) (Below.refl _ _) (fun _ => rfl)
    (fun pre W => (vals pre = Z.take pre.length ∧ Boxed W V.heap.size 3 (.int .i64 (pre.length : Int))) ∧ Below V.heap.size V W)
    (fun _ pre _ => ¬ vals pre <+: Z)
    (OwnFrom.and (Own.from (fun s A B row hs hg hr => ⟨hs.1, boxed_own V.heap.size 3 (fun pre : List (El Z) => .int .i64 (pre.length : Int)) s A B row hs.2 hg hr⟩) _) (ownFrom_below (Nat.le_refl _) (by omega)))
    (fun _ _ _ _ _ hs _ _ => hs)
    ⟨⟨rfl, bx1⟩, hb2⟩ _ ?assign ?body ?done ?stop
  case assign =>
    intro l x W K hK
    dsimp only [pe]
    gi_wp2
    exact hK
  case body =>
    rintro l0 pre x W ⟨⟨hv, p1⟩, hb⟩ hlen
    have hP := HPV.out.below hb
    have e0 := hP.cell0 hlen
    have e1 := hP.cell1 hlen
    have c1 := (Boxed.upB LX.out hb).cell
    have c2 := (Boxed.upB RX.out hb).cell
    have f2 := (Boxed.upB RX.out hb).frozen
    obtain ⟨⟨xk, xv⟩, hx⟩ := x
    have hpf : ∀ {a : Pair}, vals (pre ++ [⟨(xk, xv), hx⟩]) <+: Z → Z[pre.length]'hlen = (xk, xv) := fun hpre => by
      rw [vals_snoc] at hpre
      have hlv : (vals pre).length = pre.length := by simp [vals]
      have h1 := prefix_get hpre
      rw [hlv, List.getElem?_eq_getElem hlen] at h1
      simpa using h1
    have HPF := Aside0.mk (@hpf (xk, xv))
    have hsn : Z[pre.length]'hlen = (xk, xv) → vals (pre ++ [⟨(xk, xv), hx⟩]) = Z.take (pre.length + 1) := fun e => by
      rw [vals_snoc, hv, List.take_succ_eq_append_getElem hlen, e]
    have HSN := Aside0.mk hsn
    clear hpf hsn hv
    generalize hq : Z[pre.length]'hlen = q at *
    obtain ⟨qk, qv⟩ := q
    have P1 := Aside0.mk p1
    have HB1 := Aside0.mk hb
    clear hq p1 hb hP
    have hxl : pre.length < Z.length := hlen
    have hln : (pre ++ [(⟨(xk, xv), hx⟩ : El Z)]).length = pre.length + 1 := by simp
    have HLN := Aside0.mk hln
    clear hln hlen
    generalize hi : pre.length = i at *
    clear hi
    have c0 := P1.out.cell
    have f0 := P1.out.frozen
    have hii : (i : Int) < (Z.length : Int) := by omega
    have hi0 : (0 : Int) ≤ (i : Int) := by omega
    have hni : ¬ Z.length ≤ i := by omega
    have hni2 : ¬ (Z.length : Int) ≤ (i : Int) := by omega
    by_cases hkq : qk = xk
    · subst hkq
      by_cases hvq : qv = xv
      · subst hvq
        gi_wp2
        refine ⟨KeepsOthers.setCell _ _ _, kb_setCell _ _ _ _ (by omega), ⟨?_, ?_⟩, HB1.out.setCell (p := ⟨V.heap.size, 0, none⟩) (Nat.le_refl _) _⟩
        · rw [HLN.out]; exact HSN.out (by first | trivial | rfl)
        · rw [HLN.out, show ((i + 1 : Nat) : Int) = (i : Int) + 1 by omega]; exact P1.out.set _
      · have hvb : ((qv == xv)) = false := by simpa using hvq
        have hvq2 : ¬ xv = qv := fun e => hvq e.symm
        have hvb2 : ((xv == qv)) = false := by simpa using hvq2
        gi_wp2
        refine ⟨KeepsOthers.setCell _ _ _, fun hpre => hvq ?_⟩
        exact congrArg Prod.snd (HPF.out hpre)
    · have hbe : (qk.toList == xk.toList) = false := bytes_ne hkq
      gi_wp2
      refine ⟨KeepsOthers.setCell _ _ _, fun hpre => hkq ?_⟩
      exact congrArg Prod.fst (HPF.out hpre)
  case done =>
    rintro D2 ys W hD2 hys ⟨⟨hv, p1⟩, hb⟩ hK
    replace hys : vals ys = fromL Z ⟨#[]⟩ := hys
    rw [fromL_all] at hys
    have hyl : ys.length = Z.length := by simpa [vals] using congrArg List.length hys
    rw [hyl] at p1
    have c0 := p1.cell
    have c1 := (Boxed.upB LX.out hb).cell
    have HPW := Aside0.mk (HPV.out.below hb)
    have R2 := Aside0.mk (Boxed.upB RX.out hb)
    have HK2 := Aside0.mk hK
    have HBW := Aside0.mk hb
    clear hyl hys hv p1 hb hK
    gi_wp2_with (first
      | (refine ⟨trivial, ?_⟩; gi_at_call 20; refine (callsIn_wide.2 (get_int HPW.out.tree (by unfold maxTree; omega) key)).mono ?_; rintro e W3 ⟨rfl, hb3⟩; have c1 := up hb3 c1; have HB3 := Aside0.mk hb3; clear hb3))
    gi_loopw [75] (fun v75 wr => ∃ j : Nat, v75 = .int .i64 (j : Int) ∧ j ≤ Z.length ∧ Aside0 (∀ a ∈ Z.take j, ¬ a.1 = key) ∧ Aside0 (Below W.heap.size W wr)) (fun v75 _ => Z.length - (intOf v75).toNat)
    case atStart => exact ⟨0, rfl, by omega, ⟨by simp⟩, HB3⟩
    case round =>
      obtain ⟨j, rfl, hj, HNK, HBr⟩ := hrel
      have R3 := Aside0.mk (Boxed.upB R2.out HBr.out)
      have HP3 := Aside0.mk (HPW.out.below HBr.out)
      have hD3 : w.heap.size < D2 := by omega
      by_cases hjl : j < Z.length
      · have e0 := HP3.out.cell0 hjl
        have e1 := HP3.out.cell1 hjl
        have hmem : Z[j] ∈ Z := List.getElem_mem hjl
        have hsn : Z.take (j + 1) = Z.take j ++ [Z[j]] := List.take_succ_eq_append_getElem hjl
        generalize Z[j] = q at *
        have hvq : valZ Z q.1 = q.2 := valZ_of SZ.out hmem
        have hhq : hasZ Z q.1 = true := by
          unfold hasZ
          rw [List.any_eq_true]
          exact ⟨q, hmem, by simp⟩
        have g0 : (0 : Int) ≤ (j : Int) := by omega
        have g1 : (j : Int) < (Z.length : Int) := by omega
        have hba : Below wr.heap.size wr (wr.alloc (.cells #[.string q.1, .int .i64 q.2] 55)) := below_alloc (Below.refl _ _) _
        have hget := get_int (HP3.out.below hba).tree (by unfold maxTree; omega) q.1
        rw [hvq, hhq] at hget
        have hch : (wr.alloc (.cells #[.string q.1, .int .i64 q.2] 55)).heap[wr.heap.size]? = some (.cells #[.string q.1, .int .i64 q.2] 55 (0, 0)) := heap_alloc_new wr _
        have dd0 := cells_of_heap hch 0 0 _ rfl
        have dd1 := cells_of_heap hch 0 1 _ rfl
        rw [Addr.add_lit] at dd0 dd1
        have D0 := Aside0.mk dd0
        have D1 := Aside0.mk dd1
        clear dd0 dd1
        have HG := Aside0.mk hget
        have HA4 := Aside0.mk hba
        have HVQ := Aside0.mk hvq
        have HHQ := Aside0.mk hhq
        have HSN := Aside0.mk hsn
        clear hba hget hch hvq hhq hmem hsn
        have hnx : ¬ q.1 = key → ∀ a ∈ Z.take (j + 1), ¬ a.1 = key := fun hne a ha => by
          rw [HSN.out, List.mem_append, List.mem_singleton] at ha
          rcases ha with ha | rfl
          · exact HNK.out a ha
          · exact hne
        have HNX := Aside0.mk hnx
        clear hnx
        by_cases hqk : q.1 = key
        · have ev : valZ Z key = q.2 := by rw [← hqk]; exact HVQ.out
          have eh : hasZ Z key = true := by rw [← hqk]; exact HHQ.out
          have hbe : (q.1.toList == key.toList) = true := by rw [hqk]; simp
          clear hqk
          gi_wp2_with (first
            | (refine ⟨trivial, ?_⟩; gi_at_call 20; refine (callsIn_wide.2 HG.out).mono ?_; rintro e W4 ⟨rfl, hb4⟩
               have d0 := up hb4 D0.out
               have d1 := up hb4 D1.out
               have R4 := Aside0.mk (Boxed.upB (Boxed.upB R3.out HA4.out) hb4)
               have c2 := R4.out.cell
               have f2 := R4.out.frozen
               have HB4 := Aside0.mk (HBr.out.trans ((HA4.out.trans (hb4.mono HA4.out.size)).mono HBr.out.size))
               clear hb4))
          have hKx := HK2.out
          have hKy : (W4.setCell ⟨w.heap.size, 0, none⟩ (.bool true)).heap[D2]? = some (.deferred (some [])) := (KeepsOthers.setCell W4 ⟨w.heap.size, 0, none⟩ (.bool true)).same D2 _ ((HB4.out.block D2 (Array.getElem?_eq_some_iff.1 hKx).1).trans hKx) rfl
          refine ⟨by simp, .inl ⟨_, _, rfl, run_takeDeferred hKy, ?_⟩⟩
          refine ⟨.bool true, results_bool rfl _ _ ⟨w.heap.size, 0, none⟩ true rfl ?_ Try.underlying4, rfl, ?_⟩
          · exact (World.cell?_of_block (World.putObj_heap_other (by show w.heap.size ≠ D2; omega))).trans (R4.out.set (.bool true)).cell
          · have hBx : Below w.heap.size w W4 := HBV.out.trans ((HBW.out.trans (HB4.out.mono HBW.out.size)).mono HBV.out.size)
            exact (hBx.setCell (p := ⟨w.heap.size, 0, none⟩) (Nat.le_refl _) _).trans (belowK_b (w := w) (Nat.le_refl _) _ D2 _ _ (by omega) hKy rfl rfl)
        · have hbe : (q.1.toList == key.toList) = false := bytes_ne hqk
          gi_wp2_with (first
            | (refine ⟨trivial, ?_⟩; gi_at_call 20; refine (callsIn_wide.2 HG.out).mono ?_; rintro e W4 ⟨rfl, hb4⟩
               have d0 := up hb4 D0.out
               have d1 := up hb4 D1.out
               have HB4 := Aside0.mk (HBr.out.trans ((HA4.out.trans (hb4.mono HA4.out.size)).mono HBr.out.size))
               clear hb4))
          exact ⟨⟨j + 1, by simp, by omega, ⟨HNX.out hqk⟩, HB4⟩, by simp [intOf]; omega⟩
      · have hno := HNK.out
        rw [List.take_of_length_le (by omega)] at hno
        have eh : hasZ Z key = false := by
          unfold hasZ
          rw [List.any_eq_false]
          intro a ha
          simpa using hno a ha
        have ev := valZ_none eh
        have f2 := R3.out.frozen
        have c2 := R3.out.cell
        clear hno
        gi_wp2
        have hKx := HK2.out
        have hKy : (wr.setCell ⟨w.heap.size, 0, none⟩ (.bool true)).heap[D2]? = some (.deferred (some [])) := (KeepsOthers.setCell wr ⟨w.heap.size, 0, none⟩ (.bool true)).same D2 _ ((HBr.out.block D2 (Array.getElem?_eq_some_iff.1 hKx).1).trans hKx) rfl
        refine ⟨by simp, .inl ⟨_, _, rfl, run_takeDeferred hKy, ?_⟩⟩
        refine ⟨.bool true, results_bool rfl _ _ ⟨w.heap.size, 0, none⟩ true rfl ?_ Try.underlying4, rfl, ?_⟩
        · exact (World.cell?_of_block (World.putObj_heap_other (by show w.heap.size ≠ D2; omega))).trans (R3.out.set (.bool true)).cell
        · have hBx : Below w.heap.size w wr := HBV.out.trans ((HBW.out.trans (HBr.out.mono HBW.out.size)).mono HBV.out.size)
          exact (hBx.setCell (p := ⟨w.heap.size, 0, none⟩) (Nat.le_refl _) _).trans (belowK_b (w := w) (Nat.le_refl _) _ D2 _ _ (by omega) hKy rfl rfl)
  case stop =>
    rintro D2 c pre W hD2 hsp h _
    replace hsp : vals pre <+: fromL Z ⟨#[]⟩ := hsp
    rw [fromL_all] at hsp
    exact absurd hsp h
end Go.Proofs.Ytmpcmpanolnpfaa.Tr
