/- TreeEnds, the walk. -/
import Derived.Test.YtmpcmpanolnpfaaRc
set_option linter.unusedVariables false
set_option linter.unusedSimpArgs false
namespace Go.Proofs.Ytmpcmpanolnpfaa.Tr
open Go.RowKit Go.Proofs.YtmpcmpanolnpfaaW.PrintWords Go.Proofs.YtmpcmpanolnpfaaW.PrintLast Go.Proofs.YtmpcmpanolnpfaaW.PrintMore
attribute [local go_sem] Oper.semAt_some

def keyAt (Z : List Pair) (n : Nat) : ByteArray := ((Z[n]?).map (·.1)).getD ⟨#[]⟩
def lastK (Z : List Pair) : ByteArray := ((Z.getLast?).map (·.1)).getD ⟨#[]⟩
theorem lastK_snoc (Z : List Pair) (a : Pair) : lastK (Z ++ [a]) = a.1 := by simp [lastK]
theorem keyAt_eq {Z : List Pair} {n : Nat} (h : n < Z.length) : keyAt Z n = (Z[n]).1 := by simp [keyAt, h]
theorem lastK_take {Z : List Pair} {n : Nat} (h : n < Z.length) : lastK (Z.take (n + 1)) = (Z[n]).1 := by
  rw [List.take_succ_eq_append_getElem h, lastK_snoc]
theorem isEmpty_iff (y : ByteArray) : y.toList.isEmpty = true ↔ y = ⟨#[]⟩ := by
  rw [ByteArray.toList_eq]
  constructor
  · intro h
    cases y with
    | mk d =>
      simp at h
      rw [h]
  · rintro rfl
    rfl
theorem isEmpty_not {y : ByteArray} (h : ¬ y = ⟨#[]⟩) : y.toList.isEmpty = false := by
  cases he : y.toList.isEmpty with
  | false => rfl
  | true => exact absurd ((isEmpty_iff y).1 he) h
theorem four_boxes (w : World) (a b c d : Value) (t1 t2 t3 t4 : TypeId) (W : World) (hW : W = (((w.alloc (.cells #[a] t1)).alloc (.cells #[b] t2)).alloc (.cells #[c] t3)).alloc (.cells #[d] t4)) :
    Boxed W w.heap.size t1 a ∧ Boxed W (w.heap.size + 1) t2 b ∧ Boxed W (w.heap.size + 2) t3 c ∧ Boxed W (w.heap.size + 3) t4 d ∧ W.heap.size = w.heap.size + 4 ∧ Below w.heap.size w W := by
  obtain ⟨h1, h2, h3⟩ := three_boxes w a b c t1 t2 t3
  subst hW
  refine ⟨h1.alloc _, h2.alloc _, h3.alloc _, ?_, by simp, (((((Below.refl _ _).alloc (Nat.le_refl _) _).alloc (by simp) _).alloc (by simp; omega) _).alloc (by simp; omega) _)⟩
  have := Boxed.new (((w.alloc (.cells #[a] t1)).alloc (.cells #[b] t2)).alloc (.cells #[c] t3)) t4 d
  rw [World.size_alloc, World.size_alloc, World.size_alloc] at this
  exact this
theorem five_boxes (w : World) (a b c d e : Value) (t1 t2 t3 t4 t5 : TypeId) (W : World) (hW : W = ((((w.alloc (.cells #[a] t1)).alloc (.cells #[b] t2)).alloc (.cells #[c] t3)).alloc (.cells #[d] t4)).alloc (.cells #[e] t5)) :
    Boxed W w.heap.size t1 a ∧ Boxed W (w.heap.size + 1) t2 b ∧ Boxed W (w.heap.size + 2) t3 c ∧ Boxed W (w.heap.size + 3) t4 d ∧ Boxed W (w.heap.size + 4) t5 e ∧ W.heap.size = w.heap.size + 5 ∧ Below w.heap.size w W := by
  obtain ⟨h1, h2, h3, h4, h5, h6⟩ := four_boxes w a b c d t1 t2 t3 t4 _ rfl
  subst hW
  refine ⟨h1.alloc _, h2.alloc _, h3.alloc _, h4.alloc _, ?_, by simp, h6.alloc (by simp; omega) _⟩
  have := Boxed.new ((((w.alloc (.cells #[a] t1)).alloc (.cells #[b] t2)).alloc (.cells #[c] t3)).alloc (.cells #[d] t4)) t5 e
  rw [World.size_alloc, World.size_alloc, World.size_alloc, World.size_alloc] at this
  exact this
theorem two_marks {w W : World} {D D2 : Nat} (hb : Below w.heap.size w W) (h1 : w.heap.size ≤ D) (h2 : D < D2) (hD : W.heap[D]? = some (.deferred (some []))) (hD2 : W.heap[D2]? = some (.deferred (some []))) :
    (W.putObj D2 (.deferred none)).heap[D]? = some (.deferred (some [])) ∧ Below w.heap.size w ((W.putObj D2 (.deferred none)).putObj D (.deferred none)) := by
  have h3 : (W.putObj D2 (.deferred none)).heap[D]? = some (.deferred (some [])) := (World.putObj_heap_other (by omega)).trans hD
  exact ⟨h3, (hb.trans (belowK_b (w := w) (Nat.le_refl _) _ D2 _ _ (by omega) hD2 rfl rfl)).trans (belowK_b (w := w) (Nat.le_refl _) _ D _ _ (by omega) h3 rfl rfl)⟩
set_option maxRecDepth 100000 in
set_option maxHeartbeats 4000000 in
theorem ends_in (A : Option Addr) (c : Nat) (l : List S81) (key : ByteArray) (w : World) (hA : ActsAt w A l) (hn : l.length < 4611686018427387904) (hc : l.length ≤ c) (hk : ∀ a ∈ l, a.f2.size ≤ 140737488351232) (hkk : key.size ≤ 140737488351232) :
    CallsIn Fence.wide 5 Try.prog 8 #[.slice A l.length c, .string key] w fun e w' => e = .returned (.bool true) ∧ Below w.heap.size w w' := by
  have hh : ∀ W, CallsIn Fence.wide 4 Try.prog 9 #[] W fun e w' => e = .returned (.bool true) ∧ Below W.heap.size W w' := fun W => callsIn_wide.2 (callsIn_wide.1 (head_in W))
  have HA := Aside0.mk hA
  have HK := Aside0.mk hk
  have KB := Aside0.mk (Boxed.new w 9 (.string key))
  clear hA hk
  refine callsIn_of_wp_marks Try.func8 rfl trivial ?_ rfl
  simp only [Try.ntmps8, List.size_toArray, List.length_cons, List.length_nil, Nat.reduceAdd, Nat.reduceSub, Array.replicate_succ, Array.replicate_zero, List.push_toArray, List.append_toArray, List.nil_append, List.cons_append]
  have hcase : fewB l = false ∨ (fewB l = true ∧ ¬ key.size ≤ 60) ∨ (fewB l = true ∧ key.size ≤ 60) := by
    cases fewB l
    · exact .inl rfl
    · by_cases h : key.size ≤ 60
      · exact .inr (.inr ⟨rfl, h⟩)
      · exact .inr (.inl ⟨rfl, h⟩)
  rcases hcase with hfw | ⟨hfw, hk60⟩ | ⟨hfw, hk60⟩
  · gi_wp2_with (first
      | (refine ⟨trivial, ?_⟩; gi_at_call 9; refine (hh _).mono ?_; rintro e w1 ⟨rfl, hb⟩; have b1 := Boxed.upB KB.out hb; have c1 := b1.cell; have HB := Aside0.mk (((Below.refl w.heap.size w).alloc (Nat.le_refl _) (.cells #[.string key] 9)).trans (hb.mono (by rw [World.size_alloc]; omega))); have B1 := Aside0.mk b1; clear hb b1)
      | (refine ⟨trivial, ?_⟩; gi_at_call 18; refine (callsIn_wide.2 (few_any A c l w1 (HA.out.up HB.out) hn hc HK.out)).mono ?_; rw [hfw]; rintro e w2 ⟨rfl, hb⟩; have B2 := Aside0.mk (Boxed.upB B1.out hb); have c2 := B2.out.cell; have HB2 := Aside0.mk (HB.out.trans (hb.mono HB.out.size)); clear hb))
    exact ⟨_, results_tmp rfl _ _ _, rfl, HB2.out⟩
  · have hk61 : (60 : Int) < (key.size : Int) := by omega
    gi_wp2_with (first
      | (refine ⟨trivial, ?_⟩; gi_at_call 9; refine (hh _).mono ?_; rintro e w1 ⟨rfl, hb⟩; have b1 := Boxed.upB KB.out hb; have c1 := b1.cell; have HB := Aside0.mk (((Below.refl w.heap.size w).alloc (Nat.le_refl _) (.cells #[.string key] 9)).trans (hb.mono (by rw [World.size_alloc]; omega))); have B1 := Aside0.mk b1; clear hb b1)
      | (refine ⟨trivial, ?_⟩; gi_at_call 18; refine (callsIn_wide.2 (few_any A c l w1 (HA.out.up HB.out) hn hc HK.out)).mono ?_; rw [hfw]; rintro e w2 ⟨rfl, hb⟩; have B2 := Aside0.mk (Boxed.upB B1.out hb); have c2 := B2.out.cell; have HB2 := Aside0.mk (HB.out.trans (hb.mono HB.out.size)); clear hb))
    exact ⟨_, results_tmp rfl _ _ _, rfl, HB2.out⟩
  have hk61 : ¬ (60 : Int) < (key.size : Int) := by omega
  have hl200 := (fewB_spec hfw).1
  obtain ⟨Z, hZ⟩ : ∃ Z, Z = playZ l := ⟨_, rfl⟩
  have hzl : Z.length ≤ 200 := by rw [hZ]; exact Nat.le_trans (playZ_len l) hl200
  have hplay := play_any A c l
  rw [← hZ] at hplay
  have HPL := Aside0.mk hplay
  clear hplay hZ
  gi_wp2_with (first
    | (refine ⟨trivial, ?_⟩; gi_at_call 9; refine (hh _).mono ?_; rintro e w1 ⟨rfl, hb⟩; have b1 := Boxed.upB KB.out hb; have c1 := b1.cell; have HB := Aside0.mk (((Below.refl w.heap.size w).alloc (Nat.le_refl _) (.cells #[.string key] 9)).trans (hb.mono (by rw [World.size_alloc]; omega))); have B1 := Aside0.mk b1; clear hb b1)
    | (refine ⟨trivial, ?_⟩; gi_at_call 18; refine (callsIn_wide.2 (few_any A c l w1 (HA.out.up HB.out) hn hc HK.out)).mono ?_; rw [hfw]; rintro e w2 ⟨rfl, hb⟩; have B2 := Aside0.mk (Boxed.upB B1.out hb); have c2 := B2.out.cell; have HB2 := Aside0.mk (HB.out.trans (hb.mono HB.out.size)); clear hb)
    | (refine ⟨trivial, ?_⟩; gi_at_call 19; refine (callsIn_wide.2 (HPL.out w2 (HA.out.up HB2.out) hl200 hc)).mono ?_; rintro e V ⟨g, lb, cap, rfl, hp⟩
       have B5 := Aside0.mk (Boxed.upB B2.out hp.bel)
       have HB5 := Aside0.mk (HB2.out.trans (hp.bel.mono HB2.out.size))
       have HP := Aside0.mk hp
       have c5 := ((B5.out.alloc (.cells #[.string ⟨#[]⟩] 9))).cell
       have c6 := ((B5.out.alloc (.cells #[.string ⟨#[]⟩] 9)).alloc (.cells #[.bool false] 4)).cell
       clear hp)
    | (refine ⟨trivial, ?_⟩; gi_at_call 13; refine (callsIn_wide.2 (from_any _ _ _)).mono ?_; rintro e w6 ⟨rfl, rfl⟩))
  obtain ⟨W2, hW2⟩ : ∃ W2, W2 = (((V.alloc (.cells #[.string ⟨#[]⟩] 9)).alloc (.cells #[.bool false] 4)).alloc (.cells #[.pointer (some ⟨g, 0, none⟩)] 25)).alloc (.cells #[.string key] 9) := ⟨_, rfl⟩
  rw [← hW2]
  obtain ⟨bx1, bx2, bx3, bx4, hz2, hb2⟩ := four_boxes V _ _ _ _ _ _ _ _ W2 hW2
  have hrl := B5.out.lt
  have hwl := HB5.out.size
  have hgl := HP.out.tree.lt
  obtain ⟨o1, o2, o3, o4, o5⟩ := own_caps HP.out.row
  have SZ := Aside0.mk HP.out.srt
  obtain ⟨n0, hn0⟩ : ∃ n0, n0 = (belowZ Z key).length := ⟨_, rfl⟩
  obtain ⟨hs1, hs2⟩ := split_key SZ.out key
  rw [← hn0] at hs1 hs2
  have hn0l : n0 ≤ Z.length := by rw [hn0]; exact List.length_filter_le _ _
  have HS1 := Aside0.mk hs1
  have HS2 := Aside0.mk hs2
  have HN0 := Aside0.mk hn0
  clear hW2 c1 c2 c5 c6 hs1 hs2 hn0
  have hseq := SeqO.of (from_stops 4 (by omega) (V.heap.size + 2) (V.heap.size + 3) g (fun k => k < V.heap.size ∨ k = V.heap.size + 2 ∨ k = V.heap.size + 3) key Z W2 (.inr (.inl rfl)) (.inr (.inr rfl)) (by unfold maxTree; omega)
    ((HP.out.tree.turn (G := fun k => k < V.heap.size ∨ k = V.heap.size + 2 ∨ k = V.heap.size + 3) (fun k hk _ => .inl hk)).below hb2) bx3.cell bx4.cell)
  refine' rangeO2 rfl (enters_of Try.func30 (by kernel_rfl) rfl) (by omega) hseq (Below.refl _ _) (fun k hk => by omega) (fun _ => rfl)
    (fun pre X => (pre = [] ∧ Boxed X V.heap.size 9 (.string ⟨#[]⟩) ∧ Boxed X (V.heap.size + 1) 4 (.bool false)) ∧ Below V.heap.size V X)
    (fun b pre X => (b = 0 ∧ ∃ e : El Z, pre = [e] ∧ Boxed X V.heap.size 9 (.string e.1.1) ∧ Boxed X (V.heap.size + 1) 4 (.bool true)) ∧ Below V.heap.size V X)
    ?hI ?hIx ⟨⟨rfl, bx1, bx2⟩, hb2⟩ _ ?assign ?body ?out
  case hI =>
    intro s X Y row hs hg hr
    exact ⟨⟨hs.1.1, own_box hs.1.2.1 hg hr, own_box hs.1.2.2 hg hr⟩, own_below (Nat.le_refl _) (by omega) hs.2 hg hr⟩
  case hIx =>
    intro b s X Y row hs hg hr
    obtain ⟨⟨q0, e, q1, q2, q3⟩, q4⟩ := hs
    exact ⟨⟨q0, e, q1, own_box q2 hg hr, own_box q3 hg hr⟩, own_below (Nat.le_refl _) (by omega) q4 hg hr⟩
  case assign =>
    intro l2 x W K hK
    dsimp only [pe]
    gi_wp2
    exact hK
  case body =>
    rintro l2 pre x X ⟨⟨rfl, p1, p2⟩, hb⟩ hl
    have c1 := p1.cell
    have c2 := p2.cell
    have f1 := p1.frozen
    have f2 := p2.frozen
    obtain ⟨⟨xk, xv⟩, hx⟩ := x
    have P1 := Aside0.mk p1
    have P2 := Aside0.mk p2
    have HB1 := Aside0.mk hb
    clear p1 p2 hb
    gi_wp2
    refine ⟨(KeepsOthers.setCell _ _ _).trans (KeepsOthers.setCell _ _ _), 0, rfl, ⟨rfl, ⟨(xk, xv), hx⟩, rfl, ?_, ?_⟩, ?_⟩
    · exact (P1.out.set _).kept (grownBy_setCell' _ _ _) (by simp)
    · exact (P2.out.kept (grownBy_setCell' X V.heap.size (.string xk)) (by simp)).set _
    · exact (HB1.out.setCell (p := ⟨V.heap.size, 0, none⟩) (Nat.le_refl _) _).setCell (p := ⟨V.heap.size + 1, 0, none⟩) (Nat.le_succ _) _
  case out =>
    intro D e U hD hK hes
    have hmid : (e = .normal ∨ e = .exit 0) ∧ ((∃ fk, (n0 < Z.length → fk = keyAt Z n0) ∧ Boxed U V.heap.size 9 (.string fk)) ∧ Boxed U (V.heap.size + 1) 4 (.bool (decide (n0 < Z.length)))) ∧ Below V.heap.size V U := by
      rcases hes with ⟨rfl, xs, hxs, ⟨rfl, p1, p2⟩, hb⟩ | ⟨b, pre, rfl, hsp, ⟨rfl, ⟨⟨ak, av⟩, ha⟩, rfl, p1, p2⟩, hb⟩
      · replace hxs : ([] : List Pair) = fromL Z key := hxs
        rw [HS2.out] at hxs
        have h3 : ¬ n0 < Z.length := fun h => by
          have := congrArg List.length hxs
          rw [List.length_drop, List.length_nil] at this
          omega
        exact ⟨.inl rfl, ⟨⟨_, fun h => absurd h h3, p1⟩, by rw [decide_eq_false h3]; exact p2⟩, hb⟩
      · replace hsp : [(ak, av)] <+: fromL Z key := hsp
        rw [HS2.out] at hsp
        have h3 : n0 < Z.length := by
          have := hsp.length_le
          rw [List.length_drop, List.length_singleton] at this
          omega
        have h4 : Z[n0] = (ak, av) := by
          obtain ⟨t, ht⟩ := hsp
          have := congrArg (fun l => l[0]?) ht
          simp only [List.singleton_append, List.getElem?_cons_zero, List.getElem?_drop, Nat.add_zero, List.getElem?_eq_getElem h3, Option.some.injEq] at this
          exact this.symm
        exact ⟨.inr rfl, ⟨⟨_, fun _ => by rw [keyAt_eq h3, h4], p1⟩, by rw [decide_eq_true h3]; exact p2⟩, hb⟩
    obtain ⟨he, ⟨⟨fk, hfk, u1⟩, u2⟩, hbu⟩ := hmid
    clear hes
    refine inBlock_same he ?_
    clear he
    have HFK := Aside0.mk hfk
    have U1 := Aside0.mk u1
    have U2 := Aside0.mk u2
    have HBU := Aside0.mk hbu
    have HKD := Aside0.mk hK
    have hul := hbu.size
    clear hfk u1 u2 hbu hK
    have K5 := Aside0.mk (Boxed.upB B5.out HBU.out)
    have k0 := K5.out.cell
    have k1 := (K5.out.alloc (.cells #[.string ⟨#[]⟩] 9)).cell
    have k2 := ((K5.out.alloc (.cells #[.string ⟨#[]⟩] 9)).alloc (.cells #[.int .i64 0] 3)).cell
    gi_wp2_with (first
      | (refine ⟨trivial, ?_⟩; gi_at_call 21; refine (callsIn_wide.2 (range_any _ _ _ _)).mono ?_; rintro e w6 ⟨rfl, rfl⟩))
    clear k0 k1 k2
    obtain ⟨W3, hW3⟩ : ∃ W3, W3 = ((((U.alloc (.cells #[.string ⟨#[]⟩] 9)).alloc (.cells #[.int .i64 0] 3)).alloc (.cells #[.pointer (some ⟨g, 0, none⟩)] 25)).alloc (.cells #[.string ⟨#[]⟩] 9)).alloc (.cells #[.string key] 9) := ⟨_, rfl⟩
    rw [← hW3]
    obtain ⟨by1, by2, by3, by4, by5, hz3, hb3⟩ := five_boxes U _ _ _ _ _ _ _ _ _ _ W3 hW3
    clear hW3
    have hpt := Aside0.mk (HP.out.tree.below HBU.out)
    have KBX := Aside0.mk (Boxed.upB K5.out hb3)
    have hseq2 := range_stops 4 (by omega) (U.heap.size + 2) (U.heap.size + 3) (U.heap.size + 4) g (fun k => k < U.heap.size ∨ (U.heap.size + 2 ≤ k ∧ k ≤ U.heap.size + 4)) ⟨#[]⟩ key Z W3 (.inr ⟨by omega, by omega⟩) (.inr ⟨by omega, by omega⟩) (.inr ⟨by omega, by omega⟩) (by unfold maxTree; omega)
      ((hpt.out.turn (G := fun k => k < U.heap.size ∨ (U.heap.size + 2 ≤ k ∧ k ≤ U.heap.size + 4)) (fun k hk _ => .inl hk)).below hb3) by3 by4 by5 (fun k hk => by omega)
    refine' rangeO2 rfl (enters_of Try.func35 (by kernel_rfl) rfl) (by omega) hseq2 (Below.refl _ _) (fun k hk => by omega) (fun _ => rfl)
      (fun pre X => (Boxed X U.heap.size 9 (.string (lastK (vals pre))) ∧ Boxed X (U.heap.size + 1) 3 (.int .i64 (pre.length : Int)) ∧ (key = ⟨#[]⟩ → pre = [])) ∧ Below U.heap.size U X)
      (fun b pre X => (b = 2 ∧ key = ⟨#[]⟩ ∧ Boxed X U.heap.size 9 (.string ⟨#[]⟩) ∧ Boxed X (U.heap.size + 1) 3 (.int .i64 0)) ∧ Below U.heap.size U X)
      ?hI2 ?hIx2 ⟨⟨by1, by2, fun _ => rfl⟩, hb3⟩ _ ?assign2 ?body2 ?out2
    case hI2 =>
      intro s X Y row hs hg hr
      exact ⟨⟨own_box hs.1.1 hg hr, own_box hs.1.2.1 hg hr, hs.1.2.2⟩, own_below (Nat.le_refl _) (by omega) hs.2 hg hr⟩
    case hIx2 =>
      intro b s X Y row hs hg hr
      obtain ⟨⟨q0, q1, q2, q3⟩, q4⟩ := hs
      exact ⟨⟨q0, q1, own_box q2 hg hr, own_box q3 hg hr⟩, own_below (Nat.le_refl _) (by omega) q4 hg hr⟩
    case assign2 =>
      intro l2 x W K hK
      dsimp only [pe]
      gi_wp2
      exact hK
    case body2 =>
      rintro l2 pre x X ⟨⟨p1, p2, hke⟩, hb⟩ hl
      have c0 := (Boxed.upB K5.out hb).cell
      by_cases hy : key = ⟨#[]⟩
      · obtain rfl := hke hy
        have hyE := (isEmpty_iff key).2 hy
        have P1 := Aside0.mk p1
        have P2 := Aside0.mk p2
        have HB1 := Aside0.mk hb
        have HY := Aside0.mk hy
        clear p1 p2 hb hy hke
        gi_wp2
        exact ⟨KeepsOthers.refl _, 2, rfl, ⟨rfl, HY.out, P1.out, P2.out⟩, HB1.out⟩
      · have hyE := isEmpty_not hy
        have c1 := p1.cell
        have c2 := p2.cell
        have f1 := p1.frozen
        have f2 := p2.frozen
        have P1 := Aside0.mk p1
        have P2 := Aside0.mk p2
        have HB1 := Aside0.mk hb
        have HY := Aside0.mk hy
        clear p1 p2 hb hy hke
        obtain ⟨⟨xk, xv⟩, hx⟩ := x
        have hln : (pre ++ [(⟨(xk, xv), hx⟩ : El Z)]).length = pre.length + 1 := by simp
        have hlk : lastK (vals (pre ++ [(⟨(xk, xv), hx⟩ : El Z)])) = xk := by rw [vals_snoc, lastK_snoc]
        have HLN := Aside0.mk hln
        have HLK := Aside0.mk hlk
        clear hln hlk
        generalize hi : pre.length = i at *
        have hwr : IntKind.i64.wrap ((i : Int) + 1) = (i : Int) + 1 := by rw [IntKind.wrap_i64]; omega
        clear hi
        gi_wp2
        refine ⟨(KeepsOthers.setCell _ _ _).trans (KeepsOthers.setCell _ _ _), ?kb, ⟨?_, ?_, fun h => absurd h HY.out⟩, ?_⟩
        case kb => exact (kb_setCell _ _ _ _ (by omega)).trans (kb_setCell _ _ _ _ (by omega))
        · rw [HLK.out]
          exact (P1.out.set _).kept (grownBy_setCell' _ _ _) (by simp)
        · rw [HLN.out, show ((i + 1 : Nat) : Int) = (i : Int) + 1 by omega]
          exact (P2.out.kept (grownBy_setCell' X U.heap.size (.string xk)) (by simp)).set _
        · exact (HB1.out.setCell (p := ⟨U.heap.size, 0, none⟩) (Nat.le_refl _) _).setCell (p := ⟨U.heap.size + 1, 0, none⟩) (Nat.le_succ _) _
    case out2 =>
      intro D2 e X hD2 hK2 hes
      have hmid : (e = .normal ∨ e = .exit 2) ∧ (Boxed X U.heap.size 9 (.string (lastK (Z.take n0))) ∧ Boxed X (U.heap.size + 1) 3 (.int .i64 (n0 : Int))) ∧ Below U.heap.size U X := by
        rcases hes with ⟨rfl, xs, hxs, ⟨p1, p2, hke⟩, hb⟩ | ⟨b, pre, rfl, hsp, ⟨rfl, hy, p1, p2⟩, hb⟩
        · replace hxs : vals xs = rangeL Z ⟨#[]⟩ key := hxs
          refine ⟨.inl rfl, ?_, hb⟩
          by_cases hy : key = ⟨#[]⟩
          · obtain rfl := hke hy
            have : n0 = 0 := by rw [HN0.out, hy, below_nil]; rfl
            rw [this]
            exact ⟨p1, p2⟩
          · rw [range_below hy] at hxs
            have hxl : xs.length = n0 := by rw [HN0.out, ← hxs]; simp [vals]
            rw [hxs, HS1.out] at p1
            rw [hxl] at p2
            exact ⟨p1, p2⟩
        · have : n0 = 0 := by rw [HN0.out, hy, below_nil]; rfl
          rw [this]
          exact ⟨.inr rfl, ⟨p1, p2⟩, hb⟩
      obtain ⟨he, ⟨u3, u4⟩, hbx⟩ := hmid
      clear hes
      refine inBlock_same he ?_
      clear he
      have c1 := u3.cell
      have c2 := u4.cell
      have c3 := (Boxed.upB U1.out hbx).cell
      have c4 := (Boxed.upB U2.out hbx).cell
      have KX := Aside0.mk (Boxed.upB K5.out hbx)
      have HPX := Aside0.mk ((HP.out.below HBU.out).below hbx)
      have HBX := Aside0.mk (HBU.out.trans (hbx.mono HBU.out.size))
      have HK2 := Aside0.mk hK2
      have HKD2 := Aside0.mk ((hbx.block D (Array.getElem?_eq_some_iff.1 HKD.out).1).trans HKD.out)
      clear u3 u4 hbx hK2
      gi_wp2
      gi_loopw [14, 53] (fun v14 v53 wr => ∃ j : Nat, v14 = .int .i64 ((belowZ (Z.take j) key).length : Int) ∧ v53 = .int .i64 (j : Int) ∧ j ≤ Z.length ∧ Aside0 (Below X.heap.size X wr)) (fun _ v53 _ => Z.length - (intOf v53).toNat)
      case atStart => exact ⟨0, rfl, rfl, by omega, ⟨Below.refl _ _⟩⟩
      case round =>
        obtain ⟨j, rfl, rfl, hj, HBr⟩ := hrel
        have K6 := Aside0.mk (Boxed.upB KX.out HBr.out)
        have HP3 := Aside0.mk (HPX.out.below HBr.out)
        by_cases hjl : j < Z.length
        · have e0 := HP3.out.cell0 hjl
          have e1 := HP3.out.cell1 hjl
          have hbt := below_take_succ (x := key) hjl
          obtain ⟨m, hm⟩ : ∃ m, m = (belowZ (Z.take j) key).length := ⟨_, rfl⟩
          have hmj : m ≤ j := by
            rw [hm]
            refine Nat.le_trans (List.length_filter_le _ _) ?_
            rw [List.length_take]
            omega
          rw [← hm] at hbt ⊢
          have hwr : IntKind.i64.wrap ((m : Int) + 1) = (m : Int) + 1 := by rw [IntKind.wrap_i64]; omega
          generalize Z[j] = q at *
          have g0 : (0 : Int) ≤ (j : Int) := by omega
          have g1 : (j : Int) < (Z.length : Int) := by omega
          have ck := (K6.out.alloc (.cells #[.string q.1, .int .i64 q.2] 55)).cell
          have HBT := Aside0.mk hbt
          clear hbt hm
          by_cases hkl : kl q.1 key
          · have hbl : Op.bytesLess q.1.toList key.toList = true := by rw [cb_less, ByteArray.toList_eq, ByteArray.toList_eq]; exact decide_eq_true hkl
            have H1 := HBT.out
            rw [if_pos hkl] at H1
            have H2 := Aside0.mk H1
            clear H1 hkl
            gi_wp2
            refine ⟨⟨j + 1, by rw [H2.out]; simp, by simp, by omega, ⟨HBr.out.alloc HBr.out.size _⟩⟩, by simp [intOf]; omega⟩
          · have hbl : Op.bytesLess q.1.toList key.toList = false := by rw [cb_less, ByteArray.toList_eq, ByteArray.toList_eq]; exact decide_eq_false hkl
            have H1 := HBT.out
            rw [if_neg hkl] at H1
            have H2 := Aside0.mk H1
            clear H1 hkl
            gi_wp2
            refine ⟨⟨j + 1, by rw [H2.out]; simp, by simp, by omega, ⟨HBr.out.alloc HBr.out.size _⟩⟩, by simp [intOf]; omega⟩
        · have hjz : j = Z.length := by omega
          have hmn : (belowZ (Z.take j) key).length = n0 := by rw [List.take_of_length_le (by omega), HN0.out]
          rw [hmn]
          clear hmn hj hjz
          have hwk : w.heap.size ≤ D := by omega
          have hdd : D < D2 := by have := (Array.getElem?_eq_some_iff.1 HKD.out).1; omega
          have HFIN := Aside0.mk (fun nq => two_marks (pw_below_drewN (HB5.out.trans ((HBX.out.trans (HBr.out.mono HBX.out.size)).mono HB5.out.size)) nq) hwk hdd ((HBr.out.block D (Array.getElem?_eq_some_iff.1 HKD2.out).1).trans HKD2.out) ((HBr.out.block D2 (Array.getElem?_eq_some_iff.1 HK2.out).1).trans HK2.out))
          have HK3 : Aside0 (wr.heap[D2]? = some (.deferred (some []))) := ⟨(HBr.out.block D2 (Array.getElem?_eq_some_iff.1 HK2.out).1).trans HK2.out⟩
          have c1 := up HBr.out c1
          have c2 := up HBr.out c2
          have c3 := up HBr.out c3
          have c4 := up HBr.out c4
          rcases Nat.lt_or_ge n0 Z.length with hnl | hnl
          · rw [decide_eq_true hnl] at c4
            rw [HFK.out hnl, keyAt_eq hnl] at c3
            have e0 := HP3.out.cell0 hnl
            rcases Nat.eq_zero_or_pos n0 with hz | hz
            · subst hz
              have hnl2 : (0 : Int) < (Z.length : Int) := by omega
              rw [Nat.zero_mul] at e0
              generalize (Z[0]).1 = fq at *
              gi_wp2
              refine wpIn_wide.2 (wp_region_noPanic ?_)
              go_quiet (fail)
              refine NoPanic.normal ?_
              gi_wp2
              refine ⟨by simp, .inl ⟨_, _, rfl, run_takeDeferred HK3.out, ?_⟩⟩
              refine ⟨by simp, .inl ⟨_, _, rfl, run_takeDeferred (HFIN.out nq).1, ?_⟩⟩
              exact ⟨_, results_tmp rfl _ _ _, rfl, (HFIN.out nq).2⟩
            · have hnl2 : (n0 : Int) < (Z.length : Int) := by omega
              have g0 : (0 : Int) ≤ (n0 : Int) := by omega
              have hz2 : ¬ (n0 : Int) = 0 := by omega
              have hz3 : ¬ n0 = 0 := by omega
              obtain ⟨p0, hp0⟩ : ∃ p0, n0 = p0 + 1 := ⟨n0 - 1, by omega⟩
              have hpl : p0 < Z.length := by omega
              have g1 : (0 : Int) ≤ (p0 : Int) := by omega
              have g2 : (p0 : Int) < (Z.length : Int) := by omega
              have e2 := HP3.out.cell0 hpl
              have hlk : lastK (Z.take n0) = (Z[p0]).1 := by rw [hp0]; exact lastK_take hpl
              rw [hlk] at c1
              have hwr : IntKind.i64.wrap ((n0 : Int) - 1) = (p0 : Int) := by rw [IntKind.wrap_i64]; omega
              generalize (Z[n0]).1 = fq at *
              generalize (Z[p0]).1 = lq at *
              clear hlk hp0
              gi_wp2
              refine wpIn_wide.2 (wp_region_noPanic ?_)
              go_quiet (fail)
              refine NoPanic.normal ?_
              gi_wp2
              refine ⟨by simp, .inl ⟨_, _, rfl, run_takeDeferred HK3.out, ?_⟩⟩
              refine ⟨by simp, .inl ⟨_, _, rfl, run_takeDeferred (HFIN.out nq).1, ?_⟩⟩
              exact ⟨_, results_tmp rfl _ _ _, rfl, (HFIN.out nq).2⟩
          · rw [decide_eq_false (Nat.not_lt.2 hnl)] at c4
            rcases Nat.eq_zero_or_pos n0 with hz | hz
            · subst hz
              have hnl2 : ¬ (0 : Int) < (Z.length : Int) := by omega
              have hnl3 : ¬ 0 < Z.length := by omega
              clear hnl
              gi_wp2
              refine wpIn_wide.2 (wp_region_noPanic ?_)
              go_quiet (fail)
              refine NoPanic.normal ?_
              gi_wp2
              refine ⟨by simp, .inl ⟨_, _, rfl, run_takeDeferred HK3.out, ?_⟩⟩
              refine ⟨by simp, .inl ⟨_, _, rfl, run_takeDeferred (HFIN.out nq).1, ?_⟩⟩
              exact ⟨_, results_tmp rfl _ _ _, rfl, (HFIN.out nq).2⟩
            · have hnl2 : ¬ (n0 : Int) < (Z.length : Int) := by omega
              have g0 : (0 : Int) ≤ (n0 : Int) := by omega
              have hz2 : ¬ (n0 : Int) = 0 := by omega
              have hz3 : ¬ n0 = 0 := by omega
              obtain ⟨p0, hp0⟩ : ∃ p0, n0 = p0 + 1 := ⟨n0 - 1, by omega⟩
              have hpl : p0 < Z.length := by omega
              have g1 : (0 : Int) ≤ (p0 : Int) := by omega
              have g2 : (p0 : Int) < (Z.length : Int) := by omega
              have e2 := HP3.out.cell0 hpl
              have hlk : lastK (Z.take n0) = (Z[p0]).1 := by rw [hp0]; exact lastK_take hpl
              rw [hlk] at c1
              have hwr : IntKind.i64.wrap ((n0 : Int) - 1) = (p0 : Int) := by rw [IntKind.wrap_i64]; omega
              generalize (Z[p0]).1 = lq at *
              clear hlk hp0
              gi_wp2
              refine wpIn_wide.2 (wp_region_noPanic ?_)
              go_quiet (fail)
              refine NoPanic.normal ?_
              gi_wp2
              refine ⟨by simp, .inl ⟨_, _, rfl, run_takeDeferred HK3.out, ?_⟩⟩
              refine ⟨by simp, .inl ⟨_, _, rfl, run_takeDeferred (HFIN.out nq).1, ?_⟩⟩
              exact ⟨_, results_tmp rfl _ _ _, rfl, (HFIN.out nq).2⟩
end Go.Proofs.Ytmpcmpanolnpfaa.Tr
