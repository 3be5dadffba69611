/- Lemmas that the proof needs, part 12. -/
import Derived.Test.YtmafibbnojdpjaaRo6
import Derived.Test.YtmafibbnojdpjaaRo7
import Derived.Test.YtmafibbnojdpjaaRo11
section
set_option linter.unusedVariables false
set_option linter.unusedSimpArgs false
namespace Go.Proofs.Ytmafibbnojdpjaa.RecEv
open Go.RowKit Go.Proofs.Ytmafibbnojdpjaa.P Go.Proofs.YtmafibbnojdpjaaW.PrintWords Go.Proofs.YtmafibbnojdpjaaW.PrintLast Go.Proofs.YtmafibbnojdpjaaW.PrintMore
open Go.Proofs.Ytmafibbnojdpjaa.RecP
open Go.Proofs.Ytmafibbnojdpjaa.FrEv (ev_pos ev_neg ev_bind ev_some w64 B B_of B_size B_toList B_append B_extract B_upto B_from B_bt)
/-- bytes as the program's numbers -/
def I (l : List UInt8) : List Int := l.map fun b => (b.toNat : Int)
def toS (w : Wr) : S31 := ⟨B w.key, B w.val, w.gone⟩
theorem rd_toS (ws : List Wr) (i : Nat) (h : i < ws.length) : rd_T31 (ws.map toS) (i : Int) = toS ws[i] := by
  unfold rd_T31
  simp [List.getD, List.getElem?_eq_getElem h]
def prevOf (ws : List Wr) (i : Nat) : Option (List UInt8) := if h : 0 < i ∧ i ≤ ws.length then some (ws[i - 1]'(by omega)).key else none
def risesP (ws : List Wr) : Bool := risesFrom Op.bytesLess none ws
theorem rises_l0 (ws : List Wr) (hn : ws.length < 4611686018427387904) : ∀ (d i : Nat), i + d = ws.length →
    Ev (fun k => store_rises.l0 k (ws.map toS) (ws.map toS) ((ws.map toS).length : Int) (i : Int)) (risesFrom Op.bytesLess (prevOf ws i) (ws.drop i))
  | 0, i, h => by
    rw [List.drop_of_length_le (by omega)]
    refine Ev.step (fun k => by simp only [store_rises.l0]; rfl) ?_
    exact ev_neg (by simp; omega) (Ev.now _)
  | d + 1, i, h => by
    have hi : i < ws.length := by omega
    have ih := rises_l0 ws hn d (i + 1) (by omega)
    have hp : prevOf ws (i + 1) = some ws[i].key := by unfold prevOf; rw [dif_pos (by omega)]; rfl
    rw [hp] at ih
    refine Ev.step (fun k => by simp only [store_rises.l0]; rfl) ?_
    rw [show wrap64 ((i : Int) + 1) = ((i + 1 : Nat) : Int) from by rw [w64 (by omega) (by omega)]; rfl, rd_toS ws i hi, List.drop_eq_getElem_cons hi]
    simp only [risesFrom, toS, B_toList, B_size]
    have hil : (i : Int) < ((ws.map toS).length : Int) := by simp; omega
    refine ev_pos hil (ev_pos (by omega) (ev_pos hil ?_))
    have tail : Ev (fun k => if (i : Int) > 0 then (if 0 ≤ wrap64 ((i : Int) - 1) then (if wrap64 ((i : Int) - 1) < ((ws.map toS).length : Int) then (if ((Op.bytesLess ((rd_T31 (ws.map toS) (wrap64 ((i : Int) - 1))).f0).toList ws[i].key) = true) then (store_rises.l0 k (ws.map toS) (ws.map toS) ((ws.map toS).length : Int) ((i + 1 : Nat) : Int)) else (some false)) else (none)) else (none)) else (store_rises.l0 k (ws.map toS) (ws.map toS) ((ws.map toS).length : Int) ((i + 1 : Nat) : Int)))
        (prevOk Op.bytesLess (prevOf ws i) ws[i].key && risesFrom Op.bytesLess (some ws[i].key) (ws.drop (i + 1))) := by
      by_cases c : 0 < i
      · have hp2 : prevOf ws i = some (ws[i - 1]).key := by unfold prevOf; rw [dif_pos (by omega)]
        rw [hp2, show wrap64 ((i : Int) - 1) = ((i - 1 : Nat) : Int) from by rw [w64 (by omega) (by omega)]; omega, rd_toS ws (i - 1) (by omega)]
        refine ev_pos (by omega) (ev_pos (by omega) (ev_pos (by simp; omega) ?_))
        simp only [toS, B_toList, prevOk]
        cases e : Op.bytesLess (ws[i - 1]).key ws[i].key with
        | true => exact ev_pos rfl (by simpa using ih)
        | false => exact ev_neg (by simp) (Ev.now _)
      · have hp2 : prevOf ws i = none := by unfold prevOf; rw [dif_neg (by omega)]
        rw [hp2]
        simp only [prevOk]
        exact ev_neg (by omega) (by simpa using ih)
    by_cases c1 : ws[i].key = []
    · refine ev_pos c1 ?_
      rw [c1]
      exact Ev.now _
    refine ev_neg c1 ?_
    have b1 : ws[i].key.isEmpty = false := by cases h : ws[i].key with | nil => exact absurd h c1 | cons a b => rfl
    by_cases c2 : ws[i].key.length > 400
    · refine ev_pos (by omega) ?_
      rw [b1, decide_eq_false (by omega : ¬ ws[i].key.length ≤ 400)]
      exact Ev.now _
    refine ev_neg (by omega) ?_
    by_cases c3 : ws[i].val.length > 4096
    · refine ev_pos (by omega) ?_
      rw [b1, decide_eq_true (by omega : ws[i].key.length ≤ 400), decide_eq_false (by omega : ¬ ws[i].val.length ≤ 4096)]
      exact Ev.now _
    refine ev_neg (by omega) ?_
    rw [b1, decide_eq_true (by omega : ws[i].key.length ≤ 400), decide_eq_true (by omega : ws[i].val.length ≤ 4096)]
    cases c4 : ws[i].gone with
    | false =>
      refine ev_neg (by simp) ?_
      simpa using tail
    | true =>
      refine ev_pos rfl ?_
      by_cases c5 : ws[i].val = []
      · refine ev_pos c5 ?_
        rw [c5]
        simpa using tail
      · refine ev_neg c5 ?_
        have b5 : ws[i].val.isEmpty = false := by cases h : ws[i].val with | nil => exact absurd h c5 | cons a b => rfl
        rw [b5]
        exact Ev.now _
theorem rises_ev (ws : List Wr) (hn : ws.length < 4611686018427387904) : Ev (fun k => store_rises.f k (ws.map toS)) (risesP ws) := by
  have := rises_l0 ws hn ws.length 0 (by omega)
  rw [List.drop_zero, show prevOf ws 0 = none from by unfold prevOf; rw [dif_neg (by omega)]] at this
  exact this
def rightW (ws : List Wr) : Bool := decide (ws.length ≤ 200) && risesP ws
theorem right_ev (ws : List Wr) (hn : ws.length < 4611686018427387904) : Ev (fun k => store_Right.f k (ws.map toS)) (rightW ws) := by
  unfold store_Right.f rightW
  by_cases c : ws.length ≤ 200
  · rw [decide_eq_true c]
    refine ev_pos (by simp; omega) (ev_bind (rises_ev ws hn) ?_)
    simp only [Bool.true_and]
    exact Ev.now _
  · rw [decide_eq_false c]
    exact ev_neg (by simp; omega) (Ev.now _)
end Go.Proofs.Ytmafibbnojdpjaa.RecEv
end
section
namespace Go.Proofs.Ytmafibbnojdpjaa.P
open Go.RowKit Go.Proofs.YtmafibbnojdpjaaW.PrintWords Go.Proofs.YtmafibbnojdpjaaW.PrintLast Go.Proofs.YtmafibbnojdpjaaW.PrintMore
attribute [local go_sem] max2_int min2_int max_two min_two max_three min_three max_four min_four   -- for this text's walks alone
set_option linter.unusedVariables false
set_option linter.unusedSimpArgs false
attribute [local go_sem high] eqA31
mutual
def mailbaglaw11_Same.j0 : Nat → Bool → Int → Int → List (S31) → Int → Int → List (S31) → Option (Bool)
  | 0, _, _, _, _, _, _, _ => none
  | k + 1, x26, x217000, x217001, x217002, x218000, x218001, x218002 => if x26 = true then (some false) else (mailbaglaw11_Same.l0 k (x217002.length : Int) 0 x217000 x217001 x217002 x218000 x218001 x218002)
def mailbaglaw11_Same.l0 : Nat → Int → Int → Int → Int → List (S31) → Int → Int → List (S31) → Option (Bool)
  | 0, _, _, _, _, _, _, _, _ => none
  | k + 1, x29, x30, x217000, x217001, x217002, x218000, x218001, x218002 => if x30 < x29 then (if 0 ≤ x30 then (if x30 < (x217002.length : Int) then (if x30 < (x218002.length : Int) then (if (!((((rd_T31 x217002 x30).f0).toList) == (((rd_T31 x218002 x30).f0).toList)) || (!((((rd_T31 x217002 x30).f1).toList) == (((rd_T31 x218002 x30).f1).toList)) || (!(((rd_T31 x217002 x30).f2) == ((rd_T31 x218002 x30).f2))))) = true then (some false) else (mailbaglaw11_Same.l0 k x29 (wrap64 (x30 + 1)) x217000 x217001 x217002 x218000 x218001 x218002)) else (none)) else (none)) else (none)) else (some true)
end
def mailbaglaw11_Same.f (k : Nat) (a0_0 : Int) (a0_1 : Int) (l0_2 : List (S31)) (a1_0 : Int) (a1_1 : Int) (l1_2 : List (S31)) : Option (Bool) := if a0_0 = a1_0 then (if a0_1 = a1_1 then (mailbaglaw11_Same.j0 k ((l0_2.length : Int) != (l1_2.length : Int)) a0_0 a0_1 l0_2 a1_0 a1_1 l1_2) else (mailbaglaw11_Same.j0 k true a0_0 a0_1 l0_2 a1_0 a1_1 l1_2)) else (mailbaglaw11_Same.j0 k true a0_0 a0_1 l0_2 a1_0 a1_1 l1_2)
theorem mailbaglaw11_Same.mono_l : ∀ k, (∀ y0 y1 y2 y3 y4 y5 y6, LeO (mailbaglaw11_Same.j0 k y0 y1 y2 y3 y4 y5 y6) (mailbaglaw11_Same.j0 (k + 1) y0 y1 y2 y3 y4 y5 y6)) ∧ (∀ y0 y1 y2 y3 y4 y5 y6 y7, LeO (mailbaglaw11_Same.l0 k y0 y1 y2 y3 y4 y5 y6 y7) (mailbaglaw11_Same.l0 (k + 1) y0 y1 y2 y3 y4 y5 y6 y7))
  | 0 => ⟨fun _ _ _ _ _ _ _ r h => by simp [mailbaglaw11_Same.j0] at h, fun _ _ _ _ _ _ _ _ r h => by simp [mailbaglaw11_Same.l0] at h⟩
  | k + 1 => by
    obtain ⟨ih0, ih1⟩ := mailbaglaw11_Same.mono_l k
    refine ⟨?_, ?_⟩
    · intro y0 y1 y2 y3 y4 y5 y6
      unfold mailbaglaw11_Same.j0
      repeat' first
      | (with_reducible exact ih0 _ _ _ _ _ _ _)
      | (with_reducible exact ih1 _ _ _ _ _ _ _ _)
      | (with_reducible exact LeO.refl _)
      | (with_reducible exact LeO.none _)
      | (with_reducible refine LeO.ite ?_ ?_)
      | (with_reducible refine LeO.bind ?_ (fun _ => ?_))
      | exact ih0 _ _ _ _ _ _ _
      | exact ih1 _ _ _ _ _ _ _ _
      | exact LeO.none _
      | refine LeO.ite ?_ ?_
      | refine LeO.bind ?_ (fun _ => ?_)
    · intro y0 y1 y2 y3 y4 y5 y6 y7
      unfold mailbaglaw11_Same.l0
      repeat' first
      | (with_reducible exact ih0 _ _ _ _ _ _ _)
      | (with_reducible exact ih1 _ _ _ _ _ _ _ _)
      | (with_reducible exact LeO.refl _)
      | (with_reducible exact LeO.none _)
      | (with_reducible refine LeO.ite ?_ ?_)
      | (with_reducible refine LeO.bind ?_ (fun _ => ?_))
      | exact ih0 _ _ _ _ _ _ _
      | exact ih1 _ _ _ _ _ _ _ _
      | exact LeO.none _
      | refine LeO.ite ?_ ?_
      | refine LeO.bind ?_ (fun _ => ?_)
theorem mailbaglaw11_Same.mono : ∀ a0 a1 a2 a3 a4 a5 k, LeO (mailbaglaw11_Same.f k a0 a1 a2 a3 a4 a5) (mailbaglaw11_Same.f (k + 1) a0 a1 a2 a3 a4 a5) := by
  intro a0 a1 a2 a3 a4 a5 k
  obtain ⟨ih0, ih1⟩ := mailbaglaw11_Same.mono_l k
  unfold mailbaglaw11_Same.f
  repeat' first
      | (with_reducible exact ih0 _ _ _ _ _ _ _)
      | (with_reducible exact ih1 _ _ _ _ _ _ _ _)
      | (with_reducible exact LeO.refl _)
      | (with_reducible exact LeO.none _)
      | (with_reducible refine LeO.ite ?_ ?_)
      | (with_reducible refine LeO.bind ?_ (fun _ => ?_))
      | exact ih0 _ _ _ _ _ _ _
      | exact ih1 _ _ _ _ _ _ _ _
      | exact LeO.none _
      | refine LeO.ite ?_ ?_
      | refine LeO.bind ?_ (fun _ => ?_)
set_option maxHeartbeats 8000000 in
set_option maxRecDepth 100000 in
theorem mailbaglaw11_Same.calls (k : Nat) (a0_0 : Int) (a0_1 : Int) (A0_2 : Option Addr) (c0_2 : Nat) (l0_2 : List (S31)) (a1_0 : Int) (a1_1 : Int) (A1_2 : Option Addr) (c1_2 : Nat) (l1_2 : List (S31)) (r : Bool) (w : World) (hr0_2 : Kd.C k31 w A0_2 l0_2.length l0_2) (hc0_2 : l0_2.length ≤ c0_2) (hr1_2 : Kd.C k31 w A1_2 l1_2.length l1_2) (hc1_2 : l1_2.length ≤ c1_2) (h : mailbaglaw11_Same.f k a0_0 a0_1 l0_2 a1_0 a1_1 l1_2 = some r) :
    Calls Try.prog 33 #[.agg #[.int .i64 a0_0, .int .i64 a0_1, .slice A0_2 l0_2.length c0_2], .agg #[.int .i64 a1_0, .int .i64 a1_1, .slice A1_2 l1_2.length c1_2]] w fun e w' => e = .returned (.bool r) ∧ Below w.heap.size w w' := by
  have hu28 := Try.underlying28
  have hu31 := Try.underlying31
  have HR0_2 := Aside0.mk hr0_2
  have HC0_2 := Aside0.mk hc0_2
  clear hr0_2 hc0_2
  have HR1_2 := Aside0.mk hr1_2
  have HC1_2 := Aside0.mk hc1_2
  clear hr1_2 hc1_2
  have HB := Aside0.mk (Below.refl w.heap.size w)
  have H : (if a0_0 = a1_0 then (if a0_1 = a1_1 then (mailbaglaw11_Same.j0 k ((l0_2.length : Int) != (l1_2.length : Int)) a0_0 a0_1 l0_2 a1_0 a1_1 l1_2) else (mailbaglaw11_Same.j0 k true a0_0 a0_1 l0_2 a1_0 a1_1 l1_2)) else (mailbaglaw11_Same.j0 k true a0_0 a0_1 l0_2 a1_0 a1_1 l1_2)) = some r := h
  clear h
  have HC3 := Aside0.mk H
  clear H
  go_enter Try.func33, Try.ntmps33
  go_upto_region 1 with (first | ((with_reducible refine gate_dst (N := 2) rfl ?_); (try (refine gate_guard (by rfl) ?_; dsimp only)); refine box_event ?hg (N := 2) ?hd (cs := #[.int .i64 a0_0, .int .i64 a0_1, .slice A0_2 l0_2.length c0_2]) (t := 28) ?hr ?_; (case hd => rfl); (case hg => rfl); (case hr => first | (go_simp; done) | (go_simp; rfl)); intro gb216 hg w4 hbox hb; have n0_ := Aside0.mk (below_step (by repeat (first | (with_reducible first | exact HB.out | apply below_alloc | apply pw_below_drewN | apply below_drew1) | exact HB.out)) hb); have n1_ := Aside0.mk (hbox); have n2_ := Aside0.mk ((by rw [hg]; exact (below_size (by repeat (first | (with_reducible first | exact HB.out | apply below_alloc | apply pw_below_drewN | apply below_drew1) | exact HB.out))) : w.heap.size ≤ gb216)); have n3_ := Aside0.mk ((by rw [hg]; exact (below_size (by repeat (first | (with_reducible first | exact HB.out | apply below_alloc | apply pw_below_drewN | apply below_drew1) | exact HB.out))) : w.heap.size ≤ gb216)); clear HB; have HB := n0_; have BK216 := n1_; have GW216 := n2_; have GE216 := n3_; clear n0_ n1_ n2_ n3_; clear hb hbox hg) | ((with_reducible refine gate_dst (N := 3) rfl ?_); (try (refine gate_guard (by rfl) ?_; dsimp only)); refine box_event ?hg (N := 3) ?hd (cs := #[.int .i64 a1_0, .int .i64 a1_1, .slice A1_2 l1_2.length c1_2]) (t := 28) ?hr ?_; (case hd => rfl); (case hg => rfl); (case hr => first | (go_simp; done) | (go_simp; rfl)); intro gb217 hg w5 hbox hb; have n0_ := Aside0.mk (blk_below (g := gb216) (o := .cells #[.int .i64 a0_0, .int .i64 a0_1, .slice A0_2 l0_2.length c0_2] 28 (0, 0)) (by (with_reducible repeat (first | refine blk_drewN ?_ _ | refine blk_drew ?_ | refine blk_alloc ?_ _)); exact BK216.out) hb); have n1_ := Aside0.mk (below_step (by repeat (first | (with_reducible first | exact HB.out | apply below_alloc | apply pw_below_drewN | apply below_drew1 | refine below_set ?_ GE216.out) | exact HB.out)) hb); have n2_ := Aside0.mk (hbox); have n3_ := Aside0.mk ((by rw [hg]; exact (below_size (by repeat (first | (with_reducible first | exact HB.out | apply below_alloc | apply pw_below_drewN | apply below_drew1 | refine below_set ?_ GE216.out) | exact HB.out))) : w.heap.size ≤ gb217)); have n4_ := Aside0.mk ((by rw [hg]; exact (below_size (by repeat (first | (with_reducible first | exact HB.out | apply below_alloc | apply pw_below_drewN | apply below_drew1 | refine below_set ?_ GE216.out) | exact HB.out))) : w.heap.size ≤ gb217)); have n5_ := Aside0.mk ((by rw [hg]; exact Nat.ne_of_lt (blk_lt (g := gb216) (o := .cells #[.int .i64 a0_0, .int .i64 a0_1, .slice A0_2 l0_2.length c0_2] 28 (0, 0)) (by (with_reducible repeat (first | refine blk_drewN ?_ _ | refine blk_drew ?_ | refine blk_alloc ?_ _)); exact BK216.out)) : gb216 ≠ gb217)); have n6_ := Aside0.mk ((by rw [hg]; exact Nat.ne_of_gt (blk_lt (g := gb216) (o := .cells #[.int .i64 a0_0, .int .i64 a0_1, .slice A0_2 l0_2.length c0_2] 28 (0, 0)) (by (with_reducible repeat (first | refine blk_drewN ?_ _ | refine blk_drew ?_ | refine blk_alloc ?_ _)); exact BK216.out)) : gb217 ≠ gb216)); clear BK216; clear HB; have BK216 := n0_; have HB := n1_; have BK217 := n2_; have GW217 := n3_; have GE217 := n4_; have NB216_217 := n5_; have NB217_216 := n6_; clear n0_ n1_ n2_ n3_ n4_ n5_ n6_; clear hb hbox hg))
  repeat (go_quiet (first | ((with_reducible refine gate_dst (N := 2) rfl ?_); (try (refine gate_guard (by rfl) ?_; dsimp only)); refine box_event ?hg (N := 2) ?hd (cs := #[.int .i64 a0_0, .int .i64 a0_1, .slice A0_2 l0_2.length c0_2]) (t := 28) ?hr ?_; (case hd => rfl); (case hg => rfl); (case hr => first | (go_simp; done) | (go_simp; rfl)); intro gb216 hg w4 hbox hb; have n0_ := Aside0.mk (below_step (by repeat (first | (with_reducible first | exact HB.out | apply below_alloc | apply pw_below_drewN | apply below_drew1) | exact HB.out)) hb); have n1_ := Aside0.mk (hbox); have n2_ := Aside0.mk ((by rw [hg]; exact (below_size (by repeat (first | (with_reducible first | exact HB.out | apply below_alloc | apply pw_below_drewN | apply below_drew1) | exact HB.out))) : w.heap.size ≤ gb216)); have n3_ := Aside0.mk ((by rw [hg]; exact (below_size (by repeat (first | (with_reducible first | exact HB.out | apply below_alloc | apply pw_below_drewN | apply below_drew1) | exact HB.out))) : w.heap.size ≤ gb216)); clear HB; have HB := n0_; have BK216 := n1_; have GW216 := n2_; have GE216 := n3_; clear n0_ n1_ n2_ n3_; clear hb hbox hg) | ((with_reducible refine gate_dst (N := 3) rfl ?_); (try (refine gate_guard (by rfl) ?_; dsimp only)); refine box_event ?hg (N := 3) ?hd (cs := #[.int .i64 a1_0, .int .i64 a1_1, .slice A1_2 l1_2.length c1_2]) (t := 28) ?hr ?_; (case hd => rfl); (case hg => rfl); (case hr => first | (go_simp; done) | (go_simp; rfl)); intro gb217 hg w5 hbox hb; have n0_ := Aside0.mk (blk_below (g := gb216) (o := .cells #[.int .i64 a0_0, .int .i64 a0_1, .slice A0_2 l0_2.length c0_2] 28 (0, 0)) (by (with_reducible repeat (first | refine blk_drewN ?_ _ | refine blk_drew ?_ | refine blk_alloc ?_ _)); exact BK216.out) hb); have n1_ := Aside0.mk (below_step (by repeat (first | (with_reducible first | exact HB.out | apply below_alloc | apply pw_below_drewN | apply below_drew1 | refine below_set ?_ GE216.out) | exact HB.out)) hb); have n2_ := Aside0.mk (hbox); have n3_ := Aside0.mk ((by rw [hg]; exact (below_size (by repeat (first | (with_reducible first | exact HB.out | apply below_alloc | apply pw_below_drewN | apply below_drew1 | refine below_set ?_ GE216.out) | exact HB.out))) : w.heap.size ≤ gb217)); have n4_ := Aside0.mk ((by rw [hg]; exact (below_size (by repeat (first | (with_reducible first | exact HB.out | apply below_alloc | apply pw_below_drewN | apply below_drew1 | refine below_set ?_ GE216.out) | exact HB.out))) : w.heap.size ≤ gb217)); have n5_ := Aside0.mk ((by rw [hg]; exact Nat.ne_of_lt (blk_lt (g := gb216) (o := .cells #[.int .i64 a0_0, .int .i64 a0_1, .slice A0_2 l0_2.length c0_2] 28 (0, 0)) (by (with_reducible repeat (first | refine blk_drewN ?_ _ | refine blk_drew ?_ | refine blk_alloc ?_ _)); exact BK216.out)) : gb216 ≠ gb217)); have n6_ := Aside0.mk ((by rw [hg]; exact Nat.ne_of_gt (blk_lt (g := gb216) (o := .cells #[.int .i64 a0_0, .int .i64 a0_1, .slice A0_2 l0_2.length c0_2] 28 (0, 0)) (by (with_reducible repeat (first | refine blk_drewN ?_ _ | refine blk_drew ?_ | refine blk_alloc ?_ _)); exact BK216.out)) : gb217 ≠ gb216)); clear BK216; clear HB; have BK216 := n0_; have HB := n1_; have BK217 := n2_; have GW217 := n3_; have GE217 := n4_; have NB216_217 := n5_; have NB217_216 := n6_; clear n0_ n1_ n2_ n3_ n4_ n5_ n6_; clear hb hbox hg)); go_upto_region 1 with (first | ((with_reducible refine gate_dst (N := 2) rfl ?_); (try (refine gate_guard (by rfl) ?_; dsimp only)); refine box_event ?hg (N := 2) ?hd (cs := #[.int .i64 a0_0, .int .i64 a0_1, .slice A0_2 l0_2.length c0_2]) (t := 28) ?hr ?_; (case hd => rfl); (case hg => rfl); (case hr => first | (go_simp; done) | (go_simp; rfl)); intro gb216 hg w4 hbox hb; have n0_ := Aside0.mk (below_step (by repeat (first | (with_reducible first | exact HB.out | apply below_alloc | apply pw_below_drewN | apply below_drew1) | exact HB.out)) hb); have n1_ := Aside0.mk (hbox); have n2_ := Aside0.mk ((by rw [hg]; exact (below_size (by repeat (first | (with_reducible first | exact HB.out | apply below_alloc | apply pw_below_drewN | apply below_drew1) | exact HB.out))) : w.heap.size ≤ gb216)); have n3_ := Aside0.mk ((by rw [hg]; exact (below_size (by repeat (first | (with_reducible first | exact HB.out | apply below_alloc | apply pw_below_drewN | apply below_drew1) | exact HB.out))) : w.heap.size ≤ gb216)); clear HB; have HB := n0_; have BK216 := n1_; have GW216 := n2_; have GE216 := n3_; clear n0_ n1_ n2_ n3_; clear hb hbox hg) | ((with_reducible refine gate_dst (N := 3) rfl ?_); (try (refine gate_guard (by rfl) ?_; dsimp only)); refine box_event ?hg (N := 3) ?hd (cs := #[.int .i64 a1_0, .int .i64 a1_1, .slice A1_2 l1_2.length c1_2]) (t := 28) ?hr ?_; (case hd => rfl); (case hg => rfl); (case hr => first | (go_simp; done) | (go_simp; rfl)); intro gb217 hg w5 hbox hb; have n0_ := Aside0.mk (blk_below (g := gb216) (o := .cells #[.int .i64 a0_0, .int .i64 a0_1, .slice A0_2 l0_2.length c0_2] 28 (0, 0)) (by (with_reducible repeat (first | refine blk_drewN ?_ _ | refine blk_drew ?_ | refine blk_alloc ?_ _)); exact BK216.out) hb); have n1_ := Aside0.mk (below_step (by repeat (first | (with_reducible first | exact HB.out | apply below_alloc | apply pw_below_drewN | apply below_drew1 | refine below_set ?_ GE216.out) | exact HB.out)) hb); have n2_ := Aside0.mk (hbox); have n3_ := Aside0.mk ((by rw [hg]; exact (below_size (by repeat (first | (with_reducible first | exact HB.out | apply below_alloc | apply pw_below_drewN | apply below_drew1 | refine below_set ?_ GE216.out) | exact HB.out))) : w.heap.size ≤ gb217)); have n4_ := Aside0.mk ((by rw [hg]; exact (below_size (by repeat (first | (with_reducible first | exact HB.out | apply below_alloc | apply pw_below_drewN | apply below_drew1 | refine below_set ?_ GE216.out) | exact HB.out))) : w.heap.size ≤ gb217)); have n5_ := Aside0.mk ((by rw [hg]; exact Nat.ne_of_lt (blk_lt (g := gb216) (o := .cells #[.int .i64 a0_0, .int .i64 a0_1, .slice A0_2 l0_2.length c0_2] 28 (0, 0)) (by (with_reducible repeat (first | refine blk_drewN ?_ _ | refine blk_drew ?_ | refine blk_alloc ?_ _)); exact BK216.out)) : gb216 ≠ gb217)); have n6_ := Aside0.mk ((by rw [hg]; exact Nat.ne_of_gt (blk_lt (g := gb216) (o := .cells #[.int .i64 a0_0, .int .i64 a0_1, .slice A0_2 l0_2.length c0_2] 28 (0, 0)) (by (with_reducible repeat (first | refine blk_drewN ?_ _ | refine blk_drew ?_ | refine blk_alloc ?_ _)); exact BK216.out)) : gb217 ≠ gb216)); clear BK216; clear HB; have BK216 := n0_; have HB := n1_; have BK217 := n2_; have GW217 := n3_; have GE217 := n4_; have NB216_217 := n5_; have NB217_216 := n6_; clear n0_ n1_ n2_ n3_ n4_ n5_ n6_; clear hb hbox hg)))
  (try simp only [Act.put, List.setIfInBounds_toArray, List.set_cons_zero, List.set_cons_succ])
  go_cut [26] (fun v26 wc => ∃ (kq : Nat) (x26_2 : Bool), v26 = .bool x26_2 ∧ Aside0 (mailbaglaw11_Same.j0 kq x26_2 a0_0 a0_1 l0_2 a1_0 a1_1 l1_2 = some r) ∧ Aside0 (kq ≤ k) ∧ Aside0 (wc.heap[gb216]? = some (.cells #[.int .i64 a0_0, .int .i64 a0_1, (.slice A0_2 l0_2.length c0_2)] 28 (0, 0))) ∧ Aside0 (wc.heap[gb217]? = some (.cells #[.int .i64 a1_0, .int .i64 a1_1, (.slice A1_2 l1_2.length c1_2)] 28 (0, 0))) ∧ Aside0 (Below w.heap.size w wc))
  case first =>
    have H := HC3.out
    clear HC3
    by_cases c6 : a0_0 = a1_0
    · rw [if_pos c6] at H
      have c6b0 : (a0_0 == a1_0) = true := beq_iff_eq.mpr c6
      have c6b1 : (a0_0 != a1_0) = false := bne_eq_false_iff_eq.mpr c6
      clear c6
      (first | rw [c6b0] | (simp only [i64_w, i32_w]; rw [c6b0]) | skip)
      by_cases c7 : a0_1 = a1_1
      · rw [if_pos c7] at H
        have c7b0 : (a0_1 == a1_1) = true := beq_iff_eq.mpr c7
        have c7b1 : (a0_1 != a1_1) = false := bne_eq_false_iff_eq.mpr c7
        clear c7
        have H' := Aside0.mk H
        clear H
        have hnb8 := NB216_217.out
        have hnc8 := NB217_216.out
        have hcz9_0 : w5.cell? ⟨gb216, 0, none⟩ = some (.int .i64 a0_0) := (blk_cell BK216.out 0).trans rfl
        have hcz9_1 : w5.cell? ⟨gb216, 1, none⟩ = some (.int .i64 a0_1) := (blk_cell BK216.out 1).trans rfl
        have hcz9_2 : w5.cell? ⟨gb216, 2, none⟩ = some (.slice A0_2 l0_2.length c0_2) := (blk_cell BK216.out 2).trans rfl
        have hfz9_0 := blk_frozen BK216.out 0
        have hfz9_1 := blk_frozen BK216.out 1
        have hfz9_2 := blk_frozen BK216.out 2
        have hcz10_0 : w5.cell? ⟨gb217, 0, none⟩ = some (.int .i64 a1_0) := (blk_cell BK217.out 0).trans rfl
        have hcz10_1 : w5.cell? ⟨gb217, 1, none⟩ = some (.int .i64 a1_1) := (blk_cell BK217.out 1).trans rfl
        have hcz10_2 : w5.cell? ⟨gb217, 2, none⟩ = some (.slice A1_2 l1_2.length c1_2) := (blk_cell BK217.out 2).trans rfl
        have hfz10_0 := blk_frozen BK217.out 0
        have hfz10_1 := blk_frozen BK217.out 1
        have hfz10_2 := blk_frozen BK217.out 2
        go_wp2
        repeat (go_quiet (fail); try go_wp2)
        go_meet
        case rel => exact ⟨_, (((l0_2.length : Int) != (l1_2.length : Int))), (by first | rfl | (simp; done) | (simp [*]; done)), H', ⟨by first | omega | exact Nat.le_refl _⟩, ⟨by (with_reducible repeat (first | refine blk_drewN ?_ _ | refine blk_drew ?_ | refine blk_alloc ?_ _)); exact BK216.out⟩, ⟨by (with_reducible repeat (first | refine blk_drewN ?_ _ | refine blk_drew ?_ | refine blk_alloc ?_ _)); exact BK217.out⟩, ⟨by repeat (first | (with_reducible first | exact HB.out | apply below_alloc | apply pw_below_drewN | apply below_drew1 | refine below_set ?_ GE216.out | refine below_set ?_ GE217.out) | exact HB.out)⟩⟩
      · rw [if_neg c7] at H
        have c7b0 : (a0_1 == a1_1) = false := beq_eq_false_iff_ne.mpr c7
        have c7b1 : (a0_1 != a1_1) = true := bne_iff_ne.mpr c7
        have H' := Aside0.mk H
        clear H
        have hnb11 := NB216_217.out
        have hnc11 := NB217_216.out
        have hcz12_0 : w5.cell? ⟨gb216, 0, none⟩ = some (.int .i64 a0_0) := (blk_cell BK216.out 0).trans rfl
        have hcz12_1 : w5.cell? ⟨gb216, 1, none⟩ = some (.int .i64 a0_1) := (blk_cell BK216.out 1).trans rfl
        have hcz12_2 : w5.cell? ⟨gb216, 2, none⟩ = some (.slice A0_2 l0_2.length c0_2) := (blk_cell BK216.out 2).trans rfl
        have hfz12_0 := blk_frozen BK216.out 0
        have hfz12_1 := blk_frozen BK216.out 1
        have hfz12_2 := blk_frozen BK216.out 2
        have hcz13_0 : w5.cell? ⟨gb217, 0, none⟩ = some (.int .i64 a1_0) := (blk_cell BK217.out 0).trans rfl
        have hcz13_1 : w5.cell? ⟨gb217, 1, none⟩ = some (.int .i64 a1_1) := (blk_cell BK217.out 1).trans rfl
        have hcz13_2 : w5.cell? ⟨gb217, 2, none⟩ = some (.slice A1_2 l1_2.length c1_2) := (blk_cell BK217.out 2).trans rfl
        have hfz13_0 := blk_frozen BK217.out 0
        have hfz13_1 := blk_frozen BK217.out 1
        have hfz13_2 := blk_frozen BK217.out 2
        go_wp2
        repeat (go_quiet (fail); try go_wp2)
        go_meet
        case rel => exact ⟨_, (true), (by first | rfl | (simp; done) | (simp [*]; done)), H', ⟨by first | omega | exact Nat.le_refl _⟩, ⟨by (with_reducible repeat (first | refine blk_drewN ?_ _ | refine blk_drew ?_ | refine blk_alloc ?_ _)); exact BK216.out⟩, ⟨by (with_reducible repeat (first | refine blk_drewN ?_ _ | refine blk_drew ?_ | refine blk_alloc ?_ _)); exact BK217.out⟩, ⟨by repeat (first | (with_reducible first | exact HB.out | apply below_alloc | apply pw_below_drewN | apply below_drew1 | refine below_set ?_ GE216.out | refine below_set ?_ GE217.out) | exact HB.out)⟩⟩
    · rw [if_neg c6] at H
      have c6b0 : (a0_0 == a1_0) = false := beq_eq_false_iff_ne.mpr c6
      have c6b1 : (a0_0 != a1_0) = true := bne_iff_ne.mpr c6
      (first | rw [c6b0] | (simp only [i64_w, i32_w]; rw [c6b0]) | skip)
      have H' := Aside0.mk H
      clear H
      have hnb14 := NB216_217.out
      have hnc14 := NB217_216.out
      have hcz15_0 : w5.cell? ⟨gb216, 0, none⟩ = some (.int .i64 a0_0) := (blk_cell BK216.out 0).trans rfl
      have hcz15_1 : w5.cell? ⟨gb216, 1, none⟩ = some (.int .i64 a0_1) := (blk_cell BK216.out 1).trans rfl
      have hcz15_2 : w5.cell? ⟨gb216, 2, none⟩ = some (.slice A0_2 l0_2.length c0_2) := (blk_cell BK216.out 2).trans rfl
      have hfz15_0 := blk_frozen BK216.out 0
      have hfz15_1 := blk_frozen BK216.out 1
      have hfz15_2 := blk_frozen BK216.out 2
      have hcz16_0 : w5.cell? ⟨gb217, 0, none⟩ = some (.int .i64 a1_0) := (blk_cell BK217.out 0).trans rfl
      have hcz16_1 : w5.cell? ⟨gb217, 1, none⟩ = some (.int .i64 a1_1) := (blk_cell BK217.out 1).trans rfl
      have hcz16_2 : w5.cell? ⟨gb217, 2, none⟩ = some (.slice A1_2 l1_2.length c1_2) := (blk_cell BK217.out 2).trans rfl
      have hfz16_0 := blk_frozen BK217.out 0
      have hfz16_1 := blk_frozen BK217.out 1
      have hfz16_2 := blk_frozen BK217.out 2
      go_wp2
      repeat (go_quiet (fail); try go_wp2)
      go_meet
      case rel => exact ⟨_, (true), (by first | rfl | (simp; done) | (simp [*]; done)), H', ⟨by first | omega | exact Nat.le_refl _⟩, ⟨by (with_reducible repeat (first | refine blk_drewN ?_ _ | refine blk_drew ?_ | refine blk_alloc ?_ _)); exact BK216.out⟩, ⟨by (with_reducible repeat (first | refine blk_drewN ?_ _ | refine blk_drew ?_ | refine blk_alloc ?_ _)); exact BK217.out⟩, ⟨by repeat (first | (with_reducible first | exact HB.out | apply below_alloc | apply pw_below_drewN | apply below_drew1 | refine below_set ?_ GE216.out | refine below_set ?_ GE217.out) | exact HB.out)⟩⟩
  case rest =>
    clear HC3
    try clear c1
    try clear p2
    try clear c3
    try clear c6
    try clear c6b0
    try clear c6b1
    try clear c7
    try clear c7b0
    try clear c7b1
    try clear c8
    try clear c11
    try clear c14
    try clear hcz10_0
    try clear hcz10_1
    try clear hcz10_2
    try clear hcz12_0
    try clear hcz12_1
    try clear hcz12_2
    try clear hcz13_0
    try clear hcz13_1
    try clear hcz13_2
    try clear hcz15_0
    try clear hcz15_1
    try clear hcz15_2
    try clear hcz16_0
    try clear hcz16_1
    try clear hcz16_2
    try clear hcz9_0
    try clear hcz9_1
    try clear hcz9_2
    try clear hfz10_0
    try clear hfz10_1
    try clear hfz10_2
    try clear hfz12_0
    try clear hfz12_1
    try clear hfz12_2
    try clear hfz13_0
    try clear hfz13_1
    try clear hfz13_2
    try clear hfz15_0
    try clear hfz15_1
    try clear hfz15_2
    try clear hfz16_0
    try clear hfz16_1
    try clear hfz16_2
    try clear hfz9_0
    try clear hfz9_1
    try clear hfz9_2
    obtain ⟨kq, x26_2, rfl, HA, HJ2, BK216, BK217, HB⟩ := hcut
    cases kq with
    | zero => exact absurd HA.out (by simp [mailbaglaw11_Same.j0])
    | succ kj2 =>
      have H := HA.out
      clear HA
      simp only [mailbaglaw11_Same.j0] at H
      by_cases c17 : x26_2 = true
      · subst c17
        have H1 : (some false) = some r := by rw [if_pos rfl] at H; exact H
        clear H
        have H := H1
        clear H1
        obtain rfl := Option.some.inj H
        go_wp2
        repeat (go_quiet (fail); try go_wp2)
        go_ret
        exact ⟨by first | rfl | (simp [errW_none, errW_some] <;> rfl) | (simp [*, errW_none, errW_some] <;> rfl), by repeat (first | (with_reducible first | exact HB.out | apply below_alloc | apply pw_below_drewN | apply below_drew1 | refine below_set ?_ GE216.out | refine below_set ?_ GE217.out) | exact HB.out)⟩
      · replace c17 := Bool.eq_false_iff.mpr c17
        subst c17
        have H1 : (mailbaglaw11_Same.l0 kj2 (l0_2.length : Int) 0 a0_0 a0_1 l0_2 a1_0 a1_1 l1_2) = some r := by rw [if_neg (show ¬ (false = true) by decide)] at H; exact H
        clear H
        have H := H1
        clear H1
        have H' := Aside0.mk H
        clear H
        have hnb18 := NB216_217.out
        have hnc18 := NB217_216.out
        have hcz19_0 : wc.cell? ⟨gb216, 0, none⟩ = some (.int .i64 a0_0) := (blk_cell BK216.out 0).trans rfl
        have hcz19_1 : wc.cell? ⟨gb216, 1, none⟩ = some (.int .i64 a0_1) := (blk_cell BK216.out 1).trans rfl
        have hcz19_2 : wc.cell? ⟨gb216, 2, none⟩ = some (.slice A0_2 l0_2.length c0_2) := (blk_cell BK216.out 2).trans rfl
        have hfz19_0 := blk_frozen BK216.out 0
        have hfz19_1 := blk_frozen BK216.out 1
        have hfz19_2 := blk_frozen BK216.out 2
        go_wp2
        repeat (go_quiet (fail); try go_wp2)
        go_loopg [30] kj2 (fun kq v30 w' => ∃ (x30_2 : Int), v30 = .int .i64 x30_2 ∧ Aside0 (mailbaglaw11_Same.l0 kq (l0_2.length : Int) x30_2 a0_0 a0_1 l0_2 a1_0 a1_1 l1_2 = some r) ∧ Aside0 (kq ≤ kj2) ∧ Aside0 (w'.heap[gb216]? = some (.cells #[.int .i64 a0_0, .int .i64 a0_1, (.slice A0_2 l0_2.length c0_2)] 28 (0, 0))) ∧ Aside0 (w'.heap[gb217]? = some (.cells #[.int .i64 a1_0, .int .i64 a1_1, (.slice A1_2 l1_2.length c1_2)] 28 (0, 0))) ∧ Aside0 (Below w.heap.size w w'))
        case atStart => exact ⟨(0), (by first | rfl | (simp; done) | (simp [*]; done)), H', ⟨Nat.le_refl _⟩, ⟨by (with_reducible repeat (first | refine blk_drewN ?_ _ | refine blk_drew ?_ | refine blk_alloc ?_ _)); exact BK216.out⟩, ⟨by (with_reducible repeat (first | refine blk_drewN ?_ _ | refine blk_drew ?_ | refine blk_alloc ?_ _)); exact BK217.out⟩, ⟨by repeat (first | (with_reducible first | exact HB.out | apply below_alloc | apply pw_below_drewN | apply below_drew1 | refine below_set ?_ GE216.out | refine below_set ?_ GE217.out) | exact HB.out)⟩⟩
        case round =>
          clear H'
          try clear c1
          try clear p2
          try clear c3
          try clear c6
          try clear c6b0
          try clear c6b1
          try clear c7
          try clear c7b0
          try clear c7b1
          try clear c8
          try clear c11
          try clear c14
          try clear c17
          try clear c18
          try clear hcz10_0
          try clear hcz10_1
          try clear hcz10_2
          try clear hcz12_0
          try clear hcz12_1
          try clear hcz12_2
          try clear hcz13_0
          try clear hcz13_1
          try clear hcz13_2
          try clear hcz15_0
          try clear hcz15_1
          try clear hcz15_2
          try clear hcz16_0
          try clear hcz16_1
          try clear hcz16_2
          try clear hcz19_0
          try clear hcz19_1
          try clear hcz19_2
          try clear hcz9_0
          try clear hcz9_1
          try clear hcz9_2
          try clear hfz10_0
          try clear hfz10_1
          try clear hfz10_2
          try clear hfz12_0
          try clear hfz12_1
          try clear hfz12_2
          try clear hfz13_0
          try clear hfz13_1
          try clear hfz13_2
          try clear hfz15_0
          try clear hfz15_1
          try clear hfz15_2
          try clear hfz16_0
          try clear hfz16_1
          try clear hfz16_2
          try clear hfz19_0
          try clear hfz19_1
          try clear hfz19_2
          try clear hfz9_0
          try clear hfz9_1
          try clear hfz9_2
          try clear p2
          obtain ⟨x30_2, rfl, HA, HK2, BK216, BK217, HB⟩ := hrel
          cases gk with
          | zero => exact absurd HA.out (by simp [mailbaglaw11_Same.l0])
          | succ k2 =>
            have H := HA.out
            clear HA
            simp only [mailbaglaw11_Same.l0] at H
            by_cases c20 : x30_2 < (l0_2.length : Int)
            · rw [if_pos c20] at H
              have c20b0 : decide (x30_2 < (l0_2.length : Int)) = true := decide_eq_true c20
              clear c20
              by_cases c21 : 0 ≤ x30_2
              · rw [if_pos c21] at H
                have c21b0 : decide (0 ≤ x30_2) = true := decide_eq_true c21
                clear c21
                by_cases c22 : x30_2 < (l0_2.length : Int)
                · rw [if_pos c22] at H
                  have c22b0 : decide (x30_2 < (l0_2.length : Int)) = true := decide_eq_true c22
                  clear c22
                  by_cases c23 : x30_2 < (l1_2.length : Int)
                  · rw [if_pos c23] at H
                    have c23b0 : decide (x30_2 < (l1_2.length : Int)) = true := decide_eq_true c23
                    clear c23
                    by_cases c24 : (!((((rd_T31 l0_2 x30_2).f0).toList) == (((rd_T31 l1_2 x30_2).f0).toList)) || (!((((rd_T31 l0_2 x30_2).f1).toList) == (((rd_T31 l1_2 x30_2).f1).toList)) || (!(((rd_T31 l0_2 x30_2).f2) == ((rd_T31 l1_2 x30_2).f2))))) = true
                    · rw [if_pos c24] at H
                      have c24b0 : (!((((rd_T31 l0_2 x30_2).f0).toList) == (((rd_T31 l1_2 x30_2).f0).toList)) || (!((((rd_T31 l0_2 x30_2).f1).toList) == (((rd_T31 l1_2 x30_2).f1).toList)) || (!(((rd_T31 l0_2 x30_2).f2) == ((rd_T31 l1_2 x30_2).f2))))) = true := c24
                      clear c24
                      obtain rfl := Option.some.inj H
                      have hnb25 := NB216_217.out
                      have hnc25 := NB217_216.out
                      have hcz26_0 : wr.cell? ⟨gb216, 0, none⟩ = some (.int .i64 a0_0) := (blk_cell BK216.out 0).trans rfl
                      have hcz26_1 : wr.cell? ⟨gb216, 1, none⟩ = some (.int .i64 a0_1) := (blk_cell BK216.out 1).trans rfl
                      have hcz26_2 : wr.cell? ⟨gb216, 2, none⟩ = some (.slice A0_2 l0_2.length c0_2) := (blk_cell BK216.out 2).trans rfl
                      have hfz26_0 := blk_frozen BK216.out 0
                      have hfz26_1 := blk_frozen BK216.out 1
                      have hfz26_2 := blk_frozen BK216.out 2
                      have p218 : 0 ≤ (x30_2 : Int) := of_decide_eq_true (by first | (with_reducible assumption) | assumption)
                      have q218 : x30_2 < (l0_2.length : Int) := of_decide_eq_true (by first | (with_reducible assumption) | assumption)
                      obtain ⟨ad218, e218, hx218_0, hx218_1, hx218_2⟩ := at_T31 HR0_2.out x30_2 p218 q218
                      cases e218
                      replace hx218_0 := (HB.out.cell (World.block_lt_of_cell? w _ hx218_0)).trans hx218_0
                      replace hx218_1 := (HB.out.cell (World.block_lt_of_cell? w _ hx218_1)).trans hx218_1
                      replace hx218_2 := (HB.out.cell (World.block_lt_of_cell? w _ hx218_2)).trans hx218_2
                      replace p218 := eq_true p218
                      replace q218 := eq_true q218
                      have hcz27_0 : wr.cell? ⟨gb217, 0, none⟩ = some (.int .i64 a1_0) := (blk_cell BK217.out 0).trans rfl
                      have hcz27_1 : wr.cell? ⟨gb217, 1, none⟩ = some (.int .i64 a1_1) := (blk_cell BK217.out 1).trans rfl
                      have hcz27_2 : wr.cell? ⟨gb217, 2, none⟩ = some (.slice A1_2 l1_2.length c1_2) := (blk_cell BK217.out 2).trans rfl
                      have hfz27_0 := blk_frozen BK217.out 0
                      have hfz27_1 := blk_frozen BK217.out 1
                      have hfz27_2 := blk_frozen BK217.out 2
                      have p219 : 0 ≤ (x30_2 : Int) := of_decide_eq_true (by first | (with_reducible assumption) | assumption)
                      have q219 : x30_2 < (l1_2.length : Int) := of_decide_eq_true (by first | (with_reducible assumption) | assumption)
                      obtain ⟨ad219, e219, hx219_0, hx219_1, hx219_2⟩ := at_T31 HR1_2.out x30_2 p219 q219
                      cases e219
                      replace hx219_0 := (HB.out.cell (World.block_lt_of_cell? w _ hx219_0)).trans hx219_0
                      replace hx219_1 := (HB.out.cell (World.block_lt_of_cell? w _ hx219_1)).trans hx219_1
                      replace hx219_2 := (HB.out.cell (World.block_lt_of_cell? w _ hx219_2)).trans hx219_2
                      replace p219 := eq_true p219
                      replace q219 := eq_true q219
                      go_wp2
                      repeat (go_quiet (fail); try go_wp2)
                      go_ret
                      exact ⟨by first | rfl | (simp [errW_none, errW_some] <;> rfl) | (simp [*, errW_none, errW_some] <;> rfl), by repeat (first | (with_reducible first | exact HB.out | apply below_alloc | apply pw_below_drewN | apply below_drew1 | refine below_set ?_ GE216.out | refine below_set ?_ GE217.out) | exact HB.out)⟩
                    · rw [if_neg c24] at H
                      have c24b0 : (!((((rd_T31 l0_2 x30_2).f0).toList) == (((rd_T31 l1_2 x30_2).f0).toList)) || (!((((rd_T31 l0_2 x30_2).f1).toList) == (((rd_T31 l1_2 x30_2).f1).toList)) || (!(((rd_T31 l0_2 x30_2).f2) == ((rd_T31 l1_2 x30_2).f2))))) = false := by simpa using c24
                      clear c24
                      have H' := Aside0.mk H
                      clear H
                      have hnb28 := NB216_217.out
                      have hnc28 := NB217_216.out
                      have hcz29_0 : wr.cell? ⟨gb216, 0, none⟩ = some (.int .i64 a0_0) := (blk_cell BK216.out 0).trans rfl
                      have hcz29_1 : wr.cell? ⟨gb216, 1, none⟩ = some (.int .i64 a0_1) := (blk_cell BK216.out 1).trans rfl
                      have hcz29_2 : wr.cell? ⟨gb216, 2, none⟩ = some (.slice A0_2 l0_2.length c0_2) := (blk_cell BK216.out 2).trans rfl
                      have hfz29_0 := blk_frozen BK216.out 0
                      have hfz29_1 := blk_frozen BK216.out 1
                      have hfz29_2 := blk_frozen BK216.out 2
                      have p218 : 0 ≤ (x30_2 : Int) := of_decide_eq_true (by first | (with_reducible assumption) | assumption)
                      have q218 : x30_2 < (l0_2.length : Int) := of_decide_eq_true (by first | (with_reducible assumption) | assumption)
                      obtain ⟨ad218, e218, hx218_0, hx218_1, hx218_2⟩ := at_T31 HR0_2.out x30_2 p218 q218
                      cases e218
                      replace hx218_0 := (HB.out.cell (World.block_lt_of_cell? w _ hx218_0)).trans hx218_0
                      replace hx218_1 := (HB.out.cell (World.block_lt_of_cell? w _ hx218_1)).trans hx218_1
                      replace hx218_2 := (HB.out.cell (World.block_lt_of_cell? w _ hx218_2)).trans hx218_2
                      replace p218 := eq_true p218
                      replace q218 := eq_true q218
                      have hcz30_0 : wr.cell? ⟨gb217, 0, none⟩ = some (.int .i64 a1_0) := (blk_cell BK217.out 0).trans rfl
                      have hcz30_1 : wr.cell? ⟨gb217, 1, none⟩ = some (.int .i64 a1_1) := (blk_cell BK217.out 1).trans rfl
                      have hcz30_2 : wr.cell? ⟨gb217, 2, none⟩ = some (.slice A1_2 l1_2.length c1_2) := (blk_cell BK217.out 2).trans rfl
                      have hfz30_0 := blk_frozen BK217.out 0
                      have hfz30_1 := blk_frozen BK217.out 1
                      have hfz30_2 := blk_frozen BK217.out 2
                      have p219 : 0 ≤ (x30_2 : Int) := of_decide_eq_true (by first | (with_reducible assumption) | assumption)
                      have q219 : x30_2 < (l1_2.length : Int) := of_decide_eq_true (by first | (with_reducible assumption) | assumption)
                      obtain ⟨ad219, e219, hx219_0, hx219_1, hx219_2⟩ := at_T31 HR1_2.out x30_2 p219 q219
                      cases e219
                      replace hx219_0 := (HB.out.cell (World.block_lt_of_cell? w _ hx219_0)).trans hx219_0
                      replace hx219_1 := (HB.out.cell (World.block_lt_of_cell? w _ hx219_1)).trans hx219_1
                      replace hx219_2 := (HB.out.cell (World.block_lt_of_cell? w _ hx219_2)).trans hx219_2
                      replace p219 := eq_true p219
                      replace q219 := eq_true q219
                      go_wp2
                      repeat (go_quiet (fail); try go_wp2)
                      go_roundg k2
                      case measure => have := HJ2.out; have := HK2.out; omega
                      case rel => exact ⟨(wrap64 (x30_2 + 1)), (by first | rfl | (simp; done) | (simp [*]; done)), H', ⟨by have := HJ2.out; have := HK2.out; omega⟩, ⟨by (with_reducible repeat (first | refine blk_drewN ?_ _ | refine blk_drew ?_ | refine blk_alloc ?_ _)); exact BK216.out⟩, ⟨by (with_reducible repeat (first | refine blk_drewN ?_ _ | refine blk_drew ?_ | refine blk_alloc ?_ _)); exact BK217.out⟩, ⟨by repeat (first | (with_reducible first | exact HB.out | apply below_alloc | apply pw_below_drewN | apply below_drew1 | refine below_set ?_ GE216.out | refine below_set ?_ GE217.out) | exact HB.out)⟩⟩
                  · rw [if_neg c23] at H
                    exact absurd H (by simp)
                · rw [if_neg c22] at H
                  exact absurd H (by simp)
              · rw [if_neg c21] at H
                exact absurd H (by simp)
            · rw [if_neg c20] at H
              have c20b0 : decide (x30_2 < (l0_2.length : Int)) = false := decide_eq_false c20
              clear c20
              obtain rfl := Option.some.inj H
              go_wp2
              repeat (go_quiet (fail); try go_wp2)
              go_ret
              exact ⟨by first | rfl | (simp [errW_none, errW_some] <;> rfl) | (simp [*, errW_none, errW_some] <;> rfl), by repeat (first | (with_reducible first | exact HB.out | apply below_alloc | apply pw_below_drewN | apply below_drew1 | refine below_set ?_ GE216.out | refine below_set ?_ GE217.out) | exact HB.out)⟩

-- NOT PRINTED: function 6 (mailbaglaw11_RecOf)

-- NOT PRINTED: function 79 (chain_Chain_From)

-- NOT PRINTED: function 130 (chain_Version_int)

-- NOT PRINTED: function 104 (chain_Chain_behind)

-- NOT PRINTED: function 80 (chain_Chain_Cut)

-- NOT PRINTED: function 105 (chain_Chain_105)

-- NOT PRINTED: function 106 (chain_Chain_106)

-- NOT PRINTED: function 145 (chain_Chain_145)

-- NOT PRINTED: function 133 (chain_Chain_133)

-- NOT PRINTED: function 107 (chain_Chain_join)

-- NOT PRINTED: function 81 (chain_Chain_Drop)

-- NOT PRINTED: function 82 (api_Commit)

-- NOT PRINTED: function 44 (store_Store_Vacuum)

-- NOT PRINTED: function 45 (store_Store_Versions)

-- NOT PRINTED: function 83 (chain_Chain_At)

-- NOT PRINTED: function 51 (store_Store_Get)

-- NOT PRINTED: function 34 (mailbaglaw09_head)

-- NOT PRINTED: function 7 (mailbaglaw09_StoreTimes)

-- NOT PRINTED: function 8 (mailbaglaw09_StoreLimits)
end Go.Proofs.Ytmafibbnojdpjaa.P
end
