-- Written by a program of this session, out of Lean's own print of the translation. Lean checks it.
import Derived.Test.YtcoollbcnpmlfaaCq0
import Derived.Test.YtcoollbcnpmlfaaCx0
import Derived.Test.YtcoollbcnpmlfaaCx1
import Derived.Test.YtcoollbcnpmlfaaCeq
import Derived.Test.YtcoollbcnpmlfaaCx7
import Derived.Test.YtcoollbcnpmlfaaCx2
import Derived.Test.YtcoollbcnpmlfaaCx8
import Derived.Test.YtcoollbcnpmlfaaCp
namespace Go.Proofs.Ytcoollbcnpmlfaa.C
open Go.RowKit Go.Proofs.YtcoollbcnpmlfaaW.PrintWords Go.Proofs.YtcoollbcnpmlfaaW.PrintLast Go.Proofs.YtcoollbcnpmlfaaW.PrintMore
attribute [local go_sem] max2_int min2_int max_two min_two max_three min_three max_four min_four   -- for this text's walks alone
set_option linter.unusedVariables false
set_option linter.unusedSimpArgs false

attribute [local go_sem high] eqA52
def bm (a b : Nat) : Array Bool := (List.replicate a true ++ List.replicate b false).toArray
theorem zs : (∀ (l : List Value) (i : Nat) (a : Value), l.toArray.setIfInBounds i a = (l.set i a).toArray) ∧ (∀ (x y : Value) (l : List Value), (x :: l).set 0 y = y :: l) ∧ (∀ (x y : Value) (l : List Value) (n : Nat), (x :: l).set (n + 1) y = x :: l.set n y) :=
  ⟨fun _ _ _ => List.setIfInBounds_toArray .., fun _ _ _ => rfl, fun _ _ _ _ => rfl⟩
theorem isE (l : List UInt8) : l.isEmpty = !(l != ([] : List UInt8)) := by cases l <;> rfl
def mailbaglaw07_ChainPuts.T7 : Bool × List (List Nat × List Nat) := (true, [([], []), ([0], [0]), ([1], [1]), ([2], [2]), ([3], [3]), ([4, 3], [3, 4]), ([5, 3], [3, 5]), ([3, 6], [3, 6]), ([7, 3], [7]), ([8], [8]), ([9, 8], [8, 9]), ([10, 8, 8], [8, 10]), ([11], [11]), ([12, 11], [11, 12]), ([11], [11]), ([11], [11]), ([15, 11], [11, 15]), ([14, 16, 11], [11, 14, 16]), ([17, 11], [11, 17]), ([18, 11], [11, 18]), ([13, 19, 11], [11, 13, 19]), ([11, 20, 8], [8, 11, 20]), ([8, 21], [8, 21]), ([22, 11], [22]), ([23], [23]), ([24, 23], [23, 24]), ([25, 23, 23], [23, 25]), ([26], [26]), ([27, 26], [26, 27]), ([28, 26], [26, 28]), ([26, 29, 23], [23, 26, 29]), ([30, 23], [23, 30]), ([23, 31], [23, 31]), ([32, 26, 0, 1, 2, 3, 4, 5, 6, 7, 8, 9, 10, 11, 12, 13, 14, 15, 16, 17, 18, 19, 20, 21, 22, 23, 24, 25, 26, 27, 28, 29, 30, 31, 32], [32])])
def mailbaglaw07_ChainPuts.B7 : List Nat := [0, 1, 3, 7, 15, 31, 63, 127, 255, 511, 1023, 2047, 4095, 8191, 4095, 4095, 36863, 118783, 249855, 511999, 1048575, 2097151, 4194303, 8388607, 16777215, 33554431, 67108863, 134217727, 268435455, 536870911, 1073741823, 2147483647, 4294967295, 8589934591]
theorem mailbaglaw07_ChainPuts.tab7 : rtab .any (opsOf Try.f10 7) = mailbaglaw07_ChainPuts.T7 := by kernel_rfl
theorem mailbaglaw07_ChainPuts.bits7 : waitsOk mailbaglaw07_ChainPuts.T7.2 mailbaglaw07_ChainPuts.B7 = true := by kernel_rfl
def mailbaglaw07_ChainPuts.T10 : Bool × List (List Nat × List Nat) := (true, [([], []), ([0], [0]), ([1], [1]), ([2], [2]), ([3, 2], [2, 3]), ([2], [2]), ([5, 2], [2, 5]), ([4, 6, 2], [2, 4, 6]), ([2, 7], [2, 7]), ([8, 2], [8]), ([9], [9]), ([9], [9]), ([10, 11, 9], [9, 10, 11]), ([12, 9], [9, 12]), ([9], [9]), ([13, 14, 9], [9, 13, 14]), ([9, 15], [9, 15]), ([16, 9], [16]), ([17], [17]), ([18, 17, 17], [17, 18]), ([19, 17], [17, 19]), ([17, 20], [17, 20])])
def mailbaglaw07_ChainPuts.B10 : List Nat := [0, 1, 3, 7, 15, 7, 39, 127, 255, 511, 1023, 1023, 4095, 8191, 1023, 32767, 65535, 131071, 262143, 524287, 1048575, 2097151]
theorem mailbaglaw07_ChainPuts.tab10 : rtab .any (opsOf Try.f10 10) = mailbaglaw07_ChainPuts.T10 := by kernel_rfl
theorem mailbaglaw07_ChainPuts.bits10 : waitsOk mailbaglaw07_ChainPuts.T10.2 mailbaglaw07_ChainPuts.B10 = true := by kernel_rfl
def mailbaglaw07_ChainPuts.T16 : Bool × List (List Nat × List Nat) := (true, [([], []), ([], []), ([0, 1], [0, 1]), ([2], [2]), ([], []), ([], []), ([4, 5], [4, 5]), ([6], [6]), ([3, 7], [3, 7])])
def mailbaglaw07_ChainPuts.B16 : List Nat := [0, 0, 3, 7, 0, 0, 48, 112, 255]
theorem mailbaglaw07_ChainPuts.tab16 : rtab .any (opsOf Try.f10 16) = mailbaglaw07_ChainPuts.T16 := by kernel_rfl
theorem mailbaglaw07_ChainPuts.bits16 : waitsOk mailbaglaw07_ChainPuts.T16.2 mailbaglaw07_ChainPuts.B16 = true := by kernel_rfl
def mailbaglaw07_ChainPuts.T19 : Bool × List (List Nat × List Nat) := (true, [([], []), ([0], [0]), ([1], [1]), ([2], [2]), ([2], [2]), ([3, 4, 2], [2, 3, 4]), ([5, 2], [2, 5]), ([2], [2]), ([6, 7, 2], [2, 6, 7]), ([2, 8], [2, 8]), ([9, 2], [9]), ([10], [10]), ([10], [10]), ([11, 12, 10], [10, 11, 12]), ([13, 10], [10, 13]), ([14, 10], [10, 14]), ([15, 10], [10, 15]), ([10, 16], [10, 16]), ([17, 10], [17]), ([18], [18]), ([19, 18], [18, 19]), ([18], [18]), ([20, 21, 18], [18, 20, 21]), ([18, 22], [18, 22]), ([23, 18, 0, 1, 2, 3, 4, 5, 6, 7, 8, 9, 10, 11, 12, 13, 14, 15, 16, 17, 18, 19, 20, 21, 22, 23], [23])])
def mailbaglaw07_ChainPuts.B19 : List Nat := [0, 1, 3, 7, 7, 31, 63, 7, 255, 511, 1023, 2047, 2047, 8191, 16383, 32767, 65535, 131071, 262143, 524287, 1048575, 524287, 4194303, 8388607, 16777215]
theorem mailbaglaw07_ChainPuts.tab19 : rtab .any (opsOf Try.f10 19) = mailbaglaw07_ChainPuts.T19 := by kernel_rfl
theorem mailbaglaw07_ChainPuts.bits19 : waitsOk mailbaglaw07_ChainPuts.T19.2 mailbaglaw07_ChainPuts.B19 = true := by kernel_rfl
set_option maxHeartbeats 8000000 in
set_option maxRecDepth 100000 in
theorem mailbaglaw07_ChainPuts.calls (k : Nat) (A0 : Option Addr) (c0 : Nat) (l0 : List (S52)) (a1_0 : Int) (a1_1 : ByteArray) (a1_2 : Bool) (r : Bool) (w : World) (hr0 : Kd.C k52 w A0 l0.length l0) (hc0 : l0.length ≤ c0) (h : mailbaglaw07_ChainPuts.f k l0 a1_0 a1_1 a1_2 = some r) :
  Calls Try.prog 10 #[.slice A0 l0.length c0, .agg #[.int .i64 a1_0, .string a1_1, .bool a1_2]] w fun e w' => e = .returned (.bool r) ∧ Below w.heap.size w w' := by
 have hu52 := Try.underlying52
 have HR0 := Aside0.mk hr0
 have HC0 := Aside0.mk hc0
 clear hr0 hc0
 have HB := Aside0.mk (Below.refl w.heap.size w)
 have H : ((mailbaglaw07_head.f k).bind fun t122 => (if t122 = true then (if (l0.length : Int) > 60 then (mailbaglaw07_ChainPuts.j0 k l0 true a1_0 a1_1 a1_2) else ((mailbaglaw07_right.f k l0).bind fun t123 => (mailbaglaw07_ChainPuts.j0 k l0 (!t123) a1_0 a1_1 a1_2))) else (some false))) = some r := h
 clear h
 replace H := Option.bind_eq_some_iff.mp H
 obtain ⟨t122, A30, H⟩ := H
 replace H : (if t122 = true then (if (l0.length : Int) > 60 then (mailbaglaw07_ChainPuts.j0 k l0 true a1_0 a1_1 a1_2) else ((mailbaglaw07_right.f k l0).bind fun t123 => (mailbaglaw07_ChainPuts.j0 k l0 (!t123) a1_0 a1_1 a1_2))) else (some false)) = some r := H
 have A3 := Aside0.mk A30
 clear A30
 by_cases c4 : t122 = true
 ·
  subst c4
  have H1 : (if (l0.length : Int) > 60 then (mailbaglaw07_ChainPuts.j0 k l0 true a1_0 a1_1 a1_2) else ((mailbaglaw07_right.f k l0).bind fun t123 => (mailbaglaw07_ChainPuts.j0 k l0 (!t123) a1_0 a1_1 a1_2))) = some r := by rw [if_pos rfl] at H; exact H
  clear H
  have H := H1
  clear H1
  have HC5 := Aside0.mk H
  clear H
  go_enter Try.func10, Try.ntmps10
  go_upto_region 3 with (first | ((with_reducible refine gate_dst (N := 3) rfl ?_); (try (refine gate_guard (by rfl) ?_; dsimp only)); refine box_event ?hg (N := 3) ?hd (cs := #[.int .i64 a1_0, .string a1_1, .bool a1_2]) (t := 52) ?hr ?_; (case hd => rfl); (case hg => rfl); (case hr => first | (go_simp; done) | (go_simp; rfl)); intro gb121 hg w6 hbox hb; have n0_ := Aside0.mk (below_step (by repeat (first | (with_reducible first | exact HB.out | apply below_alloc | apply pw_below_drewN | apply below_drew1) | exact HB.out)) hb); have n1_ := Aside0.mk (hbox); have n2_ := Aside0.mk ((by rw [hg]; exact (below_size (by repeat (first | (with_reducible first | exact HB.out | apply below_alloc | apply pw_below_drewN | apply below_drew1) | exact HB.out))) : w.heap.size ≤ gb121)); have n3_ := Aside0.mk ((by rw [hg]; exact (below_size (by repeat (first | (with_reducible first | exact HB.out | apply below_alloc | apply pw_below_drewN | apply below_drew1) | exact HB.out))) : w.heap.size ≤ gb121)); clear HB; have HB := n0_; have BK121 := n1_; have GW121 := n2_; have GE121 := n3_; clear n0_ n1_ n2_ n3_; clear hb hbox hg) | ((with_reducible refine gate_callee (f := 22) rfl ?_); refine goesL_ (some 12) rfl rfl Try.func22 (by kernel_rfl) rfl #[] rfl (by (try simp only [List.map_toArray, List.map_cons, List.map_nil]); first | done | rfl | (simp only [List.length_drop, List.length_take]; rfl)) ?_; (with_reducible refine (mailbaglaw07_head.calls k  true _ A3.out).mono ?_); rintro e w7 ⟨rfl, hb⟩; refine ⟨_, rfl, ?_⟩; have n0_ := Aside0.mk (blk_below (g := gb121) (o := .cells #[.int .i64 a1_0, .string a1_1, .bool a1_2] 52 (0, 0)) (by (with_reducible repeat (first | refine blk_drewN ?_ _ | refine blk_drew ?_ | refine blk_alloc ?_ _)); exact BK121.out) hb); have n1_ := Aside0.mk (below_step (by repeat (first | (with_reducible first | exact HB.out | apply below_alloc | apply pw_below_drewN | apply below_drew1 | refine below_set ?_ GE121.out) | exact HB.out)) hb); clear BK121; clear HB; have BK121 := n0_; have HB := n1_; clear n0_ n1_; (try clear hb); (try clear hb2); (try clear hk); (try clear hi)))
  (try simp only [Act.put, List.setIfInBounds_toArray, List.set_cons_zero, List.set_cons_succ])
  go_cut [21] (fun v21 wc => ∃ (kq : Nat) (x21_4 : Bool), v21 = .bool x21_4 ∧ Aside0 (mailbaglaw07_ChainPuts.j0 kq l0 x21_4 a1_0 a1_1 a1_2 = some r) ∧ Aside0 (kq ≤ k) ∧ Aside0 (wc.heap[gb121]? = some (.cells #[.int .i64 a1_0, .string a1_1, .bool a1_2] 52 (0, 0))) ∧ Aside0 (Below w.heap.size w wc))
  case first =>
   have H := HC5.out
   clear HC5
   by_cases c8 : (l0.length : Int) > 60
   ·
    rw [if_pos c8] at H
    have c8b0 : decide (60 < (l0.length : Int)) = true := decide_eq_true c8
    have c8b1 : decide (60 < l0.length) = true := decide_eq_true (by omega)
    clear c8
    (first | rw [c8b0] | (simp only [i64_w, i32_w]; rw [c8b0]) | skip)
    have H' := Aside0.mk H
    clear H
    go_wp2
    go_meet
    case rel => exact ⟨_, (true), (by first | rfl | (simp; done) | (simp [*]; done) | exact congrArg Value.bool (isE _) | (rw [isE]; done)), H', ⟨by first | omega | exact Nat.le_refl _⟩, ⟨by (with_reducible repeat (first | refine blk_drewN ?_ _ | refine blk_drew ?_ | refine blk_alloc ?_ _)); exact BK121.out⟩, ⟨by repeat (first | (with_reducible first | exact HB.out | apply below_alloc | apply pw_below_drewN | apply below_drew1 | refine below_set ?_ GE121.out) | exact HB.out)⟩⟩
   ·
    rw [if_neg c8] at H
    have c8b0 : decide (60 < (l0.length : Int)) = false := decide_eq_false c8
    have c8b1 : decide (60 < l0.length) = false := decide_eq_false (by omega)
    clear c8
    (first | rw [c8b0] | (simp only [i64_w, i32_w]; rw [c8b0]) | skip)
    replace H := Option.bind_eq_some_iff.mp H
    obtain ⟨t123, A90, H⟩ := H
    replace H : (mailbaglaw07_ChainPuts.j0 k l0 (!t123) a1_0 a1_1 a1_2) = some r := H
    have A9 := Aside0.mk A90
    clear A90
    have H' := Aside0.mk H
    clear H
    go_wp2_with (first | (go_at_call 23; (with_reducible refine (mailbaglaw07_right.calls k _ _ l0 t123 _ ?side1 ?side2 A9.out).mono ?_); (case side1 => repeat (first | exact (Kd.C_below HR0.out HB.out) | (with_reducible refine Kd.C_alloc ?_ _) | (with_reducible refine Kd.C_drewN ?_ _) | (with_reducible refine Kd.C_drew ?_))); (case side2 => exact HC0.out); rintro e w10 ⟨rfl, hb⟩; have n0_ := Aside0.mk (blk_below (g := gb121) (o := .cells #[.int .i64 a1_0, .string a1_1, .bool a1_2] 52 (0, 0)) (by (with_reducible repeat (first | refine blk_drewN ?_ _ | refine blk_drew ?_ | refine blk_alloc ?_ _)); exact BK121.out) hb); have n1_ := Aside0.mk (below_step (by repeat (first | (with_reducible first | exact HB.out | apply below_alloc | apply pw_below_drewN | apply below_drew1 | refine below_set ?_ GE121.out) | exact HB.out)) hb); clear BK121; clear HB; have BK121 := n0_; have HB := n1_; clear n0_ n1_; (try clear hb); (try clear hb2); (try clear hk); (try clear hi)))
    go_meet
    case rel => exact ⟨_, (!t123), (by first | rfl | (simp; done) | (simp [*]; done) | exact congrArg Value.bool (isE _) | (rw [isE]; done)), H', ⟨by first | omega | exact Nat.le_refl _⟩, ⟨by (with_reducible repeat (first | refine blk_drewN ?_ _ | refine blk_drew ?_ | refine blk_alloc ?_ _)); exact BK121.out⟩, ⟨by repeat (first | (with_reducible first | exact HB.out | apply below_alloc | apply pw_below_drewN | apply below_drew1 | refine below_set ?_ GE121.out) | exact HB.out)⟩⟩
  case rest =>
   clear HC5
   try clear c1
   try clear c2
   try clear p2
   try clear c4
   try clear c8
   try clear c8b0
   try clear c8b1
   try clear c10
   obtain ⟨kq, x21_4, rfl, HA, HJ4, BK121, HB⟩ := hcut
   cases kq with
   | zero => exact absurd HA.out (by simp [mailbaglaw07_ChainPuts.j0])
   | succ kj4 =>
    have H := HA.out
    clear HA
    simp only [mailbaglaw07_ChainPuts.j0] at H
    by_cases c11 : x21_4 = true
    ·
     subst c11
     have H1 : (some true) = some r := by rw [if_pos rfl] at H; exact H
     clear H
     have H := H1
     clear H1
     obtain rfl := Option.some.inj H
     go_wp2
     go_ret
     exact ⟨by first | rfl | (simp [errW_none, errW_some] <;> rfl) | (simp [*, errW_none, errW_some] <;> rfl), by repeat (first | (with_reducible first | exact HB.out | apply below_alloc | apply pw_below_drewN | apply below_drew1 | refine below_set ?_ GE121.out) | exact HB.out)⟩
    ·
     replace c11 := Bool.eq_false_iff.mpr c11
     subst c11
     have H1 : ((chain_Chain_Put.f l0 a1_0 a1_1 a1_2).bind fun bt124 => (if a1_0 ≥ 0 then (if a1_0 ≤ 1099511627776 then (if (l0.length : Int) = 0 then (if a1_2 = true then (mailbaglaw07_ChainPuts.j1 kj4 l0 (l0.length : Int) bt124.1 bt124.2 (!(a1_1.toList != ([] : List UInt8))) a1_0 a1_1 a1_2) else (mailbaglaw07_ChainPuts.j1 kj4 l0 (l0.length : Int) bt124.1 bt124.2 (!false) a1_0 a1_1 a1_2)) else (if 0 ≤ (wrap64 ((l0.length : Int) - 1)) then (if (wrap64 ((l0.length : Int) - 1)) < (l0.length : Int) then (if a1_0 > ((rd_T52 l0 (wrap64 ((l0.length : Int) - 1))).f0) then (if a1_2 = true then (mailbaglaw07_ChainPuts.j1 kj4 l0 (l0.length : Int) bt124.1 bt124.2 (!(a1_1.toList != ([] : List UInt8))) a1_0 a1_1 a1_2) else (mailbaglaw07_ChainPuts.j1 kj4 l0 (l0.length : Int) bt124.1 bt124.2 (!false) a1_0 a1_1 a1_2)) else (mailbaglaw07_ChainPuts.j1 kj4 l0 (l0.length : Int) bt124.1 bt124.2 false a1_0 a1_1 a1_2)) else (none)) else (none))) else (mailbaglaw07_ChainPuts.j1 kj4 l0 (l0.length : Int) bt124.1 bt124.2 false a1_0 a1_1 a1_2)) else (mailbaglaw07_ChainPuts.j1 kj4 l0 (l0.length : Int) bt124.1 bt124.2 false a1_0 a1_1 a1_2))) = some r := by rw [if_neg (show ¬ (false = true) by decide)] at H; exact H
     clear H
     have H := H1
     clear H1
     replace H := Option.bind_eq_some_iff.mp H
     obtain ⟨⟨t124, t127⟩, A120, H⟩ := H
     replace H : (if a1_0 ≥ 0 then (if a1_0 ≤ 1099511627776 then (if (l0.length : Int) = 0 then (if a1_2 = true then (mailbaglaw07_ChainPuts.j1 kj4 l0 (l0.length : Int) t124 t127 (!(a1_1.toList != ([] : List UInt8))) a1_0 a1_1 a1_2) else (mailbaglaw07_ChainPuts.j1 kj4 l0 (l0.length : Int) t124 t127 (!false) a1_0 a1_1 a1_2)) else (if 0 ≤ (wrap64 ((l0.length : Int) - 1)) then (if (wrap64 ((l0.length : Int) - 1)) < (l0.length : Int) then (if a1_0 > ((rd_T52 l0 (wrap64 ((l0.length : Int) - 1))).f0) then (if a1_2 = true then (mailbaglaw07_ChainPuts.j1 kj4 l0 (l0.length : Int) t124 t127 (!(a1_1.toList != ([] : List UInt8))) a1_0 a1_1 a1_2) else (mailbaglaw07_ChainPuts.j1 kj4 l0 (l0.length : Int) t124 t127 (!false) a1_0 a1_1 a1_2)) else (mailbaglaw07_ChainPuts.j1 kj4 l0 (l0.length : Int) t124 t127 false a1_0 a1_1 a1_2)) else (none)) else (none))) else (mailbaglaw07_ChainPuts.j1 kj4 l0 (l0.length : Int) t124 t127 false a1_0 a1_1 a1_2)) else (mailbaglaw07_ChainPuts.j1 kj4 l0 (l0.length : Int) t124 t127 false a1_0 a1_1 a1_2)) = some r := H
     have A12 := Aside0.mk A120
     clear A120
     have HC13 := Aside0.mk H
     clear H
     have hcz14_0 : wc.cell? ⟨gb121, 0, none⟩ = some (.int .i64 a1_0) := (blk_cell BK121.out 0).trans rfl
     have hcz14_1 : wc.cell? ⟨gb121, 1, none⟩ = some (.string a1_1) := (blk_cell BK121.out 1).trans rfl
     have hcz14_2 : wc.cell? ⟨gb121, 2, none⟩ = some (.bool a1_2) := (blk_cell BK121.out 2).trans rfl
     have hfz14_0 := blk_frozen BK121.out 0
     have hfz14_1 := blk_frozen BK121.out 1
     have hfz14_2 := blk_frozen BK121.out 2
     go_upto_region 7 with (first | ((with_reducible refine gate_callee (f := 24) rfl ?_); refine goesL_ (some 27) rfl rfl Try.func24 (by kernel_rfl) rfl #[.slice A0 l0.length c0, .agg #[.int .i64 a1_0, .string a1_1, .bool a1_2]] rfl (by (try simp only [List.map_toArray, List.map_cons, List.map_nil]); first | done | rfl | (simp only [List.length_drop, List.length_take]; rfl)) ?_; (with_reducible refine (chain_Chain_Put.calls _ _ l0 a1_0 a1_1 a1_2 t124 t127 _ ?side1 ?side2 A12.out).mono ?_); (case side1 => repeat (first | exact (Kd.C_below HR0.out HB.out) | (with_reducible refine Kd.C_alloc ?_ _) | (with_reducible refine Kd.C_drewN ?_ _) | (with_reducible refine Kd.C_drew ?_))); (case side2 => exact HC0.out); rintro e w15 ⟨v125, rfl, ho0, hb⟩; refine ⟨_, rfl, ?_⟩; have n0_ := Aside0.mk (Kd.R_lower (Kd.R_newB ho0 (g := gb121) (o := .cells #[.int .i64 a1_0, .string a1_1, .bool a1_2] 52 (0, 0)) (by (with_reducible repeat (first | refine blk_drewN ?_ _ | refine blk_drew ?_ | refine blk_alloc ?_ _)); exact BK121.out)) (below_size (by repeat (first | (with_reducible first | exact HB.out | apply below_alloc | apply pw_below_drewN | apply below_drew1 | refine below_set ?_ GE121.out) | exact HB.out)))); have n1_ := Aside0.mk (blk_below (g := gb121) (o := .cells #[.int .i64 a1_0, .string a1_1, .bool a1_2] 52 (0, 0)) (by (with_reducible repeat (first | refine blk_drewN ?_ _ | refine blk_drew ?_ | refine blk_alloc ?_ _)); exact BK121.out) hb); have n2_ := Aside0.mk (below_step (by repeat (first | (with_reducible first | exact HB.out | apply below_alloc | apply pw_below_drewN | apply below_drew1 | refine below_set ?_ GE121.out) | exact HB.out)) hb); clear BK121; clear HB; have HO126 := n0_; have BK121 := n1_; have HB := n2_; clear n0_ n1_ n2_; (try clear hb); (try clear hb2); (try clear hk); (try clear hi); (try clear ho0)))
     (try simp only [Act.put, List.setIfInBounds_toArray, List.set_cons_zero, List.set_cons_succ])
     go_cut [8] (fun v8 wc => ∃ (kq : Nat) (x8_12 : Bool), v8 = .bool x8_12 ∧ Aside0 (mailbaglaw07_ChainPuts.j1 kq l0 (l0.length : Int) t124 t127 x8_12 a1_0 a1_1 a1_2 = some r) ∧ Aside0 (kq ≤ kj4) ∧ Aside0 (Kd.R k52 52 wc w.heap.size (fun k_ => k_ ≠ gb121) v125 t124) ∧ Aside0 (wc.heap[gb121]? = some (.cells #[.int .i64 a1_0, .string a1_1, .bool a1_2] 52 (0, 0))) ∧ Aside0 (Below w.heap.size w wc))
     case first =>
      have H := HC13.out
      clear HC13
      by_cases c16 : a1_0 ≥ 0
      ·
       rw [if_pos c16] at H
       have c16b0 : decide (0 ≤ a1_0) = true := decide_eq_true c16
       clear c16
       (first | rw [c16b0] | (simp only [i64_w, i32_w]; rw [c16b0]) | skip)
       by_cases c17 : a1_0 ≤ 1099511627776
       ·
        rw [if_pos c17] at H
        have c17b0 : decide (a1_0 ≤ 1099511627776) = true := decide_eq_true c17
        clear c17
        by_cases c18 : (l0.length : Int) = 0
        ·
         rw [if_pos c18] at H
         have c18b0 : ((l0.length : Int) == 0) = true := beq_iff_eq.mpr c18
         have c18b1 : ((l0.length : Int) != 0) = false := bne_eq_false_iff_eq.mpr c18
         clear c18
         by_cases c19 : a1_2 = true
         ·
          subst c19
          have H1 : (mailbaglaw07_ChainPuts.j1 kj4 l0 (l0.length : Int) t124 t127 (!(a1_1.toList != ([] : List UInt8))) a1_0 a1_1 true) = some r := by rw [if_pos rfl] at H; exact H
          clear H
          have H := H1
          clear H1
          have H' := Aside0.mk H
          clear H
          try go_wp2
          have n0_ := Aside0.mk (Kd.R_drew HO126.out)
          have n1_ := Aside0.mk (blk_drew BK121.out)
          have n2_ := Aside0.mk (below_drew1 HB.out)
          clear HO126
          clear BK121
          clear HB
          have HO126 := n0_
          have BK121 := n1_
          have HB := n2_
          clear n0_ n1_ n2_
          refine start_ (n := 34) (S := fun w' => w'.cell? ⟨gb121, 0, none⟩ = some (.int .i64 a1_0) ∧ w'.cell? ⟨gb121, 1, none⟩ = some (.string a1_1) ∧ w'.cell? ⟨gb121, 2, none⟩ = some (.bool true)) (ds := []) (bm 0 34) (by kernel_rfl) rfl rfl ⟨(blk_cell BK121.out 0).trans rfl, (blk_cell BK121.out 1).trans rfl, (blk_cell BK121.out 2).trans rfl⟩ (fun hHeld => ?_); refine with_tabW mailbaglaw07_ChainPuts.tab7 mailbaglaw07_ChainPuts.bits7 (fun HT_ HW_ => ?_)
          generalize w15.drew = w20 at HO126 BK121 HB hHeld ⊢
          refine pure_ (i := 0) (N := some 30) (v := ?_) (a' := ?_) (bm 1 33) rfl rfl (any_of HT_.out (by kernel_rfl)) (fun _ _ _ h => h) (Or.inl ⟨by rfl, ?_⟩) ?_ ?_
          rotate_left
          ·
           intro w'
           go_simp
           with_reducible rfl
          rotate_left
          ·
           simp only [Act.put, zs, i64_w, i32_w]
           rfl
          refine take_ (i := 1) (N := some 31) (v := ?_) (a' := ?_) (bm 2 32) rfl rfl (take_ofW HT_.out HW_.out (by kernel_rfl)) (fun _ _ _ h => h) (Or.inl ⟨by rfl, ?_⟩) hHeld ?_ ?_
          rotate_left
          ·
           rintro w' ⟨s0, s1, s2⟩
           go_simp
           with_reducible rfl
          rotate_left
          ·
           simp only [Act.put, zs, i64_w, i32_w]
           rfl
          refine pure_ (i := 2) (N := some 32) (v := ?_) (a' := ?_) (bm 3 31) rfl rfl (any_of HT_.out (by kernel_rfl)) (fun _ _ _ h => h) (Or.inl ⟨by rfl, ?_⟩) ?_ ?_
          rotate_left
          ·
           intro w'
           go_simp
           with_reducible rfl
          rotate_left
          ·
           simp only [Act.put, zs, i64_w, i32_w]
           rfl
          refine pure_ (i := 3) (N := some 33) (v := ?_) (a' := ?_) (bm 4 30) rfl rfl (any_of HT_.out (by kernel_rfl)) (fun _ _ _ h => h) (Or.inl ⟨by rfl, ?_⟩) ?_ ?_
          rotate_left
          ·
           intro w'
           go_simp
           with_reducible rfl
          rotate_left
          ·
           simp only [Act.put, zs, i64_w, i32_w]
           rfl
          refine pure_ (i := 4) (N := some 34) (v := ?_) (a' := ?_) (bm 5 29) rfl rfl (any_of HT_.out (by kernel_rfl)) (fun _ _ _ h => h) (Or.inl ⟨by rfl, ?_⟩) ?_ ?_
          rotate_left
          ·
           intro w'
           go_simp
           with_reducible rfl
          rotate_left
          ·
           simp only [Act.put, zs, i64_w, i32_w]
           rfl
          refine take_ (i := 5) (N := some 35) (v := ?_) (a' := ?_) (bm 6 28) rfl rfl (take_ofW HT_.out HW_.out (by kernel_rfl)) (fun _ _ _ h => h) (Or.inl ⟨by rfl, ?_⟩) hHeld ?_ ?_
          rotate_left
          ·
           rintro w' ⟨s0, s1, s2⟩
           go_simp
           with_reducible rfl
          rotate_left
          ·
           simp only [Act.put, zs, i64_w, i32_w]
           rfl
          refine pure_ (i := 6) (N := some 36) (v := ?_) (a' := ?_) (bm 7 27) rfl rfl (any_of HT_.out (by kernel_rfl)) (fun _ _ _ h => h) (Or.inl ⟨by rfl, ?_⟩) ?_ ?_
          rotate_left
          ·
           intro w'
           go_simp
           with_reducible rfl
          rotate_left
          ·
           simp only [Act.put, zs, i64_w, i32_w]
           rfl
          refine pure_ (i := 7) (N := some 37) (v := ?_) (a' := ?_) (bm 8 26) rfl rfl (any_of HT_.out (by kernel_rfl)) (fun _ _ _ h => h) (Or.inl ⟨by rfl, ?_⟩) ?_ ?_
          rotate_left
          ·
           intro w'
           go_simp
           with_reducible rfl
          rotate_left
          ·
           simp only [Act.put, zs, i64_w, i32_w]
           rfl
          refine pure_ (i := 8) (N := some 38) (v := ?_) (a' := ?_) (bm 9 25) rfl rfl (any_of HT_.out (by kernel_rfl)) (fun _ _ _ h => h) (Or.inl ⟨by rfl, ?_⟩) ?_ ?_
          rotate_left
          ·
           intro w'
           go_simp
           with_reducible rfl
          rotate_left
          ·
           simp only [Act.put, zs, i64_w, i32_w]
           rfl
          refine pure_ (i := 9) (N := some 39) (v := ?_) (a' := ?_) (bm 10 24) rfl rfl (any_of HT_.out (by kernel_rfl)) (fun _ _ _ h => h) (Or.inl ⟨by rfl, ?_⟩) ?_ ?_
          rotate_left
          ·
           intro w'
           go_simp
           with_reducible rfl
          rotate_left
          ·
           simp only [Act.put, zs, i64_w, i32_w]
           rfl
          refine pure_ (i := 10) (N := some 40) (v := ?_) (a' := ?_) (bm 11 23) rfl rfl (any_of HT_.out (by kernel_rfl)) (fun _ _ _ h => h) (Or.inl ⟨by rfl, ?_⟩) ?_ ?_
          rotate_left
          ·
           intro w'
           go_simp
           with_reducible rfl
          rotate_left
          ·
           simp only [Act.put, zs, i64_w, i32_w]
           rfl
          refine pure_ (i := 11) (N := some 41) (v := ?_) (a' := ?_) (bm 12 22) rfl rfl (any_of HT_.out (by kernel_rfl)) (fun _ _ _ h => h) (Or.inl ⟨by rfl, ?_⟩) ?_ ?_
          rotate_left
          ·
           intro w'
           go_simp
           with_reducible rfl
          rotate_left
          ·
           simp only [Act.put, zs, i64_w, i32_w]
           rfl
          refine pure_ (i := 12) (N := some 42) (v := undef) (a' := ?_) (bm 13 21) rfl rfl (any_of HT_.out (by kernel_rfl)) (fun _ _ _ h => h) (Or.inr ⟨by rfl, rfl⟩) ?_ ?_
          rotate_left
          ·
           simp only [Act.put, zs, i64_w, i32_w]
           rfl
          refine pure_ (i := 13) (N := some 43) (v := undef) (a' := ?_) (bm 14 20) rfl rfl (any_of HT_.out (by kernel_rfl)) (fun _ _ _ h => h) (Or.inr ⟨by rfl, rfl⟩) ?_ ?_
          rotate_left
          ·
           simp only [Act.put, zs, i64_w, i32_w]
           rfl
          refine pure_ (i := 14) (N := some 44) (v := undef) (a' := ?_) (bm 15 19) rfl rfl (any_of HT_.out (by kernel_rfl)) (fun _ _ _ h => h) (Or.inr ⟨by rfl, rfl⟩) ?_ ?_
          rotate_left
          ·
           simp only [Act.put, zs, i64_w, i32_w]
           rfl
          refine pure_ (i := 15) (N := some 45) (v := undef) (a' := ?_) (bm 16 18) rfl rfl (any_of HT_.out (by kernel_rfl)) (fun _ _ _ h => h) (Or.inr ⟨by rfl, rfl⟩) ?_ ?_
          rotate_left
          ·
           simp only [Act.put, zs, i64_w, i32_w]
           rfl
          refine pure_ (i := 16) (N := some 46) (v := undef) (a' := ?_) (bm 17 17) rfl rfl (any_of HT_.out (by kernel_rfl)) (fun _ _ _ h => h) (Or.inr ⟨by rfl, rfl⟩) ?_ ?_
          rotate_left
          ·
           simp only [Act.put, zs, i64_w, i32_w]
           rfl
          refine pure_ (i := 17) (N := some 47) (v := undef) (a' := ?_) (bm 18 16) rfl rfl (any_of HT_.out (by kernel_rfl)) (fun _ _ _ h => h) (Or.inr ⟨by rfl, rfl⟩) ?_ ?_
          rotate_left
          ·
           simp only [Act.put, zs, i64_w, i32_w]
           rfl
          refine pure_ (i := 18) (N := some 48) (v := undef) (a' := ?_) (bm 19 15) rfl rfl (any_of HT_.out (by kernel_rfl)) (fun _ _ _ h => h) (Or.inr ⟨by rfl, rfl⟩) ?_ ?_
          rotate_left
          ·
           simp only [Act.put, zs, i64_w, i32_w]
           rfl
          refine pure_ (i := 19) (N := some 49) (v := undef) (a' := ?_) (bm 20 14) rfl rfl (any_of HT_.out (by kernel_rfl)) (fun _ _ _ h => h) (Or.inr ⟨by rfl, rfl⟩) ?_ ?_
          rotate_left
          ·
           simp only [Act.put, zs, i64_w, i32_w]
           rfl
          refine pure_ (i := 20) (N := some 50) (v := undef) (a' := ?_) (bm 21 13) rfl rfl (any_of HT_.out (by kernel_rfl)) (fun _ _ _ h => h) (Or.inr ⟨by rfl, rfl⟩) ?_ ?_
          rotate_left
          ·
           simp only [Act.put, zs, i64_w, i32_w]
           rfl
          refine pure_ (i := 21) (N := some 51) (v := ?_) (a' := ?_) (bm 22 12) rfl rfl (any_of HT_.out (by kernel_rfl)) (fun _ _ _ h => h) (Or.inl ⟨by rfl, ?_⟩) ?_ ?_
          rotate_left
          ·
           intro w'
           go_simp
           with_reducible rfl
          rotate_left
          ·
           simp only [Act.put, zs, i64_w, i32_w]
           rfl
          refine pure_ (i := 22) (N := some 52) (v := ?_) (a' := ?_) (bm 23 11) rfl rfl (any_of HT_.out (by kernel_rfl)) (fun _ _ _ h => h) (Or.inl ⟨by rfl, ?_⟩) ?_ ?_
          rotate_left
          ·
           intro w'
           go_simp
           with_reducible rfl
          rotate_left
          ·
           simp only [Act.put, zs, i64_w, i32_w]
           rfl
          refine pure_ (i := 23) (N := some 53) (v := ?_) (a' := ?_) (bm 24 10) rfl rfl (any_of HT_.out (by kernel_rfl)) (fun _ _ _ h => h) (Or.inl ⟨by rfl, ?_⟩) ?_ ?_
          rotate_left
          ·
           intro w'
           go_simp
           with_reducible rfl
          rotate_left
          ·
           simp only [Act.put, zs, i64_w, i32_w]
           rfl
          refine pure_ (i := 24) (N := some 54) (v := ?_) (a' := ?_) (bm 25 9) rfl rfl (any_of HT_.out (by kernel_rfl)) (fun _ _ _ h => h) (Or.inl ⟨by rfl, ?_⟩) ?_ ?_
          rotate_left
          ·
           intro w'
           go_simp
           with_reducible rfl
          rotate_left
          ·
           simp only [Act.put, zs, i64_w, i32_w]
           rfl
          refine take_ (i := 25) (N := some 55) (v := ?_) (a' := ?_) (bm 26 8) rfl rfl (take_ofW HT_.out HW_.out (by kernel_rfl)) (fun _ _ _ h => h) (Or.inl ⟨by rfl, ?_⟩) hHeld ?_ ?_
          rotate_left
          ·
           rintro w' ⟨s0, s1, s2⟩
           go_simp
           with_reducible rfl
          rotate_left
          ·
           simp only [Act.put, zs, i64_w, i32_w]
           rfl
          refine pure_ (i := 26) (N := some 56) (v := ?_) (a' := ?_) (bm 27 7) rfl rfl (any_of HT_.out (by kernel_rfl)) (fun _ _ _ h => h) (Or.inl ⟨by rfl, ?_⟩) ?_ ?_
          rotate_left
          ·
           intro w'
           go_simp
           with_reducible rfl
          rotate_left
          ·
           simp only [Act.put, zs, i64_w, i32_w]
           rfl
          refine pure_ (i := 27) (N := some 57) (v := ?_) (a' := ?_) (bm 28 6) rfl rfl (any_of HT_.out (by kernel_rfl)) (fun _ _ _ h => h) (Or.inl ⟨by rfl, ?_⟩) ?_ ?_
          rotate_left
          ·
           intro w'
           go_simp
           with_reducible rfl
          rotate_left
          ·
           simp only [Act.put, zs, i64_w, i32_w]
           rfl
          refine take_ (i := 28) (N := some 58) (v := ?_) (a' := ?_) (bm 29 5) rfl rfl (take_ofW HT_.out HW_.out (by kernel_rfl)) (fun _ _ _ h => h) (Or.inl ⟨by rfl, ?_⟩) hHeld ?_ ?_
          rotate_left
          ·
           rintro w' ⟨s0, s1, s2⟩
           go_simp
           with_reducible rfl
          rotate_left
          ·
           simp only [Act.put, zs, i64_w, i32_w]
           rfl
          refine pure_ (i := 29) (N := some 59) (v := ?_) (a' := ?_) (bm 30 4) rfl rfl (any_of HT_.out (by kernel_rfl)) (fun _ _ _ h => h) (Or.inl ⟨by rfl, ?_⟩) ?_ ?_
          rotate_left
          ·
           intro w'
           go_simp
           with_reducible rfl
          rotate_left
          ·
           simp only [Act.put, zs, i64_w, i32_w]
           rfl
          refine pure_ (i := 30) (N := some 60) (v := ?_) (a' := ?_) (bm 31 3) rfl rfl (any_of HT_.out (by kernel_rfl)) (fun _ _ _ h => h) (Or.inl ⟨by rfl, ?_⟩) ?_ ?_
          rotate_left
          ·
           intro w'
           go_simp
           with_reducible rfl
          rotate_left
          ·
           simp only [Act.put, zs, i64_w, i32_w]
           rfl
          refine pure_ (i := 31) (N := some 61) (v := ?_) (a' := ?_) (bm 32 2) rfl rfl (any_of HT_.out (by kernel_rfl)) (fun _ _ _ h => h) (Or.inl ⟨by rfl, ?_⟩) ?_ ?_
          rotate_left
          ·
           intro w'
           go_simp
           with_reducible rfl
          rotate_left
          ·
           simp only [Act.put, zs, i64_w, i32_w]
           rfl
          refine pure_ (i := 32) (N := some 62) (v := ?_) (a' := ?_) (bm 33 1) rfl rfl (any_of HT_.out (by kernel_rfl)) (fun _ _ _ h => h) (Or.inl ⟨by rfl, ?_⟩) ?_ ?_
          rotate_left
          ·
           intro w'
           go_simp
           with_reducible rfl
          rotate_left
          ·
           simp only [Act.put, zs, i64_w, i32_w]
           rfl
          refine pure_ (i := 33) (N := some 8) (v := ?_) (a' := ?_) (bm 34 0) rfl rfl (any_of HT_.out (by kernel_rfl)) (fun _ _ _ h => h) (Or.inl ⟨by rfl, ?_⟩) ?_ ?_
          rotate_left
          ·
           intro w'
           go_simp
           with_reducible rfl
          rotate_left
          ·
           simp only [Act.put, zs, i64_w, i32_w]
           rfl
          refine done_ (done_of HT_.out (by kernel_rfl)) ?_
          try go_wp2
          go_meet
          case rel => exact ⟨_, (!(a1_1.toList != ([] : List UInt8))), (by first | rfl | (simp; done) | (simp [*]; done) | exact congrArg Value.bool (isE _) | (rw [isE]; done)), H', ⟨by have := HJ4.out; first | omega | exact Nat.le_refl _⟩, ⟨by (with_reducible repeat (first | apply Kd.R_alloc | apply Kd.R_drewN | apply Kd.R_drew)); exact Kd.R_mono HO126.out (fun _ hk => hk.2)⟩, ⟨by (with_reducible repeat (first | refine blk_drewN ?_ _ | refine blk_drew ?_ | refine blk_alloc ?_ _)); exact BK121.out⟩, ⟨by repeat (first | (with_reducible first | exact HB.out | apply below_alloc | apply pw_below_drewN | apply below_drew1 | refine below_set ?_ GE121.out) | exact HB.out)⟩⟩
         ·
          replace c19 := Bool.eq_false_iff.mpr c19
          subst c19
          have H1 : (mailbaglaw07_ChainPuts.j1 kj4 l0 (l0.length : Int) t124 t127 (!false) a1_0 a1_1 false) = some r := by rw [if_neg (show ¬ (false = true) by decide)] at H; exact H
          clear H
          have H := H1
          clear H1
          have H' := Aside0.mk H
          clear H
          try go_wp2
          have n0_ := Aside0.mk (Kd.R_drew HO126.out)
          have n1_ := Aside0.mk (blk_drew BK121.out)
          have n2_ := Aside0.mk (below_drew1 HB.out)
          clear HO126
          clear BK121
          clear HB
          have HO126 := n0_
          have BK121 := n1_
          have HB := n2_
          clear n0_ n1_ n2_
          refine start_ (n := 34) (S := fun w' => w'.cell? ⟨gb121, 0, none⟩ = some (.int .i64 a1_0) ∧ w'.cell? ⟨gb121, 1, none⟩ = some (.string a1_1) ∧ w'.cell? ⟨gb121, 2, none⟩ = some (.bool false)) (ds := []) (bm 0 34) (by kernel_rfl) rfl rfl ⟨(blk_cell BK121.out 0).trans rfl, (blk_cell BK121.out 1).trans rfl, (blk_cell BK121.out 2).trans rfl⟩ (fun hHeld => ?_); refine with_tabW mailbaglaw07_ChainPuts.tab7 mailbaglaw07_ChainPuts.bits7 (fun HT_ HW_ => ?_)
          generalize w15.drew = w21 at HO126 BK121 HB hHeld ⊢
          refine pure_ (i := 0) (N := some 30) (v := ?_) (a' := ?_) (bm 1 33) rfl rfl (any_of HT_.out (by kernel_rfl)) (fun _ _ _ h => h) (Or.inl ⟨by rfl, ?_⟩) ?_ ?_
          rotate_left
          ·
           intro w'
           go_simp
           with_reducible rfl
          rotate_left
          ·
           simp only [Act.put, zs, i64_w, i32_w]
           rfl
          refine take_ (i := 1) (N := some 31) (v := ?_) (a' := ?_) (bm 2 32) rfl rfl (take_ofW HT_.out HW_.out (by kernel_rfl)) (fun _ _ _ h => h) (Or.inl ⟨by rfl, ?_⟩) hHeld ?_ ?_
          rotate_left
          ·
           rintro w' ⟨s0, s1, s2⟩
           go_simp
           with_reducible rfl
          rotate_left
          ·
           simp only [Act.put, zs, i64_w, i32_w]
           rfl
          refine pure_ (i := 2) (N := some 32) (v := ?_) (a' := ?_) (bm 3 31) rfl rfl (any_of HT_.out (by kernel_rfl)) (fun _ _ _ h => h) (Or.inl ⟨by rfl, ?_⟩) ?_ ?_
          rotate_left
          ·
           intro w'
           go_simp
           with_reducible rfl
          rotate_left
          ·
           simp only [Act.put, zs, i64_w, i32_w]
           rfl
          refine pure_ (i := 3) (N := some 33) (v := ?_) (a' := ?_) (bm 4 30) rfl rfl (any_of HT_.out (by kernel_rfl)) (fun _ _ _ h => h) (Or.inl ⟨by rfl, ?_⟩) ?_ ?_
          rotate_left
          ·
           intro w'
           go_simp
           with_reducible rfl
          rotate_left
          ·
           simp only [Act.put, zs, i64_w, i32_w]
           rfl
          refine pure_ (i := 4) (N := some 34) (v := ?_) (a' := ?_) (bm 5 29) rfl rfl (any_of HT_.out (by kernel_rfl)) (fun _ _ _ h => h) (Or.inl ⟨by rfl, ?_⟩) ?_ ?_
          rotate_left
          ·
           intro w'
           go_simp
           with_reducible rfl
          rotate_left
          ·
           simp only [Act.put, zs, i64_w, i32_w]
           rfl
          refine take_ (i := 5) (N := some 35) (v := ?_) (a' := ?_) (bm 6 28) rfl rfl (take_ofW HT_.out HW_.out (by kernel_rfl)) (fun _ _ _ h => h) (Or.inl ⟨by rfl, ?_⟩) hHeld ?_ ?_
          rotate_left
          ·
           rintro w' ⟨s0, s1, s2⟩
           go_simp
           with_reducible rfl
          rotate_left
          ·
           simp only [Act.put, zs, i64_w, i32_w]
           rfl
          refine pure_ (i := 6) (N := some 36) (v := ?_) (a' := ?_) (bm 7 27) rfl rfl (any_of HT_.out (by kernel_rfl)) (fun _ _ _ h => h) (Or.inl ⟨by rfl, ?_⟩) ?_ ?_
          rotate_left
          ·
           intro w'
           go_simp
           with_reducible rfl
          rotate_left
          ·
           simp only [Act.put, zs, i64_w, i32_w]
           rfl
          refine pure_ (i := 7) (N := some 37) (v := ?_) (a' := ?_) (bm 8 26) rfl rfl (any_of HT_.out (by kernel_rfl)) (fun _ _ _ h => h) (Or.inl ⟨by rfl, ?_⟩) ?_ ?_
          rotate_left
          ·
           intro w'
           go_simp
           with_reducible rfl
          rotate_left
          ·
           simp only [Act.put, zs, i64_w, i32_w]
           rfl
          refine pure_ (i := 8) (N := some 38) (v := ?_) (a' := ?_) (bm 9 25) rfl rfl (any_of HT_.out (by kernel_rfl)) (fun _ _ _ h => h) (Or.inl ⟨by rfl, ?_⟩) ?_ ?_
          rotate_left
          ·
           intro w'
           go_simp
           with_reducible rfl
          rotate_left
          ·
           simp only [Act.put, zs, i64_w, i32_w]
           rfl
          refine pure_ (i := 9) (N := some 39) (v := ?_) (a' := ?_) (bm 10 24) rfl rfl (any_of HT_.out (by kernel_rfl)) (fun _ _ _ h => h) (Or.inl ⟨by rfl, ?_⟩) ?_ ?_
          rotate_left
          ·
           intro w'
           go_simp
           with_reducible rfl
          rotate_left
          ·
           simp only [Act.put, zs, i64_w, i32_w]
           rfl
          refine pure_ (i := 10) (N := some 40) (v := ?_) (a' := ?_) (bm 11 23) rfl rfl (any_of HT_.out (by kernel_rfl)) (fun _ _ _ h => h) (Or.inl ⟨by rfl, ?_⟩) ?_ ?_
          rotate_left
          ·
           intro w'
           go_simp
           with_reducible rfl
          rotate_left
          ·
           simp only [Act.put, zs, i64_w, i32_w]
           rfl
          refine pure_ (i := 11) (N := some 41) (v := ?_) (a' := ?_) (bm 12 22) rfl rfl (any_of HT_.out (by kernel_rfl)) (fun _ _ _ h => h) (Or.inl ⟨by rfl, ?_⟩) ?_ ?_
          rotate_left
          ·
           intro w'
           go_simp
           with_reducible rfl
          rotate_left
          ·
           simp only [Act.put, zs, i64_w, i32_w]
           rfl
          refine pure_ (i := 12) (N := some 42) (v := undef) (a' := ?_) (bm 13 21) rfl rfl (any_of HT_.out (by kernel_rfl)) (fun _ _ _ h => h) (Or.inr ⟨by rfl, rfl⟩) ?_ ?_
          rotate_left
          ·
           simp only [Act.put, zs, i64_w, i32_w]
           rfl
          refine pure_ (i := 13) (N := some 43) (v := undef) (a' := ?_) (bm 14 20) rfl rfl (any_of HT_.out (by kernel_rfl)) (fun _ _ _ h => h) (Or.inr ⟨by rfl, rfl⟩) ?_ ?_
          rotate_left
          ·
           simp only [Act.put, zs, i64_w, i32_w]
           rfl
          refine pure_ (i := 14) (N := some 44) (v := undef) (a' := ?_) (bm 15 19) rfl rfl (any_of HT_.out (by kernel_rfl)) (fun _ _ _ h => h) (Or.inr ⟨by rfl, rfl⟩) ?_ ?_
          rotate_left
          ·
           simp only [Act.put, zs, i64_w, i32_w]
           rfl
          refine pure_ (i := 15) (N := some 45) (v := undef) (a' := ?_) (bm 16 18) rfl rfl (any_of HT_.out (by kernel_rfl)) (fun _ _ _ h => h) (Or.inr ⟨by rfl, rfl⟩) ?_ ?_
          rotate_left
          ·
           simp only [Act.put, zs, i64_w, i32_w]
           rfl
          refine pure_ (i := 16) (N := some 46) (v := undef) (a' := ?_) (bm 17 17) rfl rfl (any_of HT_.out (by kernel_rfl)) (fun _ _ _ h => h) (Or.inr ⟨by rfl, rfl⟩) ?_ ?_
          rotate_left
          ·
           simp only [Act.put, zs, i64_w, i32_w]
           rfl
          refine pure_ (i := 17) (N := some 47) (v := undef) (a' := ?_) (bm 18 16) rfl rfl (any_of HT_.out (by kernel_rfl)) (fun _ _ _ h => h) (Or.inr ⟨by rfl, rfl⟩) ?_ ?_
          rotate_left
          ·
           simp only [Act.put, zs, i64_w, i32_w]
           rfl
          refine pure_ (i := 18) (N := some 48) (v := undef) (a' := ?_) (bm 19 15) rfl rfl (any_of HT_.out (by kernel_rfl)) (fun _ _ _ h => h) (Or.inr ⟨by rfl, rfl⟩) ?_ ?_
          rotate_left
          ·
           simp only [Act.put, zs, i64_w, i32_w]
           rfl
          refine pure_ (i := 19) (N := some 49) (v := undef) (a' := ?_) (bm 20 14) rfl rfl (any_of HT_.out (by kernel_rfl)) (fun _ _ _ h => h) (Or.inr ⟨by rfl, rfl⟩) ?_ ?_
          rotate_left
          ·
           simp only [Act.put, zs, i64_w, i32_w]
           rfl
          refine pure_ (i := 20) (N := some 50) (v := undef) (a' := ?_) (bm 21 13) rfl rfl (any_of HT_.out (by kernel_rfl)) (fun _ _ _ h => h) (Or.inr ⟨by rfl, rfl⟩) ?_ ?_
          rotate_left
          ·
           simp only [Act.put, zs, i64_w, i32_w]
           rfl
          refine pure_ (i := 21) (N := some 51) (v := ?_) (a' := ?_) (bm 22 12) rfl rfl (any_of HT_.out (by kernel_rfl)) (fun _ _ _ h => h) (Or.inl ⟨by rfl, ?_⟩) ?_ ?_
          rotate_left
          ·
           intro w'
           go_simp
           with_reducible rfl
          rotate_left
          ·
           simp only [Act.put, zs, i64_w, i32_w]
           rfl
          refine pure_ (i := 22) (N := some 52) (v := ?_) (a' := ?_) (bm 23 11) rfl rfl (any_of HT_.out (by kernel_rfl)) (fun _ _ _ h => h) (Or.inl ⟨by rfl, ?_⟩) ?_ ?_
          rotate_left
          ·
           intro w'
           go_simp
           with_reducible rfl
          rotate_left
          ·
           simp only [Act.put, zs, i64_w, i32_w]
           rfl
          refine pure_ (i := 23) (N := some 53) (v := ?_) (a' := ?_) (bm 24 10) rfl rfl (any_of HT_.out (by kernel_rfl)) (fun _ _ _ h => h) (Or.inl ⟨by rfl, ?_⟩) ?_ ?_
          rotate_left
          ·
           intro w'
           go_simp
           with_reducible rfl
          rotate_left
          ·
           simp only [Act.put, zs, i64_w, i32_w]
           rfl
          refine pure_ (i := 24) (N := some 54) (v := ?_) (a' := ?_) (bm 25 9) rfl rfl (any_of HT_.out (by kernel_rfl)) (fun _ _ _ h => h) (Or.inl ⟨by rfl, ?_⟩) ?_ ?_
          rotate_left
          ·
           intro w'
           go_simp
           with_reducible rfl
          rotate_left
          ·
           simp only [Act.put, zs, i64_w, i32_w]
           rfl
          refine take_ (i := 25) (N := some 55) (v := ?_) (a' := ?_) (bm 26 8) rfl rfl (take_ofW HT_.out HW_.out (by kernel_rfl)) (fun _ _ _ h => h) (Or.inl ⟨by rfl, ?_⟩) hHeld ?_ ?_
          rotate_left
          ·
           rintro w' ⟨s0, s1, s2⟩
           go_simp
           with_reducible rfl
          rotate_left
          ·
           simp only [Act.put, zs, i64_w, i32_w]
           rfl
          refine pure_ (i := 26) (N := some 56) (v := ?_) (a' := ?_) (bm 27 7) rfl rfl (any_of HT_.out (by kernel_rfl)) (fun _ _ _ h => h) (Or.inl ⟨by rfl, ?_⟩) ?_ ?_
          rotate_left
          ·
           intro w'
           go_simp
           with_reducible rfl
          rotate_left
          ·
           simp only [Act.put, zs, i64_w, i32_w]
           rfl
          refine pure_ (i := 27) (N := some 57) (v := undef) (a' := ?_) (bm 28 6) rfl rfl (any_of HT_.out (by kernel_rfl)) (fun _ _ _ h => h) (Or.inr ⟨by rfl, rfl⟩) ?_ ?_
          rotate_left
          ·
           simp only [Act.put, zs, i64_w, i32_w]
           rfl
          refine pure_ (i := 28) (N := some 58) (v := undef) (a' := ?_) (bm 29 5) rfl rfl (any_of HT_.out (by kernel_rfl)) (fun _ _ _ h => h) (Or.inr ⟨by rfl, rfl⟩) ?_ ?_
          rotate_left
          ·
           simp only [Act.put, zs, i64_w, i32_w]
           rfl
          refine pure_ (i := 29) (N := some 59) (v := undef) (a' := ?_) (bm 30 4) rfl rfl (any_of HT_.out (by kernel_rfl)) (fun _ _ _ h => h) (Or.inr ⟨by rfl, rfl⟩) ?_ ?_
          rotate_left
          ·
           simp only [Act.put, zs, i64_w, i32_w]
           rfl
          refine pure_ (i := 30) (N := some 60) (v := ?_) (a' := ?_) (bm 31 3) rfl rfl (any_of HT_.out (by kernel_rfl)) (fun _ _ _ h => h) (Or.inl ⟨by rfl, ?_⟩) ?_ ?_
          rotate_left
          ·
           intro w'
           go_simp
           with_reducible rfl
          rotate_left
          ·
           simp only [Act.put, zs, i64_w, i32_w]
           rfl
          refine pure_ (i := 31) (N := some 61) (v := ?_) (a' := ?_) (bm 32 2) rfl rfl (any_of HT_.out (by kernel_rfl)) (fun _ _ _ h => h) (Or.inl ⟨by rfl, ?_⟩) ?_ ?_
          rotate_left
          ·
           intro w'
           go_simp
           with_reducible rfl
          rotate_left
          ·
           simp only [Act.put, zs, i64_w, i32_w]
           rfl
          refine pure_ (i := 32) (N := some 62) (v := ?_) (a' := ?_) (bm 33 1) rfl rfl (any_of HT_.out (by kernel_rfl)) (fun _ _ _ h => h) (Or.inl ⟨by rfl, ?_⟩) ?_ ?_
          rotate_left
          ·
           intro w'
           go_simp
           with_reducible rfl
          rotate_left
          ·
           simp only [Act.put, zs, i64_w, i32_w]
           rfl
          refine pure_ (i := 33) (N := some 8) (v := ?_) (a' := ?_) (bm 34 0) rfl rfl (any_of HT_.out (by kernel_rfl)) (fun _ _ _ h => h) (Or.inl ⟨by rfl, ?_⟩) ?_ ?_
          rotate_left
          ·
           intro w'
           go_simp
           with_reducible rfl
          rotate_left
          ·
           simp only [Act.put, zs, i64_w, i32_w]
           rfl
          refine done_ (done_of HT_.out (by kernel_rfl)) ?_
          try go_wp2
          go_meet
          case rel => exact ⟨_, (!false), (by first | rfl | (simp; done) | (simp [*]; done) | exact congrArg Value.bool (isE _) | (rw [isE]; done)), H', ⟨by have := HJ4.out; first | omega | exact Nat.le_refl _⟩, ⟨by (with_reducible repeat (first | apply Kd.R_alloc | apply Kd.R_drewN | apply Kd.R_drew)); exact Kd.R_mono HO126.out (fun _ hk => hk.2)⟩, ⟨by (with_reducible repeat (first | refine blk_drewN ?_ _ | refine blk_drew ?_ | refine blk_alloc ?_ _)); exact BK121.out⟩, ⟨by repeat (first | (with_reducible first | exact HB.out | apply below_alloc | apply pw_below_drewN | apply below_drew1 | refine below_set ?_ GE121.out) | exact HB.out)⟩⟩
        ·
         rw [if_neg c18] at H
         have c18b0 : ((l0.length : Int) == 0) = false := beq_eq_false_iff_ne.mpr c18
         have c18b1 : ((l0.length : Int) != 0) = true := bne_iff_ne.mpr c18
         have c18b2 : ¬ (l0 = []) := fun h_ => c18 (by rw [h_]; rfl)
         obtain ⟨ji22, hji22⟩ : ∃ j_ : Int, (wrap64 ((l0.length : Int) - 1)) = j_ := ⟨_, rfl⟩
         replace H : (if 0 ≤ (ji22) then (if (ji22) < (l0.length : Int) then (if a1_0 > ((rd_T52 l0 (ji22)).f0) then (if a1_2 = true then (mailbaglaw07_ChainPuts.j1 kj4 l0 (l0.length : Int) t124 t127 (!(a1_1.toList != ([] : List UInt8))) a1_0 a1_1 a1_2) else (mailbaglaw07_ChainPuts.j1 kj4 l0 (l0.length : Int) t124 t127 (!false) a1_0 a1_1 a1_2)) else (mailbaglaw07_ChainPuts.j1 kj4 l0 (l0.length : Int) t124 t127 false a1_0 a1_1 a1_2)) else (none)) else (none)) = some r := by first | (rw [hji22] at H; exact H) | (simp only [hji22] at H ⊢; exact H)
         have hji22w : (IntKind.i64.wrap ((l0.length : Int) - 1)) = ji22 := (i64_w _).trans hji22
         by_cases c23 : 0 ≤ (ji22)
         ·
          rw [if_pos c23] at H
          have c23b0 : decide (0 ≤ (ji22)) = true := decide_eq_true c23
          clear c23
          by_cases c24 : (ji22) < (l0.length : Int)
          ·
           rw [if_pos c24] at H
           have c24b0 : decide ((ji22) < (l0.length : Int)) = true := decide_eq_true c24
           clear c24
           by_cases c25 : a1_0 > ((rd_T52 l0 (ji22)).f0)
           ·
            rw [if_pos c25] at H
            have c25b0 : decide (((rd_T52 l0 (ji22)).f0) < a1_0) = true := decide_eq_true c25
            clear c25
            by_cases c26 : a1_2 = true
            ·
             subst c26
             have H1 : (mailbaglaw07_ChainPuts.j1 kj4 l0 (l0.length : Int) t124 t127 (!(a1_1.toList != ([] : List UInt8))) a1_0 a1_1 true) = some r := by rw [if_pos rfl] at H; exact H
             clear H
             have H := H1
             clear H1
             have H' := Aside0.mk H
             clear H
             try go_wp2
             have n0_ := Aside0.mk (Kd.R_drew HO126.out)
             have n1_ := Aside0.mk (blk_drew BK121.out)
             have n2_ := Aside0.mk (below_drew1 HB.out)
             clear HO126
             clear BK121
             clear HB
             have HO126 := n0_
             have BK121 := n1_
             have HB := n2_
             clear n0_ n1_ n2_
             have p128 : 0 ≤ ((ji22) : Int) := of_decide_eq_true (by first | (with_reducible assumption) | assumption)
             have q128 : (ji22) < (l0.length : Int) := of_decide_eq_true (by first | (with_reducible assumption) | assumption)
             obtain ⟨ad128, e128, hx128_0, hx128_1, hx128_2⟩ := at_T52 HR0.out (ji22) p128 q128
             have hw128_2 := hx128_2
             have hw128_1 := hx128_1
             have hw128_0 := hx128_0
             cases e128
             replace hx128_0 := (HB.out.cell (World.block_lt_of_cell? w _ hx128_0)).trans hx128_0
             replace hx128_1 := (HB.out.cell (World.block_lt_of_cell? w _ hx128_1)).trans hx128_1
             replace hx128_2 := (HB.out.cell (World.block_lt_of_cell? w _ hx128_2)).trans hx128_2
             replace p128 := eq_true p128
             replace q128 := eq_true q128
             refine start_ (n := 34) (S := fun w' => w'.cell? ⟨gb121, 0, none⟩ = some (.int .i64 a1_0) ∧ w'.cell? ⟨gb121, 1, none⟩ = some (.string a1_1) ∧ w'.cell? ⟨gb121, 2, none⟩ = some (.bool true) ∧ w'.cell? (ad128.add (((ji22)).toNat * 3)) = some (.int .i64 ((rd_T52 l0 (ji22)).f0)) ∧ w'.cell? ⟨(ad128.add (((ji22)).toNat * 3)).block, (ad128.add (((ji22)).toNat * 3)).off + 1, none⟩ = some (.string ((rd_T52 l0 (ji22)).f1)) ∧ w'.cell? ⟨(ad128.add (((ji22)).toNat * 3)).block, (ad128.add (((ji22)).toNat * 3)).off + 2, none⟩ = some (.bool ((rd_T52 l0 (ji22)).f2))) (ds := []) (bm 0 34) (by kernel_rfl) rfl rfl ⟨(blk_cell BK121.out 0).trans rfl, (blk_cell BK121.out 1).trans rfl, (blk_cell BK121.out 2).trans rfl, ((HB.out.cell (World.block_lt_of_cell? w _ hw128_0)).trans hw128_0), ((HB.out.cell (World.block_lt_of_cell? w _ hw128_1)).trans hw128_1), ((HB.out.cell (World.block_lt_of_cell? w _ hw128_2)).trans hw128_2)⟩ (fun hHeld => ?_); refine with_tabW mailbaglaw07_ChainPuts.tab7 mailbaglaw07_ChainPuts.bits7 (fun HT_ HW_ => ?_)
             generalize w15.drew = w27 at HO126 BK121 HB hx128_0 hx128_1 hx128_2 hHeld ⊢
             refine pure_ (i := 0) (N := some 30) (v := ?_) (a' := ?_) (bm 1 33) rfl rfl (any_of HT_.out (by kernel_rfl)) (fun _ _ _ h => h) (Or.inl ⟨by rfl, ?_⟩) ?_ ?_
             rotate_left
             ·
              intro w'
              go_simp
              with_reducible rfl
             rotate_left
             ·
              simp only [Act.put, zs, i64_w, i32_w]
              rfl
             refine take_ (i := 1) (N := some 31) (v := ?_) (a' := ?_) (bm 2 32) rfl rfl (take_ofW HT_.out HW_.out (by kernel_rfl)) (fun _ _ _ h => h) (Or.inl ⟨by rfl, ?_⟩) hHeld ?_ ?_
             rotate_left
             ·
              rintro w' ⟨s0, s1, s2, s3, s4, s5⟩
              go_simp
              with_reducible rfl
             rotate_left
             ·
              simp only [Act.put, zs, i64_w, i32_w]
              rfl
             refine pure_ (i := 2) (N := some 32) (v := ?_) (a' := ?_) (bm 3 31) rfl rfl (any_of HT_.out (by kernel_rfl)) (fun _ _ _ h => h) (Or.inl ⟨by rfl, ?_⟩) ?_ ?_
             rotate_left
             ·
              intro w'
              go_simp
              with_reducible rfl
             rotate_left
             ·
              simp only [Act.put, zs, i64_w, i32_w]
              rfl
             refine pure_ (i := 3) (N := some 33) (v := ?_) (a' := ?_) (bm 4 30) rfl rfl (any_of HT_.out (by kernel_rfl)) (fun _ _ _ h => h) (Or.inl ⟨by rfl, ?_⟩) ?_ ?_
             rotate_left
             ·
              intro w'
              go_simp
              with_reducible rfl
             rotate_left
             ·
              simp only [Act.put, zs, i64_w, i32_w]
              rfl
             refine pure_ (i := 4) (N := some 34) (v := ?_) (a' := ?_) (bm 5 29) rfl rfl (any_of HT_.out (by kernel_rfl)) (fun _ _ _ h => h) (Or.inl ⟨by rfl, ?_⟩) ?_ ?_
             rotate_left
             ·
              intro w'
              go_simp
              with_reducible rfl
             rotate_left
             ·
              simp only [Act.put, zs, i64_w, i32_w]
              rfl
             refine take_ (i := 5) (N := some 35) (v := ?_) (a' := ?_) (bm 6 28) rfl rfl (take_ofW HT_.out HW_.out (by kernel_rfl)) (fun _ _ _ h => h) (Or.inl ⟨by rfl, ?_⟩) hHeld ?_ ?_
             rotate_left
             ·
              rintro w' ⟨s0, s1, s2, s3, s4, s5⟩
              go_simp
              with_reducible rfl
             rotate_left
             ·
              simp only [Act.put, zs, i64_w, i32_w]
              rfl
             refine pure_ (i := 6) (N := some 36) (v := ?_) (a' := ?_) (bm 7 27) rfl rfl (any_of HT_.out (by kernel_rfl)) (fun _ _ _ h => h) (Or.inl ⟨by rfl, ?_⟩) ?_ ?_
             rotate_left
             ·
              intro w'
              go_simp
              with_reducible rfl
             rotate_left
             ·
              simp only [Act.put, zs, i64_w, i32_w]
              rfl
             refine pure_ (i := 7) (N := some 37) (v := ?_) (a' := ?_) (bm 8 26) rfl rfl (any_of HT_.out (by kernel_rfl)) (fun _ _ _ h => h) (Or.inl ⟨by rfl, ?_⟩) ?_ ?_
             rotate_left
             ·
              intro w'
              go_simp
              with_reducible rfl
             rotate_left
             ·
              simp only [Act.put, zs, i64_w, i32_w]
              rfl
             refine pure_ (i := 8) (N := some 38) (v := ?_) (a' := ?_) (bm 9 25) rfl rfl (any_of HT_.out (by kernel_rfl)) (fun _ _ _ h => h) (Or.inl ⟨by rfl, ?_⟩) ?_ ?_
             rotate_left
             ·
              intro w'
              go_simp
              with_reducible rfl
             rotate_left
             ·
              simp only [Act.put, zs, i64_w, i32_w]
              rfl
             refine pure_ (i := 9) (N := some 39) (v := ?_) (a' := ?_) (bm 10 24) rfl rfl (any_of HT_.out (by kernel_rfl)) (fun _ _ _ h => h) (Or.inl ⟨by rfl, ?_⟩) ?_ ?_
             rotate_left
             ·
              intro w'
              go_simp
              with_reducible rfl
             rotate_left
             ·
              simp only [Act.put, zs, i64_w, i32_w]
              rfl
             refine pure_ (i := 10) (N := some 40) (v := ?_) (a' := ?_) (bm 11 23) rfl rfl (any_of HT_.out (by kernel_rfl)) (fun _ _ _ h => h) (Or.inl ⟨by rfl, ?_⟩) ?_ ?_
             rotate_left
             ·
              intro w'
              go_simp
              with_reducible rfl
             rotate_left
             ·
              simp only [Act.put, zs, i64_w, i32_w]
              rfl
             refine pure_ (i := 11) (N := some 41) (v := ?_) (a' := ?_) (bm 12 22) rfl rfl (any_of HT_.out (by kernel_rfl)) (fun _ _ _ h => h) (Or.inl ⟨by rfl, ?_⟩) ?_ ?_
             rotate_left
             ·
              intro w'
              go_simp
              with_reducible rfl
             rotate_left
             ·
              simp only [Act.put, zs, i64_w, i32_w]
              rfl
             refine pure_ (i := 12) (N := some 42) (v := ?_) (a' := ?_) (bm 13 21) rfl rfl (any_of HT_.out (by kernel_rfl)) (fun _ _ _ h => h) (Or.inl ⟨by rfl, ?_⟩) ?_ ?_
             rotate_left
             ·
              intro w'
              go_simp
              with_reducible rfl
             rotate_left
             ·
              simp only [Act.put, zs, i64_w, i32_w]
              rfl
             refine pure_ (i := 14) (N := some 44) (v := ?_) (a' := ?_) #[true, true, true, true, true, true, true, true, true, true, true, true, true, false, true, false, false, false, false, false, false, false, false, false, false, false, false, false, false, false, false, false, false, false] rfl rfl (any_of HT_.out (by kernel_rfl)) (fun _ _ _ h => h) (Or.inl ⟨by rfl, ?_⟩) ?_ ?_
             rotate_left
             ·
              intro w'
              go_simp
              with_reducible rfl
             rotate_left
             ·
              simp only [Act.put, zs, i64_w, i32_w]
              rfl
             refine pure_ (i := 15) (N := some 45) (v := ?_) (a' := ?_) #[true, true, true, true, true, true, true, true, true, true, true, true, true, false, true, true, false, false, false, false, false, false, false, false, false, false, false, false, false, false, false, false, false, false] rfl rfl (any_of HT_.out (by kernel_rfl)) (fun _ _ _ h => h) (Or.inl ⟨by rfl, ?_⟩) ?_ ?_
             rotate_left
             ·
              intro w'
              go_simp
              with_reducible rfl
             rotate_left
             ·
              simp only [Act.put, zs, i64_w, i32_w]
              rfl
             refine pure_ (i := 16) (N := some 46) (v := ?_) (a' := ?_) #[true, true, true, true, true, true, true, true, true, true, true, true, true, false, true, true, true, false, false, false, false, false, false, false, false, false, false, false, false, false, false, false, false, false] rfl rfl (any_of HT_.out (by kernel_rfl)) (fun _ _ _ h => h) (Or.inl ⟨by rfl, ?_⟩) ?_ ?_
             rotate_left
             ·
              intro w'
              go_simp
              with_reducible rfl
             rotate_left
             ·
              simp only [Act.put, zs, i64_w, i32_w]
              rfl
             refine pure_ (i := 17) (N := some 47) (v := ?_) (a' := ?_) #[true, true, true, true, true, true, true, true, true, true, true, true, true, false, true, true, true, true, false, false, false, false, false, false, false, false, false, false, false, false, false, false, false, false] rfl rfl (any_of HT_.out (by kernel_rfl)) (fun _ _ _ h => h) (Or.inl ⟨by rfl, ?_⟩) ?_ ?_
             rotate_left
             ·
              intro w'
              go_simp
              with_reducible rfl
             rotate_left
             ·
              simp only [Act.put, zs, i64_w, i32_w]
              rfl
             refine pure_ (i := 18) (N := some 48) (v := ?_) (a' := ?_) #[true, true, true, true, true, true, true, true, true, true, true, true, true, false, true, true, true, true, true, false, false, false, false, false, false, false, false, false, false, false, false, false, false, false] rfl rfl (any_of HT_.out (by kernel_rfl)) (fun _ _ _ h => h) (Or.inl ⟨by rfl, ?_⟩) ?_ ?_
             rotate_left
             ·
              intro w'
              go_simp
              with_reducible rfl
             rotate_left
             ·
              simp only [Act.put, zs, i64_w, i32_w]
              rfl
             refine take_ (i := 13) (N := some 43) (v := ?_) (a' := ?_) (bm 19 15) rfl rfl (take_ofW HT_.out HW_.out (by kernel_rfl)) (fun _ _ _ h => h) (Or.inl ⟨by rfl, ?_⟩) hHeld ?_ ?_
             rotate_left
             ·
              rintro w' ⟨s0, s1, s2, s3, s4, s5⟩
              go_simp
              with_reducible rfl
             rotate_left
             ·
              simp only [Act.put, zs, i64_w, i32_w]
              rfl
             refine take_ (i := 19) (N := some 49) (v := ?_) (a' := ?_) (bm 20 14) rfl rfl (take_ofW HT_.out HW_.out (by kernel_rfl)) (fun _ _ _ h => h) (Or.inl ⟨by rfl, ?_⟩) hHeld ?_ ?_
             rotate_left
             ·
              rintro w' ⟨s0, s1, s2, s3, s4, s5⟩
              go_simp
              with_reducible rfl
             rotate_left
             ·
              simp only [Act.put, zs, i64_w, i32_w]
              rfl
             refine pure_ (i := 20) (N := some 50) (v := ?_) (a' := ?_) (bm 21 13) rfl rfl (any_of HT_.out (by kernel_rfl)) (fun _ _ _ h => h) (Or.inl ⟨by rfl, ?_⟩) ?_ ?_
             rotate_left
             ·
              intro w'
              go_simp
              with_reducible rfl
             rotate_left
             ·
              simp only [Act.put, zs, i64_w, i32_w]
              rfl
             refine pure_ (i := 21) (N := some 51) (v := ?_) (a' := ?_) (bm 22 12) rfl rfl (any_of HT_.out (by kernel_rfl)) (fun _ _ _ h => h) (Or.inl ⟨by rfl, ?_⟩) ?_ ?_
             rotate_left
             ·
              intro w'
              go_simp
              with_reducible rfl
             rotate_left
             ·
              simp only [Act.put, zs, i64_w, i32_w]
              rfl
             refine pure_ (i := 22) (N := some 52) (v := ?_) (a' := ?_) (bm 23 11) rfl rfl (any_of HT_.out (by kernel_rfl)) (fun _ _ _ h => h) (Or.inl ⟨by rfl, ?_⟩) ?_ ?_
             rotate_left
             ·
              intro w'
              go_simp
              with_reducible rfl
             rotate_left
             ·
              simp only [Act.put, zs, i64_w, i32_w]
              rfl
             refine pure_ (i := 23) (N := some 53) (v := ?_) (a' := ?_) (bm 24 10) rfl rfl (any_of HT_.out (by kernel_rfl)) (fun _ _ _ h => h) (Or.inl ⟨by rfl, ?_⟩) ?_ ?_
             rotate_left
             ·
              intro w'
              go_simp
              with_reducible rfl
             rotate_left
             ·
              simp only [Act.put, zs, i64_w, i32_w]
              rfl
             refine pure_ (i := 24) (N := some 54) (v := ?_) (a' := ?_) (bm 25 9) rfl rfl (any_of HT_.out (by kernel_rfl)) (fun _ _ _ h => h) (Or.inl ⟨by rfl, ?_⟩) ?_ ?_
             rotate_left
             ·
              intro w'
              go_simp
              with_reducible rfl
             rotate_left
             ·
              simp only [Act.put, zs, i64_w, i32_w]
              rfl
             refine take_ (i := 25) (N := some 55) (v := ?_) (a' := ?_) (bm 26 8) rfl rfl (take_ofW HT_.out HW_.out (by kernel_rfl)) (fun _ _ _ h => h) (Or.inl ⟨by rfl, ?_⟩) hHeld ?_ ?_
             rotate_left
             ·
              rintro w' ⟨s0, s1, s2, s3, s4, s5⟩
              go_simp
              with_reducible rfl
             rotate_left
             ·
              simp only [Act.put, zs, i64_w, i32_w]
              rfl
             refine pure_ (i := 26) (N := some 56) (v := ?_) (a' := ?_) (bm 27 7) rfl rfl (any_of HT_.out (by kernel_rfl)) (fun _ _ _ h => h) (Or.inl ⟨by rfl, ?_⟩) ?_ ?_
             rotate_left
             ·
              intro w'
              go_simp
              with_reducible rfl
             rotate_left
             ·
              simp only [Act.put, zs, i64_w, i32_w]
              rfl
             refine pure_ (i := 27) (N := some 57) (v := ?_) (a' := ?_) (bm 28 6) rfl rfl (any_of HT_.out (by kernel_rfl)) (fun _ _ _ h => h) (Or.inl ⟨by rfl, ?_⟩) ?_ ?_
             rotate_left
             ·
              intro w'
              go_simp
              with_reducible rfl
             rotate_left
             ·
              simp only [Act.put, zs, i64_w, i32_w]
              rfl
             refine take_ (i := 28) (N := some 58) (v := ?_) (a' := ?_) (bm 29 5) rfl rfl (take_ofW HT_.out HW_.out (by kernel_rfl)) (fun _ _ _ h => h) (Or.inl ⟨by rfl, ?_⟩) hHeld ?_ ?_
             rotate_left
             ·
              rintro w' ⟨s0, s1, s2, s3, s4, s5⟩
              go_simp
              with_reducible rfl
             rotate_left
             ·
              simp only [Act.put, zs, i64_w, i32_w]
              rfl
             refine pure_ (i := 29) (N := some 59) (v := ?_) (a' := ?_) (bm 30 4) rfl rfl (any_of HT_.out (by kernel_rfl)) (fun _ _ _ h => h) (Or.inl ⟨by rfl, ?_⟩) ?_ ?_
             rotate_left
             ·
              intro w'
              go_simp
              with_reducible rfl
             rotate_left
             ·
              simp only [Act.put, zs, i64_w, i32_w]
              rfl
             refine pure_ (i := 30) (N := some 60) (v := ?_) (a' := ?_) (bm 31 3) rfl rfl (any_of HT_.out (by kernel_rfl)) (fun _ _ _ h => h) (Or.inl ⟨by rfl, ?_⟩) ?_ ?_
             rotate_left
             ·
              intro w'
              go_simp
              with_reducible rfl
             rotate_left
             ·
              simp only [Act.put, zs, i64_w, i32_w]
              rfl
             refine pure_ (i := 31) (N := some 61) (v := ?_) (a' := ?_) (bm 32 2) rfl rfl (any_of HT_.out (by kernel_rfl)) (fun _ _ _ h => h) (Or.inl ⟨by rfl, ?_⟩) ?_ ?_
             rotate_left
             ·
              intro w'
              go_simp
              with_reducible rfl
             rotate_left
             ·
              simp only [Act.put, zs, i64_w, i32_w]
              rfl
             refine pure_ (i := 32) (N := some 62) (v := ?_) (a' := ?_) (bm 33 1) rfl rfl (any_of HT_.out (by kernel_rfl)) (fun _ _ _ h => h) (Or.inl ⟨by rfl, ?_⟩) ?_ ?_
             rotate_left
             ·
              intro w'
              go_simp
              with_reducible rfl
             rotate_left
             ·
              simp only [Act.put, zs, i64_w, i32_w]
              rfl
             refine pure_ (i := 33) (N := some 8) (v := ?_) (a' := ?_) (bm 34 0) rfl rfl (any_of HT_.out (by kernel_rfl)) (fun _ _ _ h => h) (Or.inl ⟨by rfl, ?_⟩) ?_ ?_
             rotate_left
             ·
              intro w'
              go_simp
              with_reducible rfl
             rotate_left
             ·
              simp only [Act.put, zs, i64_w, i32_w]
              rfl
             refine done_ (done_of HT_.out (by kernel_rfl)) ?_
             try go_wp2
             go_meet
             case rel => exact ⟨_, (!(a1_1.toList != ([] : List UInt8))), (by first | rfl | (simp; done) | (simp [*]; done) | exact congrArg Value.bool (isE _) | (rw [isE]; done)), H', ⟨by have := HJ4.out; first | omega | exact Nat.le_refl _⟩, ⟨by (with_reducible repeat (first | apply Kd.R_alloc | apply Kd.R_drewN | apply Kd.R_drew)); exact Kd.R_mono HO126.out (fun _ hk => hk.2)⟩, ⟨by (with_reducible repeat (first | refine blk_drewN ?_ _ | refine blk_drew ?_ | refine blk_alloc ?_ _)); exact BK121.out⟩, ⟨by repeat (first | (with_reducible first | exact HB.out | apply below_alloc | apply pw_below_drewN | apply below_drew1 | refine below_set ?_ GE121.out) | exact HB.out)⟩⟩
            ·
             replace c26 := Bool.eq_false_iff.mpr c26
             subst c26
             have H1 : (mailbaglaw07_ChainPuts.j1 kj4 l0 (l0.length : Int) t124 t127 (!false) a1_0 a1_1 false) = some r := by rw [if_neg (show ¬ (false = true) by decide)] at H; exact H
             clear H
             have H := H1
             clear H1
             have H' := Aside0.mk H
             clear H
             try go_wp2
             have n0_ := Aside0.mk (Kd.R_drew HO126.out)
             have n1_ := Aside0.mk (blk_drew BK121.out)
             have n2_ := Aside0.mk (below_drew1 HB.out)
             clear HO126
             clear BK121
             clear HB
             have HO126 := n0_
             have BK121 := n1_
             have HB := n2_
             clear n0_ n1_ n2_
             have p128 : 0 ≤ ((ji22) : Int) := of_decide_eq_true (by first | (with_reducible assumption) | assumption)
             have q128 : (ji22) < (l0.length : Int) := of_decide_eq_true (by first | (with_reducible assumption) | assumption)
             obtain ⟨ad128, e128, hx128_0, hx128_1, hx128_2⟩ := at_T52 HR0.out (ji22) p128 q128
             have hw128_2 := hx128_2
             have hw128_1 := hx128_1
             have hw128_0 := hx128_0
             cases e128
             replace hx128_0 := (HB.out.cell (World.block_lt_of_cell? w _ hx128_0)).trans hx128_0
             replace hx128_1 := (HB.out.cell (World.block_lt_of_cell? w _ hx128_1)).trans hx128_1
             replace hx128_2 := (HB.out.cell (World.block_lt_of_cell? w _ hx128_2)).trans hx128_2
             replace p128 := eq_true p128
             replace q128 := eq_true q128
             refine start_ (n := 34) (S := fun w' => w'.cell? ⟨gb121, 0, none⟩ = some (.int .i64 a1_0) ∧ w'.cell? ⟨gb121, 1, none⟩ = some (.string a1_1) ∧ w'.cell? ⟨gb121, 2, none⟩ = some (.bool false) ∧ w'.cell? (ad128.add (((ji22)).toNat * 3)) = some (.int .i64 ((rd_T52 l0 (ji22)).f0)) ∧ w'.cell? ⟨(ad128.add (((ji22)).toNat * 3)).block, (ad128.add (((ji22)).toNat * 3)).off + 1, none⟩ = some (.string ((rd_T52 l0 (ji22)).f1)) ∧ w'.cell? ⟨(ad128.add (((ji22)).toNat * 3)).block, (ad128.add (((ji22)).toNat * 3)).off + 2, none⟩ = some (.bool ((rd_T52 l0 (ji22)).f2))) (ds := []) (bm 0 34) (by kernel_rfl) rfl rfl ⟨(blk_cell BK121.out 0).trans rfl, (blk_cell BK121.out 1).trans rfl, (blk_cell BK121.out 2).trans rfl, ((HB.out.cell (World.block_lt_of_cell? w _ hw128_0)).trans hw128_0), ((HB.out.cell (World.block_lt_of_cell? w _ hw128_1)).trans hw128_1), ((HB.out.cell (World.block_lt_of_cell? w _ hw128_2)).trans hw128_2)⟩ (fun hHeld => ?_); refine with_tabW mailbaglaw07_ChainPuts.tab7 mailbaglaw07_ChainPuts.bits7 (fun HT_ HW_ => ?_)
             generalize w15.drew = w28 at HO126 BK121 HB hx128_0 hx128_1 hx128_2 hHeld ⊢
             refine pure_ (i := 0) (N := some 30) (v := ?_) (a' := ?_) (bm 1 33) rfl rfl (any_of HT_.out (by kernel_rfl)) (fun _ _ _ h => h) (Or.inl ⟨by rfl, ?_⟩) ?_ ?_
             rotate_left
             ·
              intro w'
              go_simp
              with_reducible rfl
             rotate_left
             ·
              simp only [Act.put, zs, i64_w, i32_w]
              rfl
             refine take_ (i := 1) (N := some 31) (v := ?_) (a' := ?_) (bm 2 32) rfl rfl (take_ofW HT_.out HW_.out (by kernel_rfl)) (fun _ _ _ h => h) (Or.inl ⟨by rfl, ?_⟩) hHeld ?_ ?_
             rotate_left
             ·
              rintro w' ⟨s0, s1, s2, s3, s4, s5⟩
              go_simp
              with_reducible rfl
             rotate_left
             ·
              simp only [Act.put, zs, i64_w, i32_w]
              rfl
             refine pure_ (i := 2) (N := some 32) (v := ?_) (a' := ?_) (bm 3 31) rfl rfl (any_of HT_.out (by kernel_rfl)) (fun _ _ _ h => h) (Or.inl ⟨by rfl, ?_⟩) ?_ ?_
             rotate_left
             ·
              intro w'
              go_simp
              with_reducible rfl
             rotate_left
             ·
              simp only [Act.put, zs, i64_w, i32_w]
              rfl
             refine pure_ (i := 3) (N := some 33) (v := ?_) (a' := ?_) (bm 4 30) rfl rfl (any_of HT_.out (by kernel_rfl)) (fun _ _ _ h => h) (Or.inl ⟨by rfl, ?_⟩) ?_ ?_
             rotate_left
             ·
              intro w'
              go_simp
              with_reducible rfl
             rotate_left
             ·
              simp only [Act.put, zs, i64_w, i32_w]
              rfl
             refine pure_ (i := 4) (N := some 34) (v := ?_) (a' := ?_) (bm 5 29) rfl rfl (any_of HT_.out (by kernel_rfl)) (fun _ _ _ h => h) (Or.inl ⟨by rfl, ?_⟩) ?_ ?_
             rotate_left
             ·
              intro w'
              go_simp
              with_reducible rfl
             rotate_left
             ·
              simp only [Act.put, zs, i64_w, i32_w]
              rfl
             refine take_ (i := 5) (N := some 35) (v := ?_) (a' := ?_) (bm 6 28) rfl rfl (take_ofW HT_.out HW_.out (by kernel_rfl)) (fun _ _ _ h => h) (Or.inl ⟨by rfl, ?_⟩) hHeld ?_ ?_
             rotate_left
             ·
              rintro w' ⟨s0, s1, s2, s3, s4, s5⟩
              go_simp
              with_reducible rfl
             rotate_left
             ·
              simp only [Act.put, zs, i64_w, i32_w]
              rfl
             refine pure_ (i := 6) (N := some 36) (v := ?_) (a' := ?_) (bm 7 27) rfl rfl (any_of HT_.out (by kernel_rfl)) (fun _ _ _ h => h) (Or.inl ⟨by rfl, ?_⟩) ?_ ?_
             rotate_left
             ·
              intro w'
              go_simp
              with_reducible rfl
             rotate_left
             ·
              simp only [Act.put, zs, i64_w, i32_w]
              rfl
             refine pure_ (i := 7) (N := some 37) (v := ?_) (a' := ?_) (bm 8 26) rfl rfl (any_of HT_.out (by kernel_rfl)) (fun _ _ _ h => h) (Or.inl ⟨by rfl, ?_⟩) ?_ ?_
             rotate_left
             ·
              intro w'
              go_simp
              with_reducible rfl
             rotate_left
             ·
              simp only [Act.put, zs, i64_w, i32_w]
              rfl
             refine pure_ (i := 8) (N := some 38) (v := ?_) (a' := ?_) (bm 9 25) rfl rfl (any_of HT_.out (by kernel_rfl)) (fun _ _ _ h => h) (Or.inl ⟨by rfl, ?_⟩) ?_ ?_
             rotate_left
             ·
              intro w'
              go_simp
              with_reducible rfl
             rotate_left
             ·
              simp only [Act.put, zs, i64_w, i32_w]
              rfl
             refine pure_ (i := 9) (N := some 39) (v := ?_) (a' := ?_) (bm 10 24) rfl rfl (any_of HT_.out (by kernel_rfl)) (fun _ _ _ h => h) (Or.inl ⟨by rfl, ?_⟩) ?_ ?_
             rotate_left
             ·
              intro w'
              go_simp
              with_reducible rfl
             rotate_left
             ·
              simp only [Act.put, zs, i64_w, i32_w]
              rfl
             refine pure_ (i := 10) (N := some 40) (v := ?_) (a' := ?_) (bm 11 23) rfl rfl (any_of HT_.out (by kernel_rfl)) (fun _ _ _ h => h) (Or.inl ⟨by rfl, ?_⟩) ?_ ?_
             rotate_left
             ·
              intro w'
              go_simp
              with_reducible rfl
             rotate_left
             ·
              simp only [Act.put, zs, i64_w, i32_w]
              rfl
             refine pure_ (i := 11) (N := some 41) (v := ?_) (a' := ?_) (bm 12 22) rfl rfl (any_of HT_.out (by kernel_rfl)) (fun _ _ _ h => h) (Or.inl ⟨by rfl, ?_⟩) ?_ ?_
             rotate_left
             ·
              intro w'
              go_simp
              with_reducible rfl
             rotate_left
             ·
              simp only [Act.put, zs, i64_w, i32_w]
              rfl
             refine pure_ (i := 12) (N := some 42) (v := ?_) (a' := ?_) (bm 13 21) rfl rfl (any_of HT_.out (by kernel_rfl)) (fun _ _ _ h => h) (Or.inl ⟨by rfl, ?_⟩) ?_ ?_
             rotate_left
             ·
              intro w'
              go_simp
              with_reducible rfl
             rotate_left
             ·
              simp only [Act.put, zs, i64_w, i32_w]
              rfl
             refine pure_ (i := 14) (N := some 44) (v := ?_) (a' := ?_) #[true, true, true, true, true, true, true, true, true, true, true, true, true, false, true, false, false, false, false, false, false, false, false, false, false, false, false, false, false, false, false, false, false, false] rfl rfl (any_of HT_.out (by kernel_rfl)) (fun _ _ _ h => h) (Or.inl ⟨by rfl, ?_⟩) ?_ ?_
             rotate_left
             ·
              intro w'
              go_simp
              with_reducible rfl
             rotate_left
             ·
              simp only [Act.put, zs, i64_w, i32_w]
              rfl
             refine pure_ (i := 15) (N := some 45) (v := ?_) (a' := ?_) #[true, true, true, true, true, true, true, true, true, true, true, true, true, false, true, true, false, false, false, false, false, false, false, false, false, false, false, false, false, false, false, false, false, false] rfl rfl (any_of HT_.out (by kernel_rfl)) (fun _ _ _ h => h) (Or.inl ⟨by rfl, ?_⟩) ?_ ?_
             rotate_left
             ·
              intro w'
              go_simp
              with_reducible rfl
             rotate_left
             ·
              simp only [Act.put, zs, i64_w, i32_w]
              rfl
             refine pure_ (i := 16) (N := some 46) (v := ?_) (a' := ?_) #[true, true, true, true, true, true, true, true, true, true, true, true, true, false, true, true, true, false, false, false, false, false, false, false, false, false, false, false, false, false, false, false, false, false] rfl rfl (any_of HT_.out (by kernel_rfl)) (fun _ _ _ h => h) (Or.inl ⟨by rfl, ?_⟩) ?_ ?_
             rotate_left
             ·
              intro w'
              go_simp
              with_reducible rfl
             rotate_left
             ·
              simp only [Act.put, zs, i64_w, i32_w]
              rfl
             refine pure_ (i := 17) (N := some 47) (v := ?_) (a' := ?_) #[true, true, true, true, true, true, true, true, true, true, true, true, true, false, true, true, true, true, false, false, false, false, false, false, false, false, false, false, false, false, false, false, false, false] rfl rfl (any_of HT_.out (by kernel_rfl)) (fun _ _ _ h => h) (Or.inl ⟨by rfl, ?_⟩) ?_ ?_
             rotate_left
             ·
              intro w'
              go_simp
              with_reducible rfl
             rotate_left
             ·
              simp only [Act.put, zs, i64_w, i32_w]
              rfl
             refine pure_ (i := 18) (N := some 48) (v := ?_) (a' := ?_) #[true, true, true, true, true, true, true, true, true, true, true, true, true, false, true, true, true, true, true, false, false, false, false, false, false, false, false, false, false, false, false, false, false, false] rfl rfl (any_of HT_.out (by kernel_rfl)) (fun _ _ _ h => h) (Or.inl ⟨by rfl, ?_⟩) ?_ ?_
             rotate_left
             ·
              intro w'
              go_simp
              with_reducible rfl
             rotate_left
             ·
              simp only [Act.put, zs, i64_w, i32_w]
              rfl
             refine take_ (i := 13) (N := some 43) (v := ?_) (a' := ?_) (bm 19 15) rfl rfl (take_ofW HT_.out HW_.out (by kernel_rfl)) (fun _ _ _ h => h) (Or.inl ⟨by rfl, ?_⟩) hHeld ?_ ?_
             rotate_left
             ·
              rintro w' ⟨s0, s1, s2, s3, s4, s5⟩
              go_simp
              with_reducible rfl
             rotate_left
             ·
              simp only [Act.put, zs, i64_w, i32_w]
              rfl
             refine take_ (i := 19) (N := some 49) (v := ?_) (a' := ?_) (bm 20 14) rfl rfl (take_ofW HT_.out HW_.out (by kernel_rfl)) (fun _ _ _ h => h) (Or.inl ⟨by rfl, ?_⟩) hHeld ?_ ?_
             rotate_left
             ·
              rintro w' ⟨s0, s1, s2, s3, s4, s5⟩
              go_simp
              with_reducible rfl
             rotate_left
             ·
              simp only [Act.put, zs, i64_w, i32_w]
              rfl
             refine pure_ (i := 20) (N := some 50) (v := ?_) (a' := ?_) (bm 21 13) rfl rfl (any_of HT_.out (by kernel_rfl)) (fun _ _ _ h => h) (Or.inl ⟨by rfl, ?_⟩) ?_ ?_
             rotate_left
             ·
              intro w'
              go_simp
              with_reducible rfl
             rotate_left
             ·
              simp only [Act.put, zs, i64_w, i32_w]
              rfl
             refine pure_ (i := 21) (N := some 51) (v := ?_) (a' := ?_) (bm 22 12) rfl rfl (any_of HT_.out (by kernel_rfl)) (fun _ _ _ h => h) (Or.inl ⟨by rfl, ?_⟩) ?_ ?_
             rotate_left
             ·
              intro w'
              go_simp
              with_reducible rfl
             rotate_left
             ·
              simp only [Act.put, zs, i64_w, i32_w]
              rfl
             refine pure_ (i := 22) (N := some 52) (v := ?_) (a' := ?_) (bm 23 11) rfl rfl (any_of HT_.out (by kernel_rfl)) (fun _ _ _ h => h) (Or.inl ⟨by rfl, ?_⟩) ?_ ?_
             rotate_left
             ·
              intro w'
              go_simp
              with_reducible rfl
             rotate_left
             ·
              simp only [Act.put, zs, i64_w, i32_w]
              rfl
             refine pure_ (i := 23) (N := some 53) (v := ?_) (a' := ?_) (bm 24 10) rfl rfl (any_of HT_.out (by kernel_rfl)) (fun _ _ _ h => h) (Or.inl ⟨by rfl, ?_⟩) ?_ ?_
             rotate_left
             ·
              intro w'
              go_simp
              with_reducible rfl
             rotate_left
             ·
              simp only [Act.put, zs, i64_w, i32_w]
              rfl
             refine pure_ (i := 24) (N := some 54) (v := ?_) (a' := ?_) (bm 25 9) rfl rfl (any_of HT_.out (by kernel_rfl)) (fun _ _ _ h => h) (Or.inl ⟨by rfl, ?_⟩) ?_ ?_
             rotate_left
             ·
              intro w'
              go_simp
              with_reducible rfl
             rotate_left
             ·
              simp only [Act.put, zs, i64_w, i32_w]
              rfl
             refine take_ (i := 25) (N := some 55) (v := ?_) (a' := ?_) (bm 26 8) rfl rfl (take_ofW HT_.out HW_.out (by kernel_rfl)) (fun _ _ _ h => h) (Or.inl ⟨by rfl, ?_⟩) hHeld ?_ ?_
             rotate_left
             ·
              rintro w' ⟨s0, s1, s2, s3, s4, s5⟩
              go_simp
              with_reducible rfl
             rotate_left
             ·
              simp only [Act.put, zs, i64_w, i32_w]
              rfl
             refine pure_ (i := 26) (N := some 56) (v := ?_) (a' := ?_) (bm 27 7) rfl rfl (any_of HT_.out (by kernel_rfl)) (fun _ _ _ h => h) (Or.inl ⟨by rfl, ?_⟩) ?_ ?_
             rotate_left
             ·
              intro w'
              go_simp
              with_reducible rfl
             rotate_left
             ·
              simp only [Act.put, zs, i64_w, i32_w]
              rfl
             refine pure_ (i := 27) (N := some 57) (v := undef) (a' := ?_) (bm 28 6) rfl rfl (any_of HT_.out (by kernel_rfl)) (fun _ _ _ h => h) (Or.inr ⟨by rfl, rfl⟩) ?_ ?_
             rotate_left
             ·
              simp only [Act.put, zs, i64_w, i32_w]
              rfl
             refine pure_ (i := 28) (N := some 58) (v := undef) (a' := ?_) (bm 29 5) rfl rfl (any_of HT_.out (by kernel_rfl)) (fun _ _ _ h => h) (Or.inr ⟨by rfl, rfl⟩) ?_ ?_
             rotate_left
             ·
              simp only [Act.put, zs, i64_w, i32_w]
              rfl
             refine pure_ (i := 29) (N := some 59) (v := undef) (a' := ?_) (bm 30 4) rfl rfl (any_of HT_.out (by kernel_rfl)) (fun _ _ _ h => h) (Or.inr ⟨by rfl, rfl⟩) ?_ ?_
             rotate_left
             ·
              simp only [Act.put, zs, i64_w, i32_w]
              rfl
             refine pure_ (i := 30) (N := some 60) (v := ?_) (a' := ?_) (bm 31 3) rfl rfl (any_of HT_.out (by kernel_rfl)) (fun _ _ _ h => h) (Or.inl ⟨by rfl, ?_⟩) ?_ ?_
             rotate_left
             ·
              intro w'
              go_simp
              with_reducible rfl
             rotate_left
             ·
              simp only [Act.put, zs, i64_w, i32_w]
              rfl
             refine pure_ (i := 31) (N := some 61) (v := ?_) (a' := ?_) (bm 32 2) rfl rfl (any_of HT_.out (by kernel_rfl)) (fun _ _ _ h => h) (Or.inl ⟨by rfl, ?_⟩) ?_ ?_
             rotate_left
             ·
              intro w'
              go_simp
              with_reducible rfl
             rotate_left
             ·
              simp only [Act.put, zs, i64_w, i32_w]
              rfl
             refine pure_ (i := 32) (N := some 62) (v := ?_) (a' := ?_) (bm 33 1) rfl rfl (any_of HT_.out (by kernel_rfl)) (fun _ _ _ h => h) (Or.inl ⟨by rfl, ?_⟩) ?_ ?_
             rotate_left
             ·
              intro w'
              go_simp
              with_reducible rfl
             rotate_left
             ·
              simp only [Act.put, zs, i64_w, i32_w]
              rfl
             refine pure_ (i := 33) (N := some 8) (v := ?_) (a' := ?_) (bm 34 0) rfl rfl (any_of HT_.out (by kernel_rfl)) (fun _ _ _ h => h) (Or.inl ⟨by rfl, ?_⟩) ?_ ?_
             rotate_left
             ·
              intro w'
              go_simp
              with_reducible rfl
             rotate_left
             ·
              simp only [Act.put, zs, i64_w, i32_w]
              rfl
             refine done_ (done_of HT_.out (by kernel_rfl)) ?_
             try go_wp2
             go_meet
             case rel => exact ⟨_, (!false), (by first | rfl | (simp; done) | (simp [*]; done) | exact congrArg Value.bool (isE _) | (rw [isE]; done)), H', ⟨by have := HJ4.out; first | omega | exact Nat.le_refl _⟩, ⟨by (with_reducible repeat (first | apply Kd.R_alloc | apply Kd.R_drewN | apply Kd.R_drew)); exact Kd.R_mono HO126.out (fun _ hk => hk.2)⟩, ⟨by (with_reducible repeat (first | refine blk_drewN ?_ _ | refine blk_drew ?_ | refine blk_alloc ?_ _)); exact BK121.out⟩, ⟨by repeat (first | (with_reducible first | exact HB.out | apply below_alloc | apply pw_below_drewN | apply below_drew1 | refine below_set ?_ GE121.out) | exact HB.out)⟩⟩
           ·
            rw [if_neg c25] at H
            have c25b0 : decide (((rd_T52 l0 (ji22)).f0) < a1_0) = false := decide_eq_false c25
            clear c25
            have H' := Aside0.mk H
            clear H
            try go_wp2
            have n0_ := Aside0.mk (Kd.R_drew HO126.out)
            have n1_ := Aside0.mk (blk_drew BK121.out)
            have n2_ := Aside0.mk (below_drew1 HB.out)
            clear HO126
            clear BK121
            clear HB
            have HO126 := n0_
            have BK121 := n1_
            have HB := n2_
            clear n0_ n1_ n2_
            have p128 : 0 ≤ ((ji22) : Int) := of_decide_eq_true (by first | (with_reducible assumption) | assumption)
            have q128 : (ji22) < (l0.length : Int) := of_decide_eq_true (by first | (with_reducible assumption) | assumption)
            obtain ⟨ad128, e128, hx128_0, hx128_1, hx128_2⟩ := at_T52 HR0.out (ji22) p128 q128
            have hw128_2 := hx128_2
            have hw128_1 := hx128_1
            have hw128_0 := hx128_0
            cases e128
            replace hx128_0 := (HB.out.cell (World.block_lt_of_cell? w _ hx128_0)).trans hx128_0
            replace hx128_1 := (HB.out.cell (World.block_lt_of_cell? w _ hx128_1)).trans hx128_1
            replace hx128_2 := (HB.out.cell (World.block_lt_of_cell? w _ hx128_2)).trans hx128_2
            replace p128 := eq_true p128
            replace q128 := eq_true q128
            refine start_ (n := 34) (S := fun w' => w'.cell? ⟨gb121, 0, none⟩ = some (.int .i64 a1_0) ∧ w'.cell? ⟨gb121, 1, none⟩ = some (.string a1_1) ∧ w'.cell? ⟨gb121, 2, none⟩ = some (.bool a1_2) ∧ w'.cell? (ad128.add (((ji22)).toNat * 3)) = some (.int .i64 ((rd_T52 l0 (ji22)).f0)) ∧ w'.cell? ⟨(ad128.add (((ji22)).toNat * 3)).block, (ad128.add (((ji22)).toNat * 3)).off + 1, none⟩ = some (.string ((rd_T52 l0 (ji22)).f1)) ∧ w'.cell? ⟨(ad128.add (((ji22)).toNat * 3)).block, (ad128.add (((ji22)).toNat * 3)).off + 2, none⟩ = some (.bool ((rd_T52 l0 (ji22)).f2))) (ds := []) (bm 0 34) (by kernel_rfl) rfl rfl ⟨(blk_cell BK121.out 0).trans rfl, (blk_cell BK121.out 1).trans rfl, (blk_cell BK121.out 2).trans rfl, ((HB.out.cell (World.block_lt_of_cell? w _ hw128_0)).trans hw128_0), ((HB.out.cell (World.block_lt_of_cell? w _ hw128_1)).trans hw128_1), ((HB.out.cell (World.block_lt_of_cell? w _ hw128_2)).trans hw128_2)⟩ (fun hHeld => ?_); refine with_tabW mailbaglaw07_ChainPuts.tab7 mailbaglaw07_ChainPuts.bits7 (fun HT_ HW_ => ?_)
            generalize w15.drew = w29 at HO126 BK121 HB hx128_0 hx128_1 hx128_2 hHeld ⊢
            refine pure_ (i := 0) (N := some 30) (v := ?_) (a' := ?_) (bm 1 33) rfl rfl (any_of HT_.out (by kernel_rfl)) (fun _ _ _ h => h) (Or.inl ⟨by rfl, ?_⟩) ?_ ?_
            rotate_left
            ·
             intro w'
             go_simp
             with_reducible rfl
            rotate_left
            ·
             simp only [Act.put, zs, i64_w, i32_w]
             rfl
            refine take_ (i := 1) (N := some 31) (v := ?_) (a' := ?_) (bm 2 32) rfl rfl (take_ofW HT_.out HW_.out (by kernel_rfl)) (fun _ _ _ h => h) (Or.inl ⟨by rfl, ?_⟩) hHeld ?_ ?_
            rotate_left
            ·
             rintro w' ⟨s0, s1, s2, s3, s4, s5⟩
             go_simp
             with_reducible rfl
            rotate_left
            ·
             simp only [Act.put, zs, i64_w, i32_w]
             rfl
            refine pure_ (i := 2) (N := some 32) (v := ?_) (a' := ?_) (bm 3 31) rfl rfl (any_of HT_.out (by kernel_rfl)) (fun _ _ _ h => h) (Or.inl ⟨by rfl, ?_⟩) ?_ ?_
            rotate_left
            ·
             intro w'
             go_simp
             with_reducible rfl
            rotate_left
            ·
             simp only [Act.put, zs, i64_w, i32_w]
             rfl
            refine pure_ (i := 3) (N := some 33) (v := ?_) (a' := ?_) (bm 4 30) rfl rfl (any_of HT_.out (by kernel_rfl)) (fun _ _ _ h => h) (Or.inl ⟨by rfl, ?_⟩) ?_ ?_
            rotate_left
            ·
             intro w'
             go_simp
             with_reducible rfl
            rotate_left
            ·
             simp only [Act.put, zs, i64_w, i32_w]
             rfl
            refine pure_ (i := 4) (N := some 34) (v := ?_) (a' := ?_) (bm 5 29) rfl rfl (any_of HT_.out (by kernel_rfl)) (fun _ _ _ h => h) (Or.inl ⟨by rfl, ?_⟩) ?_ ?_
            rotate_left
            ·
             intro w'
             go_simp
             with_reducible rfl
            rotate_left
            ·
             simp only [Act.put, zs, i64_w, i32_w]
             rfl
            refine take_ (i := 5) (N := some 35) (v := ?_) (a' := ?_) (bm 6 28) rfl rfl (take_ofW HT_.out HW_.out (by kernel_rfl)) (fun _ _ _ h => h) (Or.inl ⟨by rfl, ?_⟩) hHeld ?_ ?_
            rotate_left
            ·
             rintro w' ⟨s0, s1, s2, s3, s4, s5⟩
             go_simp
             with_reducible rfl
            rotate_left
            ·
             simp only [Act.put, zs, i64_w, i32_w]
             rfl
            refine pure_ (i := 6) (N := some 36) (v := ?_) (a' := ?_) (bm 7 27) rfl rfl (any_of HT_.out (by kernel_rfl)) (fun _ _ _ h => h) (Or.inl ⟨by rfl, ?_⟩) ?_ ?_
            rotate_left
            ·
             intro w'
             go_simp
             with_reducible rfl
            rotate_left
            ·
             simp only [Act.put, zs, i64_w, i32_w]
             rfl
            refine pure_ (i := 7) (N := some 37) (v := ?_) (a' := ?_) (bm 8 26) rfl rfl (any_of HT_.out (by kernel_rfl)) (fun _ _ _ h => h) (Or.inl ⟨by rfl, ?_⟩) ?_ ?_
            rotate_left
            ·
             intro w'
             go_simp
             with_reducible rfl
            rotate_left
            ·
             simp only [Act.put, zs, i64_w, i32_w]
             rfl
            refine pure_ (i := 8) (N := some 38) (v := ?_) (a' := ?_) (bm 9 25) rfl rfl (any_of HT_.out (by kernel_rfl)) (fun _ _ _ h => h) (Or.inl ⟨by rfl, ?_⟩) ?_ ?_
            rotate_left
            ·
             intro w'
             go_simp
             with_reducible rfl
            rotate_left
            ·
             simp only [Act.put, zs, i64_w, i32_w]
             rfl
            refine pure_ (i := 9) (N := some 39) (v := ?_) (a' := ?_) (bm 10 24) rfl rfl (any_of HT_.out (by kernel_rfl)) (fun _ _ _ h => h) (Or.inl ⟨by rfl, ?_⟩) ?_ ?_
            rotate_left
            ·
             intro w'
             go_simp
             with_reducible rfl
            rotate_left
            ·
             simp only [Act.put, zs, i64_w, i32_w]
             rfl
            refine pure_ (i := 10) (N := some 40) (v := ?_) (a' := ?_) (bm 11 23) rfl rfl (any_of HT_.out (by kernel_rfl)) (fun _ _ _ h => h) (Or.inl ⟨by rfl, ?_⟩) ?_ ?_
            rotate_left
            ·
             intro w'
             go_simp
             with_reducible rfl
            rotate_left
            ·
             simp only [Act.put, zs, i64_w, i32_w]
             rfl
            refine pure_ (i := 11) (N := some 41) (v := ?_) (a' := ?_) (bm 12 22) rfl rfl (any_of HT_.out (by kernel_rfl)) (fun _ _ _ h => h) (Or.inl ⟨by rfl, ?_⟩) ?_ ?_
            rotate_left
            ·
             intro w'
             go_simp
             with_reducible rfl
            rotate_left
            ·
             simp only [Act.put, zs, i64_w, i32_w]
             rfl
            refine pure_ (i := 12) (N := some 42) (v := ?_) (a' := ?_) (bm 13 21) rfl rfl (any_of HT_.out (by kernel_rfl)) (fun _ _ _ h => h) (Or.inl ⟨by rfl, ?_⟩) ?_ ?_
            rotate_left
            ·
             intro w'
             go_simp
             with_reducible rfl
            rotate_left
            ·
             simp only [Act.put, zs, i64_w, i32_w]
             rfl
            refine pure_ (i := 14) (N := some 44) (v := ?_) (a' := ?_) #[true, true, true, true, true, true, true, true, true, true, true, true, true, false, true, false, false, false, false, false, false, false, false, false, false, false, false, false, false, false, false, false, false, false] rfl rfl (any_of HT_.out (by kernel_rfl)) (fun _ _ _ h => h) (Or.inl ⟨by rfl, ?_⟩) ?_ ?_
            rotate_left
            ·
             intro w'
             go_simp
             with_reducible rfl
            rotate_left
            ·
             simp only [Act.put, zs, i64_w, i32_w]
             rfl
            refine pure_ (i := 15) (N := some 45) (v := ?_) (a' := ?_) #[true, true, true, true, true, true, true, true, true, true, true, true, true, false, true, true, false, false, false, false, false, false, false, false, false, false, false, false, false, false, false, false, false, false] rfl rfl (any_of HT_.out (by kernel_rfl)) (fun _ _ _ h => h) (Or.inl ⟨by rfl, ?_⟩) ?_ ?_
            rotate_left
            ·
             intro w'
             go_simp
             with_reducible rfl
            rotate_left
            ·
             simp only [Act.put, zs, i64_w, i32_w]
             rfl
            refine pure_ (i := 16) (N := some 46) (v := ?_) (a' := ?_) #[true, true, true, true, true, true, true, true, true, true, true, true, true, false, true, true, true, false, false, false, false, false, false, false, false, false, false, false, false, false, false, false, false, false] rfl rfl (any_of HT_.out (by kernel_rfl)) (fun _ _ _ h => h) (Or.inl ⟨by rfl, ?_⟩) ?_ ?_
            rotate_left
            ·
             intro w'
             go_simp
             with_reducible rfl
            rotate_left
            ·
             simp only [Act.put, zs, i64_w, i32_w]
             rfl
            refine pure_ (i := 17) (N := some 47) (v := ?_) (a' := ?_) #[true, true, true, true, true, true, true, true, true, true, true, true, true, false, true, true, true, true, false, false, false, false, false, false, false, false, false, false, false, false, false, false, false, false] rfl rfl (any_of HT_.out (by kernel_rfl)) (fun _ _ _ h => h) (Or.inl ⟨by rfl, ?_⟩) ?_ ?_
            rotate_left
            ·
             intro w'
             go_simp
             with_reducible rfl
            rotate_left
            ·
             simp only [Act.put, zs, i64_w, i32_w]
             rfl
            refine pure_ (i := 18) (N := some 48) (v := ?_) (a' := ?_) #[true, true, true, true, true, true, true, true, true, true, true, true, true, false, true, true, true, true, true, false, false, false, false, false, false, false, false, false, false, false, false, false, false, false] rfl rfl (any_of HT_.out (by kernel_rfl)) (fun _ _ _ h => h) (Or.inl ⟨by rfl, ?_⟩) ?_ ?_
            rotate_left
            ·
             intro w'
             go_simp
             with_reducible rfl
            rotate_left
            ·
             simp only [Act.put, zs, i64_w, i32_w]
             rfl
            refine take_ (i := 13) (N := some 43) (v := ?_) (a' := ?_) (bm 19 15) rfl rfl (take_ofW HT_.out HW_.out (by kernel_rfl)) (fun _ _ _ h => h) (Or.inl ⟨by rfl, ?_⟩) hHeld ?_ ?_
            rotate_left
            ·
             rintro w' ⟨s0, s1, s2, s3, s4, s5⟩
             go_simp
             with_reducible rfl
            rotate_left
            ·
             simp only [Act.put, zs, i64_w, i32_w]
             rfl
            refine take_ (i := 19) (N := some 49) (v := ?_) (a' := ?_) (bm 20 14) rfl rfl (take_ofW HT_.out HW_.out (by kernel_rfl)) (fun _ _ _ h => h) (Or.inl ⟨by rfl, ?_⟩) hHeld ?_ ?_
            rotate_left
            ·
             rintro w' ⟨s0, s1, s2, s3, s4, s5⟩
             go_simp
             with_reducible rfl
            rotate_left
            ·
             simp only [Act.put, zs, i64_w, i32_w]
             rfl
            refine pure_ (i := 20) (N := some 50) (v := ?_) (a' := ?_) (bm 21 13) rfl rfl (any_of HT_.out (by kernel_rfl)) (fun _ _ _ h => h) (Or.inl ⟨by rfl, ?_⟩) ?_ ?_
            rotate_left
            ·
             intro w'
             go_simp
             with_reducible rfl
            rotate_left
            ·
             simp only [Act.put, zs, i64_w, i32_w]
             rfl
            refine pure_ (i := 21) (N := some 51) (v := ?_) (a' := ?_) (bm 22 12) rfl rfl (any_of HT_.out (by kernel_rfl)) (fun _ _ _ h => h) (Or.inl ⟨by rfl, ?_⟩) ?_ ?_
            rotate_left
            ·
             intro w'
             go_simp
             with_reducible rfl
            rotate_left
            ·
             simp only [Act.put, zs, i64_w, i32_w]
             rfl
            refine pure_ (i := 22) (N := some 52) (v := ?_) (a' := ?_) (bm 23 11) rfl rfl (any_of HT_.out (by kernel_rfl)) (fun _ _ _ h => h) (Or.inl ⟨by rfl, ?_⟩) ?_ ?_
            rotate_left
            ·
             intro w'
             go_simp
             with_reducible rfl
            rotate_left
            ·
             simp only [Act.put, zs, i64_w, i32_w]
             rfl
            refine pure_ (i := 23) (N := some 53) (v := ?_) (a' := ?_) (bm 24 10) rfl rfl (any_of HT_.out (by kernel_rfl)) (fun _ _ _ h => h) (Or.inl ⟨by rfl, ?_⟩) ?_ ?_
            rotate_left
            ·
             intro w'
             go_simp
             with_reducible rfl
            rotate_left
            ·
             simp only [Act.put, zs, i64_w, i32_w]
             rfl
            refine pure_ (i := 24) (N := some 54) (v := undef) (a' := ?_) (bm 25 9) rfl rfl (any_of HT_.out (by kernel_rfl)) (fun _ _ _ h => h) (Or.inr ⟨by rfl, rfl⟩) ?_ ?_
            rotate_left
            ·
             simp only [Act.put, zs, i64_w, i32_w]
             rfl
            refine pure_ (i := 25) (N := some 55) (v := undef) (a' := ?_) (bm 26 8) rfl rfl (any_of HT_.out (by kernel_rfl)) (fun _ _ _ h => h) (Or.inr ⟨by rfl, rfl⟩) ?_ ?_
            rotate_left
            ·
             simp only [Act.put, zs, i64_w, i32_w]
             rfl
            refine pure_ (i := 26) (N := some 56) (v := undef) (a' := ?_) (bm 27 7) rfl rfl (any_of HT_.out (by kernel_rfl)) (fun _ _ _ h => h) (Or.inr ⟨by rfl, rfl⟩) ?_ ?_
            rotate_left
            ·
             simp only [Act.put, zs, i64_w, i32_w]
             rfl
            refine pure_ (i := 27) (N := some 57) (v := undef) (a' := ?_) (bm 28 6) rfl rfl (any_of HT_.out (by kernel_rfl)) (fun _ _ _ h => h) (Or.inr ⟨by rfl, rfl⟩) ?_ ?_
            rotate_left
            ·
             simp only [Act.put, zs, i64_w, i32_w]
             rfl
            refine pure_ (i := 28) (N := some 58) (v := undef) (a' := ?_) (bm 29 5) rfl rfl (any_of HT_.out (by kernel_rfl)) (fun _ _ _ h => h) (Or.inr ⟨by rfl, rfl⟩) ?_ ?_
            rotate_left
            ·
             simp only [Act.put, zs, i64_w, i32_w]
             rfl
            refine pure_ (i := 29) (N := some 59) (v := undef) (a' := ?_) (bm 30 4) rfl rfl (any_of HT_.out (by kernel_rfl)) (fun _ _ _ h => h) (Or.inr ⟨by rfl, rfl⟩) ?_ ?_
            rotate_left
            ·
             simp only [Act.put, zs, i64_w, i32_w]
             rfl
            refine pure_ (i := 30) (N := some 60) (v := undef) (a' := ?_) (bm 31 3) rfl rfl (any_of HT_.out (by kernel_rfl)) (fun _ _ _ h => h) (Or.inr ⟨by rfl, rfl⟩) ?_ ?_
            rotate_left
            ·
             simp only [Act.put, zs, i64_w, i32_w]
             rfl
            refine pure_ (i := 31) (N := some 61) (v := undef) (a' := ?_) (bm 32 2) rfl rfl (any_of HT_.out (by kernel_rfl)) (fun _ _ _ h => h) (Or.inr ⟨by rfl, rfl⟩) ?_ ?_
            rotate_left
            ·
             simp only [Act.put, zs, i64_w, i32_w]
             rfl
            refine pure_ (i := 32) (N := some 62) (v := ?_) (a' := ?_) (bm 33 1) rfl rfl (any_of HT_.out (by kernel_rfl)) (fun _ _ _ h => h) (Or.inl ⟨by rfl, ?_⟩) ?_ ?_
            rotate_left
            ·
             intro w'
             go_simp
             with_reducible rfl
            rotate_left
            ·
             simp only [Act.put, zs, i64_w, i32_w]
             rfl
            refine pure_ (i := 33) (N := some 8) (v := ?_) (a' := ?_) (bm 34 0) rfl rfl (any_of HT_.out (by kernel_rfl)) (fun _ _ _ h => h) (Or.inl ⟨by rfl, ?_⟩) ?_ ?_
            rotate_left
            ·
             intro w'
             go_simp
             with_reducible rfl
            rotate_left
            ·
             simp only [Act.put, zs, i64_w, i32_w]
             rfl
            refine done_ (done_of HT_.out (by kernel_rfl)) ?_
            try go_wp2
            go_meet
            case rel => exact ⟨_, (false), (by first | rfl | (simp; done) | (simp [*]; done) | exact congrArg Value.bool (isE _) | (rw [isE]; done)), H', ⟨by have := HJ4.out; first | omega | exact Nat.le_refl _⟩, ⟨by (with_reducible repeat (first | apply Kd.R_alloc | apply Kd.R_drewN | apply Kd.R_drew)); exact Kd.R_mono HO126.out (fun _ hk => hk.2)⟩, ⟨by (with_reducible repeat (first | refine blk_drewN ?_ _ | refine blk_drew ?_ | refine blk_alloc ?_ _)); exact BK121.out⟩, ⟨by repeat (first | (with_reducible first | exact HB.out | apply below_alloc | apply pw_below_drewN | apply below_drew1 | refine below_set ?_ GE121.out) | exact HB.out)⟩⟩
          ·
           rw [if_neg c24] at H
           exact absurd H (by simp)
         ·
          rw [if_neg c23] at H
          exact absurd H (by simp)
       ·
        rw [if_neg c17] at H
        have c17b0 : decide (a1_0 ≤ 1099511627776) = false := decide_eq_false c17
        clear c17
        have H' := Aside0.mk H
        clear H
        try go_wp2
        have n0_ := Aside0.mk (Kd.R_drew HO126.out)
        have n1_ := Aside0.mk (blk_drew BK121.out)
        have n2_ := Aside0.mk (below_drew1 HB.out)
        clear HO126
        clear BK121
        clear HB
        have HO126 := n0_
        have BK121 := n1_
        have HB := n2_
        clear n0_ n1_ n2_
        refine start_ (n := 34) (S := fun w' => w'.cell? ⟨gb121, 0, none⟩ = some (.int .i64 a1_0) ∧ w'.cell? ⟨gb121, 1, none⟩ = some (.string a1_1) ∧ w'.cell? ⟨gb121, 2, none⟩ = some (.bool a1_2)) (ds := []) (bm 0 34) (by kernel_rfl) rfl rfl ⟨(blk_cell BK121.out 0).trans rfl, (blk_cell BK121.out 1).trans rfl, (blk_cell BK121.out 2).trans rfl⟩ (fun hHeld => ?_); refine with_tabW mailbaglaw07_ChainPuts.tab7 mailbaglaw07_ChainPuts.bits7 (fun HT_ HW_ => ?_)
        generalize w15.drew = w30 at HO126 BK121 HB hHeld ⊢
        refine pure_ (i := 0) (N := some 30) (v := ?_) (a' := ?_) (bm 1 33) rfl rfl (any_of HT_.out (by kernel_rfl)) (fun _ _ _ h => h) (Or.inl ⟨by rfl, ?_⟩) ?_ ?_
        rotate_left
        ·
         intro w'
         go_simp
         with_reducible rfl
        rotate_left
        ·
         simp only [Act.put, zs, i64_w, i32_w]
         rfl
        refine take_ (i := 1) (N := some 31) (v := ?_) (a' := ?_) (bm 2 32) rfl rfl (take_ofW HT_.out HW_.out (by kernel_rfl)) (fun _ _ _ h => h) (Or.inl ⟨by rfl, ?_⟩) hHeld ?_ ?_
        rotate_left
        ·
         rintro w' ⟨s0, s1, s2⟩
         go_simp
         with_reducible rfl
        rotate_left
        ·
         simp only [Act.put, zs, i64_w, i32_w]
         rfl
        refine pure_ (i := 2) (N := some 32) (v := ?_) (a' := ?_) (bm 3 31) rfl rfl (any_of HT_.out (by kernel_rfl)) (fun _ _ _ h => h) (Or.inl ⟨by rfl, ?_⟩) ?_ ?_
        rotate_left
        ·
         intro w'
         go_simp
         with_reducible rfl
        rotate_left
        ·
         simp only [Act.put, zs, i64_w, i32_w]
         rfl
        refine pure_ (i := 3) (N := some 33) (v := ?_) (a' := ?_) (bm 4 30) rfl rfl (any_of HT_.out (by kernel_rfl)) (fun _ _ _ h => h) (Or.inl ⟨by rfl, ?_⟩) ?_ ?_
        rotate_left
        ·
         intro w'
         go_simp
         with_reducible rfl
        rotate_left
        ·
         simp only [Act.put, zs, i64_w, i32_w]
         rfl
        refine pure_ (i := 4) (N := some 34) (v := ?_) (a' := ?_) (bm 5 29) rfl rfl (any_of HT_.out (by kernel_rfl)) (fun _ _ _ h => h) (Or.inl ⟨by rfl, ?_⟩) ?_ ?_
        rotate_left
        ·
         intro w'
         go_simp
         with_reducible rfl
        rotate_left
        ·
         simp only [Act.put, zs, i64_w, i32_w]
         rfl
        refine take_ (i := 5) (N := some 35) (v := ?_) (a' := ?_) (bm 6 28) rfl rfl (take_ofW HT_.out HW_.out (by kernel_rfl)) (fun _ _ _ h => h) (Or.inl ⟨by rfl, ?_⟩) hHeld ?_ ?_
        rotate_left
        ·
         rintro w' ⟨s0, s1, s2⟩
         go_simp
         with_reducible rfl
        rotate_left
        ·
         simp only [Act.put, zs, i64_w, i32_w]
         rfl
        refine pure_ (i := 6) (N := some 36) (v := ?_) (a' := ?_) (bm 7 27) rfl rfl (any_of HT_.out (by kernel_rfl)) (fun _ _ _ h => h) (Or.inl ⟨by rfl, ?_⟩) ?_ ?_
        rotate_left
        ·
         intro w'
         go_simp
         with_reducible rfl
        rotate_left
        ·
         simp only [Act.put, zs, i64_w, i32_w]
         rfl
        refine pure_ (i := 7) (N := some 37) (v := ?_) (a' := ?_) (bm 8 26) rfl rfl (any_of HT_.out (by kernel_rfl)) (fun _ _ _ h => h) (Or.inl ⟨by rfl, ?_⟩) ?_ ?_
        rotate_left
        ·
         intro w'
         go_simp
         with_reducible rfl
        rotate_left
        ·
         simp only [Act.put, zs, i64_w, i32_w]
         rfl
        refine pure_ (i := 8) (N := some 38) (v := ?_) (a' := ?_) (bm 9 25) rfl rfl (any_of HT_.out (by kernel_rfl)) (fun _ _ _ h => h) (Or.inl ⟨by rfl, ?_⟩) ?_ ?_
        rotate_left
        ·
         intro w'
         go_simp
         with_reducible rfl
        rotate_left
        ·
         simp only [Act.put, zs, i64_w, i32_w]
         rfl
        refine pure_ (i := 9) (N := some 39) (v := undef) (a' := ?_) (bm 10 24) rfl rfl (any_of HT_.out (by kernel_rfl)) (fun _ _ _ h => h) (Or.inr ⟨by rfl, rfl⟩) ?_ ?_
        rotate_left
        ·
         simp only [Act.put, zs, i64_w, i32_w]
         rfl
        refine pure_ (i := 10) (N := some 40) (v := undef) (a' := ?_) (bm 11 23) rfl rfl (any_of HT_.out (by kernel_rfl)) (fun _ _ _ h => h) (Or.inr ⟨by rfl, rfl⟩) ?_ ?_
        rotate_left
        ·
         simp only [Act.put, zs, i64_w, i32_w]
         rfl
        refine pure_ (i := 11) (N := some 41) (v := undef) (a' := ?_) (bm 12 22) rfl rfl (any_of HT_.out (by kernel_rfl)) (fun _ _ _ h => h) (Or.inr ⟨by rfl, rfl⟩) ?_ ?_
        rotate_left
        ·
         simp only [Act.put, zs, i64_w, i32_w]
         rfl
        refine pure_ (i := 12) (N := some 42) (v := undef) (a' := ?_) (bm 13 21) rfl rfl (any_of HT_.out (by kernel_rfl)) (fun _ _ _ h => h) (Or.inr ⟨by rfl, rfl⟩) ?_ ?_
        rotate_left
        ·
         simp only [Act.put, zs, i64_w, i32_w]
         rfl
        refine pure_ (i := 13) (N := some 43) (v := undef) (a' := ?_) (bm 14 20) rfl rfl (any_of HT_.out (by kernel_rfl)) (fun _ _ _ h => h) (Or.inr ⟨by rfl, rfl⟩) ?_ ?_
        rotate_left
        ·
         simp only [Act.put, zs, i64_w, i32_w]
         rfl
        refine pure_ (i := 14) (N := some 44) (v := undef) (a' := ?_) (bm 15 19) rfl rfl (any_of HT_.out (by kernel_rfl)) (fun _ _ _ h => h) (Or.inr ⟨by rfl, rfl⟩) ?_ ?_
        rotate_left
        ·
         simp only [Act.put, zs, i64_w, i32_w]
         rfl
        refine pure_ (i := 15) (N := some 45) (v := undef) (a' := ?_) (bm 16 18) rfl rfl (any_of HT_.out (by kernel_rfl)) (fun _ _ _ h => h) (Or.inr ⟨by rfl, rfl⟩) ?_ ?_
        rotate_left
        ·
         simp only [Act.put, zs, i64_w, i32_w]
         rfl
        refine pure_ (i := 16) (N := some 46) (v := undef) (a' := ?_) (bm 17 17) rfl rfl (any_of HT_.out (by kernel_rfl)) (fun _ _ _ h => h) (Or.inr ⟨by rfl, rfl⟩) ?_ ?_
        rotate_left
        ·
         simp only [Act.put, zs, i64_w, i32_w]
         rfl
        refine pure_ (i := 17) (N := some 47) (v := undef) (a' := ?_) (bm 18 16) rfl rfl (any_of HT_.out (by kernel_rfl)) (fun _ _ _ h => h) (Or.inr ⟨by rfl, rfl⟩) ?_ ?_
        rotate_left
        ·
         simp only [Act.put, zs, i64_w, i32_w]
         rfl
        refine pure_ (i := 18) (N := some 48) (v := undef) (a' := ?_) (bm 19 15) rfl rfl (any_of HT_.out (by kernel_rfl)) (fun _ _ _ h => h) (Or.inr ⟨by rfl, rfl⟩) ?_ ?_
        rotate_left
        ·
         simp only [Act.put, zs, i64_w, i32_w]
         rfl
        refine pure_ (i := 19) (N := some 49) (v := undef) (a' := ?_) (bm 20 14) rfl rfl (any_of HT_.out (by kernel_rfl)) (fun _ _ _ h => h) (Or.inr ⟨by rfl, rfl⟩) ?_ ?_
        rotate_left
        ·
         simp only [Act.put, zs, i64_w, i32_w]
         rfl
        refine pure_ (i := 20) (N := some 50) (v := undef) (a' := ?_) (bm 21 13) rfl rfl (any_of HT_.out (by kernel_rfl)) (fun _ _ _ h => h) (Or.inr ⟨by rfl, rfl⟩) ?_ ?_
        rotate_left
        ·
         simp only [Act.put, zs, i64_w, i32_w]
         rfl
        refine pure_ (i := 21) (N := some 51) (v := undef) (a' := ?_) (bm 22 12) rfl rfl (any_of HT_.out (by kernel_rfl)) (fun _ _ _ h => h) (Or.inr ⟨by rfl, rfl⟩) ?_ ?_
        rotate_left
        ·
         simp only [Act.put, zs, i64_w, i32_w]
         rfl
        refine pure_ (i := 22) (N := some 52) (v := ?_) (a' := ?_) (bm 23 11) rfl rfl (any_of HT_.out (by kernel_rfl)) (fun _ _ _ h => h) (Or.inl ⟨by rfl, ?_⟩) ?_ ?_
        rotate_left
        ·
         intro w'
         go_simp
         with_reducible rfl
        rotate_left
        ·
         simp only [Act.put, zs, i64_w, i32_w]
         rfl
        refine pure_ (i := 23) (N := some 53) (v := ?_) (a' := ?_) (bm 24 10) rfl rfl (any_of HT_.out (by kernel_rfl)) (fun _ _ _ h => h) (Or.inl ⟨by rfl, ?_⟩) ?_ ?_
        rotate_left
        ·
         intro w'
         go_simp
         with_reducible rfl
        rotate_left
        ·
         simp only [Act.put, zs, i64_w, i32_w]
         rfl
        refine pure_ (i := 24) (N := some 54) (v := undef) (a' := ?_) (bm 25 9) rfl rfl (any_of HT_.out (by kernel_rfl)) (fun _ _ _ h => h) (Or.inr ⟨by rfl, rfl⟩) ?_ ?_
        rotate_left
        ·
         simp only [Act.put, zs, i64_w, i32_w]
         rfl
        refine pure_ (i := 25) (N := some 55) (v := undef) (a' := ?_) (bm 26 8) rfl rfl (any_of HT_.out (by kernel_rfl)) (fun _ _ _ h => h) (Or.inr ⟨by rfl, rfl⟩) ?_ ?_
        rotate_left
        ·
         simp only [Act.put, zs, i64_w, i32_w]
         rfl
        refine pure_ (i := 26) (N := some 56) (v := undef) (a' := ?_) (bm 27 7) rfl rfl (any_of HT_.out (by kernel_rfl)) (fun _ _ _ h => h) (Or.inr ⟨by rfl, rfl⟩) ?_ ?_
        rotate_left
        ·
         simp only [Act.put, zs, i64_w, i32_w]
         rfl
        refine pure_ (i := 27) (N := some 57) (v := undef) (a' := ?_) (bm 28 6) rfl rfl (any_of HT_.out (by kernel_rfl)) (fun _ _ _ h => h) (Or.inr ⟨by rfl, rfl⟩) ?_ ?_
        rotate_left
        ·
         simp only [Act.put, zs, i64_w, i32_w]
         rfl
        refine pure_ (i := 28) (N := some 58) (v := undef) (a' := ?_) (bm 29 5) rfl rfl (any_of HT_.out (by kernel_rfl)) (fun _ _ _ h => h) (Or.inr ⟨by rfl, rfl⟩) ?_ ?_
        rotate_left
        ·
         simp only [Act.put, zs, i64_w, i32_w]
         rfl
        refine pure_ (i := 29) (N := some 59) (v := undef) (a' := ?_) (bm 30 4) rfl rfl (any_of HT_.out (by kernel_rfl)) (fun _ _ _ h => h) (Or.inr ⟨by rfl, rfl⟩) ?_ ?_
        rotate_left
        ·
         simp only [Act.put, zs, i64_w, i32_w]
         rfl
        refine pure_ (i := 30) (N := some 60) (v := undef) (a' := ?_) (bm 31 3) rfl rfl (any_of HT_.out (by kernel_rfl)) (fun _ _ _ h => h) (Or.inr ⟨by rfl, rfl⟩) ?_ ?_
        rotate_left
        ·
         simp only [Act.put, zs, i64_w, i32_w]
         rfl
        refine pure_ (i := 31) (N := some 61) (v := undef) (a' := ?_) (bm 32 2) rfl rfl (any_of HT_.out (by kernel_rfl)) (fun _ _ _ h => h) (Or.inr ⟨by rfl, rfl⟩) ?_ ?_
        rotate_left
        ·
         simp only [Act.put, zs, i64_w, i32_w]
         rfl
        refine pure_ (i := 32) (N := some 62) (v := ?_) (a' := ?_) (bm 33 1) rfl rfl (any_of HT_.out (by kernel_rfl)) (fun _ _ _ h => h) (Or.inl ⟨by rfl, ?_⟩) ?_ ?_
        rotate_left
        ·
         intro w'
         go_simp
         with_reducible rfl
        rotate_left
        ·
         simp only [Act.put, zs, i64_w, i32_w]
         rfl
        refine pure_ (i := 33) (N := some 8) (v := ?_) (a' := ?_) (bm 34 0) rfl rfl (any_of HT_.out (by kernel_rfl)) (fun _ _ _ h => h) (Or.inl ⟨by rfl, ?_⟩) ?_ ?_
        rotate_left
        ·
         intro w'
         go_simp
         with_reducible rfl
        rotate_left
        ·
         simp only [Act.put, zs, i64_w, i32_w]
         rfl
        refine done_ (done_of HT_.out (by kernel_rfl)) ?_
        try go_wp2
        go_meet
        case rel => exact ⟨_, (false), (by first | rfl | (simp; done) | (simp [*]; done) | exact congrArg Value.bool (isE _) | (rw [isE]; done)), H', ⟨by have := HJ4.out; first | omega | exact Nat.le_refl _⟩, ⟨by (with_reducible repeat (first | apply Kd.R_alloc | apply Kd.R_drewN | apply Kd.R_drew)); exact Kd.R_mono HO126.out (fun _ hk => hk.2)⟩, ⟨by (with_reducible repeat (first | refine blk_drewN ?_ _ | refine blk_drew ?_ | refine blk_alloc ?_ _)); exact BK121.out⟩, ⟨by repeat (first | (with_reducible first | exact HB.out | apply below_alloc | apply pw_below_drewN | apply below_drew1 | refine below_set ?_ GE121.out) | exact HB.out)⟩⟩
      ·
       rw [if_neg c16] at H
       have c16b0 : decide (0 ≤ a1_0) = false := decide_eq_false c16
       clear c16
       (first | rw [c16b0] | (simp only [i64_w, i32_w]; rw [c16b0]) | skip)
       have H' := Aside0.mk H
       clear H
       try go_wp2
       have n0_ := Aside0.mk (Kd.R_drew HO126.out)
       have n1_ := Aside0.mk (blk_drew BK121.out)
       have n2_ := Aside0.mk (below_drew1 HB.out)
       clear HO126
       clear BK121
       clear HB
       have HO126 := n0_
       have BK121 := n1_
       have HB := n2_
       clear n0_ n1_ n2_
       refine start_ (n := 34) (S := fun w' => w'.cell? ⟨gb121, 0, none⟩ = some (.int .i64 a1_0) ∧ w'.cell? ⟨gb121, 1, none⟩ = some (.string a1_1) ∧ w'.cell? ⟨gb121, 2, none⟩ = some (.bool a1_2)) (ds := []) (bm 0 34) (by kernel_rfl) rfl rfl ⟨(blk_cell BK121.out 0).trans rfl, (blk_cell BK121.out 1).trans rfl, (blk_cell BK121.out 2).trans rfl⟩ (fun hHeld => ?_); refine with_tabW mailbaglaw07_ChainPuts.tab7 mailbaglaw07_ChainPuts.bits7 (fun HT_ HW_ => ?_)
       generalize w15.drew = w31 at HO126 BK121 HB hHeld ⊢
       refine pure_ (i := 0) (N := some 30) (v := ?_) (a' := ?_) (bm 1 33) rfl rfl (any_of HT_.out (by kernel_rfl)) (fun _ _ _ h => h) (Or.inl ⟨by rfl, ?_⟩) ?_ ?_
       rotate_left
       ·
        intro w'
        go_simp
        with_reducible rfl
       rotate_left
       ·
        simp only [Act.put, zs, i64_w, i32_w]
        rfl
       refine take_ (i := 1) (N := some 31) (v := ?_) (a' := ?_) (bm 2 32) rfl rfl (take_ofW HT_.out HW_.out (by kernel_rfl)) (fun _ _ _ h => h) (Or.inl ⟨by rfl, ?_⟩) hHeld ?_ ?_
       rotate_left
       ·
        rintro w' ⟨s0, s1, s2⟩
        go_simp
        with_reducible rfl
       rotate_left
       ·
        simp only [Act.put, zs, i64_w, i32_w]
        rfl
       refine pure_ (i := 2) (N := some 32) (v := ?_) (a' := ?_) (bm 3 31) rfl rfl (any_of HT_.out (by kernel_rfl)) (fun _ _ _ h => h) (Or.inl ⟨by rfl, ?_⟩) ?_ ?_
       rotate_left
       ·
        intro w'
        go_simp
        with_reducible rfl
       rotate_left
       ·
        simp only [Act.put, zs, i64_w, i32_w]
        rfl
       refine pure_ (i := 3) (N := some 33) (v := ?_) (a' := ?_) (bm 4 30) rfl rfl (any_of HT_.out (by kernel_rfl)) (fun _ _ _ h => h) (Or.inl ⟨by rfl, ?_⟩) ?_ ?_
       rotate_left
       ·
        intro w'
        go_simp
        with_reducible rfl
       rotate_left
       ·
        simp only [Act.put, zs, i64_w, i32_w]
        rfl
       refine pure_ (i := 4) (N := some 34) (v := undef) (a' := ?_) (bm 5 29) rfl rfl (any_of HT_.out (by kernel_rfl)) (fun _ _ _ h => h) (Or.inr ⟨by rfl, rfl⟩) ?_ ?_
       rotate_left
       ·
        simp only [Act.put, zs, i64_w, i32_w]
        rfl
       refine pure_ (i := 5) (N := some 35) (v := undef) (a' := ?_) (bm 6 28) rfl rfl (any_of HT_.out (by kernel_rfl)) (fun _ _ _ h => h) (Or.inr ⟨by rfl, rfl⟩) ?_ ?_
       rotate_left
       ·
        simp only [Act.put, zs, i64_w, i32_w]
        rfl
       refine pure_ (i := 6) (N := some 36) (v := undef) (a' := ?_) (bm 7 27) rfl rfl (any_of HT_.out (by kernel_rfl)) (fun _ _ _ h => h) (Or.inr ⟨by rfl, rfl⟩) ?_ ?_
       rotate_left
       ·
        simp only [Act.put, zs, i64_w, i32_w]
        rfl
       refine pure_ (i := 7) (N := some 37) (v := ?_) (a' := ?_) (bm 8 26) rfl rfl (any_of HT_.out (by kernel_rfl)) (fun _ _ _ h => h) (Or.inl ⟨by rfl, ?_⟩) ?_ ?_
       rotate_left
       ·
        intro w'
        go_simp
        with_reducible rfl
       rotate_left
       ·
        simp only [Act.put, zs, i64_w, i32_w]
        rfl
       refine pure_ (i := 8) (N := some 38) (v := ?_) (a' := ?_) (bm 9 25) rfl rfl (any_of HT_.out (by kernel_rfl)) (fun _ _ _ h => h) (Or.inl ⟨by rfl, ?_⟩) ?_ ?_
       rotate_left
       ·
        intro w'
        go_simp
        with_reducible rfl
       rotate_left
       ·
        simp only [Act.put, zs, i64_w, i32_w]
        rfl
       refine pure_ (i := 9) (N := some 39) (v := undef) (a' := ?_) (bm 10 24) rfl rfl (any_of HT_.out (by kernel_rfl)) (fun _ _ _ h => h) (Or.inr ⟨by rfl, rfl⟩) ?_ ?_
       rotate_left
       ·
        simp only [Act.put, zs, i64_w, i32_w]
        rfl
       refine pure_ (i := 10) (N := some 40) (v := undef) (a' := ?_) (bm 11 23) rfl rfl (any_of HT_.out (by kernel_rfl)) (fun _ _ _ h => h) (Or.inr ⟨by rfl, rfl⟩) ?_ ?_
       rotate_left
       ·
        simp only [Act.put, zs, i64_w, i32_w]
        rfl
       refine pure_ (i := 11) (N := some 41) (v := undef) (a' := ?_) (bm 12 22) rfl rfl (any_of HT_.out (by kernel_rfl)) (fun _ _ _ h => h) (Or.inr ⟨by rfl, rfl⟩) ?_ ?_
       rotate_left
       ·
        simp only [Act.put, zs, i64_w, i32_w]
        rfl
       refine pure_ (i := 12) (N := some 42) (v := undef) (a' := ?_) (bm 13 21) rfl rfl (any_of HT_.out (by kernel_rfl)) (fun _ _ _ h => h) (Or.inr ⟨by rfl, rfl⟩) ?_ ?_
       rotate_left
       ·
        simp only [Act.put, zs, i64_w, i32_w]
        rfl
       refine pure_ (i := 13) (N := some 43) (v := undef) (a' := ?_) (bm 14 20) rfl rfl (any_of HT_.out (by kernel_rfl)) (fun _ _ _ h => h) (Or.inr ⟨by rfl, rfl⟩) ?_ ?_
       rotate_left
       ·
        simp only [Act.put, zs, i64_w, i32_w]
        rfl
       refine pure_ (i := 14) (N := some 44) (v := undef) (a' := ?_) (bm 15 19) rfl rfl (any_of HT_.out (by kernel_rfl)) (fun _ _ _ h => h) (Or.inr ⟨by rfl, rfl⟩) ?_ ?_
       rotate_left
       ·
        simp only [Act.put, zs, i64_w, i32_w]
        rfl
       refine pure_ (i := 15) (N := some 45) (v := undef) (a' := ?_) (bm 16 18) rfl rfl (any_of HT_.out (by kernel_rfl)) (fun _ _ _ h => h) (Or.inr ⟨by rfl, rfl⟩) ?_ ?_
       rotate_left
       ·
        simp only [Act.put, zs, i64_w, i32_w]
        rfl
       refine pure_ (i := 16) (N := some 46) (v := undef) (a' := ?_) (bm 17 17) rfl rfl (any_of HT_.out (by kernel_rfl)) (fun _ _ _ h => h) (Or.inr ⟨by rfl, rfl⟩) ?_ ?_
       rotate_left
       ·
        simp only [Act.put, zs, i64_w, i32_w]
        rfl
       refine pure_ (i := 17) (N := some 47) (v := undef) (a' := ?_) (bm 18 16) rfl rfl (any_of HT_.out (by kernel_rfl)) (fun _ _ _ h => h) (Or.inr ⟨by rfl, rfl⟩) ?_ ?_
       rotate_left
       ·
        simp only [Act.put, zs, i64_w, i32_w]
        rfl
       refine pure_ (i := 18) (N := some 48) (v := undef) (a' := ?_) (bm 19 15) rfl rfl (any_of HT_.out (by kernel_rfl)) (fun _ _ _ h => h) (Or.inr ⟨by rfl, rfl⟩) ?_ ?_
       rotate_left
       ·
        simp only [Act.put, zs, i64_w, i32_w]
        rfl
       refine pure_ (i := 19) (N := some 49) (v := undef) (a' := ?_) (bm 20 14) rfl rfl (any_of HT_.out (by kernel_rfl)) (fun _ _ _ h => h) (Or.inr ⟨by rfl, rfl⟩) ?_ ?_
       rotate_left
       ·
        simp only [Act.put, zs, i64_w, i32_w]
        rfl
       refine pure_ (i := 20) (N := some 50) (v := undef) (a' := ?_) (bm 21 13) rfl rfl (any_of HT_.out (by kernel_rfl)) (fun _ _ _ h => h) (Or.inr ⟨by rfl, rfl⟩) ?_ ?_
       rotate_left
       ·
        simp only [Act.put, zs, i64_w, i32_w]
        rfl
       refine pure_ (i := 21) (N := some 51) (v := undef) (a' := ?_) (bm 22 12) rfl rfl (any_of HT_.out (by kernel_rfl)) (fun _ _ _ h => h) (Or.inr ⟨by rfl, rfl⟩) ?_ ?_
       rotate_left
       ·
        simp only [Act.put, zs, i64_w, i32_w]
        rfl
       refine pure_ (i := 22) (N := some 52) (v := ?_) (a' := ?_) (bm 23 11) rfl rfl (any_of HT_.out (by kernel_rfl)) (fun _ _ _ h => h) (Or.inl ⟨by rfl, ?_⟩) ?_ ?_
       rotate_left
       ·
        intro w'
        go_simp
        with_reducible rfl
       rotate_left
       ·
        simp only [Act.put, zs, i64_w, i32_w]
        rfl
       refine pure_ (i := 23) (N := some 53) (v := ?_) (a' := ?_) (bm 24 10) rfl rfl (any_of HT_.out (by kernel_rfl)) (fun _ _ _ h => h) (Or.inl ⟨by rfl, ?_⟩) ?_ ?_
       rotate_left
       ·
        intro w'
        go_simp
        with_reducible rfl
       rotate_left
       ·
        simp only [Act.put, zs, i64_w, i32_w]
        rfl
       refine pure_ (i := 24) (N := some 54) (v := undef) (a' := ?_) (bm 25 9) rfl rfl (any_of HT_.out (by kernel_rfl)) (fun _ _ _ h => h) (Or.inr ⟨by rfl, rfl⟩) ?_ ?_
       rotate_left
       ·
        simp only [Act.put, zs, i64_w, i32_w]
        rfl
       refine pure_ (i := 25) (N := some 55) (v := undef) (a' := ?_) (bm 26 8) rfl rfl (any_of HT_.out (by kernel_rfl)) (fun _ _ _ h => h) (Or.inr ⟨by rfl, rfl⟩) ?_ ?_
       rotate_left
       ·
        simp only [Act.put, zs, i64_w, i32_w]
        rfl
       refine pure_ (i := 26) (N := some 56) (v := undef) (a' := ?_) (bm 27 7) rfl rfl (any_of HT_.out (by kernel_rfl)) (fun _ _ _ h => h) (Or.inr ⟨by rfl, rfl⟩) ?_ ?_
       rotate_left
       ·
        simp only [Act.put, zs, i64_w, i32_w]
        rfl
       refine pure_ (i := 27) (N := some 57) (v := undef) (a' := ?_) (bm 28 6) rfl rfl (any_of HT_.out (by kernel_rfl)) (fun _ _ _ h => h) (Or.inr ⟨by rfl, rfl⟩) ?_ ?_
       rotate_left
       ·
        simp only [Act.put, zs, i64_w, i32_w]
        rfl
       refine pure_ (i := 28) (N := some 58) (v := undef) (a' := ?_) (bm 29 5) rfl rfl (any_of HT_.out (by kernel_rfl)) (fun _ _ _ h => h) (Or.inr ⟨by rfl, rfl⟩) ?_ ?_
       rotate_left
       ·
        simp only [Act.put, zs, i64_w, i32_w]
        rfl
       refine pure_ (i := 29) (N := some 59) (v := undef) (a' := ?_) (bm 30 4) rfl rfl (any_of HT_.out (by kernel_rfl)) (fun _ _ _ h => h) (Or.inr ⟨by rfl, rfl⟩) ?_ ?_
       rotate_left
       ·
        simp only [Act.put, zs, i64_w, i32_w]
        rfl
       refine pure_ (i := 30) (N := some 60) (v := undef) (a' := ?_) (bm 31 3) rfl rfl (any_of HT_.out (by kernel_rfl)) (fun _ _ _ h => h) (Or.inr ⟨by rfl, rfl⟩) ?_ ?_
       rotate_left
       ·
        simp only [Act.put, zs, i64_w, i32_w]
        rfl
       refine pure_ (i := 31) (N := some 61) (v := undef) (a' := ?_) (bm 32 2) rfl rfl (any_of HT_.out (by kernel_rfl)) (fun _ _ _ h => h) (Or.inr ⟨by rfl, rfl⟩) ?_ ?_
       rotate_left
       ·
        simp only [Act.put, zs, i64_w, i32_w]
        rfl
       refine pure_ (i := 32) (N := some 62) (v := ?_) (a' := ?_) (bm 33 1) rfl rfl (any_of HT_.out (by kernel_rfl)) (fun _ _ _ h => h) (Or.inl ⟨by rfl, ?_⟩) ?_ ?_
       rotate_left
       ·
        intro w'
        go_simp
        with_reducible rfl
       rotate_left
       ·
        simp only [Act.put, zs, i64_w, i32_w]
        rfl
       refine pure_ (i := 33) (N := some 8) (v := ?_) (a' := ?_) (bm 34 0) rfl rfl (any_of HT_.out (by kernel_rfl)) (fun _ _ _ h => h) (Or.inl ⟨by rfl, ?_⟩) ?_ ?_
       rotate_left
       ·
        intro w'
        go_simp
        with_reducible rfl
       rotate_left
       ·
        simp only [Act.put, zs, i64_w, i32_w]
        rfl
       refine done_ (done_of HT_.out (by kernel_rfl)) ?_
       try go_wp2
       go_meet
       case rel => exact ⟨_, (false), (by first | rfl | (simp; done) | (simp [*]; done) | exact congrArg Value.bool (isE _) | (rw [isE]; done)), H', ⟨by have := HJ4.out; first | omega | exact Nat.le_refl _⟩, ⟨by (with_reducible repeat (first | apply Kd.R_alloc | apply Kd.R_drewN | apply Kd.R_drew)); exact Kd.R_mono HO126.out (fun _ hk => hk.2)⟩, ⟨by (with_reducible repeat (first | refine blk_drewN ?_ _ | refine blk_drew ?_ | refine blk_alloc ?_ _)); exact BK121.out⟩, ⟨by repeat (first | (with_reducible first | exact HB.out | apply below_alloc | apply pw_below_drewN | apply below_drew1 | refine below_set ?_ GE121.out) | exact HB.out)⟩⟩
     case rest =>
      clear HC13
      try clear c1
      try clear c2
      try clear p2
      try clear c16
      try clear c16b0
      try clear c17
      try clear c17b0
      try clear c23
      try clear c24
      obtain ⟨kq, x8_12, rfl, HA, HJ12, HO_6, BK121, HB⟩ := hcut
      cases kq with
      | zero => exact absurd HA.out (by simp [mailbaglaw07_ChainPuts.j1])
      | succ kj12 =>
       have H := HA.out
       clear HA
       simp only [mailbaglaw07_ChainPuts.j1] at H
       by_cases c32 : x8_12 = true
       ·
        subst c32
        have H1 : (if t127 = 0 then (if (t124.length : Int) = (wrap64 ((l0.length : Int) + 1)) then (if 0 ≤ (l0.length : Int) then (if (l0.length : Int) < (t124.length : Int) then (if (!(((rd_T52 t124 (l0.length : Int)).f0) == a1_0) || (!((((rd_T52 t124 (l0.length : Int)).f1).toList) == a1_1.toList) || (!(((rd_T52 t124 (l0.length : Int)).f2) == a1_2)))) = true then (mailbaglaw07_ChainPuts.j2 kj12 l0 (l0.length : Int) t124 true a1_0 a1_1 a1_2) else ((chain_Chain_Right.f kj12 t124).bind fun t130 => (mailbaglaw07_ChainPuts.j2 kj12 l0 (l0.length : Int) t124 (!t130) a1_0 a1_1 a1_2))) else (none)) else (none)) else (mailbaglaw07_ChainPuts.j2 kj12 l0 (l0.length : Int) t124 true a1_0 a1_1 a1_2)) else (mailbaglaw07_ChainPuts.j2 kj12 l0 (l0.length : Int) t124 true a1_0 a1_1 a1_2)) = some r := by rw [if_pos rfl] at H; exact H
        clear H
        have H := H1
        clear H1
        have HC33 := Aside0.mk H
        clear H
        go_upto_region 10 with (fail)
        go_cut [93] (fun v93 wc => ∃ (kq : Nat) (x93_32 : Bool), v93 = .bool x93_32 ∧ Aside0 (mailbaglaw07_ChainPuts.j2 kq l0 (l0.length : Int) t124 x93_32 a1_0 a1_1 a1_2 = some r) ∧ Aside0 (kq ≤ kj12) ∧ Aside0 (Kd.R k52 52 wc w.heap.size (fun k_ => k_ ≠ gb121) v125 t124) ∧ Aside0 (wc.heap[gb121]? = some (.cells #[.int .i64 a1_0, .string a1_1, .bool a1_2] 52 (0, 0))) ∧ Aside0 (Below w.heap.size w wc))
        case first =>
         have H := HC33.out
         clear HC33
         by_cases c34 : t127 = 0
         ·
          rw [if_pos c34] at H
          have c34b0 : (t127 == 0) = true := beq_iff_eq.mpr c34
          have c34b1 : (t127 != 0) = false := bne_eq_false_iff_eq.mpr c34
          clear c34
          (first | rw [c34b0] | (simp only [i64_w, i32_w]; rw [c34b0]) | skip)
          by_cases c35 : (t124.length : Int) = (wrap64 ((l0.length : Int) + 1))
          ·
           rw [if_pos c35] at H
           have c35b0 : ((t124.length : Int) == (wrap64 ((l0.length : Int) + 1))) = true := beq_iff_eq.mpr c35
           have c35b1 : ((t124.length : Int) != (wrap64 ((l0.length : Int) + 1))) = false := bne_eq_false_iff_eq.mpr c35
           clear c35
           by_cases c36 : 0 ≤ (l0.length : Int)
           ·
            rw [if_pos c36] at H
            have c36b0 : decide (0 ≤ (l0.length : Int)) = true := decide_eq_true c36
            have c36b1 : decide (0 ≤ l0.length) = true := decide_eq_true (by omega)
            clear c36
            by_cases c37 : (l0.length : Int) < (t124.length : Int)
            ·
             rw [if_pos c37] at H
             have c37b0 : decide ((l0.length : Int) < (t124.length : Int)) = true := decide_eq_true c37
             have c37b1 : decide (l0.length < t124.length) = true := decide_eq_true (Int.ofNat_lt.mp c37)
             clear c37
             by_cases c38 : (!(((rd_T52 t124 (l0.length : Int)).f0) == a1_0) || (!((((rd_T52 t124 (l0.length : Int)).f1).toList) == a1_1.toList) || (!(((rd_T52 t124 (l0.length : Int)).f2) == a1_2)))) = true
             ·
              rw [if_pos c38] at H
              have c38b0 : (!(((rd_T52 t124 (l0.length : Int)).f0) == a1_0) || (!((((rd_T52 t124 (l0.length : Int)).f1).toList) == a1_1.toList) || (!(((rd_T52 t124 (l0.length : Int)).f2) == a1_2)))) = true := c38
              clear c38
              have H' := Aside0.mk H
              clear H
              try go_wp2
              have n0_ := Aside0.mk (Kd.R_drew HO_6.out)
              have n1_ := Aside0.mk (blk_drew BK121.out)
              have n2_ := Aside0.mk (below_drew1 HB.out)
              clear HO_6
              clear BK121
              clear HB
              have HO_6 := n0_
              have BK121 := n1_
              have HB := n2_
              clear n0_ n1_ n2_
              obtain ⟨Ao40, co40, eo40⟩ := Kd.R_slice HO_6.out
              (first | subst eo40 | (injection eo40 with f1_ f2_ f3_; have f4_ := f1_.symm; have f5_ := f3_.symm; clear f1_ f2_ f3_; subst f4_; subst f5_))
              have p129 : 0 ≤ ((l0.length : Int) : Int) := of_decide_eq_true (by first | (with_reducible assumption) | assumption)
              have q129 : (l0.length : Int) < (t124.length : Int) := of_decide_eq_true (by first | (with_reducible assumption) | assumption)
              obtain ⟨ad129, e129, hx129_0, hx129_1, hx129_2⟩ := at_T52 (Kd.R_reads' HO_6.out).2.2 (l0.length : Int) p129 q129
              cases e129
              (try simp only [Go.IntWalk.toNatUp] at hx129_0)
              (try simp only [Go.IntWalk.toNatUp] at hx129_1)
              (try simp only [Go.IntWalk.toNatUp] at hx129_2)
              replace p129 := eq_true p129
              replace q129 := eq_true q129
              refine start_ (n := 22) (S := fun w' => w'.cell? ⟨gb121, 0, none⟩ = some (.int .i64 a1_0) ∧ w'.cell? ⟨gb121, 1, none⟩ = some (.string a1_1) ∧ w'.cell? ⟨gb121, 2, none⟩ = some (.bool a1_2) ∧ w'.cell? (ad129.add (l0.length * 3)) = some (.int .i64 ((rd_T52 t124 (l0.length : Int)).f0)) ∧ w'.cell? ⟨(ad129.add (l0.length * 3)).block, (ad129.add (l0.length * 3)).off + 1, none⟩ = some (.string ((rd_T52 t124 (l0.length : Int)).f1)) ∧ w'.cell? ⟨(ad129.add (l0.length * 3)).block, (ad129.add (l0.length * 3)).off + 2, none⟩ = some (.bool ((rd_T52 t124 (l0.length : Int)).f2))) (ds := []) (bm 0 22) (by kernel_rfl) rfl rfl ⟨(blk_cell BK121.out 0).trans rfl, (blk_cell BK121.out 1).trans rfl, (blk_cell BK121.out 2).trans rfl, hx129_0, hx129_1, hx129_2⟩ (fun hHeld => ?_); refine with_tabW mailbaglaw07_ChainPuts.tab10 mailbaglaw07_ChainPuts.bits10 (fun HT_ HW_ => ?_)
              generalize wc.drew = w39 at HO_6 BK121 HB hx129_0 hx129_1 hx129_2 hHeld ⊢
              refine pure_ (i := 0) (N := some 72) (v := ?_) (a' := ?_) (bm 1 21) rfl rfl (any_of HT_.out (by kernel_rfl)) (fun _ _ _ h => h) (Or.inl ⟨by rfl, ?_⟩) ?_ ?_
              rotate_left
              ·
               intro w'
               go_simp
               with_reducible rfl
              rotate_left
              ·
               simp only [Act.put, zs, i64_w, i32_w]
               rfl
              refine pure_ (i := 1) (N := some 73) (v := ?_) (a' := ?_) (bm 2 20) rfl rfl (any_of HT_.out (by kernel_rfl)) (fun _ _ _ h => h) (Or.inl ⟨by rfl, ?_⟩) ?_ ?_
              rotate_left
              ·
               intro w'
               go_simp
               with_reducible rfl
              rotate_left
              ·
               simp only [Act.put, zs, i64_w, i32_w]
               rfl
              refine pure_ (i := 2) (N := some 74) (v := ?_) (a' := ?_) (bm 3 19) rfl rfl (any_of HT_.out (by kernel_rfl)) (fun _ _ _ h => h) (Or.inl ⟨by rfl, ?_⟩) ?_ ?_
              rotate_left
              ·
               intro w'
               go_simp
               with_reducible rfl
              rotate_left
              ·
               simp only [Act.put, zs, i64_w, i32_w]
               rfl
              refine pure_ (i := 3) (N := some 75) (v := ?_) (a' := ?_) (bm 4 18) rfl rfl (any_of HT_.out (by kernel_rfl)) (fun _ _ _ h => h) (Or.inl ⟨by rfl, ?_⟩) ?_ ?_
              rotate_left
              ·
               intro w'
               go_simp
               with_reducible rfl
              rotate_left
              ·
               simp only [Act.put, zs, i64_w, i32_w]
               rfl
              refine pure_ (i := 4) (N := some 76) (v := ?_) (a' := ?_) (bm 5 17) rfl rfl (any_of HT_.out (by kernel_rfl)) (fun _ _ _ h => h) (Or.inl ⟨by rfl, ?_⟩) ?_ ?_
              rotate_left
              ·
               intro w'
               go_simp
               with_reducible rfl
              rotate_left
              ·
               simp only [Act.put, zs, i64_w, i32_w]
               rfl
              refine pure_ (i := 5) (N := some 77) (v := ?_) (a' := ?_) (bm 6 16) rfl rfl (any_of HT_.out (by kernel_rfl)) (fun _ _ _ h => h) (Or.inl ⟨by rfl, ?_⟩) ?_ ?_
              rotate_left
              ·
               intro w'
               go_simp
               with_reducible rfl
              rotate_left
              ·
               simp only [Act.put, zs, i64_w, i32_w]
               rfl
              refine pure_ (i := 6) (N := some 78) (v := ?_) (a' := ?_) (bm 7 15) rfl rfl (any_of HT_.out (by kernel_rfl)) (fun _ _ _ h => h) (Or.inl ⟨by rfl, ?_⟩) ?_ ?_
              rotate_left
              ·
               intro w'
               go_simp
               with_reducible rfl
              rotate_left
              ·
               simp only [Act.put, zs, i64_w, i32_w]
               rfl
              refine pure_ (i := 7) (N := some 79) (v := ?_) (a' := ?_) (bm 8 14) rfl rfl (any_of HT_.out (by kernel_rfl)) (fun _ _ _ h => h) (Or.inl ⟨by rfl, ?_⟩) ?_ ?_
              rotate_left
              ·
               intro w'
               go_simp
               with_reducible rfl
              rotate_left
              ·
               simp only [Act.put, zs, i64_w, i32_w]
               rfl
              refine pure_ (i := 8) (N := some 80) (v := ?_) (a' := ?_) (bm 9 13) rfl rfl (any_of HT_.out (by kernel_rfl)) (fun _ _ _ h => h) (Or.inl ⟨by rfl, ?_⟩) ?_ ?_
              rotate_left
              ·
               intro w'
               go_simp
               with_reducible rfl
              rotate_left
              ·
               simp only [Act.put, zs, i64_w, i32_w]
               rfl
              refine pure_ (i := 9) (N := some 81) (v := ?_) (a' := ?_) (bm 10 12) rfl rfl (any_of HT_.out (by kernel_rfl)) (fun _ _ _ h => h) (Or.inl ⟨by rfl, ?_⟩) ?_ ?_
              rotate_left
              ·
               intro w'
               go_simp
               with_reducible rfl
              rotate_left
              ·
               simp only [Act.put, zs, i64_w, i32_w]
               rfl
              refine pure_ (i := 10) (N := some 82) (v := ?_) (a' := ?_) (bm 11 11) rfl rfl (any_of HT_.out (by kernel_rfl)) (fun _ _ _ h => h) (Or.inl ⟨by rfl, ?_⟩) ?_ ?_
              rotate_left
              ·
               intro w'
               go_simp
               with_reducible rfl
              rotate_left
              ·
               simp only [Act.put, zs, i64_w, i32_w]
               rfl
              refine pure_ (i := 11) (N := some 83) (v := ?_) (a' := ?_) (bm 12 10) rfl rfl (any_of HT_.out (by kernel_rfl)) (fun _ _ _ h => h) (Or.inl ⟨by rfl, ?_⟩) ?_ ?_
              rotate_left
              ·
               intro w'
               go_simp
               with_reducible rfl
              rotate_left
              ·
               simp only [Act.put, zs, i64_w, i32_w]
               rfl
              refine pure_ (i := 12) (N := some 84) (v := ?_) (a' := ?_) (bm 13 9) rfl rfl (any_of HT_.out (by kernel_rfl)) (fun _ _ _ h => h) (Or.inl ⟨by rfl, ?_⟩) ?_ ?_
              rotate_left
              ·
               intro w'
               go_simp
               with_reducible rfl
              rotate_left
              ·
               simp only [Act.put, zs, i64_w, i32_w]
               rfl
              refine take_ (i := 13) (N := some 85) (v := ?_) (a' := ?_) (bm 14 8) rfl rfl (take_ofW HT_.out HW_.out (by kernel_rfl)) (fun _ _ _ h => h) (Or.inl ⟨by rfl, ?_⟩) hHeld ?_ ?_
              rotate_left
              ·
               rintro w' ⟨s0, s1, s2, s3, s4, s5⟩
               go_simp
               with_reducible rfl
              rotate_left
              ·
               simp only [Act.put, zs, i64_w, i32_w]
               rfl
              refine take_ (i := 14) (N := some 86) (v := ?_) (a' := ?_) (bm 15 7) rfl rfl (take_ofW HT_.out HW_.out (by kernel_rfl)) (fun _ _ _ h => h) (Or.inl ⟨by rfl, ?_⟩) hHeld ?_ ?_
              rotate_left
              ·
               rintro w' ⟨s0, s1, s2, s3, s4, s5⟩
               go_simp
               with_reducible rfl
              rotate_left
              ·
               simp only [Act.put, zs, i64_w, i32_w]
               rfl
              refine pure_ (i := 15) (N := some 87) (v := ?_) (a' := ?_) (bm 16 6) rfl rfl (any_of HT_.out (by kernel_rfl)) (fun _ _ _ h => h) (Or.inl ⟨by rfl, ?_⟩) ?_ ?_
              rotate_left
              ·
               intro w'
               go_simp
               with_reducible rfl
              rotate_left
              ·
               simp only [Act.put, zs, i64_w, i32_w]
               rfl
              refine pure_ (i := 16) (N := some 88) (v := ?_) (a' := ?_) (bm 17 5) rfl rfl (any_of HT_.out (by kernel_rfl)) (fun _ _ _ h => h) (Or.inl ⟨by rfl, ?_⟩) ?_ ?_
              rotate_left
              ·
               intro w'
               go_simp
               with_reducible rfl
              rotate_left
              ·
               simp only [Act.put, zs, i64_w, i32_w]
               rfl
              refine pure_ (i := 17) (N := some 89) (v := ?_) (a' := ?_) (bm 18 4) rfl rfl (any_of HT_.out (by kernel_rfl)) (fun _ _ _ h => h) (Or.inl ⟨by rfl, ?_⟩) ?_ ?_
              rotate_left
              ·
               intro w'
               go_simp
               with_reducible rfl
              rotate_left
              ·
               simp only [Act.put, zs, i64_w, i32_w]
               rfl
              refine pure_ (i := 18) (N := some 90) (v := undef) (a' := ?_) (bm 19 3) rfl rfl (any_of HT_.out (by kernel_rfl)) (fun _ _ _ h => h) (Or.inr ⟨by rfl, rfl⟩) ?_ ?_
              rotate_left
              ·
               simp only [Act.put, zs, i64_w, i32_w]
               rfl
              refine pure_ (i := 19) (N := some 91) (v := undef) (a' := ?_) (bm 20 2) rfl rfl (any_of HT_.out (by kernel_rfl)) (fun _ _ _ h => h) (Or.inr ⟨by rfl, rfl⟩) ?_ ?_
              rotate_left
              ·
               simp only [Act.put, zs, i64_w, i32_w]
               rfl
              refine pure_ (i := 20) (N := some 92) (v := undef) (a' := ?_) (bm 21 1) rfl rfl (any_of HT_.out (by kernel_rfl)) (fun _ _ _ h => h) (Or.inr ⟨by rfl, rfl⟩) ?_ ?_
              rotate_left
              ·
               simp only [Act.put, zs, i64_w, i32_w]
               rfl
              refine pure_ (i := 21) (N := some 93) (v := ?_) (a' := ?_) (bm 22 0) rfl rfl (any_of HT_.out (by kernel_rfl)) (fun _ _ _ h => h) (Or.inl ⟨by rfl, ?_⟩) ?_ ?_
              rotate_left
              ·
               intro w'
               go_simp
               with_reducible rfl
              rotate_left
              ·
               simp only [Act.put, zs, i64_w, i32_w]
               rfl
              refine done_ (done_of HT_.out (by kernel_rfl)) ?_
              try go_wp2
              go_meet
              case rel => exact ⟨_, (true), (by first | rfl | (simp; done) | (simp [*]; done) | exact congrArg Value.bool (isE _) | (rw [isE]; done)), H', ⟨by have := HJ4.out; have := HJ12.out; first | omega | exact Nat.le_refl _⟩, ⟨by (with_reducible repeat (first | apply Kd.R_alloc | apply Kd.R_drewN | apply Kd.R_drew)); exact HO_6.out⟩, ⟨by (with_reducible repeat (first | refine blk_drewN ?_ _ | refine blk_drew ?_ | refine blk_alloc ?_ _)); exact BK121.out⟩, ⟨by repeat (first | (with_reducible first | exact HB.out | apply below_alloc | apply pw_below_drewN | apply below_drew1 | refine below_set ?_ GE121.out) | exact HB.out)⟩⟩
             ·
              rw [if_neg c38] at H
              have c38b0 : (!(((rd_T52 t124 (l0.length : Int)).f0) == a1_0) || (!((((rd_T52 t124 (l0.length : Int)).f1).toList) == a1_1.toList) || (!(((rd_T52 t124 (l0.length : Int)).f2) == a1_2)))) = false := by simpa using c38
              clear c38
              replace H := Option.bind_eq_some_iff.mp H
              obtain ⟨t130, A410, H⟩ := H
              replace H : (mailbaglaw07_ChainPuts.j2 kj12 l0 (l0.length : Int) t124 (!t130) a1_0 a1_1 a1_2) = some r := H
              have A41 := Aside0.mk A410
              clear A410
              have H' := Aside0.mk H
              clear H
              try go_wp2
              have n0_ := Aside0.mk (Kd.R_drew HO_6.out)
              have n1_ := Aside0.mk (blk_drew BK121.out)
              have n2_ := Aside0.mk (below_drew1 HB.out)
              clear HO_6
              clear BK121
              clear HB
              have HO_6 := n0_
              have BK121 := n1_
              have HB := n2_
              clear n0_ n1_ n2_
              obtain ⟨Ao43, co43, eo43⟩ := Kd.R_slice HO_6.out
              (first | subst eo43 | (injection eo43 with f1_ f2_ f3_; have f4_ := f1_.symm; have f5_ := f3_.symm; clear f1_ f2_ f3_; subst f4_; subst f5_))
              have p129 : 0 ≤ ((l0.length : Int) : Int) := of_decide_eq_true (by first | (with_reducible assumption) | assumption)
              have q129 : (l0.length : Int) < (t124.length : Int) := of_decide_eq_true (by first | (with_reducible assumption) | assumption)
              obtain ⟨ad129, e129, hx129_0, hx129_1, hx129_2⟩ := at_T52 (Kd.R_reads' HO_6.out).2.2 (l0.length : Int) p129 q129
              cases e129
              (try simp only [Go.IntWalk.toNatUp] at hx129_0)
              (try simp only [Go.IntWalk.toNatUp] at hx129_1)
              (try simp only [Go.IntWalk.toNatUp] at hx129_2)
              replace p129 := eq_true p129
              replace q129 := eq_true q129
              refine start_ (n := 22) (S := fun w' => w'.cell? ⟨gb121, 0, none⟩ = some (.int .i64 a1_0) ∧ w'.cell? ⟨gb121, 1, none⟩ = some (.string a1_1) ∧ w'.cell? ⟨gb121, 2, none⟩ = some (.bool a1_2) ∧ w'.cell? (ad129.add (l0.length * 3)) = some (.int .i64 ((rd_T52 t124 (l0.length : Int)).f0)) ∧ w'.cell? ⟨(ad129.add (l0.length * 3)).block, (ad129.add (l0.length * 3)).off + 1, none⟩ = some (.string ((rd_T52 t124 (l0.length : Int)).f1)) ∧ w'.cell? ⟨(ad129.add (l0.length * 3)).block, (ad129.add (l0.length * 3)).off + 2, none⟩ = some (.bool ((rd_T52 t124 (l0.length : Int)).f2))) (ds := []) (bm 0 22) (by kernel_rfl) rfl rfl ⟨(blk_cell BK121.out 0).trans rfl, (blk_cell BK121.out 1).trans rfl, (blk_cell BK121.out 2).trans rfl, hx129_0, hx129_1, hx129_2⟩ (fun hHeld => ?_); refine with_tabW mailbaglaw07_ChainPuts.tab10 mailbaglaw07_ChainPuts.bits10 (fun HT_ HW_ => ?_)
              generalize wc.drew = w42 at HO_6 BK121 HB hx129_0 hx129_1 hx129_2 hHeld ⊢
              refine pure_ (i := 0) (N := some 72) (v := ?_) (a' := ?_) (bm 1 21) rfl rfl (any_of HT_.out (by kernel_rfl)) (fun _ _ _ h => h) (Or.inl ⟨by rfl, ?_⟩) ?_ ?_
              rotate_left
              ·
               intro w'
               go_simp
               with_reducible rfl
              rotate_left
              ·
               simp only [Act.put, zs, i64_w, i32_w]
               rfl
              refine pure_ (i := 1) (N := some 73) (v := ?_) (a' := ?_) (bm 2 20) rfl rfl (any_of HT_.out (by kernel_rfl)) (fun _ _ _ h => h) (Or.inl ⟨by rfl, ?_⟩) ?_ ?_
              rotate_left
              ·
               intro w'
               go_simp
               with_reducible rfl
              rotate_left
              ·
               simp only [Act.put, zs, i64_w, i32_w]
               rfl
              refine pure_ (i := 2) (N := some 74) (v := ?_) (a' := ?_) (bm 3 19) rfl rfl (any_of HT_.out (by kernel_rfl)) (fun _ _ _ h => h) (Or.inl ⟨by rfl, ?_⟩) ?_ ?_
              rotate_left
              ·
               intro w'
               go_simp
               with_reducible rfl
              rotate_left
              ·
               simp only [Act.put, zs, i64_w, i32_w]
               rfl
              refine pure_ (i := 3) (N := some 75) (v := ?_) (a' := ?_) (bm 4 18) rfl rfl (any_of HT_.out (by kernel_rfl)) (fun _ _ _ h => h) (Or.inl ⟨by rfl, ?_⟩) ?_ ?_
              rotate_left
              ·
               intro w'
               go_simp
               with_reducible rfl
              rotate_left
              ·
               simp only [Act.put, zs, i64_w, i32_w]
               rfl
              refine pure_ (i := 4) (N := some 76) (v := ?_) (a' := ?_) (bm 5 17) rfl rfl (any_of HT_.out (by kernel_rfl)) (fun _ _ _ h => h) (Or.inl ⟨by rfl, ?_⟩) ?_ ?_
              rotate_left
              ·
               intro w'
               go_simp
               with_reducible rfl
              rotate_left
              ·
               simp only [Act.put, zs, i64_w, i32_w]
               rfl
              refine pure_ (i := 5) (N := some 77) (v := ?_) (a' := ?_) (bm 6 16) rfl rfl (any_of HT_.out (by kernel_rfl)) (fun _ _ _ h => h) (Or.inl ⟨by rfl, ?_⟩) ?_ ?_
              rotate_left
              ·
               intro w'
               go_simp
               with_reducible rfl
              rotate_left
              ·
               simp only [Act.put, zs, i64_w, i32_w]
               rfl
              refine pure_ (i := 6) (N := some 78) (v := ?_) (a' := ?_) (bm 7 15) rfl rfl (any_of HT_.out (by kernel_rfl)) (fun _ _ _ h => h) (Or.inl ⟨by rfl, ?_⟩) ?_ ?_
              rotate_left
              ·
               intro w'
               go_simp
               with_reducible rfl
              rotate_left
              ·
               simp only [Act.put, zs, i64_w, i32_w]
               rfl
              refine pure_ (i := 7) (N := some 79) (v := ?_) (a' := ?_) (bm 8 14) rfl rfl (any_of HT_.out (by kernel_rfl)) (fun _ _ _ h => h) (Or.inl ⟨by rfl, ?_⟩) ?_ ?_
              rotate_left
              ·
               intro w'
               go_simp
               with_reducible rfl
              rotate_left
              ·
               simp only [Act.put, zs, i64_w, i32_w]
               rfl
              refine pure_ (i := 8) (N := some 80) (v := ?_) (a' := ?_) (bm 9 13) rfl rfl (any_of HT_.out (by kernel_rfl)) (fun _ _ _ h => h) (Or.inl ⟨by rfl, ?_⟩) ?_ ?_
              rotate_left
              ·
               intro w'
               go_simp
               with_reducible rfl
              rotate_left
              ·
               simp only [Act.put, zs, i64_w, i32_w]
               rfl
              refine pure_ (i := 9) (N := some 81) (v := ?_) (a' := ?_) (bm 10 12) rfl rfl (any_of HT_.out (by kernel_rfl)) (fun _ _ _ h => h) (Or.inl ⟨by rfl, ?_⟩) ?_ ?_
              rotate_left
              ·
               intro w'
               go_simp
               with_reducible rfl
              rotate_left
              ·
               simp only [Act.put, zs, i64_w, i32_w]
               rfl
              refine pure_ (i := 10) (N := some 82) (v := ?_) (a' := ?_) (bm 11 11) rfl rfl (any_of HT_.out (by kernel_rfl)) (fun _ _ _ h => h) (Or.inl ⟨by rfl, ?_⟩) ?_ ?_
              rotate_left
              ·
               intro w'
               go_simp
               with_reducible rfl
              rotate_left
              ·
               simp only [Act.put, zs, i64_w, i32_w]
               rfl
              refine pure_ (i := 11) (N := some 83) (v := ?_) (a' := ?_) (bm 12 10) rfl rfl (any_of HT_.out (by kernel_rfl)) (fun _ _ _ h => h) (Or.inl ⟨by rfl, ?_⟩) ?_ ?_
              rotate_left
              ·
               intro w'
               go_simp
               with_reducible rfl
              rotate_left
              ·
               simp only [Act.put, zs, i64_w, i32_w]
               rfl
              refine pure_ (i := 12) (N := some 84) (v := ?_) (a' := ?_) (bm 13 9) rfl rfl (any_of HT_.out (by kernel_rfl)) (fun _ _ _ h => h) (Or.inl ⟨by rfl, ?_⟩) ?_ ?_
              rotate_left
              ·
               intro w'
               go_simp
               with_reducible rfl
              rotate_left
              ·
               simp only [Act.put, zs, i64_w, i32_w]
               rfl
              refine take_ (i := 13) (N := some 85) (v := ?_) (a' := ?_) (bm 14 8) rfl rfl (take_ofW HT_.out HW_.out (by kernel_rfl)) (fun _ _ _ h => h) (Or.inl ⟨by rfl, ?_⟩) hHeld ?_ ?_
              rotate_left
              ·
               rintro w' ⟨s0, s1, s2, s3, s4, s5⟩
               go_simp
               with_reducible rfl
              rotate_left
              ·
               simp only [Act.put, zs, i64_w, i32_w]
               rfl
              refine take_ (i := 14) (N := some 86) (v := ?_) (a' := ?_) (bm 15 7) rfl rfl (take_ofW HT_.out HW_.out (by kernel_rfl)) (fun _ _ _ h => h) (Or.inl ⟨by rfl, ?_⟩) hHeld ?_ ?_
              rotate_left
              ·
               rintro w' ⟨s0, s1, s2, s3, s4, s5⟩
               go_simp
               with_reducible rfl
              rotate_left
              ·
               simp only [Act.put, zs, i64_w, i32_w]
               rfl
              refine pure_ (i := 15) (N := some 87) (v := ?_) (a' := ?_) (bm 16 6) rfl rfl (any_of HT_.out (by kernel_rfl)) (fun _ _ _ h => h) (Or.inl ⟨by rfl, ?_⟩) ?_ ?_
              rotate_left
              ·
               intro w'
               go_simp
               with_reducible rfl
              rotate_left
              ·
               simp only [Act.put, zs, i64_w, i32_w]
               rfl
              refine pure_ (i := 16) (N := some 88) (v := ?_) (a' := ?_) (bm 17 5) rfl rfl (any_of HT_.out (by kernel_rfl)) (fun _ _ _ h => h) (Or.inl ⟨by rfl, ?_⟩) ?_ ?_
              rotate_left
              ·
               intro w'
               go_simp
               with_reducible rfl
              rotate_left
              ·
               simp only [Act.put, zs, i64_w, i32_w]
               rfl
              refine pure_ (i := 17) (N := some 89) (v := ?_) (a' := ?_) (bm 18 4) rfl rfl (any_of HT_.out (by kernel_rfl)) (fun _ _ _ h => h) (Or.inl ⟨by rfl, ?_⟩) ?_ ?_
              rotate_left
              ·
               intro w'
               go_simp
               with_reducible rfl
              rotate_left
              ·
               simp only [Act.put, zs, i64_w, i32_w]
               rfl
              refine pure_ (i := 18) (N := some 90) (v := ?_) (a' := ?_) (bm 19 3) rfl rfl (any_of HT_.out (by kernel_rfl)) (fun _ _ _ h => h) (Or.inl ⟨by rfl, ?_⟩) ?_ ?_
              rotate_left
              ·
               intro w'
               go_simp
               with_reducible rfl
              rotate_left
              ·
               simp only [Act.put, zs, i64_w, i32_w]
               rfl
              refine one_ (i := 19) (N := some 91) (bm 20 2) rfl rfl (one_of HT_.out (by kernel_rfl)) (by decide) (fun K hK => ?_)
              refine goes_ Try.func25 (by kernel_rfl) rfl #[.slice (some ad129) t124.length co43] (by rfl) rfl rfl (by (try simp only [List.map_toArray, List.map_cons, List.map_nil]); first | done | rfl | (simp only [List.length_drop, List.length_take]; rfl)) ?_
              with_reducible refine (chain_Chain_Right.calls kj12 _ _ t124 t130 _ ?side1 ?side2 A41.out).mono ?_
              (case side1 => repeat (first | exact (Kd.R_reads' HO_6.out).2.2 | (with_reducible refine Kd.C_alloc ?_ _) | (with_reducible refine Kd.C_drewN ?_ _) | (with_reducible refine Kd.C_drew ?_)))
              (case side2 => exact (Kd.R_reads' HO_6.out).2.1)
              rintro e w44 ⟨rfl, hb⟩
              have HS3_ := (hb.cell (World.block_lt_of_cell? _ _ (hHeld.2.2.2.1))).trans (hHeld.2.2.2.1)
              have HS4_ := (hb.cell (World.block_lt_of_cell? _ _ (hHeld.2.2.2.2.1))).trans (hHeld.2.2.2.2.1)
              have HS5_ := (hb.cell (World.block_lt_of_cell? _ _ (hHeld.2.2.2.2.2))).trans (hHeld.2.2.2.2.2)
              refine ⟨_, rfl, ?_⟩
              have n0_ := Aside0.mk (Kd.R_below (by (with_reducible repeat (first | apply Kd.R_alloc | apply Kd.R_drewN | apply Kd.R_drew)); exact HO_6.out) hb)
              have n1_ := Aside0.mk (blk_below (g := gb121) (o := .cells #[.int .i64 a1_0, .string a1_1, .bool a1_2] 52 (0, 0)) (by (with_reducible repeat (first | refine blk_drewN ?_ _ | refine blk_drew ?_ | refine blk_alloc ?_ _)); exact BK121.out) hb)
              have n2_ := Aside0.mk (below_step (by repeat (first | (with_reducible first | exact HB.out | apply below_alloc | apply pw_below_drewN | apply below_drew1 | refine below_set ?_ GE121.out) | exact HB.out)) hb)
              clear HO_6
              clear BK121
              clear HB
              have HO_6 := n0_
              have BK121 := n1_
              have HB := n2_
              clear n0_ n1_ n2_
              (try clear hb)
              (try clear hb2)
              (try clear hk)
              (try clear hi)
              refine hK.out _ _ ⟨(blk_cell BK121.out 0).trans rfl, (blk_cell BK121.out 1).trans rfl, (blk_cell BK121.out 2).trans rfl, HS3_, HS4_, HS5_⟩ (fun hHeld => ?_)
              clear hK K
              refine norm_ (a' := ?_) ?_ ?_
              rotate_left
              ·
               show Act.put _ (some 91) _ = _
               simp only [Act.put, zs, i64_w, i32_w]
               rfl
              refine pure_ (i := 20) (N := some 92) (v := ?_) (a' := ?_) (bm 21 1) rfl rfl (any_of HT_.out (by kernel_rfl)) (fun _ _ _ h => h) (Or.inl ⟨by rfl, ?_⟩) ?_ ?_
              rotate_left
              ·
               intro w'
               go_simp
               with_reducible rfl
              rotate_left
              ·
               simp only [Act.put, zs, i64_w, i32_w]
               rfl
              refine pure_ (i := 21) (N := some 93) (v := ?_) (a' := ?_) (bm 22 0) rfl rfl (any_of HT_.out (by kernel_rfl)) (fun _ _ _ h => h) (Or.inl ⟨by rfl, ?_⟩) ?_ ?_
              rotate_left
              ·
               intro w'
               go_simp
               with_reducible rfl
              rotate_left
              ·
               simp only [Act.put, zs, i64_w, i32_w]
               rfl
              refine done_ (done_of HT_.out (by kernel_rfl)) ?_
              try go_wp2
              go_meet
              case rel => exact ⟨_, (!t130), (by first | rfl | (simp; done) | (simp [*]; done) | exact congrArg Value.bool (isE _) | (rw [isE]; done)), H', ⟨by have := HJ4.out; have := HJ12.out; first | omega | exact Nat.le_refl _⟩, ⟨by (with_reducible repeat (first | apply Kd.R_alloc | apply Kd.R_drewN | apply Kd.R_drew)); exact HO_6.out⟩, ⟨by (with_reducible repeat (first | refine blk_drewN ?_ _ | refine blk_drew ?_ | refine blk_alloc ?_ _)); exact BK121.out⟩, ⟨by repeat (first | (with_reducible first | exact HB.out | apply below_alloc | apply pw_below_drewN | apply below_drew1 | refine below_set ?_ GE121.out) | exact HB.out)⟩⟩
            ·
             rw [if_neg c37] at H
             exact absurd H (by simp)
           ·
            rw [if_neg c36] at H
            exact absurd H (by simp)
          ·
           rw [if_neg c35] at H
           have c35b0 : ((t124.length : Int) == (wrap64 ((l0.length : Int) + 1))) = false := beq_eq_false_iff_ne.mpr c35
           have c35b1 : ((t124.length : Int) != (wrap64 ((l0.length : Int) + 1))) = true := bne_iff_ne.mpr c35
           have H' := Aside0.mk H
           clear H
           try go_wp2
           have n0_ := Aside0.mk (Kd.R_drew HO_6.out)
           have n1_ := Aside0.mk (blk_drew BK121.out)
           have n2_ := Aside0.mk (below_drew1 HB.out)
           clear HO_6
           clear BK121
           clear HB
           have HO_6 := n0_
           have BK121 := n1_
           have HB := n2_
           clear n0_ n1_ n2_
           obtain ⟨Ao46, co46, eo46⟩ := Kd.R_slice HO_6.out
           (first | subst eo46 | (injection eo46 with f1_ f2_ f3_; have f4_ := f1_.symm; have f5_ := f3_.symm; clear f1_ f2_ f3_; subst f4_; subst f5_))
           refine start_ (n := 22) (S := fun w' => True) (ds := []) (bm 0 22) (by kernel_rfl) rfl rfl trivial (fun hHeld => ?_); refine with_tabW mailbaglaw07_ChainPuts.tab10 mailbaglaw07_ChainPuts.bits10 (fun HT_ HW_ => ?_)
           generalize wc.drew = w45 at HO_6 BK121 HB hHeld ⊢
           refine pure_ (i := 0) (N := some 72) (v := ?_) (a' := ?_) (bm 1 21) rfl rfl (any_of HT_.out (by kernel_rfl)) (fun _ _ _ h => h) (Or.inl ⟨by rfl, ?_⟩) ?_ ?_
           rotate_left
           ·
            intro w'
            go_simp
            with_reducible rfl
           rotate_left
           ·
            simp only [Act.put, zs, i64_w, i32_w]
            rfl
           refine pure_ (i := 1) (N := some 73) (v := ?_) (a' := ?_) (bm 2 20) rfl rfl (any_of HT_.out (by kernel_rfl)) (fun _ _ _ h => h) (Or.inl ⟨by rfl, ?_⟩) ?_ ?_
           rotate_left
           ·
            intro w'
            go_simp
            with_reducible rfl
           rotate_left
           ·
            simp only [Act.put, zs, i64_w, i32_w]
            rfl
           refine pure_ (i := 2) (N := some 74) (v := ?_) (a' := ?_) (bm 3 19) rfl rfl (any_of HT_.out (by kernel_rfl)) (fun _ _ _ h => h) (Or.inl ⟨by rfl, ?_⟩) ?_ ?_
           rotate_left
           ·
            intro w'
            go_simp
            with_reducible rfl
           rotate_left
           ·
            simp only [Act.put, zs, i64_w, i32_w]
            rfl
           refine pure_ (i := 3) (N := some 75) (v := ?_) (a' := ?_) (bm 4 18) rfl rfl (any_of HT_.out (by kernel_rfl)) (fun _ _ _ h => h) (Or.inl ⟨by rfl, ?_⟩) ?_ ?_
           rotate_left
           ·
            intro w'
            go_simp
            with_reducible rfl
           rotate_left
           ·
            simp only [Act.put, zs, i64_w, i32_w]
            rfl
           refine pure_ (i := 4) (N := some 76) (v := ?_) (a' := ?_) (bm 5 17) rfl rfl (any_of HT_.out (by kernel_rfl)) (fun _ _ _ h => h) (Or.inl ⟨by rfl, ?_⟩) ?_ ?_
           rotate_left
           ·
            intro w'
            go_simp
            with_reducible rfl
           rotate_left
           ·
            simp only [Act.put, zs, i64_w, i32_w]
            rfl
           refine pure_ (i := 5) (N := some 77) (v := ?_) (a' := ?_) (bm 6 16) rfl rfl (any_of HT_.out (by kernel_rfl)) (fun _ _ _ h => h) (Or.inl ⟨by rfl, ?_⟩) ?_ ?_
           rotate_left
           ·
            intro w'
            go_simp
            with_reducible rfl
           rotate_left
           ·
            simp only [Act.put, zs, i64_w, i32_w]
            rfl
           refine pure_ (i := 6) (N := some 78) (v := ?_) (a' := ?_) (bm 7 15) rfl rfl (any_of HT_.out (by kernel_rfl)) (fun _ _ _ h => h) (Or.inl ⟨by rfl, ?_⟩) ?_ ?_
           rotate_left
           ·
            intro w'
            go_simp
            with_reducible rfl
           rotate_left
           ·
            simp only [Act.put, zs, i64_w, i32_w]
            rfl
           refine pure_ (i := 7) (N := some 79) (v := ?_) (a' := ?_) (bm 8 14) rfl rfl (any_of HT_.out (by kernel_rfl)) (fun _ _ _ h => h) (Or.inl ⟨by rfl, ?_⟩) ?_ ?_
           rotate_left
           ·
            intro w'
            go_simp
            with_reducible rfl
           rotate_left
           ·
            simp only [Act.put, zs, i64_w, i32_w]
            rfl
           refine pure_ (i := 8) (N := some 80) (v := ?_) (a' := ?_) (bm 9 13) rfl rfl (any_of HT_.out (by kernel_rfl)) (fun _ _ _ h => h) (Or.inl ⟨by rfl, ?_⟩) ?_ ?_
           rotate_left
           ·
            intro w'
            go_simp
            with_reducible rfl
           rotate_left
           ·
            simp only [Act.put, zs, i64_w, i32_w]
            rfl
           refine pure_ (i := 9) (N := some 81) (v := ?_) (a' := ?_) (bm 10 12) rfl rfl (any_of HT_.out (by kernel_rfl)) (fun _ _ _ h => h) (Or.inl ⟨by rfl, ?_⟩) ?_ ?_
           rotate_left
           ·
            intro w'
            go_simp
            with_reducible rfl
           rotate_left
           ·
            simp only [Act.put, zs, i64_w, i32_w]
            rfl
           refine pure_ (i := 10) (N := some 82) (v := undef) (a' := ?_) (bm 11 11) rfl rfl (any_of HT_.out (by kernel_rfl)) (fun _ _ _ h => h) (Or.inr ⟨by rfl, rfl⟩) ?_ ?_
           rotate_left
           ·
            simp only [Act.put, zs, i64_w, i32_w]
            rfl
           refine pure_ (i := 11) (N := some 83) (v := undef) (a' := ?_) (bm 12 10) rfl rfl (any_of HT_.out (by kernel_rfl)) (fun _ _ _ h => h) (Or.inr ⟨by rfl, rfl⟩) ?_ ?_
           rotate_left
           ·
            simp only [Act.put, zs, i64_w, i32_w]
            rfl
           refine pure_ (i := 12) (N := some 84) (v := undef) (a' := ?_) (bm 13 9) rfl rfl (any_of HT_.out (by kernel_rfl)) (fun _ _ _ h => h) (Or.inr ⟨by rfl, rfl⟩) ?_ ?_
           rotate_left
           ·
            simp only [Act.put, zs, i64_w, i32_w]
            rfl
           refine pure_ (i := 13) (N := some 85) (v := undef) (a' := ?_) (bm 14 8) rfl rfl (any_of HT_.out (by kernel_rfl)) (fun _ _ _ h => h) (Or.inr ⟨by rfl, rfl⟩) ?_ ?_
           rotate_left
           ·
            simp only [Act.put, zs, i64_w, i32_w]
            rfl
           refine pure_ (i := 14) (N := some 86) (v := undef) (a' := ?_) (bm 15 7) rfl rfl (any_of HT_.out (by kernel_rfl)) (fun _ _ _ h => h) (Or.inr ⟨by rfl, rfl⟩) ?_ ?_
           rotate_left
           ·
            simp only [Act.put, zs, i64_w, i32_w]
            rfl
           refine pure_ (i := 15) (N := some 87) (v := undef) (a' := ?_) (bm 16 6) rfl rfl (any_of HT_.out (by kernel_rfl)) (fun _ _ _ h => h) (Or.inr ⟨by rfl, rfl⟩) ?_ ?_
           rotate_left
           ·
            simp only [Act.put, zs, i64_w, i32_w]
            rfl
           refine pure_ (i := 16) (N := some 88) (v := ?_) (a' := ?_) (bm 17 5) rfl rfl (any_of HT_.out (by kernel_rfl)) (fun _ _ _ h => h) (Or.inl ⟨by rfl, ?_⟩) ?_ ?_
           rotate_left
           ·
            intro w'
            go_simp
            with_reducible rfl
           rotate_left
           ·
            simp only [Act.put, zs, i64_w, i32_w]
            rfl
           refine pure_ (i := 17) (N := some 89) (v := ?_) (a' := ?_) (bm 18 4) rfl rfl (any_of HT_.out (by kernel_rfl)) (fun _ _ _ h => h) (Or.inl ⟨by rfl, ?_⟩) ?_ ?_
           rotate_left
           ·
            intro w'
            go_simp
            with_reducible rfl
           rotate_left
           ·
            simp only [Act.put, zs, i64_w, i32_w]
            rfl
           refine pure_ (i := 18) (N := some 90) (v := undef) (a' := ?_) (bm 19 3) rfl rfl (any_of HT_.out (by kernel_rfl)) (fun _ _ _ h => h) (Or.inr ⟨by rfl, rfl⟩) ?_ ?_
           rotate_left
           ·
            simp only [Act.put, zs, i64_w, i32_w]
            rfl
           refine pure_ (i := 19) (N := some 91) (v := undef) (a' := ?_) (bm 20 2) rfl rfl (any_of HT_.out (by kernel_rfl)) (fun _ _ _ h => h) (Or.inr ⟨by rfl, rfl⟩) ?_ ?_
           rotate_left
           ·
            simp only [Act.put, zs, i64_w, i32_w]
            rfl
           refine pure_ (i := 20) (N := some 92) (v := undef) (a' := ?_) (bm 21 1) rfl rfl (any_of HT_.out (by kernel_rfl)) (fun _ _ _ h => h) (Or.inr ⟨by rfl, rfl⟩) ?_ ?_
           rotate_left
           ·
            simp only [Act.put, zs, i64_w, i32_w]
            rfl
           refine pure_ (i := 21) (N := some 93) (v := ?_) (a' := ?_) (bm 22 0) rfl rfl (any_of HT_.out (by kernel_rfl)) (fun _ _ _ h => h) (Or.inl ⟨by rfl, ?_⟩) ?_ ?_
           rotate_left
           ·
            intro w'
            go_simp
            with_reducible rfl
           rotate_left
           ·
            simp only [Act.put, zs, i64_w, i32_w]
            rfl
           refine done_ (done_of HT_.out (by kernel_rfl)) ?_
           try go_wp2
           go_meet
           case rel => exact ⟨_, (true), (by first | rfl | (simp; done) | (simp [*]; done) | exact congrArg Value.bool (isE _) | (rw [isE]; done)), H', ⟨by have := HJ4.out; have := HJ12.out; first | omega | exact Nat.le_refl _⟩, ⟨by (with_reducible repeat (first | apply Kd.R_alloc | apply Kd.R_drewN | apply Kd.R_drew)); exact HO_6.out⟩, ⟨by (with_reducible repeat (first | refine blk_drewN ?_ _ | refine blk_drew ?_ | refine blk_alloc ?_ _)); exact BK121.out⟩, ⟨by repeat (first | (with_reducible first | exact HB.out | apply below_alloc | apply pw_below_drewN | apply below_drew1 | refine below_set ?_ GE121.out) | exact HB.out)⟩⟩
         ·
          rw [if_neg c34] at H
          have c34b0 : (t127 == 0) = false := beq_eq_false_iff_ne.mpr c34
          have c34b1 : (t127 != 0) = true := bne_iff_ne.mpr c34
          (first | rw [c34b0] | (simp only [i64_w, i32_w]; rw [c34b0]) | skip)
          have H' := Aside0.mk H
          clear H
          try go_wp2
          have n0_ := Aside0.mk (Kd.R_drew HO_6.out)
          have n1_ := Aside0.mk (blk_drew BK121.out)
          have n2_ := Aside0.mk (below_drew1 HB.out)
          clear HO_6
          clear BK121
          clear HB
          have HO_6 := n0_
          have BK121 := n1_
          have HB := n2_
          clear n0_ n1_ n2_
          refine start_ (n := 22) (S := fun w' => True) (ds := []) (bm 0 22) (by kernel_rfl) rfl rfl trivial (fun hHeld => ?_); refine with_tabW mailbaglaw07_ChainPuts.tab10 mailbaglaw07_ChainPuts.bits10 (fun HT_ HW_ => ?_)
          generalize wc.drew = w47 at HO_6 BK121 HB hHeld ⊢
          refine pure_ (i := 0) (N := some 72) (v := ?_) (a' := ?_) (bm 1 21) rfl rfl (any_of HT_.out (by kernel_rfl)) (fun _ _ _ h => h) (Or.inl ⟨by rfl, ?_⟩) ?_ ?_
          rotate_left
          ·
           intro w'
           go_simp
           with_reducible rfl
          rotate_left
          ·
           simp only [Act.put, zs, i64_w, i32_w]
           rfl
          refine pure_ (i := 1) (N := some 73) (v := ?_) (a' := ?_) (bm 2 20) rfl rfl (any_of HT_.out (by kernel_rfl)) (fun _ _ _ h => h) (Or.inl ⟨by rfl, ?_⟩) ?_ ?_
          rotate_left
          ·
           intro w'
           go_simp
           with_reducible rfl
          rotate_left
          ·
           simp only [Act.put, zs, i64_w, i32_w]
           rfl
          refine pure_ (i := 2) (N := some 74) (v := ?_) (a' := ?_) (bm 3 19) rfl rfl (any_of HT_.out (by kernel_rfl)) (fun _ _ _ h => h) (Or.inl ⟨by rfl, ?_⟩) ?_ ?_
          rotate_left
          ·
           intro w'
           go_simp
           with_reducible rfl
          rotate_left
          ·
           simp only [Act.put, zs, i64_w, i32_w]
           rfl
          refine pure_ (i := 3) (N := some 75) (v := undef) (a' := ?_) (bm 4 18) rfl rfl (any_of HT_.out (by kernel_rfl)) (fun _ _ _ h => h) (Or.inr ⟨by rfl, rfl⟩) ?_ ?_
          rotate_left
          ·
           simp only [Act.put, zs, i64_w, i32_w]
           rfl
          refine pure_ (i := 4) (N := some 76) (v := undef) (a' := ?_) (bm 5 17) rfl rfl (any_of HT_.out (by kernel_rfl)) (fun _ _ _ h => h) (Or.inr ⟨by rfl, rfl⟩) ?_ ?_
          rotate_left
          ·
           simp only [Act.put, zs, i64_w, i32_w]
           rfl
          refine pure_ (i := 5) (N := some 77) (v := undef) (a' := ?_) (bm 6 16) rfl rfl (any_of HT_.out (by kernel_rfl)) (fun _ _ _ h => h) (Or.inr ⟨by rfl, rfl⟩) ?_ ?_
          rotate_left
          ·
           simp only [Act.put, zs, i64_w, i32_w]
           rfl
          refine pure_ (i := 6) (N := some 78) (v := undef) (a' := ?_) (bm 7 15) rfl rfl (any_of HT_.out (by kernel_rfl)) (fun _ _ _ h => h) (Or.inr ⟨by rfl, rfl⟩) ?_ ?_
          rotate_left
          ·
           simp only [Act.put, zs, i64_w, i32_w]
           rfl
          refine pure_ (i := 7) (N := some 79) (v := undef) (a' := ?_) (bm 8 14) rfl rfl (any_of HT_.out (by kernel_rfl)) (fun _ _ _ h => h) (Or.inr ⟨by rfl, rfl⟩) ?_ ?_
          rotate_left
          ·
           simp only [Act.put, zs, i64_w, i32_w]
           rfl
          refine pure_ (i := 8) (N := some 80) (v := ?_) (a' := ?_) (bm 9 13) rfl rfl (any_of HT_.out (by kernel_rfl)) (fun _ _ _ h => h) (Or.inl ⟨by rfl, ?_⟩) ?_ ?_
          rotate_left
          ·
           intro w'
           go_simp
           with_reducible rfl
          rotate_left
          ·
           simp only [Act.put, zs, i64_w, i32_w]
           rfl
          refine pure_ (i := 9) (N := some 81) (v := ?_) (a' := ?_) (bm 10 12) rfl rfl (any_of HT_.out (by kernel_rfl)) (fun _ _ _ h => h) (Or.inl ⟨by rfl, ?_⟩) ?_ ?_
          rotate_left
          ·
           intro w'
           go_simp
           with_reducible rfl
          rotate_left
          ·
           simp only [Act.put, zs, i64_w, i32_w]
           rfl
          refine pure_ (i := 10) (N := some 82) (v := undef) (a' := ?_) (bm 11 11) rfl rfl (any_of HT_.out (by kernel_rfl)) (fun _ _ _ h => h) (Or.inr ⟨by rfl, rfl⟩) ?_ ?_
          rotate_left
          ·
           simp only [Act.put, zs, i64_w, i32_w]
           rfl
          refine pure_ (i := 11) (N := some 83) (v := undef) (a' := ?_) (bm 12 10) rfl rfl (any_of HT_.out (by kernel_rfl)) (fun _ _ _ h => h) (Or.inr ⟨by rfl, rfl⟩) ?_ ?_
          rotate_left
          ·
           simp only [Act.put, zs, i64_w, i32_w]
           rfl
          refine pure_ (i := 12) (N := some 84) (v := undef) (a' := ?_) (bm 13 9) rfl rfl (any_of HT_.out (by kernel_rfl)) (fun _ _ _ h => h) (Or.inr ⟨by rfl, rfl⟩) ?_ ?_
          rotate_left
          ·
           simp only [Act.put, zs, i64_w, i32_w]
           rfl
          refine pure_ (i := 13) (N := some 85) (v := undef) (a' := ?_) (bm 14 8) rfl rfl (any_of HT_.out (by kernel_rfl)) (fun _ _ _ h => h) (Or.inr ⟨by rfl, rfl⟩) ?_ ?_
          rotate_left
          ·
           simp only [Act.put, zs, i64_w, i32_w]
           rfl
          refine pure_ (i := 14) (N := some 86) (v := undef) (a' := ?_) (bm 15 7) rfl rfl (any_of HT_.out (by kernel_rfl)) (fun _ _ _ h => h) (Or.inr ⟨by rfl, rfl⟩) ?_ ?_
          rotate_left
          ·
           simp only [Act.put, zs, i64_w, i32_w]
           rfl
          refine pure_ (i := 15) (N := some 87) (v := undef) (a' := ?_) (bm 16 6) rfl rfl (any_of HT_.out (by kernel_rfl)) (fun _ _ _ h => h) (Or.inr ⟨by rfl, rfl⟩) ?_ ?_
          rotate_left
          ·
           simp only [Act.put, zs, i64_w, i32_w]
           rfl
          refine pure_ (i := 16) (N := some 88) (v := ?_) (a' := ?_) (bm 17 5) rfl rfl (any_of HT_.out (by kernel_rfl)) (fun _ _ _ h => h) (Or.inl ⟨by rfl, ?_⟩) ?_ ?_
          rotate_left
          ·
           intro w'
           go_simp
           with_reducible rfl
          rotate_left
          ·
           simp only [Act.put, zs, i64_w, i32_w]
           rfl
          refine pure_ (i := 17) (N := some 89) (v := ?_) (a' := ?_) (bm 18 4) rfl rfl (any_of HT_.out (by kernel_rfl)) (fun _ _ _ h => h) (Or.inl ⟨by rfl, ?_⟩) ?_ ?_
          rotate_left
          ·
           intro w'
           go_simp
           with_reducible rfl
          rotate_left
          ·
           simp only [Act.put, zs, i64_w, i32_w]
           rfl
          refine pure_ (i := 18) (N := some 90) (v := undef) (a' := ?_) (bm 19 3) rfl rfl (any_of HT_.out (by kernel_rfl)) (fun _ _ _ h => h) (Or.inr ⟨by rfl, rfl⟩) ?_ ?_
          rotate_left
          ·
           simp only [Act.put, zs, i64_w, i32_w]
           rfl
          refine pure_ (i := 19) (N := some 91) (v := undef) (a' := ?_) (bm 20 2) rfl rfl (any_of HT_.out (by kernel_rfl)) (fun _ _ _ h => h) (Or.inr ⟨by rfl, rfl⟩) ?_ ?_
          rotate_left
          ·
           simp only [Act.put, zs, i64_w, i32_w]
           rfl
          refine pure_ (i := 20) (N := some 92) (v := undef) (a' := ?_) (bm 21 1) rfl rfl (any_of HT_.out (by kernel_rfl)) (fun _ _ _ h => h) (Or.inr ⟨by rfl, rfl⟩) ?_ ?_
          rotate_left
          ·
           simp only [Act.put, zs, i64_w, i32_w]
           rfl
          refine pure_ (i := 21) (N := some 93) (v := ?_) (a' := ?_) (bm 22 0) rfl rfl (any_of HT_.out (by kernel_rfl)) (fun _ _ _ h => h) (Or.inl ⟨by rfl, ?_⟩) ?_ ?_
          rotate_left
          ·
           intro w'
           go_simp
           with_reducible rfl
          rotate_left
          ·
           simp only [Act.put, zs, i64_w, i32_w]
           rfl
          refine done_ (done_of HT_.out (by kernel_rfl)) ?_
          try go_wp2
          go_meet
          case rel => exact ⟨_, (true), (by first | rfl | (simp; done) | (simp [*]; done) | exact congrArg Value.bool (isE _) | (rw [isE]; done)), H', ⟨by have := HJ4.out; have := HJ12.out; first | omega | exact Nat.le_refl _⟩, ⟨by (with_reducible repeat (first | apply Kd.R_alloc | apply Kd.R_drewN | apply Kd.R_drew)); exact HO_6.out⟩, ⟨by (with_reducible repeat (first | refine blk_drewN ?_ _ | refine blk_drew ?_ | refine blk_alloc ?_ _)); exact BK121.out⟩, ⟨by repeat (first | (with_reducible first | exact HB.out | apply below_alloc | apply pw_below_drewN | apply below_drew1 | refine below_set ?_ GE121.out) | exact HB.out)⟩⟩
        case rest =>
         clear HC33
         try clear p1
         try clear q1
         try clear hx1
         try clear c2
         try clear p2
         try clear c3
         try clear p6
         try clear p12
         try clear q12
         try clear hx12
         try clear c25
         try clear c34
         try clear c34b0
         try clear c34b1
         try clear c35
         try clear c35b0
         try clear c35b1
         try clear c36
         try clear c37
         try clear c38
         try clear c38b0
         try clear hx129_0
         try clear hx129_1
         try clear hx129_2
         try clear p129
         try clear q129
         obtain ⟨kq, x93_32, rfl, HA, HJ32, HO_6, BK121, HB⟩ := hcut
         cases kq with
         | zero => exact absurd HA.out (by simp [mailbaglaw07_ChainPuts.j2])
         | succ kj32 =>
          have H := HA.out
          clear HA
          simp only [mailbaglaw07_ChainPuts.j2] at H
          by_cases c48 : x93_32 = true
          ·
           subst c48
           have H1 : (some false) = some r := by rw [if_pos rfl] at H; exact H
           clear H
           have H := H1
           clear H1
           obtain rfl := Option.some.inj H
           go_wp2
           go_ret
           exact ⟨by first | rfl | (simp [errW_none, errW_some] <;> rfl) | (simp [*, errW_none, errW_some] <;> rfl), by repeat (first | (with_reducible first | exact HB.out | apply below_alloc | apply pw_below_drewN | apply below_drew1 | refine below_set ?_ GE121.out) | exact HB.out)⟩
          ·
           replace c48 := Bool.eq_false_iff.mpr c48
           subst c48
           have H1 : ((chain_Chain_Put.f l0 a1_0 (⟨#[111, 116, 104, 101, 114]⟩ : ByteArray) false).bind fun bt131 => (mailbaglaw07_ChainPuts.l0 kj32 l0 (l0.length : Int) t124 bt131.1 bt131.2 (l0.length : Int) 0 a1_0 a1_1 a1_2)) = some r := by rw [if_neg (show ¬ (false = true) by decide)] at H; exact H
           clear H
           have H := H1
           clear H1
           replace H := Option.bind_eq_some_iff.mp H
           obtain ⟨⟨t131, t134⟩, A490, H⟩ := H
           replace H : (mailbaglaw07_ChainPuts.l0 kj32 l0 (l0.length : Int) t124 t131 t134 (l0.length : Int) 0 a1_0 a1_1 a1_2) = some r := H
           have A49 := Aside0.mk A490
           clear A490
           have H' := Aside0.mk H
           clear H
           have hcz50_0 : wc.cell? ⟨gb121, 0, none⟩ = some (.int .i64 a1_0) := (blk_cell BK121.out 0).trans rfl
           have hcz50_1 : wc.cell? ⟨gb121, 1, none⟩ = some (.string a1_1) := (blk_cell BK121.out 1).trans rfl
           have hcz50_2 : wc.cell? ⟨gb121, 2, none⟩ = some (.bool a1_2) := (blk_cell BK121.out 2).trans rfl
           have hfz50_0 := blk_frozen BK121.out 0
           have hfz50_1 := blk_frozen BK121.out 1
           have hfz50_2 := blk_frozen BK121.out 2
           go_wp2_with (first | ((with_reducible refine gate_callee (f := 24) rfl ?_); refine goesL_ (some 99) rfl rfl Try.func24 (by kernel_rfl) rfl #[.slice A0 l0.length c0, .agg #[.int .i64 a1_0, .string (⟨#[111, 116, 104, 101, 114]⟩ : ByteArray), .bool false]] rfl (by (try simp only [List.map_toArray, List.map_cons, List.map_nil]); first | done | rfl | (simp only [List.length_drop, List.length_take]; rfl)) ?_; (with_reducible refine (chain_Chain_Put.calls _ _ l0 a1_0 (⟨#[111, 116, 104, 101, 114]⟩ : ByteArray) false t131 t134 _ ?side1 ?side2 A49.out).mono ?_); (case side1 => repeat (first | exact (Kd.C_below HR0.out HB.out) | (with_reducible refine Kd.C_alloc ?_ _) | (with_reducible refine Kd.C_drewN ?_ _) | (with_reducible refine Kd.C_drew ?_))); (case side2 => exact HC0.out); rintro e w51 ⟨v132, rfl, ho0, hb⟩; refine ⟨_, rfl, ?_⟩; have n0_ := Aside0.mk (Kd.R_elder' (by (with_reducible repeat (first | apply Kd.R_alloc | apply Kd.R_drewN | apply Kd.R_drew)); exact HO_6.out) (Kd.R_base ho0) hb); have n1_ := Aside0.mk (Kd.R_lower (Kd.R_newB (Kd.R_new' ho0 (Kd.R_lt (by (with_reducible repeat (first | apply Kd.R_alloc | apply Kd.R_drewN | apply Kd.R_drew)); exact HO_6.out))) (g := gb121) (o := .cells #[.int .i64 a1_0, .string a1_1, .bool a1_2] 52 (0, 0)) (by (with_reducible repeat (first | refine blk_drewN ?_ _ | refine blk_drew ?_ | refine blk_alloc ?_ _)); exact BK121.out)) (below_size (by repeat (first | (with_reducible first | exact HB.out | apply below_alloc | apply pw_below_drewN | apply below_drew1 | refine below_set ?_ GE121.out) | exact HB.out)))); have n2_ := Aside0.mk (blk_below (g := gb121) (o := .cells #[.int .i64 a1_0, .string a1_1, .bool a1_2] 52 (0, 0)) (by (with_reducible repeat (first | refine blk_drewN ?_ _ | refine blk_drew ?_ | refine blk_alloc ?_ _)); exact BK121.out) hb); have n3_ := Aside0.mk (below_step (by repeat (first | (with_reducible first | exact HB.out | apply below_alloc | apply pw_below_drewN | apply below_drew1 | refine below_set ?_ GE121.out) | exact HB.out)) hb); clear HO_6; clear BK121; clear HB; have HO_6 := n0_; have HO133 := n1_; have BK121 := n2_; have HB := n3_; clear n0_ n1_ n2_ n3_; (try clear hb); (try clear hb2); (try clear hk); (try clear hi); (try clear ho0)))
           go_loopg [104] kj32 (fun kq v104 w' => ∃ (x104_4 : Int), v104 = .int .i64 x104_4 ∧ Aside0 (mailbaglaw07_ChainPuts.l0 kq l0 (l0.length : Int) t124 t131 t134 (l0.length : Int) x104_4 a1_0 a1_1 a1_2 = some r) ∧ Aside0 (kq ≤ kj32) ∧ Aside0 (Kd.R k52 52 w' w.heap.size (fun k_ => some k_ ≠ (v132 : Value).ownBlock ∧ k_ ≠ gb121) v125 t124) ∧ Aside0 (Kd.R k52 52 w' w.heap.size (fun k_ => some k_ ≠ (v125 : Value).ownBlock ∧ k_ ≠ gb121) v132 t131) ∧ Aside0 (w'.heap[gb121]? = some (.cells #[.int .i64 a1_0, .string a1_1, .bool a1_2] 52 (0, 0))) ∧ Aside0 (Below w.heap.size w w'))
           case atStart => exact ⟨(0), (by first | rfl | (simp; done) | (simp [*]; done) | exact congrArg Value.bool (isE _) | (rw [isE]; done)), H', ⟨Nat.le_refl _⟩, ⟨by (with_reducible repeat (first | apply Kd.R_alloc | apply Kd.R_drewN | apply Kd.R_drew)); exact Kd.R_mono HO_6.out (fun _ hk => ⟨hk.2, hk.1⟩)⟩, ⟨by (with_reducible repeat (first | apply Kd.R_alloc | apply Kd.R_drewN | apply Kd.R_drew)); exact Kd.R_mono HO133.out (fun _ hk => ⟨hk.1.2, hk.2⟩)⟩, ⟨by (with_reducible repeat (first | refine blk_drewN ?_ _ | refine blk_drew ?_ | refine blk_alloc ?_ _)); exact BK121.out⟩, ⟨by repeat (first | (with_reducible first | exact HB.out | apply below_alloc | apply pw_below_drewN | apply below_drew1 | refine below_set ?_ GE121.out) | exact HB.out)⟩⟩
           case round =>
            clear H'
            try clear p1
            try clear q1
            try clear hx1
            try clear c2
            try clear p2
            try clear c3
            try clear c4
            try clear p6
            try clear p12
            try clear q12
            try clear hx12
            try clear c24
            try clear c25
            try clear c34
            try clear c34b0
            try clear c34b1
            try clear c35
            try clear c35b0
            try clear c35b1
            try clear c36
            try clear c37
            try clear c38
            try clear c38b0
            try clear c48
            try clear hcz50_0
            try clear hcz50_1
            try clear hcz50_2
            try clear hfz50_0
            try clear hfz50_1
            try clear hfz50_2
            try clear hx129_0
            try clear hx129_1
            try clear hx129_2
            try clear p1
            try clear p12
            try clear p129
            try clear p2
            try clear p6
            try clear q1
            try clear q12
            try clear q129
            obtain ⟨x104_4, rfl, HA, HK4, HO_6, HO_9, BK121, HB⟩ := hrel
            cases gk with
            | zero => exact absurd HA.out (by simp [mailbaglaw07_ChainPuts.l0])
            | succ k4 =>
             have H := HA.out
             clear HA
             simp only [mailbaglaw07_ChainPuts.l0] at H
             by_cases c52 : x104_4 < (l0.length : Int)
             ·
              rw [if_pos c52] at H
              have c52b0 : decide (x104_4 < (l0.length : Int)) = true := decide_eq_true c52
              clear c52
              by_cases c53 : 0 ≤ x104_4
              ·
               rw [if_pos c53] at H
               have c53b0 : decide (0 ≤ x104_4) = true := decide_eq_true c53
               clear c53
               by_cases c54 : x104_4 < (t124.length : Int)
               ·
                rw [if_pos c54] at H
                have c54b0 : decide (x104_4 < (t124.length : Int)) = true := decide_eq_true c54
                clear c54
                by_cases c55 : x104_4 < (l0.length : Int)
                ·
                 rw [if_pos c55] at H
                 have c55b0 : decide (x104_4 < (l0.length : Int)) = true := decide_eq_true c55
                 clear c55
                 by_cases c56 : (!(((rd_T52 t124 x104_4).f0) == ((rd_T52 l0 x104_4).f0)) || (!((((rd_T52 t124 x104_4).f1).toList) == (((rd_T52 l0 x104_4).f1).toList)) || (!(((rd_T52 t124 x104_4).f2) == ((rd_T52 l0 x104_4).f2))))) = true
                 ·
                  rw [if_pos c56] at H
                  have c56b0 : (!(((rd_T52 t124 x104_4).f0) == ((rd_T52 l0 x104_4).f0)) || (!((((rd_T52 t124 x104_4).f1).toList) == (((rd_T52 l0 x104_4).f1).toList)) || (!(((rd_T52 t124 x104_4).f2) == ((rd_T52 l0 x104_4).f2))))) = true := c56
                  clear c56
                  obtain rfl := Option.some.inj H
                  try go_wp2
                  have n0_ := Aside0.mk (Kd.R_drew HO_6.out)
                  have n1_ := Aside0.mk (Kd.R_drew HO_9.out)
                  have n2_ := Aside0.mk (blk_drew BK121.out)
                  have n3_ := Aside0.mk (below_drew1 HB.out)
                  clear HO_6
                  clear HO_9
                  clear BK121
                  clear HB
                  have HO_6 := n0_
                  have HO_9 := n1_
                  have BK121 := n2_
                  have HB := n3_
                  clear n0_ n1_ n2_ n3_
                  obtain ⟨Ao58, co58, eo58⟩ := Kd.R_slice HO_6.out
                  (first | subst eo58 | (injection eo58 with f1_ f2_ f3_; have f4_ := f1_.symm; have f5_ := f3_.symm; clear f1_ f2_ f3_; subst f4_; subst f5_))
                  have p135 : 0 ≤ (x104_4 : Int) := of_decide_eq_true (by first | (with_reducible assumption) | assumption)
                  have q135 : x104_4 < (t124.length : Int) := of_decide_eq_true (by first | (with_reducible assumption) | assumption)
                  obtain ⟨ad135, e135, hx135_0, hx135_1, hx135_2⟩ := at_T52 (Kd.R_reads' HO_6.out).2.2 x104_4 p135 q135
                  cases e135
                  replace p135 := eq_true p135
                  replace q135 := eq_true q135
                  have p136 : 0 ≤ (x104_4 : Int) := of_decide_eq_true (by first | (with_reducible assumption) | assumption)
                  have q136 : x104_4 < (l0.length : Int) := of_decide_eq_true (by first | (with_reducible assumption) | assumption)
                  obtain ⟨ad136, e136, hx136_0, hx136_1, hx136_2⟩ := at_T52 HR0.out x104_4 p136 q136
                  have hw136_2 := hx136_2
                  have hw136_1 := hx136_1
                  have hw136_0 := hx136_0
                  cases e136
                  replace hx136_0 := (HB.out.cell (World.block_lt_of_cell? w _ hx136_0)).trans hx136_0
                  replace hx136_1 := (HB.out.cell (World.block_lt_of_cell? w _ hx136_1)).trans hx136_1
                  replace hx136_2 := (HB.out.cell (World.block_lt_of_cell? w _ hx136_2)).trans hx136_2
                  replace p136 := eq_true p136
                  replace q136 := eq_true q136
                  refine start_ (n := 9) (S := fun w' => w'.cell? (ad135.add ((x104_4).toNat * 3)) = some (.int .i64 ((rd_T52 t124 x104_4).f0)) ∧ w'.cell? ⟨(ad135.add ((x104_4).toNat * 3)).block, (ad135.add ((x104_4).toNat * 3)).off + 1, none⟩ = some (.string ((rd_T52 t124 x104_4).f1)) ∧ w'.cell? ⟨(ad135.add ((x104_4).toNat * 3)).block, (ad135.add ((x104_4).toNat * 3)).off + 2, none⟩ = some (.bool ((rd_T52 t124 x104_4).f2)) ∧ w'.cell? (ad136.add ((x104_4).toNat * 3)) = some (.int .i64 ((rd_T52 l0 x104_4).f0)) ∧ w'.cell? ⟨(ad136.add ((x104_4).toNat * 3)).block, (ad136.add ((x104_4).toNat * 3)).off + 1, none⟩ = some (.string ((rd_T52 l0 x104_4).f1)) ∧ w'.cell? ⟨(ad136.add ((x104_4).toNat * 3)).block, (ad136.add ((x104_4).toNat * 3)).off + 2, none⟩ = some (.bool ((rd_T52 l0 x104_4).f2))) (ds := []) (bm 0 9) (by kernel_rfl) rfl rfl ⟨hx135_0, hx135_1, hx135_2, ((HB.out.cell (World.block_lt_of_cell? w _ hw136_0)).trans hw136_0), ((HB.out.cell (World.block_lt_of_cell? w _ hw136_1)).trans hw136_1), ((HB.out.cell (World.block_lt_of_cell? w _ hw136_2)).trans hw136_2)⟩ (fun hHeld => ?_); refine with_tabW mailbaglaw07_ChainPuts.tab16 mailbaglaw07_ChainPuts.bits16 (fun HT_ HW_ => ?_)
                  generalize wr.drew = w57 at HO_6 HO_9 BK121 HB hx135_0 hx135_1 hx135_2 hx136_0 hx136_1 hx136_2 hHeld ⊢
                  refine pure_ (i := 0) (N := some 107) (v := ?_) (a' := ?_) (bm 1 8) rfl rfl (any_of HT_.out (by kernel_rfl)) (fun _ _ _ h => h) (Or.inl ⟨by rfl, ?_⟩) ?_ ?_
                  rotate_left
                  ·
                   intro w'
                   go_simp
                   with_reducible rfl
                  rotate_left
                  ·
                   simp only [Act.put, zs, i64_w, i32_w]
                   rfl
                  refine pure_ (i := 1) (N := some 108) (v := ?_) (a' := ?_) (bm 2 7) rfl rfl (any_of HT_.out (by kernel_rfl)) (fun _ _ _ h => h) (Or.inl ⟨by rfl, ?_⟩) ?_ ?_
                  rotate_left
                  ·
                   intro w'
                   go_simp
                   with_reducible rfl
                  rotate_left
                  ·
                   simp only [Act.put, zs, i64_w, i32_w]
                   rfl
                  refine pure_ (i := 2) (N := some 109) (v := ?_) (a' := ?_) (bm 3 6) rfl rfl (any_of HT_.out (by kernel_rfl)) (fun _ _ _ h => h) (Or.inl ⟨by rfl, ?_⟩) ?_ ?_
                  rotate_left
                  ·
                   intro w'
                   go_simp
                   with_reducible rfl
                  rotate_left
                  ·
                   simp only [Act.put, zs, i64_w, i32_w]
                   rfl
                  refine pure_ (i := 4) (N := some 111) (v := ?_) (a' := ?_) #[true, true, true, false, true, false, false, false, false] rfl rfl (any_of HT_.out (by kernel_rfl)) (fun _ _ _ h => h) (Or.inl ⟨by rfl, ?_⟩) ?_ ?_
                  rotate_left
                  ·
                   intro w'
                   go_simp
                   with_reducible rfl
                  rotate_left
                  ·
                   simp only [Act.put, zs, i64_w, i32_w]
                   rfl
                  refine pure_ (i := 5) (N := some 112) (v := ?_) (a' := ?_) #[true, true, true, false, true, true, false, false, false] rfl rfl (any_of HT_.out (by kernel_rfl)) (fun _ _ _ h => h) (Or.inl ⟨by rfl, ?_⟩) ?_ ?_
                  rotate_left
                  ·
                   intro w'
                   go_simp
                   with_reducible rfl
                  rotate_left
                  ·
                   simp only [Act.put, zs, i64_w, i32_w]
                   rfl
                  refine pure_ (i := 6) (N := some 113) (v := ?_) (a' := ?_) #[true, true, true, false, true, true, true, false, false] rfl rfl (any_of HT_.out (by kernel_rfl)) (fun _ _ _ h => h) (Or.inl ⟨by rfl, ?_⟩) ?_ ?_
                  rotate_left
                  ·
                   intro w'
                   go_simp
                   with_reducible rfl
                  rotate_left
                  ·
                   simp only [Act.put, zs, i64_w, i32_w]
                   rfl
                  refine take_ (i := 3) (N := some 110) (v := ?_) (a' := ?_) (bm 7 2) rfl rfl (take_ofW HT_.out HW_.out (by kernel_rfl)) (fun _ _ _ h => h) (Or.inl ⟨by rfl, ?_⟩) hHeld ?_ ?_
                  rotate_left
                  ·
                   rintro w' ⟨s0, s1, s2, s3, s4, s5⟩
                   go_simp
                   with_reducible rfl
                  rotate_left
                  ·
                   simp only [Act.put, zs, i64_w, i32_w]
                   rfl
                  refine take_ (i := 7) (N := some 114) (v := ?_) (a' := ?_) (bm 8 1) rfl rfl (take_ofW HT_.out HW_.out (by kernel_rfl)) (fun _ _ _ h => h) (Or.inl ⟨by rfl, ?_⟩) hHeld ?_ ?_
                  rotate_left
                  ·
                   rintro w' ⟨s0, s1, s2, s3, s4, s5⟩
                   go_simp
                   with_reducible rfl
                  rotate_left
                  ·
                   simp only [Act.put, zs, i64_w, i32_w]
                   rfl
                  refine pure_ (i := 8) (N := some 115) (v := ?_) (a' := ?_) (bm 9 0) rfl rfl (any_of HT_.out (by kernel_rfl)) (fun _ _ _ h => h) (Or.inl ⟨by rfl, ?_⟩) ?_ ?_
                  rotate_left
                  ·
                   intro w'
                   go_simp
                   with_reducible rfl
                  rotate_left
                  ·
                   simp only [Act.put, zs, i64_w, i32_w]
                   rfl
                  refine done_ (done_of HT_.out (by kernel_rfl)) ?_
                  try go_wp2
                  go_ret
                  exact ⟨by first | rfl | (simp [errW_none, errW_some] <;> rfl) | (simp [*, errW_none, errW_some] <;> rfl), by repeat (first | (with_reducible first | exact HB.out | apply below_alloc | apply pw_below_drewN | apply below_drew1 | refine below_set ?_ GE121.out) | exact HB.out)⟩
                 ·
                  rw [if_neg c56] at H
                  have c56b0 : (!(((rd_T52 t124 x104_4).f0) == ((rd_T52 l0 x104_4).f0)) || (!((((rd_T52 t124 x104_4).f1).toList) == (((rd_T52 l0 x104_4).f1).toList)) || (!(((rd_T52 t124 x104_4).f2) == ((rd_T52 l0 x104_4).f2))))) = false := by simpa using c56
                  clear c56
                  have H' := Aside0.mk H
                  clear H
                  try go_wp2
                  have n0_ := Aside0.mk (Kd.R_drew HO_6.out)
                  have n1_ := Aside0.mk (Kd.R_drew HO_9.out)
                  have n2_ := Aside0.mk (blk_drew BK121.out)
                  have n3_ := Aside0.mk (below_drew1 HB.out)
                  clear HO_6
                  clear HO_9
                  clear BK121
                  clear HB
                  have HO_6 := n0_
                  have HO_9 := n1_
                  have BK121 := n2_
                  have HB := n3_
                  clear n0_ n1_ n2_ n3_
                  obtain ⟨Ao60, co60, eo60⟩ := Kd.R_slice HO_6.out
                  (first | subst eo60 | (injection eo60 with f1_ f2_ f3_; have f4_ := f1_.symm; have f5_ := f3_.symm; clear f1_ f2_ f3_; subst f4_; subst f5_))
                  have p135 : 0 ≤ (x104_4 : Int) := of_decide_eq_true (by first | (with_reducible assumption) | assumption)
                  have q135 : x104_4 < (t124.length : Int) := of_decide_eq_true (by first | (with_reducible assumption) | assumption)
                  obtain ⟨ad135, e135, hx135_0, hx135_1, hx135_2⟩ := at_T52 (Kd.R_reads' HO_6.out).2.2 x104_4 p135 q135
                  cases e135
                  replace p135 := eq_true p135
                  replace q135 := eq_true q135
                  have p136 : 0 ≤ (x104_4 : Int) := of_decide_eq_true (by first | (with_reducible assumption) | assumption)
                  have q136 : x104_4 < (l0.length : Int) := of_decide_eq_true (by first | (with_reducible assumption) | assumption)
                  obtain ⟨ad136, e136, hx136_0, hx136_1, hx136_2⟩ := at_T52 HR0.out x104_4 p136 q136
                  have hw136_2 := hx136_2
                  have hw136_1 := hx136_1
                  have hw136_0 := hx136_0
                  cases e136
                  replace hx136_0 := (HB.out.cell (World.block_lt_of_cell? w _ hx136_0)).trans hx136_0
                  replace hx136_1 := (HB.out.cell (World.block_lt_of_cell? w _ hx136_1)).trans hx136_1
                  replace hx136_2 := (HB.out.cell (World.block_lt_of_cell? w _ hx136_2)).trans hx136_2
                  replace p136 := eq_true p136
                  replace q136 := eq_true q136
                  refine start_ (n := 9) (S := fun w' => w'.cell? (ad135.add ((x104_4).toNat * 3)) = some (.int .i64 ((rd_T52 t124 x104_4).f0)) ∧ w'.cell? ⟨(ad135.add ((x104_4).toNat * 3)).block, (ad135.add ((x104_4).toNat * 3)).off + 1, none⟩ = some (.string ((rd_T52 t124 x104_4).f1)) ∧ w'.cell? ⟨(ad135.add ((x104_4).toNat * 3)).block, (ad135.add ((x104_4).toNat * 3)).off + 2, none⟩ = some (.bool ((rd_T52 t124 x104_4).f2)) ∧ w'.cell? (ad136.add ((x104_4).toNat * 3)) = some (.int .i64 ((rd_T52 l0 x104_4).f0)) ∧ w'.cell? ⟨(ad136.add ((x104_4).toNat * 3)).block, (ad136.add ((x104_4).toNat * 3)).off + 1, none⟩ = some (.string ((rd_T52 l0 x104_4).f1)) ∧ w'.cell? ⟨(ad136.add ((x104_4).toNat * 3)).block, (ad136.add ((x104_4).toNat * 3)).off + 2, none⟩ = some (.bool ((rd_T52 l0 x104_4).f2))) (ds := []) (bm 0 9) (by kernel_rfl) rfl rfl ⟨hx135_0, hx135_1, hx135_2, ((HB.out.cell (World.block_lt_of_cell? w _ hw136_0)).trans hw136_0), ((HB.out.cell (World.block_lt_of_cell? w _ hw136_1)).trans hw136_1), ((HB.out.cell (World.block_lt_of_cell? w _ hw136_2)).trans hw136_2)⟩ (fun hHeld => ?_); refine with_tabW mailbaglaw07_ChainPuts.tab16 mailbaglaw07_ChainPuts.bits16 (fun HT_ HW_ => ?_)
                  generalize wr.drew = w59 at HO_6 HO_9 BK121 HB hx135_0 hx135_1 hx135_2 hx136_0 hx136_1 hx136_2 hHeld ⊢
                  refine pure_ (i := 0) (N := some 107) (v := ?_) (a' := ?_) (bm 1 8) rfl rfl (any_of HT_.out (by kernel_rfl)) (fun _ _ _ h => h) (Or.inl ⟨by rfl, ?_⟩) ?_ ?_
                  rotate_left
                  ·
                   intro w'
                   go_simp
                   with_reducible rfl
                  rotate_left
                  ·
                   simp only [Act.put, zs, i64_w, i32_w]
                   rfl
                  refine pure_ (i := 1) (N := some 108) (v := ?_) (a' := ?_) (bm 2 7) rfl rfl (any_of HT_.out (by kernel_rfl)) (fun _ _ _ h => h) (Or.inl ⟨by rfl, ?_⟩) ?_ ?_
                  rotate_left
                  ·
                   intro w'
                   go_simp
                   with_reducible rfl
                  rotate_left
                  ·
                   simp only [Act.put, zs, i64_w, i32_w]
                   rfl
                  refine pure_ (i := 2) (N := some 109) (v := ?_) (a' := ?_) (bm 3 6) rfl rfl (any_of HT_.out (by kernel_rfl)) (fun _ _ _ h => h) (Or.inl ⟨by rfl, ?_⟩) ?_ ?_
                  rotate_left
                  ·
                   intro w'
                   go_simp
                   with_reducible rfl
                  rotate_left
                  ·
                   simp only [Act.put, zs, i64_w, i32_w]
                   rfl
                  refine pure_ (i := 4) (N := some 111) (v := ?_) (a' := ?_) #[true, true, true, false, true, false, false, false, false] rfl rfl (any_of HT_.out (by kernel_rfl)) (fun _ _ _ h => h) (Or.inl ⟨by rfl, ?_⟩) ?_ ?_
                  rotate_left
                  ·
                   intro w'
                   go_simp
                   with_reducible rfl
                  rotate_left
                  ·
                   simp only [Act.put, zs, i64_w, i32_w]
                   rfl
                  refine pure_ (i := 5) (N := some 112) (v := ?_) (a' := ?_) #[true, true, true, false, true, true, false, false, false] rfl rfl (any_of HT_.out (by kernel_rfl)) (fun _ _ _ h => h) (Or.inl ⟨by rfl, ?_⟩) ?_ ?_
                  rotate_left
                  ·
                   intro w'
                   go_simp
                   with_reducible rfl
                  rotate_left
                  ·
                   simp only [Act.put, zs, i64_w, i32_w]
                   rfl
                  refine pure_ (i := 6) (N := some 113) (v := ?_) (a' := ?_) #[true, true, true, false, true, true, true, false, false] rfl rfl (any_of HT_.out (by kernel_rfl)) (fun _ _ _ h => h) (Or.inl ⟨by rfl, ?_⟩) ?_ ?_
                  rotate_left
                  ·
                   intro w'
                   go_simp
                   with_reducible rfl
                  rotate_left
                  ·
                   simp only [Act.put, zs, i64_w, i32_w]
                   rfl
                  refine take_ (i := 3) (N := some 110) (v := ?_) (a' := ?_) (bm 7 2) rfl rfl (take_ofW HT_.out HW_.out (by kernel_rfl)) (fun _ _ _ h => h) (Or.inl ⟨by rfl, ?_⟩) hHeld ?_ ?_
                  rotate_left
                  ·
                   rintro w' ⟨s0, s1, s2, s3, s4, s5⟩
                   go_simp
                   with_reducible rfl
                  rotate_left
                  ·
                   simp only [Act.put, zs, i64_w, i32_w]
                   rfl
                  refine take_ (i := 7) (N := some 114) (v := ?_) (a' := ?_) (bm 8 1) rfl rfl (take_ofW HT_.out HW_.out (by kernel_rfl)) (fun _ _ _ h => h) (Or.inl ⟨by rfl, ?_⟩) hHeld ?_ ?_
                  rotate_left
                  ·
                   rintro w' ⟨s0, s1, s2, s3, s4, s5⟩
                   go_simp
                   with_reducible rfl
                  rotate_left
                  ·
                   simp only [Act.put, zs, i64_w, i32_w]
                   rfl
                  refine pure_ (i := 8) (N := some 115) (v := ?_) (a' := ?_) (bm 9 0) rfl rfl (any_of HT_.out (by kernel_rfl)) (fun _ _ _ h => h) (Or.inl ⟨by rfl, ?_⟩) ?_ ?_
                  rotate_left
                  ·
                   intro w'
                   go_simp
                   with_reducible rfl
                  rotate_left
                  ·
                   simp only [Act.put, zs, i64_w, i32_w]
                   rfl
                  refine done_ (done_of HT_.out (by kernel_rfl)) ?_
                  try go_wp2
                  go_roundg k4
                  case measure => have := HJ4.out; have := HJ12.out; have := HJ32.out; have := HK4.out; omega
                  case rel => exact ⟨(wrap64 (x104_4 + 1)), (by first | rfl | (simp; done) | (simp [*]; done) | exact congrArg Value.bool (isE _) | (rw [isE]; done)), H', ⟨by have := HJ4.out; have := HJ12.out; have := HJ32.out; have := HK4.out; omega⟩, ⟨by (with_reducible repeat (first | apply Kd.R_alloc | apply Kd.R_drewN | apply Kd.R_drew)); exact HO_6.out⟩, ⟨by (with_reducible repeat (first | apply Kd.R_alloc | apply Kd.R_drewN | apply Kd.R_drew)); exact HO_9.out⟩, ⟨by (with_reducible repeat (first | refine blk_drewN ?_ _ | refine blk_drew ?_ | refine blk_alloc ?_ _)); exact BK121.out⟩, ⟨by repeat (first | (with_reducible first | exact HB.out | apply below_alloc | apply pw_below_drewN | apply below_drew1 | refine below_set ?_ GE121.out) | exact HB.out)⟩⟩
                ·
                 rw [if_neg c55] at H
                 exact absurd H (by simp)
               ·
                rw [if_neg c54] at H
                exact absurd H (by simp)
              ·
               rw [if_neg c53] at H
               exact absurd H (by simp)
             ·
              rw [if_neg c52] at H
              have c52b0 : decide (x104_4 < (l0.length : Int)) = false := decide_eq_false c52
              clear c52
              by_cases c61 : t134 = 0
              ·
               rw [if_pos c61] at H
               have c61b0 : (t134 == 0) = true := beq_iff_eq.mpr c61
               have c61b1 : (t134 != 0) = false := bne_eq_false_iff_eq.mpr c61
               clear c61
               by_cases c62 : 0 ≤ (l0.length : Int)
               ·
                rw [if_pos c62] at H
                have c62b0 : decide (0 ≤ (l0.length : Int)) = true := decide_eq_true c62
                have c62b1 : decide (0 ≤ l0.length) = true := decide_eq_true (by omega)
                clear c62
                by_cases c63 : (l0.length : Int) < (t124.length : Int)
                ·
                 rw [if_pos c63] at H
                 have c63b0 : decide ((l0.length : Int) < (t124.length : Int)) = true := decide_eq_true c63
                 have c63b1 : decide (l0.length < t124.length) = true := decide_eq_true (Int.ofNat_lt.mp c63)
                 clear c63
                 by_cases c64 : (((rd_T52 t124 (l0.length : Int)).f0) == a1_0 && ((((rd_T52 t124 (l0.length : Int)).f1).toList) == a1_1.toList && (((rd_T52 t124 (l0.length : Int)).f2) == a1_2))) = true
                 ·
                  rw [if_pos c64] at H
                  have c64b0 : (((rd_T52 t124 (l0.length : Int)).f0) == a1_0 && ((((rd_T52 t124 (l0.length : Int)).f1).toList) == a1_1.toList && (((rd_T52 t124 (l0.length : Int)).f2) == a1_2))) = true := c64
                  (try (have c64b1 : decide (((rd_T52 t124 (l0.length : Int)).f0) = a1_0 && ((((rd_T52 t124 (l0.length : Int)).f1).toList) == a1_1.toList && (((rd_T52 t124 (l0.length : Int)).f2) == a1_2))) = true := by simpa using c64))
                  (try (have c64b2 : (((rd_T52 t124 (l0.length : Int)).f0) == a1_0 && ((((rd_T52 t124 (l0.length : Int)).f1).toList) == a1_1.toList && (((rd_T52 t124 (l0.length : Int)).f2) == a1_2))) = true := by simpa using c64))
                  clear c64
                  by_cases c65 : (l0.length : Int) < (t131.length : Int)
                  ·
                   rw [if_pos c65] at H
                   have c65b0 : decide ((l0.length : Int) < (t131.length : Int)) = true := decide_eq_true c65
                   have c65b1 : decide (l0.length < t131.length) = true := decide_eq_true (Int.ofNat_lt.mp c65)
                   clear c65
                   by_cases c66 : ((rd_T52 t131 (l0.length : Int)).f1).toList = ([111, 116, 104, 101, 114] : List UInt8)
                   ·
                    rw [if_pos c66] at H
                    have c66b0 : (((rd_T52 t131 (l0.length : Int)).f1).toList == ([111, 116, 104, 101, 114] : List UInt8)) = true := beq_iff_eq.mpr c66
                    have c66b1 : (((rd_T52 t131 (l0.length : Int)).f1).toList != ([111, 116, 104, 101, 114] : List UInt8)) = false := bne_eq_false_iff_eq.mpr c66
                    clear c66
                    obtain rfl := Option.some.inj H
                    try go_wp2
                    have n0_ := Aside0.mk (Kd.R_drew HO_6.out)
                    have n1_ := Aside0.mk (Kd.R_drew HO_9.out)
                    have n2_ := Aside0.mk (blk_drew BK121.out)
                    have n3_ := Aside0.mk (below_drew1 HB.out)
                    clear HO_6
                    clear HO_9
                    clear BK121
                    clear HB
                    have HO_6 := n0_
                    have HO_9 := n1_
                    have BK121 := n2_
                    have HB := n3_
                    clear n0_ n1_ n2_ n3_
                    obtain ⟨Ao68, co68, eo68⟩ := Kd.R_slice HO_6.out
                    (first | subst eo68 | (injection eo68 with f1_ f2_ f3_; have f4_ := f1_.symm; have f5_ := f3_.symm; clear f1_ f2_ f3_; subst f4_; subst f5_))
                    have p137 : 0 ≤ ((l0.length : Int) : Int) := of_decide_eq_true (by first | (with_reducible assumption) | assumption)
                    have q137 : (l0.length : Int) < (t124.length : Int) := of_decide_eq_true (by first | (with_reducible assumption) | assumption)
                    obtain ⟨ad137, e137, hx137_0, hx137_1, hx137_2⟩ := at_T52 (Kd.R_reads' HO_6.out).2.2 (l0.length : Int) p137 q137
                    cases e137
                    (try simp only [Go.IntWalk.toNatUp] at hx137_0)
                    (try simp only [Go.IntWalk.toNatUp] at hx137_1)
                    (try simp only [Go.IntWalk.toNatUp] at hx137_2)
                    replace p137 := eq_true p137
                    replace q137 := eq_true q137
                    obtain ⟨Ao69, co69, eo69⟩ := Kd.R_slice HO_9.out
                    (first | subst eo69 | (injection eo69 with f1_ f2_ f3_; have f4_ := f1_.symm; have f5_ := f3_.symm; clear f1_ f2_ f3_; subst f4_; subst f5_))
                    have p138 : 0 ≤ ((l0.length : Int) : Int) := of_decide_eq_true (by first | (with_reducible assumption) | assumption)
                    have q138 : (l0.length : Int) < (t131.length : Int) := of_decide_eq_true (by first | (with_reducible assumption) | assumption)
                    obtain ⟨ad138, e138, hx138_0, hx138_1, hx138_2⟩ := at_T52 (Kd.R_reads' HO_9.out).2.2 (l0.length : Int) p138 q138
                    cases e138
                    (try simp only [Go.IntWalk.toNatUp] at hx138_0)
                    (try simp only [Go.IntWalk.toNatUp] at hx138_1)
                    (try simp only [Go.IntWalk.toNatUp] at hx138_2)
                    replace p138 := eq_true p138
                    replace q138 := eq_true q138
                    refine start_ (n := 25) (S := fun w' => w'.cell? ⟨gb121, 0, none⟩ = some (.int .i64 a1_0) ∧ w'.cell? ⟨gb121, 1, none⟩ = some (.string a1_1) ∧ w'.cell? ⟨gb121, 2, none⟩ = some (.bool a1_2) ∧ w'.cell? (ad137.add (l0.length * 3)) = some (.int .i64 ((rd_T52 t124 (l0.length : Int)).f0)) ∧ w'.cell? ⟨(ad137.add (l0.length * 3)).block, (ad137.add (l0.length * 3)).off + 1, none⟩ = some (.string ((rd_T52 t124 (l0.length : Int)).f1)) ∧ w'.cell? ⟨(ad137.add (l0.length * 3)).block, (ad137.add (l0.length * 3)).off + 2, none⟩ = some (.bool ((rd_T52 t124 (l0.length : Int)).f2)) ∧ w'.cell? (ad138.add (l0.length * 3)) = some (.int .i64 ((rd_T52 t131 (l0.length : Int)).f0)) ∧ w'.cell? ⟨(ad138.add (l0.length * 3)).block, (ad138.add (l0.length * 3)).off + 1, none⟩ = some (.string ((rd_T52 t131 (l0.length : Int)).f1)) ∧ w'.cell? ⟨(ad138.add (l0.length * 3)).block, (ad138.add (l0.length * 3)).off + 2, none⟩ = some (.bool ((rd_T52 t131 (l0.length : Int)).f2))) (ds := []) (bm 0 25) (by kernel_rfl) rfl rfl ⟨(blk_cell BK121.out 0).trans rfl, (blk_cell BK121.out 1).trans rfl, (blk_cell BK121.out 2).trans rfl, hx137_0, hx137_1, hx137_2, hx138_0, hx138_1, hx138_2⟩ (fun hHeld => ?_); refine with_tabW mailbaglaw07_ChainPuts.tab19 mailbaglaw07_ChainPuts.bits19 (fun HT_ HW_ => ?_)
                    generalize wr.drew = w67 at HO_6 HO_9 BK121 HB hx137_0 hx137_1 hx137_2 hx138_0 hx138_1 hx138_2 hHeld ⊢
                    refine pure_ (i := 0) (N := some 117) (v := ?_) (a' := ?_) (bm 1 24) rfl rfl (any_of HT_.out (by kernel_rfl)) (fun _ _ _ h => h) (Or.inl ⟨by rfl, ?_⟩) ?_ ?_
                    rotate_left
                    ·
                     intro w'
                     go_simp
                     with_reducible rfl
                    rotate_left
                    ·
                     simp only [Act.put, zs, i64_w, i32_w]
                     rfl
                    refine pure_ (i := 1) (N := some 118) (v := ?_) (a' := ?_) (bm 2 23) rfl rfl (any_of HT_.out (by kernel_rfl)) (fun _ _ _ h => h) (Or.inl ⟨by rfl, ?_⟩) ?_ ?_
                    rotate_left
                    ·
                     intro w'
                     go_simp
                     with_reducible rfl
                    rotate_left
                    ·
                     simp only [Act.put, zs, i64_w, i32_w]
                     rfl
                    refine pure_ (i := 2) (N := some 119) (v := ?_) (a' := ?_) (bm 3 22) rfl rfl (any_of HT_.out (by kernel_rfl)) (fun _ _ _ h => h) (Or.inl ⟨by rfl, ?_⟩) ?_ ?_
                    rotate_left
                    ·
                     intro w'
                     go_simp
                     with_reducible rfl
                    rotate_left
                    ·
                     simp only [Act.put, zs, i64_w, i32_w]
                     rfl
                    refine pure_ (i := 3) (N := some 120) (v := ?_) (a' := ?_) (bm 4 21) rfl rfl (any_of HT_.out (by kernel_rfl)) (fun _ _ _ h => h) (Or.inl ⟨by rfl, ?_⟩) ?_ ?_
                    rotate_left
                    ·
                     intro w'
                     go_simp
                     with_reducible rfl
                    rotate_left
                    ·
                     simp only [Act.put, zs, i64_w, i32_w]
                     rfl
                    refine pure_ (i := 4) (N := some 121) (v := ?_) (a' := ?_) (bm 5 20) rfl rfl (any_of HT_.out (by kernel_rfl)) (fun _ _ _ h => h) (Or.inl ⟨by rfl, ?_⟩) ?_ ?_
                    rotate_left
                    ·
                     intro w'
                     go_simp
                     with_reducible rfl
                    rotate_left
                    ·
                     simp only [Act.put, zs, i64_w, i32_w]
                     rfl
                    refine pure_ (i := 5) (N := some 122) (v := ?_) (a' := ?_) (bm 6 19) rfl rfl (any_of HT_.out (by kernel_rfl)) (fun _ _ _ h => h) (Or.inl ⟨by rfl, ?_⟩) ?_ ?_
                    rotate_left
                    ·
                     intro w'
                     go_simp
                     with_reducible rfl
                    rotate_left
                    ·
                     simp only [Act.put, zs, i64_w, i32_w]
                     rfl
                    refine take_ (i := 6) (N := some 123) (v := ?_) (a' := ?_) (bm 7 18) rfl rfl (take_ofW HT_.out HW_.out (by kernel_rfl)) (fun _ _ _ h => h) (Or.inl ⟨by rfl, ?_⟩) hHeld ?_ ?_
                    rotate_left
                    ·
                     rintro w' ⟨s0, s1, s2, s3, s4, s5, s6, s7, s8⟩
                     go_simp
                     with_reducible rfl
                    rotate_left
                    ·
                     simp only [Act.put, zs, i64_w, i32_w]
                     rfl
                    refine take_ (i := 7) (N := some 124) (v := ?_) (a' := ?_) (bm 8 17) rfl rfl (take_ofW HT_.out HW_.out (by kernel_rfl)) (fun _ _ _ h => h) (Or.inl ⟨by rfl, ?_⟩) hHeld ?_ ?_
                    rotate_left
                    ·
                     rintro w' ⟨s0, s1, s2, s3, s4, s5, s6, s7, s8⟩
                     go_simp
                     with_reducible rfl
                    rotate_left
                    ·
                     simp only [Act.put, zs, i64_w, i32_w]
                     rfl
                    refine pure_ (i := 8) (N := some 125) (v := ?_) (a' := ?_) (bm 9 16) rfl rfl (any_of HT_.out (by kernel_rfl)) (fun _ _ _ h => h) (Or.inl ⟨by rfl, ?_⟩) ?_ ?_
                    rotate_left
                    ·
                     intro w'
                     go_simp
                     with_reducible rfl
                    rotate_left
                    ·
                     simp only [Act.put, zs, i64_w, i32_w]
                     rfl
                    refine pure_ (i := 9) (N := some 126) (v := ?_) (a' := ?_) (bm 10 15) rfl rfl (any_of HT_.out (by kernel_rfl)) (fun _ _ _ h => h) (Or.inl ⟨by rfl, ?_⟩) ?_ ?_
                    rotate_left
                    ·
                     intro w'
                     go_simp
                     with_reducible rfl
                    rotate_left
                    ·
                     simp only [Act.put, zs, i64_w, i32_w]
                     rfl
                    refine pure_ (i := 10) (N := some 127) (v := ?_) (a' := ?_) (bm 11 14) rfl rfl (any_of HT_.out (by kernel_rfl)) (fun _ _ _ h => h) (Or.inl ⟨by rfl, ?_⟩) ?_ ?_
                    rotate_left
                    ·
                     intro w'
                     go_simp
                     with_reducible rfl
                    rotate_left
                    ·
                     simp only [Act.put, zs, i64_w, i32_w]
                     rfl
                    refine pure_ (i := 11) (N := some 128) (v := ?_) (a' := ?_) (bm 12 13) rfl rfl (any_of HT_.out (by kernel_rfl)) (fun _ _ _ h => h) (Or.inl ⟨by rfl, ?_⟩) ?_ ?_
                    rotate_left
                    ·
                     intro w'
                     go_simp
                     with_reducible rfl
                    rotate_left
                    ·
                     simp only [Act.put, zs, i64_w, i32_w]
                     rfl
                    refine pure_ (i := 12) (N := some 129) (v := ?_) (a' := ?_) (bm 13 12) rfl rfl (any_of HT_.out (by kernel_rfl)) (fun _ _ _ h => h) (Or.inl ⟨by rfl, ?_⟩) ?_ ?_
                    rotate_left
                    ·
                     intro w'
                     go_simp
                     with_reducible rfl
                    rotate_left
                    ·
                     simp only [Act.put, zs, i64_w, i32_w]
                     rfl
                    refine pure_ (i := 13) (N := some 130) (v := ?_) (a' := ?_) (bm 14 11) rfl rfl (any_of HT_.out (by kernel_rfl)) (fun _ _ _ h => h) (Or.inl ⟨by rfl, ?_⟩) ?_ ?_
                    rotate_left
                    ·
                     intro w'
                     go_simp
                     with_reducible rfl
                    rotate_left
                    ·
                     simp only [Act.put, zs, i64_w, i32_w]
                     rfl
                    refine pure_ (i := 14) (N := some 131) (v := ?_) (a' := ?_) (bm 15 10) rfl rfl (any_of HT_.out (by kernel_rfl)) (fun _ _ _ h => h) (Or.inl ⟨by rfl, ?_⟩) ?_ ?_
                    rotate_left
                    ·
                     intro w'
                     go_simp
                     with_reducible rfl
                    rotate_left
                    ·
                     simp only [Act.put, zs, i64_w, i32_w]
                     rfl
                    refine take_ (i := 15) (N := some 132) (v := ?_) (a' := ?_) (bm 16 9) rfl rfl (take_ofW HT_.out HW_.out (by kernel_rfl)) (fun _ _ _ h => h) (Or.inl ⟨by rfl, ?_⟩) hHeld ?_ ?_
                    rotate_left
                    ·
                     rintro w' ⟨s0, s1, s2, s3, s4, s5, s6, s7, s8⟩
                     go_simp
                     with_reducible rfl
                    rotate_left
                    ·
                     simp only [Act.put, zs, i64_w, i32_w]
                     rfl
                    refine pure_ (i := 16) (N := some 133) (v := ?_) (a' := ?_) (bm 17 8) rfl rfl (any_of HT_.out (by kernel_rfl)) (fun _ _ _ h => h) (Or.inl ⟨by rfl, ?_⟩) ?_ ?_
                    rotate_left
                    ·
                     intro w'
                     go_simp
                     with_reducible rfl
                    rotate_left
                    ·
                     simp only [Act.put, zs, i64_w, i32_w]
                     rfl
                    refine pure_ (i := 17) (N := some 134) (v := ?_) (a' := ?_) (bm 18 7) rfl rfl (any_of HT_.out (by kernel_rfl)) (fun _ _ _ h => h) (Or.inl ⟨by rfl, ?_⟩) ?_ ?_
                    rotate_left
                    ·
                     intro w'
                     go_simp
                     with_reducible rfl
                    rotate_left
                    ·
                     simp only [Act.put, zs, i64_w, i32_w]
                     rfl
                    refine pure_ (i := 18) (N := some 135) (v := ?_) (a' := ?_) (bm 19 6) rfl rfl (any_of HT_.out (by kernel_rfl)) (fun _ _ _ h => h) (Or.inl ⟨by rfl, ?_⟩) ?_ ?_
                    rotate_left
                    ·
                     intro w'
                     go_simp
                     with_reducible rfl
                    rotate_left
                    ·
                     simp only [Act.put, zs, i64_w, i32_w]
                     rfl
                    refine pure_ (i := 19) (N := some 136) (v := ?_) (a' := ?_) (bm 20 5) rfl rfl (any_of HT_.out (by kernel_rfl)) (fun _ _ _ h => h) (Or.inl ⟨by rfl, ?_⟩) ?_ ?_
                    rotate_left
                    ·
                     intro w'
                     go_simp
                     with_reducible rfl
                    rotate_left
                    ·
                     simp only [Act.put, zs, i64_w, i32_w]
                     rfl
                    refine pure_ (i := 20) (N := some 137) (v := ?_) (a' := ?_) (bm 21 4) rfl rfl (any_of HT_.out (by kernel_rfl)) (fun _ _ _ h => h) (Or.inl ⟨by rfl, ?_⟩) ?_ ?_
                    rotate_left
                    ·
                     intro w'
                     go_simp
                     with_reducible rfl
                    rotate_left
                    ·
                     simp only [Act.put, zs, i64_w, i32_w]
                     rfl
                    refine pure_ (i := 21) (N := some 138) (v := ?_) (a' := ?_) (bm 22 3) rfl rfl (any_of HT_.out (by kernel_rfl)) (fun _ _ _ h => h) (Or.inl ⟨by rfl, ?_⟩) ?_ ?_
                    rotate_left
                    ·
                     intro w'
                     go_simp
                     with_reducible rfl
                    rotate_left
                    ·
                     simp only [Act.put, zs, i64_w, i32_w]
                     rfl
                    refine pure_ (i := 22) (N := some 139) (v := ?_) (a' := ?_) (bm 23 2) rfl rfl (any_of HT_.out (by kernel_rfl)) (fun _ _ _ h => h) (Or.inl ⟨by rfl, ?_⟩) ?_ ?_
                    rotate_left
                    ·
                     intro w'
                     go_simp
                     with_reducible rfl
                    rotate_left
                    ·
                     simp only [Act.put, zs, i64_w, i32_w]
                     rfl
                    refine pure_ (i := 23) (N := some 140) (v := ?_) (a' := ?_) (bm 24 1) rfl rfl (any_of HT_.out (by kernel_rfl)) (fun _ _ _ h => h) (Or.inl ⟨by rfl, ?_⟩) ?_ ?_
                    rotate_left
                    ·
                     intro w'
                     go_simp
                     with_reducible rfl
                    rotate_left
                    ·
                     simp only [Act.put, zs, i64_w, i32_w]
                     rfl
                    refine pure_ (i := 24) (N := some 4) (v := ?_) (a' := ?_) (bm 25 0) rfl rfl (any_of HT_.out (by kernel_rfl)) (fun _ _ _ h => h) (Or.inl ⟨by rfl, ?_⟩) ?_ ?_
                    rotate_left
                    ·
                     intro w'
                     go_simp
                     with_reducible rfl
                    rotate_left
                    ·
                     simp only [Act.put, zs, i64_w, i32_w]
                     rfl
                    refine done_ (done_of HT_.out (by kernel_rfl)) ?_
                    try go_wp2
                    go_ret
                    exact ⟨by first | rfl | (simp [errW_none, errW_some] <;> rfl) | (simp [*, errW_none, errW_some] <;> rfl), by repeat (first | (with_reducible first | exact HB.out | apply below_alloc | apply pw_below_drewN | apply below_drew1 | refine below_set ?_ GE121.out) | exact HB.out)⟩
                   ·
                    rw [if_neg c66] at H
                    have c66b0 : (((rd_T52 t131 (l0.length : Int)).f1).toList == ([111, 116, 104, 101, 114] : List UInt8)) = false := beq_eq_false_iff_ne.mpr c66
                    have c66b1 : (((rd_T52 t131 (l0.length : Int)).f1).toList != ([111, 116, 104, 101, 114] : List UInt8)) = true := bne_iff_ne.mpr c66
                    obtain rfl := Option.some.inj H
                    try go_wp2
                    have n0_ := Aside0.mk (Kd.R_drew HO_6.out)
                    have n1_ := Aside0.mk (Kd.R_drew HO_9.out)
                    have n2_ := Aside0.mk (blk_drew BK121.out)
                    have n3_ := Aside0.mk (below_drew1 HB.out)
                    clear HO_6
                    clear HO_9
                    clear BK121
                    clear HB
                    have HO_6 := n0_
                    have HO_9 := n1_
                    have BK121 := n2_
                    have HB := n3_
                    clear n0_ n1_ n2_ n3_
                    obtain ⟨Ao71, co71, eo71⟩ := Kd.R_slice HO_6.out
                    (first | subst eo71 | (injection eo71 with f1_ f2_ f3_; have f4_ := f1_.symm; have f5_ := f3_.symm; clear f1_ f2_ f3_; subst f4_; subst f5_))
                    have p137 : 0 ≤ ((l0.length : Int) : Int) := of_decide_eq_true (by first | (with_reducible assumption) | assumption)
                    have q137 : (l0.length : Int) < (t124.length : Int) := of_decide_eq_true (by first | (with_reducible assumption) | assumption)
                    obtain ⟨ad137, e137, hx137_0, hx137_1, hx137_2⟩ := at_T52 (Kd.R_reads' HO_6.out).2.2 (l0.length : Int) p137 q137
                    cases e137
                    (try simp only [Go.IntWalk.toNatUp] at hx137_0)
                    (try simp only [Go.IntWalk.toNatUp] at hx137_1)
                    (try simp only [Go.IntWalk.toNatUp] at hx137_2)
                    replace p137 := eq_true p137
                    replace q137 := eq_true q137
                    obtain ⟨Ao72, co72, eo72⟩ := Kd.R_slice HO_9.out
                    (first | subst eo72 | (injection eo72 with f1_ f2_ f3_; have f4_ := f1_.symm; have f5_ := f3_.symm; clear f1_ f2_ f3_; subst f4_; subst f5_))
                    have p138 : 0 ≤ ((l0.length : Int) : Int) := of_decide_eq_true (by first | (with_reducible assumption) | assumption)
                    have q138 : (l0.length : Int) < (t131.length : Int) := of_decide_eq_true (by first | (with_reducible assumption) | assumption)
                    obtain ⟨ad138, e138, hx138_0, hx138_1, hx138_2⟩ := at_T52 (Kd.R_reads' HO_9.out).2.2 (l0.length : Int) p138 q138
                    cases e138
                    (try simp only [Go.IntWalk.toNatUp] at hx138_0)
                    (try simp only [Go.IntWalk.toNatUp] at hx138_1)
                    (try simp only [Go.IntWalk.toNatUp] at hx138_2)
                    replace p138 := eq_true p138
                    replace q138 := eq_true q138
                    refine start_ (n := 25) (S := fun w' => w'.cell? ⟨gb121, 0, none⟩ = some (.int .i64 a1_0) ∧ w'.cell? ⟨gb121, 1, none⟩ = some (.string a1_1) ∧ w'.cell? ⟨gb121, 2, none⟩ = some (.bool a1_2) ∧ w'.cell? (ad137.add (l0.length * 3)) = some (.int .i64 ((rd_T52 t124 (l0.length : Int)).f0)) ∧ w'.cell? ⟨(ad137.add (l0.length * 3)).block, (ad137.add (l0.length * 3)).off + 1, none⟩ = some (.string ((rd_T52 t124 (l0.length : Int)).f1)) ∧ w'.cell? ⟨(ad137.add (l0.length * 3)).block, (ad137.add (l0.length * 3)).off + 2, none⟩ = some (.bool ((rd_T52 t124 (l0.length : Int)).f2)) ∧ w'.cell? (ad138.add (l0.length * 3)) = some (.int .i64 ((rd_T52 t131 (l0.length : Int)).f0)) ∧ w'.cell? ⟨(ad138.add (l0.length * 3)).block, (ad138.add (l0.length * 3)).off + 1, none⟩ = some (.string ((rd_T52 t131 (l0.length : Int)).f1)) ∧ w'.cell? ⟨(ad138.add (l0.length * 3)).block, (ad138.add (l0.length * 3)).off + 2, none⟩ = some (.bool ((rd_T52 t131 (l0.length : Int)).f2))) (ds := []) (bm 0 25) (by kernel_rfl) rfl rfl ⟨(blk_cell BK121.out 0).trans rfl, (blk_cell BK121.out 1).trans rfl, (blk_cell BK121.out 2).trans rfl, hx137_0, hx137_1, hx137_2, hx138_0, hx138_1, hx138_2⟩ (fun hHeld => ?_); refine with_tabW mailbaglaw07_ChainPuts.tab19 mailbaglaw07_ChainPuts.bits19 (fun HT_ HW_ => ?_)
                    generalize wr.drew = w70 at HO_6 HO_9 BK121 HB hx137_0 hx137_1 hx137_2 hx138_0 hx138_1 hx138_2 hHeld ⊢
                    refine pure_ (i := 0) (N := some 117) (v := ?_) (a' := ?_) (bm 1 24) rfl rfl (any_of HT_.out (by kernel_rfl)) (fun _ _ _ h => h) (Or.inl ⟨by rfl, ?_⟩) ?_ ?_
                    rotate_left
                    ·
                     intro w'
                     go_simp
                     with_reducible rfl
                    rotate_left
                    ·
                     simp only [Act.put, zs, i64_w, i32_w]
                     rfl
                    refine pure_ (i := 1) (N := some 118) (v := ?_) (a' := ?_) (bm 2 23) rfl rfl (any_of HT_.out (by kernel_rfl)) (fun _ _ _ h => h) (Or.inl ⟨by rfl, ?_⟩) ?_ ?_
                    rotate_left
                    ·
                     intro w'
                     go_simp
                     with_reducible rfl
                    rotate_left
                    ·
                     simp only [Act.put, zs, i64_w, i32_w]
                     rfl
                    refine pure_ (i := 2) (N := some 119) (v := ?_) (a' := ?_) (bm 3 22) rfl rfl (any_of HT_.out (by kernel_rfl)) (fun _ _ _ h => h) (Or.inl ⟨by rfl, ?_⟩) ?_ ?_
                    rotate_left
                    ·
                     intro w'
                     go_simp
                     with_reducible rfl
                    rotate_left
                    ·
                     simp only [Act.put, zs, i64_w, i32_w]
                     rfl
                    refine pure_ (i := 3) (N := some 120) (v := ?_) (a' := ?_) (bm 4 21) rfl rfl (any_of HT_.out (by kernel_rfl)) (fun _ _ _ h => h) (Or.inl ⟨by rfl, ?_⟩) ?_ ?_
                    rotate_left
                    ·
                     intro w'
                     go_simp
                     with_reducible rfl
                    rotate_left
                    ·
                     simp only [Act.put, zs, i64_w, i32_w]
                     rfl
                    refine pure_ (i := 4) (N := some 121) (v := ?_) (a' := ?_) (bm 5 20) rfl rfl (any_of HT_.out (by kernel_rfl)) (fun _ _ _ h => h) (Or.inl ⟨by rfl, ?_⟩) ?_ ?_
                    rotate_left
                    ·
                     intro w'
                     go_simp
                     with_reducible rfl
                    rotate_left
                    ·
                     simp only [Act.put, zs, i64_w, i32_w]
                     rfl
                    refine pure_ (i := 5) (N := some 122) (v := ?_) (a' := ?_) (bm 6 19) rfl rfl (any_of HT_.out (by kernel_rfl)) (fun _ _ _ h => h) (Or.inl ⟨by rfl, ?_⟩) ?_ ?_
                    rotate_left
                    ·
                     intro w'
                     go_simp
                     with_reducible rfl
                    rotate_left
                    ·
                     simp only [Act.put, zs, i64_w, i32_w]
                     rfl
                    refine take_ (i := 6) (N := some 123) (v := ?_) (a' := ?_) (bm 7 18) rfl rfl (take_ofW HT_.out HW_.out (by kernel_rfl)) (fun _ _ _ h => h) (Or.inl ⟨by rfl, ?_⟩) hHeld ?_ ?_
                    rotate_left
                    ·
                     rintro w' ⟨s0, s1, s2, s3, s4, s5, s6, s7, s8⟩
                     go_simp
                     with_reducible rfl
                    rotate_left
                    ·
                     simp only [Act.put, zs, i64_w, i32_w]
                     rfl
                    refine take_ (i := 7) (N := some 124) (v := ?_) (a' := ?_) (bm 8 17) rfl rfl (take_ofW HT_.out HW_.out (by kernel_rfl)) (fun _ _ _ h => h) (Or.inl ⟨by rfl, ?_⟩) hHeld ?_ ?_
                    rotate_left
                    ·
                     rintro w' ⟨s0, s1, s2, s3, s4, s5, s6, s7, s8⟩
                     go_simp
                     with_reducible rfl
                    rotate_left
                    ·
                     simp only [Act.put, zs, i64_w, i32_w]
                     rfl
                    refine pure_ (i := 8) (N := some 125) (v := ?_) (a' := ?_) (bm 9 16) rfl rfl (any_of HT_.out (by kernel_rfl)) (fun _ _ _ h => h) (Or.inl ⟨by rfl, ?_⟩) ?_ ?_
                    rotate_left
                    ·
                     intro w'
                     go_simp
                     with_reducible rfl
                    rotate_left
                    ·
                     simp only [Act.put, zs, i64_w, i32_w]
                     rfl
                    refine pure_ (i := 9) (N := some 126) (v := ?_) (a' := ?_) (bm 10 15) rfl rfl (any_of HT_.out (by kernel_rfl)) (fun _ _ _ h => h) (Or.inl ⟨by rfl, ?_⟩) ?_ ?_
                    rotate_left
                    ·
                     intro w'
                     go_simp
                     with_reducible rfl
                    rotate_left
                    ·
                     simp only [Act.put, zs, i64_w, i32_w]
                     rfl
                    refine pure_ (i := 10) (N := some 127) (v := ?_) (a' := ?_) (bm 11 14) rfl rfl (any_of HT_.out (by kernel_rfl)) (fun _ _ _ h => h) (Or.inl ⟨by rfl, ?_⟩) ?_ ?_
                    rotate_left
                    ·
                     intro w'
                     go_simp
                     with_reducible rfl
                    rotate_left
                    ·
                     simp only [Act.put, zs, i64_w, i32_w]
                     rfl
                    refine pure_ (i := 11) (N := some 128) (v := ?_) (a' := ?_) (bm 12 13) rfl rfl (any_of HT_.out (by kernel_rfl)) (fun _ _ _ h => h) (Or.inl ⟨by rfl, ?_⟩) ?_ ?_
                    rotate_left
                    ·
                     intro w'
                     go_simp
                     with_reducible rfl
                    rotate_left
                    ·
                     simp only [Act.put, zs, i64_w, i32_w]
                     rfl
                    refine pure_ (i := 12) (N := some 129) (v := ?_) (a' := ?_) (bm 13 12) rfl rfl (any_of HT_.out (by kernel_rfl)) (fun _ _ _ h => h) (Or.inl ⟨by rfl, ?_⟩) ?_ ?_
                    rotate_left
                    ·
                     intro w'
                     go_simp
                     with_reducible rfl
                    rotate_left
                    ·
                     simp only [Act.put, zs, i64_w, i32_w]
                     rfl
                    refine pure_ (i := 13) (N := some 130) (v := ?_) (a' := ?_) (bm 14 11) rfl rfl (any_of HT_.out (by kernel_rfl)) (fun _ _ _ h => h) (Or.inl ⟨by rfl, ?_⟩) ?_ ?_
                    rotate_left
                    ·
                     intro w'
                     go_simp
                     with_reducible rfl
                    rotate_left
                    ·
                     simp only [Act.put, zs, i64_w, i32_w]
                     rfl
                    refine pure_ (i := 14) (N := some 131) (v := ?_) (a' := ?_) (bm 15 10) rfl rfl (any_of HT_.out (by kernel_rfl)) (fun _ _ _ h => h) (Or.inl ⟨by rfl, ?_⟩) ?_ ?_
                    rotate_left
                    ·
                     intro w'
                     go_simp
                     with_reducible rfl
                    rotate_left
                    ·
                     simp only [Act.put, zs, i64_w, i32_w]
                     rfl
                    refine take_ (i := 15) (N := some 132) (v := ?_) (a' := ?_) (bm 16 9) rfl rfl (take_ofW HT_.out HW_.out (by kernel_rfl)) (fun _ _ _ h => h) (Or.inl ⟨by rfl, ?_⟩) hHeld ?_ ?_
                    rotate_left
                    ·
                     rintro w' ⟨s0, s1, s2, s3, s4, s5, s6, s7, s8⟩
                     go_simp
                     with_reducible rfl
                    rotate_left
                    ·
                     simp only [Act.put, zs, i64_w, i32_w]
                     rfl
                    refine pure_ (i := 16) (N := some 133) (v := ?_) (a' := ?_) (bm 17 8) rfl rfl (any_of HT_.out (by kernel_rfl)) (fun _ _ _ h => h) (Or.inl ⟨by rfl, ?_⟩) ?_ ?_
                    rotate_left
                    ·
                     intro w'
                     go_simp
                     with_reducible rfl
                    rotate_left
                    ·
                     simp only [Act.put, zs, i64_w, i32_w]
                     rfl
                    refine pure_ (i := 17) (N := some 134) (v := ?_) (a' := ?_) (bm 18 7) rfl rfl (any_of HT_.out (by kernel_rfl)) (fun _ _ _ h => h) (Or.inl ⟨by rfl, ?_⟩) ?_ ?_
                    rotate_left
                    ·
                     intro w'
                     go_simp
                     with_reducible rfl
                    rotate_left
                    ·
                     simp only [Act.put, zs, i64_w, i32_w]
                     rfl
                    refine pure_ (i := 18) (N := some 135) (v := ?_) (a' := ?_) (bm 19 6) rfl rfl (any_of HT_.out (by kernel_rfl)) (fun _ _ _ h => h) (Or.inl ⟨by rfl, ?_⟩) ?_ ?_
                    rotate_left
                    ·
                     intro w'
                     go_simp
                     with_reducible rfl
                    rotate_left
                    ·
                     simp only [Act.put, zs, i64_w, i32_w]
                     rfl
                    refine pure_ (i := 19) (N := some 136) (v := undef) (a' := ?_) (bm 20 5) rfl rfl (any_of HT_.out (by kernel_rfl)) (fun _ _ _ h => h) (Or.inr ⟨by rfl, rfl⟩) ?_ ?_
                    rotate_left
                    ·
                     simp only [Act.put, zs, i64_w, i32_w]
                     rfl
                    refine pure_ (i := 20) (N := some 137) (v := undef) (a' := ?_) (bm 21 4) rfl rfl (any_of HT_.out (by kernel_rfl)) (fun _ _ _ h => h) (Or.inr ⟨by rfl, rfl⟩) ?_ ?_
                    rotate_left
                    ·
                     simp only [Act.put, zs, i64_w, i32_w]
                     rfl
                    refine pure_ (i := 21) (N := some 138) (v := undef) (a' := ?_) (bm 22 3) rfl rfl (any_of HT_.out (by kernel_rfl)) (fun _ _ _ h => h) (Or.inr ⟨by rfl, rfl⟩) ?_ ?_
                    rotate_left
                    ·
                     simp only [Act.put, zs, i64_w, i32_w]
                     rfl
                    refine pure_ (i := 22) (N := some 139) (v := undef) (a' := ?_) (bm 23 2) rfl rfl (any_of HT_.out (by kernel_rfl)) (fun _ _ _ h => h) (Or.inr ⟨by rfl, rfl⟩) ?_ ?_
                    rotate_left
                    ·
                     simp only [Act.put, zs, i64_w, i32_w]
                     rfl
                    refine pure_ (i := 23) (N := some 140) (v := ?_) (a' := ?_) (bm 24 1) rfl rfl (any_of HT_.out (by kernel_rfl)) (fun _ _ _ h => h) (Or.inl ⟨by rfl, ?_⟩) ?_ ?_
                    rotate_left
                    ·
                     intro w'
                     go_simp
                     with_reducible rfl
                    rotate_left
                    ·
                     simp only [Act.put, zs, i64_w, i32_w]
                     rfl
                    refine pure_ (i := 24) (N := some 4) (v := ?_) (a' := ?_) (bm 25 0) rfl rfl (any_of HT_.out (by kernel_rfl)) (fun _ _ _ h => h) (Or.inl ⟨by rfl, ?_⟩) ?_ ?_
                    rotate_left
                    ·
                     intro w'
                     go_simp
                     with_reducible rfl
                    rotate_left
                    ·
                     simp only [Act.put, zs, i64_w, i32_w]
                     rfl
                    refine done_ (done_of HT_.out (by kernel_rfl)) ?_
                    try go_wp2
                    go_ret
                    exact ⟨by first | rfl | (simp [errW_none, errW_some] <;> rfl) | (simp [*, errW_none, errW_some] <;> rfl), by repeat (first | (with_reducible first | exact HB.out | apply below_alloc | apply pw_below_drewN | apply below_drew1 | refine below_set ?_ GE121.out) | exact HB.out)⟩
                  ·
                   rw [if_neg c65] at H
                   exact absurd H (by simp)
                 ·
                  rw [if_neg c64] at H
                  have c64b0 : (((rd_T52 t124 (l0.length : Int)).f0) == a1_0 && ((((rd_T52 t124 (l0.length : Int)).f1).toList) == a1_1.toList && (((rd_T52 t124 (l0.length : Int)).f2) == a1_2))) = false := by simpa using c64
                  (try (have c64b1 : decide (((rd_T52 t124 (l0.length : Int)).f0) = a1_0 && ((((rd_T52 t124 (l0.length : Int)).f1).toList) == a1_1.toList && (((rd_T52 t124 (l0.length : Int)).f2) == a1_2))) = false := by simpa using c64))
                  (try (have c64b2 : (((rd_T52 t124 (l0.length : Int)).f0) == a1_0 && ((((rd_T52 t124 (l0.length : Int)).f1).toList) == a1_1.toList && (((rd_T52 t124 (l0.length : Int)).f2) == a1_2))) = false := by simpa using c64))
                  (try (have c64b3 : ¬ (((rd_T52 t124 (l0.length : Int)).f0) = a1_0 && ((((rd_T52 t124 (l0.length : Int)).f1).toList) == a1_1.toList && (((rd_T52 t124 (l0.length : Int)).f2) == a1_2))) := by simpa using c64))
                  clear c64
                  obtain rfl := Option.some.inj H
                  try go_wp2
                  have n0_ := Aside0.mk (Kd.R_drew HO_6.out)
                  have n1_ := Aside0.mk (Kd.R_drew HO_9.out)
                  have n2_ := Aside0.mk (blk_drew BK121.out)
                  have n3_ := Aside0.mk (below_drew1 HB.out)
                  clear HO_6
                  clear HO_9
                  clear BK121
                  clear HB
                  have HO_6 := n0_
                  have HO_9 := n1_
                  have BK121 := n2_
                  have HB := n3_
                  clear n0_ n1_ n2_ n3_
                  obtain ⟨Ao74, co74, eo74⟩ := Kd.R_slice HO_6.out
                  (first | subst eo74 | (injection eo74 with f1_ f2_ f3_; have f4_ := f1_.symm; have f5_ := f3_.symm; clear f1_ f2_ f3_; subst f4_; subst f5_))
                  have p137 : 0 ≤ ((l0.length : Int) : Int) := of_decide_eq_true (by first | (with_reducible assumption) | assumption)
                  have q137 : (l0.length : Int) < (t124.length : Int) := of_decide_eq_true (by first | (with_reducible assumption) | assumption)
                  obtain ⟨ad137, e137, hx137_0, hx137_1, hx137_2⟩ := at_T52 (Kd.R_reads' HO_6.out).2.2 (l0.length : Int) p137 q137
                  cases e137
                  (try simp only [Go.IntWalk.toNatUp] at hx137_0)
                  (try simp only [Go.IntWalk.toNatUp] at hx137_1)
                  (try simp only [Go.IntWalk.toNatUp] at hx137_2)
                  replace p137 := eq_true p137
                  replace q137 := eq_true q137
                  refine start_ (n := 25) (S := fun w' => w'.cell? ⟨gb121, 0, none⟩ = some (.int .i64 a1_0) ∧ w'.cell? ⟨gb121, 1, none⟩ = some (.string a1_1) ∧ w'.cell? ⟨gb121, 2, none⟩ = some (.bool a1_2) ∧ w'.cell? (ad137.add (l0.length * 3)) = some (.int .i64 ((rd_T52 t124 (l0.length : Int)).f0)) ∧ w'.cell? ⟨(ad137.add (l0.length * 3)).block, (ad137.add (l0.length * 3)).off + 1, none⟩ = some (.string ((rd_T52 t124 (l0.length : Int)).f1)) ∧ w'.cell? ⟨(ad137.add (l0.length * 3)).block, (ad137.add (l0.length * 3)).off + 2, none⟩ = some (.bool ((rd_T52 t124 (l0.length : Int)).f2))) (ds := []) (bm 0 25) (by kernel_rfl) rfl rfl ⟨(blk_cell BK121.out 0).trans rfl, (blk_cell BK121.out 1).trans rfl, (blk_cell BK121.out 2).trans rfl, hx137_0, hx137_1, hx137_2⟩ (fun hHeld => ?_); refine with_tabW mailbaglaw07_ChainPuts.tab19 mailbaglaw07_ChainPuts.bits19 (fun HT_ HW_ => ?_)
                  generalize wr.drew = w73 at HO_6 HO_9 BK121 HB hx137_0 hx137_1 hx137_2 hHeld ⊢
                  refine pure_ (i := 0) (N := some 117) (v := ?_) (a' := ?_) (bm 1 24) rfl rfl (any_of HT_.out (by kernel_rfl)) (fun _ _ _ h => h) (Or.inl ⟨by rfl, ?_⟩) ?_ ?_
                  rotate_left
                  ·
                   intro w'
                   go_simp
                   with_reducible rfl
                  rotate_left
                  ·
                   simp only [Act.put, zs, i64_w, i32_w]
                   rfl
                  refine pure_ (i := 1) (N := some 118) (v := ?_) (a' := ?_) (bm 2 23) rfl rfl (any_of HT_.out (by kernel_rfl)) (fun _ _ _ h => h) (Or.inl ⟨by rfl, ?_⟩) ?_ ?_
                  rotate_left
                  ·
                   intro w'
                   go_simp
                   with_reducible rfl
                  rotate_left
                  ·
                   simp only [Act.put, zs, i64_w, i32_w]
                   rfl
                  refine pure_ (i := 2) (N := some 119) (v := ?_) (a' := ?_) (bm 3 22) rfl rfl (any_of HT_.out (by kernel_rfl)) (fun _ _ _ h => h) (Or.inl ⟨by rfl, ?_⟩) ?_ ?_
                  rotate_left
                  ·
                   intro w'
                   go_simp
                   with_reducible rfl
                  rotate_left
                  ·
                   simp only [Act.put, zs, i64_w, i32_w]
                   rfl
                  refine pure_ (i := 3) (N := some 120) (v := ?_) (a' := ?_) (bm 4 21) rfl rfl (any_of HT_.out (by kernel_rfl)) (fun _ _ _ h => h) (Or.inl ⟨by rfl, ?_⟩) ?_ ?_
                  rotate_left
                  ·
                   intro w'
                   go_simp
                   with_reducible rfl
                  rotate_left
                  ·
                   simp only [Act.put, zs, i64_w, i32_w]
                   rfl
                  refine pure_ (i := 4) (N := some 121) (v := ?_) (a' := ?_) (bm 5 20) rfl rfl (any_of HT_.out (by kernel_rfl)) (fun _ _ _ h => h) (Or.inl ⟨by rfl, ?_⟩) ?_ ?_
                  rotate_left
                  ·
                   intro w'
                   go_simp
                   with_reducible rfl
                  rotate_left
                  ·
                   simp only [Act.put, zs, i64_w, i32_w]
                   rfl
                  refine pure_ (i := 5) (N := some 122) (v := ?_) (a' := ?_) (bm 6 19) rfl rfl (any_of HT_.out (by kernel_rfl)) (fun _ _ _ h => h) (Or.inl ⟨by rfl, ?_⟩) ?_ ?_
                  rotate_left
                  ·
                   intro w'
                   go_simp
                   with_reducible rfl
                  rotate_left
                  ·
                   simp only [Act.put, zs, i64_w, i32_w]
                   rfl
                  refine take_ (i := 6) (N := some 123) (v := ?_) (a' := ?_) (bm 7 18) rfl rfl (take_ofW HT_.out HW_.out (by kernel_rfl)) (fun _ _ _ h => h) (Or.inl ⟨by rfl, ?_⟩) hHeld ?_ ?_
                  rotate_left
                  ·
                   rintro w' ⟨s0, s1, s2, s3, s4, s5⟩
                   go_simp
                   with_reducible rfl
                  rotate_left
                  ·
                   simp only [Act.put, zs, i64_w, i32_w]
                   rfl
                  refine take_ (i := 7) (N := some 124) (v := ?_) (a' := ?_) (bm 8 17) rfl rfl (take_ofW HT_.out HW_.out (by kernel_rfl)) (fun _ _ _ h => h) (Or.inl ⟨by rfl, ?_⟩) hHeld ?_ ?_
                  rotate_left
                  ·
                   rintro w' ⟨s0, s1, s2, s3, s4, s5⟩
                   go_simp
                   with_reducible rfl
                  rotate_left
                  ·
                   simp only [Act.put, zs, i64_w, i32_w]
                   rfl
                  refine pure_ (i := 8) (N := some 125) (v := ?_) (a' := ?_) (bm 9 16) rfl rfl (any_of HT_.out (by kernel_rfl)) (fun _ _ _ h => h) (Or.inl ⟨by rfl, ?_⟩) ?_ ?_
                  rotate_left
                  ·
                   intro w'
                   go_simp
                   with_reducible rfl
                  rotate_left
                  ·
                   simp only [Act.put, zs, i64_w, i32_w]
                   rfl
                  refine pure_ (i := 9) (N := some 126) (v := ?_) (a' := ?_) (bm 10 15) rfl rfl (any_of HT_.out (by kernel_rfl)) (fun _ _ _ h => h) (Or.inl ⟨by rfl, ?_⟩) ?_ ?_
                  rotate_left
                  ·
                   intro w'
                   go_simp
                   with_reducible rfl
                  rotate_left
                  ·
                   simp only [Act.put, zs, i64_w, i32_w]
                   rfl
                  refine pure_ (i := 10) (N := some 127) (v := ?_) (a' := ?_) (bm 11 14) rfl rfl (any_of HT_.out (by kernel_rfl)) (fun _ _ _ h => h) (Or.inl ⟨by rfl, ?_⟩) ?_ ?_
                  rotate_left
                  ·
                   intro w'
                   go_simp
                   with_reducible rfl
                  rotate_left
                  ·
                   simp only [Act.put, zs, i64_w, i32_w]
                   rfl
                  refine pure_ (i := 11) (N := some 128) (v := undef) (a' := ?_) (bm 12 13) rfl rfl (any_of HT_.out (by kernel_rfl)) (fun _ _ _ h => h) (Or.inr ⟨by rfl, rfl⟩) ?_ ?_
                  rotate_left
                  ·
                   simp only [Act.put, zs, i64_w, i32_w]
                   rfl
                  refine pure_ (i := 12) (N := some 129) (v := undef) (a' := ?_) (bm 13 12) rfl rfl (any_of HT_.out (by kernel_rfl)) (fun _ _ _ h => h) (Or.inr ⟨by rfl, rfl⟩) ?_ ?_
                  rotate_left
                  ·
                   simp only [Act.put, zs, i64_w, i32_w]
                   rfl
                  refine pure_ (i := 13) (N := some 130) (v := undef) (a' := ?_) (bm 14 11) rfl rfl (any_of HT_.out (by kernel_rfl)) (fun _ _ _ h => h) (Or.inr ⟨by rfl, rfl⟩) ?_ ?_
                  rotate_left
                  ·
                   simp only [Act.put, zs, i64_w, i32_w]
                   rfl
                  refine pure_ (i := 14) (N := some 131) (v := undef) (a' := ?_) (bm 15 10) rfl rfl (any_of HT_.out (by kernel_rfl)) (fun _ _ _ h => h) (Or.inr ⟨by rfl, rfl⟩) ?_ ?_
                  rotate_left
                  ·
                   simp only [Act.put, zs, i64_w, i32_w]
                   rfl
                  refine pure_ (i := 15) (N := some 132) (v := undef) (a' := ?_) (bm 16 9) rfl rfl (any_of HT_.out (by kernel_rfl)) (fun _ _ _ h => h) (Or.inr ⟨by rfl, rfl⟩) ?_ ?_
                  rotate_left
                  ·
                   simp only [Act.put, zs, i64_w, i32_w]
                   rfl
                  refine pure_ (i := 16) (N := some 133) (v := undef) (a' := ?_) (bm 17 8) rfl rfl (any_of HT_.out (by kernel_rfl)) (fun _ _ _ h => h) (Or.inr ⟨by rfl, rfl⟩) ?_ ?_
                  rotate_left
                  ·
                   simp only [Act.put, zs, i64_w, i32_w]
                   rfl
                  refine pure_ (i := 17) (N := some 134) (v := ?_) (a' := ?_) (bm 18 7) rfl rfl (any_of HT_.out (by kernel_rfl)) (fun _ _ _ h => h) (Or.inl ⟨by rfl, ?_⟩) ?_ ?_
                  rotate_left
                  ·
                   intro w'
                   go_simp
                   with_reducible rfl
                  rotate_left
                  ·
                   simp only [Act.put, zs, i64_w, i32_w]
                   rfl
                  refine pure_ (i := 18) (N := some 135) (v := ?_) (a' := ?_) (bm 19 6) rfl rfl (any_of HT_.out (by kernel_rfl)) (fun _ _ _ h => h) (Or.inl ⟨by rfl, ?_⟩) ?_ ?_
                  rotate_left
                  ·
                   intro w'
                   go_simp
                   with_reducible rfl
                  rotate_left
                  ·
                   simp only [Act.put, zs, i64_w, i32_w]
                   rfl
                  refine pure_ (i := 19) (N := some 136) (v := undef) (a' := ?_) (bm 20 5) rfl rfl (any_of HT_.out (by kernel_rfl)) (fun _ _ _ h => h) (Or.inr ⟨by rfl, rfl⟩) ?_ ?_
                  rotate_left
                  ·
                   simp only [Act.put, zs, i64_w, i32_w]
                   rfl
                  refine pure_ (i := 20) (N := some 137) (v := undef) (a' := ?_) (bm 21 4) rfl rfl (any_of HT_.out (by kernel_rfl)) (fun _ _ _ h => h) (Or.inr ⟨by rfl, rfl⟩) ?_ ?_
                  rotate_left
                  ·
                   simp only [Act.put, zs, i64_w, i32_w]
                   rfl
                  refine pure_ (i := 21) (N := some 138) (v := undef) (a' := ?_) (bm 22 3) rfl rfl (any_of HT_.out (by kernel_rfl)) (fun _ _ _ h => h) (Or.inr ⟨by rfl, rfl⟩) ?_ ?_
                  rotate_left
                  ·
                   simp only [Act.put, zs, i64_w, i32_w]
                   rfl
                  refine pure_ (i := 22) (N := some 139) (v := undef) (a' := ?_) (bm 23 2) rfl rfl (any_of HT_.out (by kernel_rfl)) (fun _ _ _ h => h) (Or.inr ⟨by rfl, rfl⟩) ?_ ?_
                  rotate_left
                  ·
                   simp only [Act.put, zs, i64_w, i32_w]
                   rfl
                  refine pure_ (i := 23) (N := some 140) (v := ?_) (a' := ?_) (bm 24 1) rfl rfl (any_of HT_.out (by kernel_rfl)) (fun _ _ _ h => h) (Or.inl ⟨by rfl, ?_⟩) ?_ ?_
                  rotate_left
                  ·
                   intro w'
                   go_simp
                   with_reducible rfl
                  rotate_left
                  ·
                   simp only [Act.put, zs, i64_w, i32_w]
                   rfl
                  refine pure_ (i := 24) (N := some 4) (v := ?_) (a' := ?_) (bm 25 0) rfl rfl (any_of HT_.out (by kernel_rfl)) (fun _ _ _ h => h) (Or.inl ⟨by rfl, ?_⟩) ?_ ?_
                  rotate_left
                  ·
                   intro w'
                   go_simp
                   with_reducible rfl
                  rotate_left
                  ·
                   simp only [Act.put, zs, i64_w, i32_w]
                   rfl
                  refine done_ (done_of HT_.out (by kernel_rfl)) ?_
                  try go_wp2
                  go_ret
                  exact ⟨by first | rfl | (simp [errW_none, errW_some] <;> rfl) | (simp [*, errW_none, errW_some] <;> rfl), by repeat (first | (with_reducible first | exact HB.out | apply below_alloc | apply pw_below_drewN | apply below_drew1 | refine below_set ?_ GE121.out) | exact HB.out)⟩
                ·
                 rw [if_neg c63] at H
                 exact absurd H (by simp)
               ·
                rw [if_neg c62] at H
                exact absurd H (by simp)
              ·
               rw [if_neg c61] at H
               have c61b0 : (t134 == 0) = false := beq_eq_false_iff_ne.mpr c61
               have c61b1 : (t134 != 0) = true := bne_iff_ne.mpr c61
               obtain rfl := Option.some.inj H
               try go_wp2
               have n0_ := Aside0.mk (Kd.R_drew HO_6.out)
               have n1_ := Aside0.mk (Kd.R_drew HO_9.out)
               have n2_ := Aside0.mk (blk_drew BK121.out)
               have n3_ := Aside0.mk (below_drew1 HB.out)
               clear HO_6
               clear HO_9
               clear BK121
               clear HB
               have HO_6 := n0_
               have HO_9 := n1_
               have BK121 := n2_
               have HB := n3_
               clear n0_ n1_ n2_ n3_
               refine start_ (n := 25) (S := fun w' => True) (ds := []) (bm 0 25) (by kernel_rfl) rfl rfl trivial (fun hHeld => ?_); refine with_tabW mailbaglaw07_ChainPuts.tab19 mailbaglaw07_ChainPuts.bits19 (fun HT_ HW_ => ?_)
               generalize wr.drew = w75 at HO_6 HO_9 BK121 HB hHeld ⊢
               refine pure_ (i := 0) (N := some 117) (v := ?_) (a' := ?_) (bm 1 24) rfl rfl (any_of HT_.out (by kernel_rfl)) (fun _ _ _ h => h) (Or.inl ⟨by rfl, ?_⟩) ?_ ?_
               rotate_left
               ·
                intro w'
                go_simp
                with_reducible rfl
               rotate_left
               ·
                simp only [Act.put, zs, i64_w, i32_w]
                rfl
               refine pure_ (i := 1) (N := some 118) (v := ?_) (a' := ?_) (bm 2 23) rfl rfl (any_of HT_.out (by kernel_rfl)) (fun _ _ _ h => h) (Or.inl ⟨by rfl, ?_⟩) ?_ ?_
               rotate_left
               ·
                intro w'
                go_simp
                with_reducible rfl
               rotate_left
               ·
                simp only [Act.put, zs, i64_w, i32_w]
                rfl
               refine pure_ (i := 2) (N := some 119) (v := ?_) (a' := ?_) (bm 3 22) rfl rfl (any_of HT_.out (by kernel_rfl)) (fun _ _ _ h => h) (Or.inl ⟨by rfl, ?_⟩) ?_ ?_
               rotate_left
               ·
                intro w'
                go_simp
                with_reducible rfl
               rotate_left
               ·
                simp only [Act.put, zs, i64_w, i32_w]
                rfl
               refine pure_ (i := 3) (N := some 120) (v := undef) (a' := ?_) (bm 4 21) rfl rfl (any_of HT_.out (by kernel_rfl)) (fun _ _ _ h => h) (Or.inr ⟨by rfl, rfl⟩) ?_ ?_
               rotate_left
               ·
                simp only [Act.put, zs, i64_w, i32_w]
                rfl
               refine pure_ (i := 4) (N := some 121) (v := undef) (a' := ?_) (bm 5 20) rfl rfl (any_of HT_.out (by kernel_rfl)) (fun _ _ _ h => h) (Or.inr ⟨by rfl, rfl⟩) ?_ ?_
               rotate_left
               ·
                simp only [Act.put, zs, i64_w, i32_w]
                rfl
               refine pure_ (i := 5) (N := some 122) (v := undef) (a' := ?_) (bm 6 19) rfl rfl (any_of HT_.out (by kernel_rfl)) (fun _ _ _ h => h) (Or.inr ⟨by rfl, rfl⟩) ?_ ?_
               rotate_left
               ·
                simp only [Act.put, zs, i64_w, i32_w]
                rfl
               refine pure_ (i := 6) (N := some 123) (v := undef) (a' := ?_) (bm 7 18) rfl rfl (any_of HT_.out (by kernel_rfl)) (fun _ _ _ h => h) (Or.inr ⟨by rfl, rfl⟩) ?_ ?_
               rotate_left
               ·
                simp only [Act.put, zs, i64_w, i32_w]
                rfl
               refine pure_ (i := 7) (N := some 124) (v := undef) (a' := ?_) (bm 8 17) rfl rfl (any_of HT_.out (by kernel_rfl)) (fun _ _ _ h => h) (Or.inr ⟨by rfl, rfl⟩) ?_ ?_
               rotate_left
               ·
                simp only [Act.put, zs, i64_w, i32_w]
                rfl
               refine pure_ (i := 8) (N := some 125) (v := undef) (a' := ?_) (bm 9 16) rfl rfl (any_of HT_.out (by kernel_rfl)) (fun _ _ _ h => h) (Or.inr ⟨by rfl, rfl⟩) ?_ ?_
               rotate_left
               ·
                simp only [Act.put, zs, i64_w, i32_w]
                rfl
               refine pure_ (i := 9) (N := some 126) (v := ?_) (a' := ?_) (bm 10 15) rfl rfl (any_of HT_.out (by kernel_rfl)) (fun _ _ _ h => h) (Or.inl ⟨by rfl, ?_⟩) ?_ ?_
               rotate_left
               ·
                intro w'
                go_simp
                with_reducible rfl
               rotate_left
               ·
                simp only [Act.put, zs, i64_w, i32_w]
                rfl
               refine pure_ (i := 10) (N := some 127) (v := ?_) (a' := ?_) (bm 11 14) rfl rfl (any_of HT_.out (by kernel_rfl)) (fun _ _ _ h => h) (Or.inl ⟨by rfl, ?_⟩) ?_ ?_
               rotate_left
               ·
                intro w'
                go_simp
                with_reducible rfl
               rotate_left
               ·
                simp only [Act.put, zs, i64_w, i32_w]
                rfl
               refine pure_ (i := 11) (N := some 128) (v := undef) (a' := ?_) (bm 12 13) rfl rfl (any_of HT_.out (by kernel_rfl)) (fun _ _ _ h => h) (Or.inr ⟨by rfl, rfl⟩) ?_ ?_
               rotate_left
               ·
                simp only [Act.put, zs, i64_w, i32_w]
                rfl
               refine pure_ (i := 12) (N := some 129) (v := undef) (a' := ?_) (bm 13 12) rfl rfl (any_of HT_.out (by kernel_rfl)) (fun _ _ _ h => h) (Or.inr ⟨by rfl, rfl⟩) ?_ ?_
               rotate_left
               ·
                simp only [Act.put, zs, i64_w, i32_w]
                rfl
               refine pure_ (i := 13) (N := some 130) (v := undef) (a' := ?_) (bm 14 11) rfl rfl (any_of HT_.out (by kernel_rfl)) (fun _ _ _ h => h) (Or.inr ⟨by rfl, rfl⟩) ?_ ?_
               rotate_left
               ·
                simp only [Act.put, zs, i64_w, i32_w]
                rfl
               refine pure_ (i := 14) (N := some 131) (v := undef) (a' := ?_) (bm 15 10) rfl rfl (any_of HT_.out (by kernel_rfl)) (fun _ _ _ h => h) (Or.inr ⟨by rfl, rfl⟩) ?_ ?_
               rotate_left
               ·
                simp only [Act.put, zs, i64_w, i32_w]
                rfl
               refine pure_ (i := 15) (N := some 132) (v := undef) (a' := ?_) (bm 16 9) rfl rfl (any_of HT_.out (by kernel_rfl)) (fun _ _ _ h => h) (Or.inr ⟨by rfl, rfl⟩) ?_ ?_
               rotate_left
               ·
                simp only [Act.put, zs, i64_w, i32_w]
                rfl
               refine pure_ (i := 16) (N := some 133) (v := undef) (a' := ?_) (bm 17 8) rfl rfl (any_of HT_.out (by kernel_rfl)) (fun _ _ _ h => h) (Or.inr ⟨by rfl, rfl⟩) ?_ ?_
               rotate_left
               ·
                simp only [Act.put, zs, i64_w, i32_w]
                rfl
               refine pure_ (i := 17) (N := some 134) (v := ?_) (a' := ?_) (bm 18 7) rfl rfl (any_of HT_.out (by kernel_rfl)) (fun _ _ _ h => h) (Or.inl ⟨by rfl, ?_⟩) ?_ ?_
               rotate_left
               ·
                intro w'
                go_simp
                with_reducible rfl
               rotate_left
               ·
                simp only [Act.put, zs, i64_w, i32_w]
                rfl
               refine pure_ (i := 18) (N := some 135) (v := ?_) (a' := ?_) (bm 19 6) rfl rfl (any_of HT_.out (by kernel_rfl)) (fun _ _ _ h => h) (Or.inl ⟨by rfl, ?_⟩) ?_ ?_
               rotate_left
               ·
                intro w'
                go_simp
                with_reducible rfl
               rotate_left
               ·
                simp only [Act.put, zs, i64_w, i32_w]
                rfl
               refine pure_ (i := 19) (N := some 136) (v := undef) (a' := ?_) (bm 20 5) rfl rfl (any_of HT_.out (by kernel_rfl)) (fun _ _ _ h => h) (Or.inr ⟨by rfl, rfl⟩) ?_ ?_
               rotate_left
               ·
                simp only [Act.put, zs, i64_w, i32_w]
                rfl
               refine pure_ (i := 20) (N := some 137) (v := undef) (a' := ?_) (bm 21 4) rfl rfl (any_of HT_.out (by kernel_rfl)) (fun _ _ _ h => h) (Or.inr ⟨by rfl, rfl⟩) ?_ ?_
               rotate_left
               ·
                simp only [Act.put, zs, i64_w, i32_w]
                rfl
               refine pure_ (i := 21) (N := some 138) (v := undef) (a' := ?_) (bm 22 3) rfl rfl (any_of HT_.out (by kernel_rfl)) (fun _ _ _ h => h) (Or.inr ⟨by rfl, rfl⟩) ?_ ?_
               rotate_left
               ·
                simp only [Act.put, zs, i64_w, i32_w]
                rfl
               refine pure_ (i := 22) (N := some 139) (v := undef) (a' := ?_) (bm 23 2) rfl rfl (any_of HT_.out (by kernel_rfl)) (fun _ _ _ h => h) (Or.inr ⟨by rfl, rfl⟩) ?_ ?_
               rotate_left
               ·
                simp only [Act.put, zs, i64_w, i32_w]
                rfl
               refine pure_ (i := 23) (N := some 140) (v := ?_) (a' := ?_) (bm 24 1) rfl rfl (any_of HT_.out (by kernel_rfl)) (fun _ _ _ h => h) (Or.inl ⟨by rfl, ?_⟩) ?_ ?_
               rotate_left
               ·
                intro w'
                go_simp
                with_reducible rfl
               rotate_left
               ·
                simp only [Act.put, zs, i64_w, i32_w]
                rfl
               refine pure_ (i := 24) (N := some 4) (v := ?_) (a' := ?_) (bm 25 0) rfl rfl (any_of HT_.out (by kernel_rfl)) (fun _ _ _ h => h) (Or.inl ⟨by rfl, ?_⟩) ?_ ?_
               rotate_left
               ·
                intro w'
                go_simp
                with_reducible rfl
               rotate_left
               ·
                simp only [Act.put, zs, i64_w, i32_w]
                rfl
               refine done_ (done_of HT_.out (by kernel_rfl)) ?_
               try go_wp2
               go_ret
               exact ⟨by first | rfl | (simp [errW_none, errW_some] <;> rfl) | (simp [*, errW_none, errW_some] <;> rfl), by repeat (first | (with_reducible first | exact HB.out | apply below_alloc | apply pw_below_drewN | apply below_drew1 | refine below_set ?_ GE121.out) | exact HB.out)⟩
       ·
        replace c32 := Bool.eq_false_iff.mpr c32
        subst c32
        have H1 : (if t127 = 1 then (some ((t124.length : Int) == 0)) else (some false)) = some r := by rw [if_neg (show ¬ (false = true) by decide)] at H; exact H
        clear H
        have H := H1
        clear H1
        by_cases c76 : t127 = 1
        ·
         rw [if_pos c76] at H
         have c76b0 : (t127 == 1) = true := beq_iff_eq.mpr c76
         have c76b1 : (t127 != 1) = false := bne_eq_false_iff_eq.mpr c76
         clear c76
         obtain rfl := Option.some.inj H
         obtain ⟨Ao77, co77, eo77⟩ := Kd.R_slice HO_6.out
         subst eo77
         go_wp2
         go_ret
         exact ⟨by first | rfl | (simp [errW_none, errW_some] <;> rfl) | (simp [*, errW_none, errW_some] <;> rfl), by repeat (first | (with_reducible first | exact HB.out | apply below_alloc | apply pw_below_drewN | apply below_drew1 | refine below_set ?_ GE121.out) | exact HB.out)⟩
        ·
         rw [if_neg c76] at H
         have c76b0 : (t127 == 1) = false := beq_eq_false_iff_ne.mpr c76
         have c76b1 : (t127 != 1) = true := bne_iff_ne.mpr c76
         obtain rfl := Option.some.inj H
         go_wp2
         go_ret
         exact ⟨by first | rfl | (simp [errW_none, errW_some] <;> rfl) | (simp [*, errW_none, errW_some] <;> rfl), by repeat (first | (with_reducible first | exact HB.out | apply below_alloc | apply pw_below_drewN | apply below_drew1 | refine below_set ?_ GE121.out) | exact HB.out)⟩
 ·
  replace c4 := Bool.eq_false_iff.mpr c4
  subst c4
  have H1 : (some false) = some r := by rw [if_neg (show ¬ (false = true) by decide)] at H; exact H
  clear H
  have H := H1
  clear H1
  obtain rfl := Option.some.inj H
  go_enter Try.func10, Try.ntmps10
  go_wp2_with (first | ((with_reducible refine gate_dst (N := 3) rfl ?_); (try (refine gate_guard (by rfl) ?_; dsimp only)); refine box_event ?hg (N := 3) ?hd (cs := #[.int .i64 a1_0, .string a1_1, .bool a1_2]) (t := 52) ?hr ?_; (case hd => rfl); (case hg => rfl); (case hr => first | (go_simp; done) | (go_simp; rfl)); intro gb121 hg w78 hbox hb; have n0_ := Aside0.mk (below_step (by repeat (first | (with_reducible first | exact HB.out | apply below_alloc | apply pw_below_drewN | apply below_drew1) | exact HB.out)) hb); have n1_ := Aside0.mk (hbox); have n2_ := Aside0.mk ((by rw [hg]; exact (below_size (by repeat (first | (with_reducible first | exact HB.out | apply below_alloc | apply pw_below_drewN | apply below_drew1) | exact HB.out))) : w.heap.size ≤ gb121)); have n3_ := Aside0.mk ((by rw [hg]; exact (below_size (by repeat (first | (with_reducible first | exact HB.out | apply below_alloc | apply pw_below_drewN | apply below_drew1) | exact HB.out))) : w.heap.size ≤ gb121)); clear HB; have HB := n0_; have BK121 := n1_; have GW121 := n2_; have GE121 := n3_; clear n0_ n1_ n2_ n3_; clear hb hbox hg) | ((with_reducible refine gate_callee (f := 22) rfl ?_); refine goesL_ (some 12) rfl rfl Try.func22 (by kernel_rfl) rfl #[] rfl (by (try simp only [List.map_toArray, List.map_cons, List.map_nil]); first | done | rfl | (simp only [List.length_drop, List.length_take]; rfl)) ?_; (with_reducible refine (mailbaglaw07_head.calls k  false _ A3.out).mono ?_); rintro e w79 ⟨rfl, hb⟩; refine ⟨_, rfl, ?_⟩; have n0_ := Aside0.mk (blk_below (g := gb121) (o := .cells #[.int .i64 a1_0, .string a1_1, .bool a1_2] 52 (0, 0)) (by (with_reducible repeat (first | refine blk_drewN ?_ _ | refine blk_drew ?_ | refine blk_alloc ?_ _)); exact BK121.out) hb); have n1_ := Aside0.mk (below_step (by repeat (first | (with_reducible first | exact HB.out | apply below_alloc | apply pw_below_drewN | apply below_drew1 | refine below_set ?_ GE121.out) | exact HB.out)) hb); clear BK121; clear HB; have BK121 := n0_; have HB := n1_; clear n0_ n1_; (try clear hb); (try clear hb2); (try clear hk); (try clear hi)))
  go_ret
  exact ⟨by first | rfl | (simp [errW_none, errW_some] <;> rfl) | (simp [*, errW_none, errW_some] <;> rfl), by repeat (first | (with_reducible first | exact HB.out | apply below_alloc | apply pw_below_drewN | apply below_drew1 | refine below_set ?_ GE121.out) | exact HB.out)⟩

end Go.Proofs.Ytcoollbcnpmlfaa.C
