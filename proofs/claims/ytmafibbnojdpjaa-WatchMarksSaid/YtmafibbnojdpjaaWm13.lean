/- Lemmas that the proof needs, part 13. -/
import Derived.Test.YtmafibbnojdpjaaWWords
import Derived.Test.YtmafibbnojdpjaaWKept
import Derived.Deep.RegionHeld3
import Derived.Test.YtmafibbnojdpjaaWm1
import Derived.Test.YtmafibbnojdpjaaWm2
import Derived.Test.YtmafibbnojdpjaaWm3
import Derived.Test.YtmafibbnojdpjaaWm4
import Derived.Test.YtmafibbnojdpjaaWm5
import Derived.Test.YtmafibbnojdpjaaWm6
import Derived.Test.YtmafibbnojdpjaaWm7
import Derived.Test.YtmafibbnojdpjaaWm8
import Derived.Test.YtmafibbnojdpjaaWm9
import Derived.Test.YtmafibbnojdpjaaWm10
import Derived.Test.YtmafibbnojdpjaaWm11
import Derived.Test.YtmafibbnojdpjaaWm12
section
set_option linter.unusedVariables false
set_option maxRecDepth 100000
set_option linter.unusedSimpArgs false
namespace Go.Proofs.Ytmafibbnojdpjaa.St
open Go.Proofs.Ytmafibbnojdpjaa.Tr Go.RowKit Go.Proofs.YtmafibbnojdpjaaW.PrintWords Go.Proofs.YtmafibbnojdpjaaW.PrintLast Go.Proofs.YtmafibbnojdpjaaW.PrintMore Go.Proofs.Ytmafibbnojdpjaa.P Go.Proofs.Ytmafibbnojdpjaa.Mv
abbrev KI : KT Try.prog 3 Int := KT.int Try.underlying3
def eI (x : Int) : Value := .int .i64 x
abbrev wfI (x : Int) : Prop := (Lit.int .i64 x).wf = true
theorem zero3 (w : World) : (zeroValue 3).run Try.prog w = .ok (.int .i64 0) w := by kernel_rfl
/-- what the marks are: the number and the mark of each, the number of the last -/
structure MarksAt (w : World) (p b n : Nat) (C : List (Int × Int)) (nx : Int) : Prop where
  head : w.heap[p]? = some (.cells #[.map (some b), .int .i64 nx] 108 (0, 0))
  map : MapV KI eI w b n C
variable {w w' : World} {p b n : Nat} {C : List (Int × Int)} {nx : Int}
theorem MarksAt.lt (h : MarksAt w p b n C nx) : p < w.heap.size := (Array.getElem?_eq_some_iff.1 h.head).1
theorem MarksAt.mlt (h : MarksAt w p b n C nx) : b < w.heap.size := h.map.lt
theorem MarksAt.ne (h : MarksAt w p b n C nx) : p ≠ b := by
  obtain ⟨D, ⟨es, clock, q1, q2⟩, _⟩ := h.map
  intro e
  have := h.head
  rw [e, q1] at this
  cases this
theorem MarksAt.same (h : MarksAt w p b n C nx) (h1 : w'.heap[p]? = w.heap[p]?) (h2 : w'.heap[b]? = w.heap[b]?) : MarksAt w' p b n C nx := ⟨h1.trans h.head, h.map.same h2⟩
theorem MarksAt.below (h : MarksAt w p b n C nx) (hb : Below w.heap.size w w') : MarksAt w' p b n C nx := h.same (hb.block p h.lt) (hb.block b h.mlt)
theorem MarksAt.mono (h : MarksAt w p b n C nx) {n' : Nat} (hn : n ≤ n') : MarksAt w p b n' C nx := ⟨h.head, h.map.mono hn⟩
theorem MarksAt.c0 (h : MarksAt w p b n C nx) : w.cell? ⟨p, 0, none⟩ = some (.map (some b)) := by simp [World.cell?, h.head]
theorem MarksAt.c1 (h : MarksAt w p b n C nx) : w.cell? ⟨p, 1, none⟩ = some (.int .i64 nx) := by simp [World.cell?, h.head]
theorem MarksAt.fz (h : MarksAt w p b n C nx) (i : Nat) : w.frozen? ⟨p, i, none⟩ = false := by simp [World.frozen?, h.head]
def two (p b : Nat) (k : Nat) : Prop := k = p ∨ k = b
theorem Fr.of_turned (h : w.mapTurned w' b) : Fr (two p b) w w' := ⟨h.grown.os, h.grown.tape, h.grown.output, h.grown.size, fun k hk hn => h.grown.block k hk (fun e => hn (.inr (by injection e)))⟩
set_option maxHeartbeats 1000000 in
theorem marks_mark (h : MarksAt w p b n C nx) {x : Int} (hx : wfI x) : Calls Try.prog 31 #[.pointer (some ⟨p, 0, none⟩), .int .i64 x] w fun e w' => e = .returned (.tuple #[.int .i64 ((findC C x).getD 0), .bool (findC C x).isSome]) ∧ w' = w := by
  have c0 := h.c0
  have l1 : (Instr.lookup 47 (.map (some b)) (.int .i64 x) true).run Try.prog w = .ok (.tuple #[.int .i64 ((findC C x).getD 0), .bool (findC C x).isSome]) w := by
    have := h.map.look2 Try.underlying47 (zero3 w) (x := x) hx
    rw [show gV eI (findC C x) (.int .i64 0) = .int .i64 ((findC C x).getD 0) from by cases findC C x <;> rfl] at this
    exact this
  clear h
  go_enter Try.func31, Try.ntmps31
  go_wp2
  go_ret2
  exact ⟨rfl, rfl⟩
set_option maxHeartbeats 1000000 in
theorem marks_mark_nil (x : Int) (w : World) : Calls Try.prog 31 #[.pointer none, .int .i64 x] w fun e w' => e = .returned (.tuple #[.int .i64 0, .bool false]) ∧ w' = w := by
  go_enter Try.func31, Try.ntmps31
  go_wp2
  go_ret2
  exact ⟨rfl, rfl⟩
def holdE (C : List (Int × Int)) : Int := if 64 ≤ C.length then 4 else 0
def holdN (C : List (Int × Int)) (nx : Int) : Int := if 64 ≤ C.length then 0 else nx + 1
def holdC (C : List (Int × Int)) (nx x : Int) : List (Int × Int) := if 64 ≤ C.length then C else putC C (nx + 1) x
def holdX (C : List (Int × Int)) (nx : Int) : Int := if 64 ≤ C.length then nx else nx + 1
set_option maxHeartbeats 2000000 in
theorem marks_hold (h : MarksAt w p b n C nx) (hn : n < 1000000) (x : Int) (h0 : 0 ≤ nx) (h1 : nx < 1000000) :
    Calls Try.prog 27 #[.pointer (some ⟨p, 0, none⟩), .int .i64 x] w fun e w' => e = .returned (.tuple #[.int .i64 (holdN C nx), .int .i64 (holdE C)]) ∧ MarksAt w' p b (n + 1) (holdC C nx x) (holdX C nx) ∧ Fr (two p b) w w' := by
  have c0 := h.c0
  have c1 := h.c1
  have fz := h.fz 1
  have l1 := h.map.len Try.underlying47 3
  unfold holdN holdE holdC holdX
  by_cases hl : 64 ≤ C.length
  · rw [if_pos hl, if_pos hl, if_pos hl, if_pos hl]
    have hd : (64 : Int) ≤ (C.length : Int) := by omega
    have HH := Aside0.mk (h.mono (Nat.le_succ n))
    clear h
    go_enter Try.func27, Try.ntmps27
    go_wp2
    go_ret2
    exact ⟨rfl, HH.out, Fr.refl _ _⟩
  · rw [if_neg hl, if_neg hl, if_neg hl, if_neg hl]
    have hd : ¬ (64 : Int) ≤ (C.length : Int) := by omega
    have hw : IntKind.i64.wrap (nx + 1) = nx + 1 := by rw [IntKind.wrap_i64]; omega
    have hne := h.ne
    have hset := heap_setCell_at w p 1 _ _ _ (.int .i64 (nx + 1)) h.head
    have hm1 : MapV KI eI (w.setCell ⟨p, 1, none⟩ (.int .i64 (nx + 1))).drew b n C := h.map.same (Below.heap_setCell w _ _ b (Ne.symm hne))
    obtain ⟨w9, u1, u2, u3⟩ := hm1.put Try.underlying47 (by unfold maxLen; omega) (x := nx + 1) (show wfI (nx + 1) from WalkArith.wf_i64 ⟨by omega, by omega⟩) x
    have u1' : (Instr.mapUpdate 47 (.map (some b)) (.int .i64 (nx + 1)) (.int .i64 x)).run Try.prog (w.setCell ⟨p, 1, none⟩ (.int .i64 (nx + 1))).drew = .ok () w9 := u1
    have hp9 : w9.heap[p]? = some (.cells #[.map (some b), .int .i64 (nx + 1)] 108 (0, 0)) := (u3.grown.block p (by show p < (w.setCell _ _).heap.size; rw [World.size_setCell]; exact h.lt) (fun e => hne (by injection e))).trans (hset.trans rfl)
    have c2 : w9.cell? ⟨p, 1, none⟩ = some (.int .i64 (nx + 1)) := by simp [World.cell?, hp9]
    have U2 := Aside0.mk u2
    have U3 := Aside0.mk u3
    have HP9 := Aside0.mk hp9
    clear h hm1 u1 u2 u3 hset hp9
    go_enter Try.func27, Try.ntmps27
    go_wp2
    go_region
    all_goals
      go_wp2
      go_ret2
      exact ⟨rfl, ⟨HP9.out, U2.out⟩, ((Fr.setCell _ _ _ _ (.inl rfl)).trans (Fr.drew _)).trans (Fr.of_turned U3.out)⟩
set_option maxHeartbeats 1000000 in
theorem marks_hold_nil (x : Int) (w : World) : Calls Try.prog 27 #[.pointer none, .int .i64 x] w fun e w' => e = .returned (.tuple #[.int .i64 0, .int .i64 1]) ∧ w' = w := by
  go_enter Try.func27, Try.ntmps27
  go_wp2
  go_ret2
  exact ⟨rfl, rfl⟩
def moveE (C : List (Int × Int)) (x m : Int) : Int := match findC C x with | none => 5 | some o => if m < o then 1 else 0
def moveC (C : List (Int × Int)) (x m : Int) : List (Int × Int) := match findC C x with | none => C | some o => if m < o then C else putC C x m
set_option maxHeartbeats 2000000 in
theorem marks_move (h : MarksAt w p b n C nx) (hn : n < 1000000) {x m : Int} (hx : wfI x) :
    Calls Try.prog 30 #[.pointer (some ⟨p, 0, none⟩), .int .i64 x, .int .i64 m] w fun e w' => e = .returned (.int .i64 (moveE C x m)) ∧ MarksAt w' p b (n + 1) (moveC C x m) nx ∧ Fr (two p b) w w' := by
  have c0 := h.c0
  have HM := Aside0.mk (marks_mark h hx)
  have HH := Aside0.mk h
  unfold moveE moveC
  cases hf : findC C x with
  | none =>
    rw [hf] at HM
    clear h hf
    go_enter Try.func30, Try.ntmps30
    go_wp2_with (go_at_call 31; refine HM.out.mono ?_; rintro e w1 ⟨rfl, e1⟩; subst e1)
    go_ret
    exact ⟨rfl, HH.out.mono (Nat.le_succ _), Fr.refl _ _⟩
  | some o =>
    rw [hf] at HM
    change Aside0 (Calls Try.prog 31 #[.pointer (some ⟨p, 0, none⟩), .int .i64 x] w fun e w' => e = .returned (.tuple #[.int .i64 o, .bool true]) ∧ w' = w) at HM
    by_cases hlt : m < o
    · have hd : decide (m < o) = true := decide_eq_true hlt
      simp only [if_pos hlt]
      clear h hf hlt
      go_enter Try.func30, Try.ntmps30
      go_wp2_with (go_at_call 31; refine HM.out.mono ?_; rintro e w1 ⟨rfl, e1⟩; subst e1)
      go_ret
      exact ⟨rfl, HH.out.mono (Nat.le_succ _), Fr.refl _ _⟩
    · have hd : decide (m < o) = false := decide_eq_false hlt
      simp only [if_neg hlt]
      obtain ⟨w9, u1, u2, u3⟩ := h.map.put Try.underlying47 (by unfold maxLen; omega) (x := x) hx m
      have u1' : (Instr.mapUpdate 47 (.map (some b)) (.int .i64 x) (.int .i64 m)).run Try.prog w = .ok () w9 := u1
      have U2 := Aside0.mk u2
      have U3 := Aside0.mk u3
      clear h hf hlt u1 u2 u3
      go_enter Try.func30, Try.ntmps30
      go_wp2_with (go_at_call 31; refine HM.out.mono ?_; rintro e w1 ⟨rfl, e1⟩; subst e1)
      go_ret
      exact ⟨rfl, ⟨(U3.out.grown.block p HH.out.lt (fun e => HH.out.ne (by injection e))).trans HH.out.head, U2.out⟩, Fr.of_turned U3.out⟩
set_option maxHeartbeats 1000000 in
theorem marks_move_nil (x m : Int) (w : World) : Calls Try.prog 30 #[.pointer none, .int .i64 x, .int .i64 m] w fun e w' => e = .returned (.int .i64 5) ∧ w' = w := by
  go_enter Try.func30, Try.ntmps30
  go_wp2_with (go_at_call 31; refine (marks_mark_nil _ _).mono ?_; rintro e w1 ⟨rfl, rfl⟩)
  go_ret
  exact ⟨rfl, rfl⟩
def dropE (C : List (Int × Int)) (x : Int) : Int := if (findC C x).isSome then 0 else 5
set_option maxHeartbeats 2000000 in
theorem marks_drop (h : MarksAt w p b n C nx) {x : Int} (hx : wfI x) :
    Calls Try.prog 29 #[.pointer (some ⟨p, 0, none⟩), .int .i64 x] w fun e w' => e = .returned (.int .i64 (dropE C x)) ∧ MarksAt w' p b n (delC C x) nx ∧ Fr (two p b) w w' := by
  have c0 := h.c0
  have HM := Aside0.mk (marks_mark h hx)
  have HH := Aside0.mk h
  unfold dropE
  cases hf : findC C x with
  | none =>
    have hdel : delC C x = C := List.filter_eq_self.2 (fun a ha => by simpa using find_none.1 hf a ha)
    rw [hf] at HM
    rw [hdel]
    clear h hf hdel
    go_enter Try.func29, Try.ntmps29
    go_wp2_with (go_at_call 31; refine HM.out.mono ?_; rintro e w1 ⟨rfl, e1⟩; subst e1)
    go_ret
    exact ⟨rfl, HH.out, Fr.refl _ _⟩
  | some o =>
    rw [hf] at HM
    change Aside0 (Calls Try.prog 31 #[.pointer (some ⟨p, 0, none⟩), .int .i64 x] w fun e w' => e = .returned (.tuple #[.int .i64 o, .bool true]) ∧ w' = w) at HM
    obtain ⟨w9, u1, u2, u3⟩ := h.map.del Try.underlying47 (x := x) hx 0
    have u1' : (Builtin.delete_ #[47, 3] 0 #[.map (some b), .int .i64 x]).run Try.prog w = .ok (.tuple #[]) w9 := u1
    have U2 := Aside0.mk u2
    have U3 := Aside0.mk u3
    clear h hf u1 u2 u3
    go_enter Try.func29, Try.ntmps29
    go_wp2_with (go_at_call 31; refine HM.out.mono ?_; rintro e w1 ⟨rfl, e1⟩; subst e1)
    go_ret
    exact ⟨rfl, ⟨(U3.out.grown.block p HH.out.lt (fun e => HH.out.ne (by injection e))).trans HH.out.head, U2.out⟩, Fr.of_turned U3.out⟩
set_option maxHeartbeats 1000000 in
theorem marks_drop_nil (x : Int) (w : World) : Calls Try.prog 29 #[.pointer none, .int .i64 x] w fun e w' => e = .returned (.int .i64 5) ∧ w' = w := by
  go_enter Try.func29, Try.ntmps29
  go_wp2_with (go_at_call 31; refine (marks_mark_nil _ _).mono ?_; rintro e w1 ⟨rfl, rfl⟩)
  go_ret
  exact ⟨rfl, rfl⟩
set_option maxHeartbeats 1000000 in
theorem marks_least_nil (x : Int) (w : World) : Calls Try.prog 28 #[.pointer none, .int .i64 x] w fun e w' => e = .returned (.int .i64 x) ∧ w' = w := by
  go_enter Try.func28, Try.ntmps28
  go_wp2
  go_ret
  exact ⟨rfl, rfl⟩
def mnI (x y : Int) : Int := if y < x then y else x
def leastC (C : List (Int × Int)) (x : Int) : Int := C.foldl (fun m a => mnI m a.2) x
theorem mnI_comm (z a b : Int) : mnI (mnI z a) b = mnI (mnI z b) a := by
  unfold mnI
  by_cases h1 : a < z <;> by_cases h2 : b < z <;> by_cases h3 : b < a <;> by_cases h4 : a < b <;> simp [h1, h2, h3, h4] <;> omega
theorem leastC_perm {C C' : List (Int × Int)} (h : C.Perm C') (x : Int) : leastC C x = leastC C' x := by
  unfold leastC
  exact h.foldl_eq' (fun a _ b _ z => mnI_comm z a.2 b.2) x
theorem leastC_snoc (C : List (Int × Int)) (a : Int × Int) (x : Int) : leastC (C ++ [a]) x = mnI (leastC C x) a.2 := by simp [leastC]
theorem run_min (ats : Array TypeId) (ty : TypeId) (x y : Int) (w : World) : (Builtin.min_ ats ty #[.int .i64 x, .int .i64 y]).run Try.prog w = .ok (.int .i64 (mnI x y)) w := by
  rw [min_two, min2_int]
  rfl
set_option maxHeartbeats 2000000 in
theorem marks_least (h : MarksAt w p b n C nx) (x : Int) : Calls Try.prog 28 #[.pointer (some ⟨p, 0, none⟩), .int .i64 x] w fun e w' => e = .returned (.int .i64 (leastC C x)) ∧ Below w.heap.size w w' := by
  have c0 := h.c0
  obtain ⟨w2, hrun, hrg, hb, hs⟩ := h.map.range Try.underlying47
  have HR0 := Aside0.mk hrg
  have HB0 := Aside0.mk hb
  clear hrg hb hs h
  go_enter Try.func28, Try.ntmps28
  go_wp2
  go_loopg [1] (C.length + 1) (fun kq v1 wq => ∃ dn : List (Int × Int), v1 = .int .i64 (leastC dn x) ∧ C.length - dn.length < kq ∧ Aside0 (Rng KI eI wq b w.heap.size n C dn) ∧ Aside0 (Below w.heap.size w wq))
  case atStart => exact ⟨[], rfl, by simp, HR0, HB0⟩
  case round =>
    clear HR0 HB0 hrun c0
    obtain ⟨dn, rfl, hk, HR, HB⟩ := hrel
    rcases HR.out.next 0 with ⟨hp, hrun⟩ | ⟨a, w3, ha, hna, hok, hrun, hr3, hg3, hs3, hen⟩
    · rw [leastC_perm hp x]
      clear hp
      go_wp2
      go_ret
      exact ⟨rfl, HB.out⟩
    · change (Instr.next (.pointer (some ⟨w.heap.size, 0, none⟩)) false 0).run Try.prog wr = .ok (.tuple #[.bool true, .int .i64 a.1, .int .i64 a.2]) w3 at hrun
      change (Instr.entry (.pointer (some ⟨w.heap.size, 0, none⟩))).run Try.prog w3 = .ok (.tuple #[.int .i64 a.1, .int .i64 a.2]) w3 at hen
      have hl := hr3.len
      rw [List.length_append, List.length_singleton] at hl
      have hmn := fun ats ty => run_min ats ty (leastC dn x) a.2 w3
      have HR3 := Aside0.mk hr3
      have HB3 : Aside0 (Below w.heap.size w w3) := ⟨HB.out.grown hg3 HB.out.size (fun k e => by cases e; exact Nat.le_refl _)⟩
      have HLS := Aside0.mk (leastC_snoc dn a x)
      clear hr3 hg3 ha hna hok hs3
      go_wp2
      go_roundg (gk - 1)
      case measure => omega
      case rel => exact ⟨dn ++ [a], by rw [HLS.out], by rw [List.length_append, List.length_singleton]; omega, HR3, HB3⟩
end Go.Proofs.Ytmafibbnojdpjaa.St
end
