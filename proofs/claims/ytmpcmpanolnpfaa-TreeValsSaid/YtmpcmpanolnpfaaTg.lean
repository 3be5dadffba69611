/- Tree, by hand: find, Get, Len. -/
import Derived.Test.YtmpcmpanolnpfaaTf
set_option linter.unusedVariables false
set_option linter.unusedSimpArgs false
namespace Go.Proofs.Ytmpcmpanolnpfaa.Tr
open Go.RowKit Go.Proofs.YtmpcmpanolnpfaaW.PrintWords Go.Proofs.YtmpcmpanolnpfaaW.PrintLast Go.Proofs.YtmpcmpanolnpfaaW.PrintMore

/-- where a key is, or would be: leaf, place, there -/
def findT (T : List (List Item)) (x : ByteArray) : Nat × Nat × Bool := if T.length = 0 then (0, 0, false) else (lsrch T x - 1, srch (lf T (lsrch T x - 1)) x, fnd (lf T (lsrch T x - 1)) x)
set_option maxHeartbeats 1000000 in
theorem find_nil (x : ByteArray) (w : World) : Calls Try.prog 23 #[.pointer none, .string x] w fun e w' => e = .returned (.tuple #[.int .i64 0, .int .i64 0, .bool false]) ∧ w' = w := by
  go_enter Try.func23, Try.ntmps23
  go_wp2
  go_ret3
  exact ⟨rfl, rfl⟩
set_option maxHeartbeats 1000000 in
theorem find_any (g c0 : Nat) (A0 : Option Addr) (T : List (List Item)) (x : ByteArray) (w : World) (hn : T.length < 4611686018427387904) (hs : ∀ i, (lf T i).length < 4611686018427387904) (hl : LeavesAt w A0 T) (h3 : w.cell? ⟨g, 0, none⟩ = some (.slice A0 T.length c0)) :
    Calls Try.prog 23 #[.pointer (some ⟨g, 0, none⟩), .string x] w fun e w' => e = .returned (.tuple #[.int .i64 ((findT T x).1 : Int), .int .i64 ((findT T x).2.1 : Int), .bool (findT T x).2.2]) ∧ Below w.heap.size w w' := by
  by_cases hz : T.length = 0
  · unfold findT
    rw [if_pos hz]
    rw [hz] at h3
    go_enter Try.func23, Try.ntmps23
    go_wp2
    go_ret3
    exact ⟨rfl, Below.refl _ _⟩
  · have hi : lsrch T x - 1 < T.length := by have := lsrch_le T x; omega
    obtain ⟨ad, Ai, c, rfl, e1, e2, e3, e4⟩ := hl _ hi
    have e5 := Aside0.mk e4
    have HL := Aside0.mk hl
    have H3 := Aside0.mk h3
    clear e4 hl
    have hz' : (((T.length : Int)) == 0) = false := by simpa using hz
    unfold findT
    rw [if_neg hz]
    go_enter Try.func23, Try.ntmps23
    go_wp2_with (first
      | (go_at_call 37; refine (leaf_any g c0 (some ad) T x _ hn HL.out H3.out).mono ?_; rintro e w1 ⟨rfl, hb⟩; have h3 := up hb H3.out; have e1 := up hb e1; have HI := Aside0.mk (e5.out.up hb); have HB := Aside0.mk hb; clear hb)
      | (go_at_call 38; refine (search_any Ai c (lf T (lsrch T x - 1)) x _ HI.out e2 (hs _)).mono ?_; rintro e w2 ⟨rfl, hb⟩; have HB2 := Aside0.mk (below_step HB.out hb); clear hb))
    go_ret3
    exact ⟨rfl, HB2.out⟩
theorem findT_there (T : List (List Item)) (x : ByteArray) (h : (findT T x).2.2 = true) : (findT T x).1 < T.length ∧ (findT T x).2.1 < (lf T (findT T x).1).length ∧ cmpS (itm (lf T (findT T x).1) (findT T x).2.1).1 x = 0 := by
  unfold findT at h ⊢
  by_cases hz : T.length = 0
  · rw [if_pos hz] at h; cases h
  · rw [if_neg hz] at h ⊢
    have := of_decide_eq_true (show decide _ = true from h)
    have := lsrch_le T x
    exact ⟨by simp only; omega, (by assumption : _ ∧ _).1, (by assumption : _ ∧ _).2⟩
set_option maxHeartbeats 1000000 in
theorem get_any (g c0 : Nat) (A0 : Option Addr) (T : List (List Item)) (x : ByteArray) (w : World) (hn : T.length < 4611686018427387904) (hs : ∀ i, (lf T i).length < 4611686018427387904) (hl : LeavesAt w A0 T) (h3 : w.cell? ⟨g, 0, none⟩ = some (.slice A0 T.length c0)) :
    Calls Try.prog 20 #[.pointer (some ⟨g, 0, none⟩), .string x] w fun e w' => e = .returned (.tuple #[if (findT T x).2.2 then (itm (lf T (findT T x).1) (findT T x).2.1).2 else .int .i64 0, .bool (findT T x).2.2]) ∧ Below w.heap.size w w' := by
  have hf := find_any g c0 A0 T x w hn hs hl h3
  cases ht : (findT T x).2.2 with
  | false =>
    rw [ht] at hf
    have HF := Aside0.mk hf
    clear hf hl h3
    go_enter Try.func20, Try.ntmps20
    go_wp2_with (go_at_call 23; refine HF.out.mono ?_; rintro e w1 ⟨rfl, hb⟩; have HB := Aside0.mk hb; clear hb)
    go_ret2
    exact ⟨rfl, HB.out⟩
  | true =>
    obtain ⟨t1, t2, _⟩ := findT_there T x ht
    obtain ⟨ad, Ai, c, rfl, e1, e2, e3, e4⟩ := hl _ t1
    obtain ⟨ad2, rfl, f0, f1⟩ := e4 _ t2
    rw [ht] at hf
    generalize (findT T x).1 = i at *
    generalize (findT T x).2.1 = k at *
    have HF := Aside0.mk hf
    clear hf hl e4
    go_enter Try.func20, Try.ntmps20
    go_wp2_with (go_at_call 23; refine HF.out.mono ?_; rintro e w1 ⟨rfl, hb⟩; have h3 := up hb h3; have e1 := up hb e1; have f1 := up hb f1; have HB := Aside0.mk hb; clear hb)
    go_ret2
    exact ⟨rfl, HB.out⟩
theorem len_any (g : Nat) (n : Int) (w : World) (h : w.cell? ⟨g, 1, none⟩ = some (.int .i64 n)) : Calls Try.prog 14 #[.pointer (some ⟨g, 0, none⟩)] w fun e w' => e = .returned (.int .i64 n) ∧ w' = w := by
  go_enter Try.func14, Try.ntmps14
  go_wp2
  go_ret
  exact ⟨rfl, rfl⟩
theorem len_nil (w : World) : Calls Try.prog 14 #[.pointer none] w fun e w' => e = .returned (.int .i64 0) ∧ w' = w := by
  go_enter Try.func14, Try.ntmps14
  go_wp2
  go_ret
  exact ⟨rfl, rfl⟩
end Go.Proofs.Ytmpcmpanolnpfaa.Tr
