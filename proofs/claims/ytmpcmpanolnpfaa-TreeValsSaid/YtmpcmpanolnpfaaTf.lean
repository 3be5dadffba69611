/- Tree, by hand: sort.Search at Tree.leaf's closure, leaf, find. -/
import Derived.Test.YtmpcmpanolnpfaaTs
set_option linter.unusedVariables false
set_option linter.unusedSimpArgs false
namespace Go.Proofs.Ytmpcmpanolnpfaa.Tr
open Go.RowKit Go.Proofs.YtmpcmpanolnpfaaW.PrintWords Go.Proofs.YtmpcmpanolnpfaaW.PrintLast Go.Proofs.YtmpcmpanolnpfaaW.PrintMore

def lf (T : List (List Item)) (i : Nat) : List Item := T.getD i []
def LeavesAt (w : World) (A : Option Addr) (T : List (List Item)) : Prop := ∀ i, i < T.length → ∃ ad Ai c, A = some ad ∧ w.cell? (ad.add i) = some (.slice Ai (lf T i).length c) ∧ (lf T i).length ≤ c ∧ 0 < (lf T i).length ∧ ItemsAt w Ai (lf T i)
def fk (T : List (List Item)) (i : Nat) : ByteArray := (itm (lf T i) 0).1
theorem up {w w1 : World} (hb : Below w.heap.size w w1) {a : Addr} {v : Value} (h : w.cell? a = some v) : w1.cell? a = some v := (hb.cell (World.block_lt_of_cell? w _ h)).trans h
theorem ItemsAt.up {w w1 : World} (hb : Below w.heap.size w w1) {A : Option Addr} {l : List Item} (h : ItemsAt w A l) : ItemsAt w1 A l := fun i hi => by
  obtain ⟨ad, e, h0, h1⟩ := h i hi
  exact ⟨ad, e, Tr.up hb h0, Tr.up hb h1⟩
theorem LeavesAt.up {w w1 : World} (hb : Below w.heap.size w w1) {A : Option Addr} {T : List (List Item)} (h : LeavesAt w A T) : LeavesAt w1 A T := fun i hi => by
  obtain ⟨ad, Ai, c, e, h0, h1, h2, h3⟩ := h i hi
  exact ⟨ad, Ai, c, e, Tr.up hb h0, h1, h2, h3.up hb⟩
/-- k > x, as the machine tells it -/
def gtS (k x : ByteArray) : Bool := !Op.bytesLess k.toList x.toList && !k.toList == x.toList
set_option maxHeartbeats 1000000 in
theorem leafcl_any (i : Nat) (bt bk g c0 : Nat) (A0 : Option Addr) (T : List (List Item)) (x : ByteArray) (w : World) (hi : i < T.length) (hl : LeavesAt w A0 T)
    (h1 : w.cell? ⟨bt, 0, none⟩ = some (.pointer (some ⟨g, 0, none⟩))) (h2 : w.cell? ⟨bk, 0, none⟩ = some (.string x)) (h3 : w.cell? ⟨g, 0, none⟩ = some (.slice A0 T.length c0)) :
    Calls Try.prog 55 #[.int .i64 (i : Int), .pointer (some ⟨bt, 0, none⟩), .pointer (some ⟨bk, 0, none⟩)] w fun e w' => e = .returned (.bool (gtS (fk T i) x)) ∧ Below w.heap.size w w' := by
  obtain ⟨ad, Ai, c, rfl, e1, e2, e3, e4⟩ := hl i hi
  obtain ⟨ad2, rfl, f1, f2⟩ := e4 0 e3
  rw [show ad2.add (0 * 2) = ad2 from Addr.add_zero' _] at f1 f2
  go_enter Try.func55, Try.ntmps55
  go_wp2
  go_quiet (fail)
  go_wp2
  go_ret
  exact ⟨rfl, pw_below_drewN (Below.refl _ _) nq⟩
def notGt (T : List (List Item)) (x : ByteArray) (i : Nat) : Bool := !gtS (fk T i) x
def lsrch (T : List (List Item)) (x : ByteArray) : Nat := bs (notGt T x) 0 T.length
set_option maxHeartbeats 1000000 in
theorem lsearch_any (bt bk g c0 : Nat) (A0 : Option Addr) (T : List (List Item)) (x : ByteArray) (w : World) (hn : T.length < 4611686018427387904) (hl : LeavesAt w A0 T)
    (h1 : w.cell? ⟨bt, 0, none⟩ = some (.pointer (some ⟨g, 0, none⟩))) (h2 : w.cell? ⟨bk, 0, none⟩ = some (.string x)) (h3 : w.cell? ⟨g, 0, none⟩ = some (.slice A0 T.length c0)) :
    Calls Try.prog 54 #[.int .i64 (T.length : Int), .func (.func 55) #[] #[.pointer (some ⟨bt, 0, none⟩), .pointer (some ⟨bk, 0, none⟩)]] w fun e w' => e = .returned (.int .i64 (lsrch T x : Int)) ∧ Below w.heap.size w w' := by
  have hB := Below.refl w.heap.size w
  have HB := Aside0.mk hB
  clear hB
  have HL := Aside0.mk hl
  have H1 := Aside0.mk h1
  have H2 := Aside0.mk h2
  have H3 := Aside0.mk h3
  clear hl h1 h2 h3
  go_enter Try.func54, Try.ntmps54
  go_wp2
  go_loopg [5, 6] (T.length + 1) (fun kq v9 v10 w' => ∃ (i j : Nat), v9 = .int .i64 (i : Int) ∧ v10 = .int .i64 (j : Int) ∧ i ≤ j ∧ j ≤ T.length ∧ j - i < kq ∧ Aside0 (bs (notGt T x) i j = lsrch T x) ∧ Aside0 (Below w.heap.size w w'))
  case atStart => exact ⟨0, T.length, rfl, rfl, by omega, by omega, by omega, ⟨rfl⟩, HB⟩
  case round =>
    obtain ⟨i, j, rfl, rfl, hij, hjl, hk, HS, HB⟩ := hrel
    by_cases hlt : i < j
    · have hm : (i + j) / 2 < T.length := by omega
      cases hp : gtS (fk T ((i + j) / 2)) x with
      | false =>
        have HS' : Aside0 (bs (notGt T x) ((i + j) / 2 + 1) j = lsrch T x) := ⟨by
          rw [← HS.out, bs_on _ _ _ hlt]
          unfold notGt
          rw [hp]; rfl⟩
        clear HS
        go_wp2_with (go_at_call 55; refine (leafcl_any ((i + j) / 2) bt bk g c0 A0 T x _ hm (HL.out.up HB.out) (up HB.out H1.out) (up HB.out H2.out) (up HB.out H3.out)).mono ?_; rw [hp]; rintro e w1 ⟨rfl, hb⟩; have HB1 := Aside0.mk (below_step HB.out hb); clear HB hb)
        go_roundg (gk - 1)
        case measure => omega
        case rel => exact ⟨(i + j) / 2 + 1, j, by go_num, rfl, by omega, by omega, by omega, HS', HB1⟩
      | true =>
        have HS' : Aside0 (bs (notGt T x) i ((i + j) / 2) = lsrch T x) := ⟨by
          rw [← HS.out, bs_back _ _ _ hlt]
          unfold notGt
          rw [hp]; rfl⟩
        clear HS
        go_wp2_with (go_at_call 55; refine (leafcl_any ((i + j) / 2) bt bk g c0 A0 T x _ hm (HL.out.up HB.out) (up HB.out H1.out) (up HB.out H2.out) (up HB.out H3.out)).mono ?_; rw [hp]; rintro e w1 ⟨rfl, hb⟩; have HB1 := Aside0.mk (below_step HB.out hb); clear HB hb)
        go_roundg (gk - 1)
        case measure => omega
        case rel => exact ⟨i, (i + j) / 2, rfl, by go_num, by omega, by omega, by omega, HS', HB1⟩
    · obtain rfl : i = j := by omega
      have HS1 : Aside0 (lsrch T x = i) := ⟨by rw [← HS.out, bs_done _ _ _ hlt]⟩
      clear HS
      go_wp2
      go_ret
      exact ⟨by rw [HS1.out]; try rfl, HB.out⟩
theorem lsrch_le (T : List (List Item)) (x : ByteArray) : lsrch T x ≤ T.length := (bs_range _ T.length _ 0 T.length rfl (Nat.zero_le _) (Nat.le_refl _)).2
set_option maxHeartbeats 1000000 in
theorem leaf_any (g c0 : Nat) (A0 : Option Addr) (T : List (List Item)) (x : ByteArray) (w : World) (hn : T.length < 4611686018427387904) (hl : LeavesAt w A0 T) (h3 : w.cell? ⟨g, 0, none⟩ = some (.slice A0 T.length c0)) :
    Calls Try.prog 37 #[.pointer (some ⟨g, 0, none⟩), .string x] w fun e w' => e = .returned (.int .i64 ((lsrch T x - 1 : Nat) : Int)) ∧ Below w.heap.size w w' := by
  have HL := Aside0.mk hl
  have H3 := Aside0.mk h3
  have hgl := World.block_lt_of_cell? w _ h3
  have HG := Aside0.mk hgl
  have hb2 : Below w.heap.size w ((w.alloc (.cells #[.pointer (some ⟨g, 0, none⟩)] 25 (0, 0))).alloc (.cells #[.string x] 9 (0, 0))) := below_alloc (below_alloc (Below.refl _ _) _) _
  have HB2 := Aside0.mk hb2
  have h3' := up hb2 h3
  have e1 : ((w.alloc (.cells #[.pointer (some ⟨g, 0, none⟩)] 25 (0, 0))).alloc (.cells #[.string x] 9 (0, 0))).cell? ⟨w.heap.size, 0, none⟩ = some (.pointer (some ⟨g, 0, none⟩)) := by
    refine up (below_alloc (Below.refl _ _) _) ?_
    unfold World.cell?
    rw [show (w.alloc (.cells #[.pointer (some ⟨g, 0, none⟩)] 25 (0, 0))).heap[w.heap.size]? = _ from blk_new _ _]
    rfl
  have e2 : ((w.alloc (.cells #[.pointer (some ⟨g, 0, none⟩)] 25 (0, 0))).alloc (.cells #[.string x] 9 (0, 0))).cell? ⟨w.heap.size + 1, 0, none⟩ = some (.string x) := by
    have hq := blk_new (w.alloc (.cells #[.pointer (some ⟨g, 0, none⟩)] 25 (0, 0))) (.cells #[.string x] 9 (0, 0))
    rw [World.size_alloc] at hq
    unfold World.cell?
    rw [hq]
    rfl
  have E1 := Aside0.mk e1
  have E2 := Aside0.mk e2
  have E3 := Aside0.mk h3'
  clear hl hgl hb2 e1 e2
  go_enter Try.func37, Try.ntmps37
  go_wp2_with (go_at_call 54; refine (lsearch_any w.heap.size (w.heap.size + 1) g c0 A0 T x _ hn (HL.out.up HB2.out) E1.out E2.out E3.out).mono ?_; rintro e w1 ⟨rfl, hb⟩; have HB3 := Aside0.mk (below_step HB2.out hb); clear hb)
  all_goals
    go_ret
    refine ⟨?_, HB3.out⟩
    have hw : wrap64 ((lsrch T x : Int) - 1) = (lsrch T x : Int) - 1 := by have := lsrch_le T x; unfold wrap64; omega
    rw [hw] at h
    first
    | (have q : wrap64 ((lsrch T x : Int) - 1) = ((lsrch T x - 1 : Nat) : Int) := (by rw [hw]; omega)
       rw [← q]; rfl)
    | (have q : (0 : Int) = ((lsrch T x - 1 : Nat) : Int) := (by omega)
       rw [← q]; rfl)
end Go.Proofs.Ytmpcmpanolnpfaa.Tr
