/- Lemmas that the proof needs, part 2. -/
import Derived.Test.YtmafibbnojdpjaaProg
import Derived.Test.YtmafibbnojdpjaaWWords
import Derived.Test.YtmafibbnojdpjaaWLast
import Derived.Test.YtmafibbnojdpjaaWMore
import Derived.Tactics
import Derived.WalkKit
import Derived.Outline
import Derived.Deep.LoopGhost
import Derived.Deep.QuietTactic
import Derived.Lib.Bytealg
import Derived.Laws.Externs
import Derived.WalkLawsBesides
section
set_option linter.unusedVariables false
set_option maxRecDepth 100000
set_option linter.unusedSimpArgs false
namespace Go.Proofs.Ytmafibbnojdpjaa.Tr
open Go.RowKit Go.Proofs.YtmafibbnojdpjaaW.PrintWords Go.Proofs.YtmafibbnojdpjaaW.PrintLast Go.Proofs.YtmafibbnojdpjaaW.PrintMore
def cmpS (a b : ByteArray) : Int := Lib.compareBytes a.data.toList b.data.toList
set_option maxHeartbeats 1000000 in
theorem compareString_any (a b : ByteArray) (w : World) : Calls Try.prog 102 #[.string a, .string b] w fun e w' => e = .returned (.int .i64 (cmpS a b)) ∧ w' = w := by
  go_enter Try.func102, Try.ntmps102
  go_wp2
  rw [run_callFunc_extern Try.func129 (by kernel_rfl) (by kernel_rfl) (by kernel_rfl) (e := Extern.BytealgCompare.compare) (by kernel_rfl), Lib.run_compareString]
  simp only [Result.andThen]
  rw [Oper.upon_value]
  go_wp2
  go_ret
  exact ⟨rfl, rfl⟩
set_option maxHeartbeats 1000000 in
theorem compare_any (a b : ByteArray) (w : World) : Calls Try.prog 78 #[.string a, .string b] w fun e w' => e = .returned (.int .i64 (cmpS a b)) ∧ w' = w := by
  go_enter Try.func78, Try.ntmps78
  go_wp2_with (go_at_call 102; refine (compareString_any _ _ _).mono ?_; rintro e w' ⟨rfl, rfl⟩)
  go_ret
  exact ⟨rfl, rfl⟩
set_option maxHeartbeats 1000000 in
theorem closure_any (k : ByteArray) (v : Value) (x : ByteArray) (w : World) : Calls Try.prog 113 #[.agg #[.string k, v], .string x] w fun e w' => e = .returned (.int .i64 (cmpS k x)) ∧ Below w.heap.size w w' := by
  go_enter Try.func113, Try.ntmps113
  go_wp2_with (go_at_call 78; refine (compare_any _ _ _).mono ?_; rintro e w' ⟨rfl, rfl⟩)
  go_ret
  exact ⟨rfl, (Below.refl _ _).alloc (Nat.le_refl _) _⟩
abbrev Item := ByteArray × Value
abbrev SVal := Option Addr × Nat × Nat
/-- a slice, as a value -/
abbrev SV (y : SVal) : Value := .slice y.1 y.2.1 y.2.2
def itm (l : List Item) (i : Nat) : Item := l.getD i (⟨#[]⟩, .int .i64 0)
/-- The row of items is l's. -/
def ItemsAt (w : World) (A : Option Addr) (l : List Item) : Prop := ∀ i, i < l.length → ∃ ad, A = some ad ∧ w.cell? (ad.add (i * 2)) = some (.string (itm l i).1) ∧ w.cell? ⟨(ad.add (i * 2)).block, (ad.add (i * 2)).off + 1, none⟩ = some (itm l i).2
/-- Where the search between i and j ends: p says 'further on'. -/
def bs (p : Nat → Bool) (i j : Nat) : Nat := if h : i < j then (if p ((i + j) / 2) then bs p ((i + j) / 2 + 1) j else bs p i ((i + j) / 2)) else i
  termination_by j - i
  decreasing_by all_goals omega
theorem bs_done (p : Nat → Bool) (i j : Nat) (h : ¬ i < j) : bs p i j = i := by rw [bs]; simp [h]
theorem bs_on (p : Nat → Bool) (i j : Nat) (h : i < j) (hp : p ((i + j) / 2) = true) : bs p i j = bs p ((i + j) / 2 + 1) j := by rw [bs]; simp [h, hp]
theorem bs_back (p : Nat → Bool) (i j : Nat) (h : i < j) (hp : p ((i + j) / 2) = false) : bs p i j = bs p i ((i + j) / 2) := by rw [bs]; simp [h, hp]
theorem bs_range (p : Nat → Bool) (n : Nat) : ∀ d i j, j - i = d → i ≤ j → j ≤ n → i ≤ bs p i j ∧ bs p i j ≤ j := by
  intro d
  induction d using Nat.strongRecOn with
  | _ d ih =>
    intro i j hd hij hjn
    by_cases h : i < j
    · cases hp : p ((i + j) / 2) with
      | true =>
        rw [bs_on p i j h hp]
        have := ih (j - ((i + j) / 2 + 1)) (by omega) ((i + j) / 2 + 1) j rfl (by omega) hjn
        omega
      | false =>
        rw [bs_back p i j h hp]
        have := ih ((i + j) / 2 - i) (by omega) i ((i + j) / 2) rfl (by omega) (by omega)
        omega
    · rw [bs_done p i j h]; omega
def less (l : List Item) (x : ByteArray) (i : Nat) : Bool := decide (cmpS (itm l i).1 x < 0)
def srch (l : List Item) (x : ByteArray) : Nat := bs (less l x) 0 l.length
def fnd (l : List Item) (x : ByteArray) : Bool := decide (srch l x < l.length ∧ cmpS (itm l (srch l x)).1 x = 0)
set_option maxHeartbeats 1000000 in
theorem search_any (A0 : Option Addr) (c0 : Nat) (l : List Item) (x : ByteArray) (w : World) (hr0 : ItemsAt w A0 l) (hc0 : l.length ≤ c0) (hn : l.length < 4611686018427387904) :
    Calls Try.prog 112 #[.slice A0 l.length c0, .string x, .func (.func 113) #[] #[]] w fun e w' => e = .returned (.tuple #[.int .i64 (srch l x : Int), .bool (fnd l x)]) ∧ Below w.heap.size w w' := by
  have hB := Below.refl w.heap.size w
  have HB := Aside0.mk hB
  clear hB
  have HR := Aside0.mk hr0
  have HC := Aside0.mk hc0
  clear hr0 hc0
  go_enter Try.func112, Try.ntmps112
  go_wp2
  go_loopg [9, 10] (l.length + 1) (fun kq v9 v10 w' => ∃ (i j : Nat), v9 = .int .i64 (i : Int) ∧ v10 = .int .i64 (j : Int) ∧ i ≤ j ∧ j ≤ l.length ∧ j - i < kq ∧ Aside0 (bs (less l x) i j = srch l x) ∧ Aside0 (Below w.heap.size w w'))
  case atStart => exact ⟨0, l.length, rfl, rfl, by omega, by omega, by omega, ⟨rfl⟩, HB⟩
  case round =>
    obtain ⟨i, j, rfl, rfl, hij, hjl, hk, HS, HB⟩ := hrel
    by_cases hlt : i < j
    · have hm : (i + j) / 2 < l.length := by omega
      obtain ⟨ad, e, h0, h1⟩ := HR.out ((i + j) / 2) hm
      cases e
      replace h0 := (HB.out.cell (World.block_lt_of_cell? w _ h0)).trans h0
      replace h1 := (HB.out.cell (World.block_lt_of_cell? w _ h1)).trans h1
      obtain ⟨v, hv⟩ : ∃ v, v = itm l ((i + j) / 2) := ⟨_, rfl⟩
      rw [← hv] at h0 h1
      have HV := Aside0.mk hv
      clear hv
      cases hp : decide (cmpS v.1 x < 0) with
      | true =>
        have HS' : Aside0 (bs (less l x) ((i + j) / 2 + 1) j = srch l x) := ⟨by
          rw [← HS.out, bs_on _ _ _ hlt]
          unfold less
          rw [← HV.out]
          exact hp⟩
        clear HS
        go_wp2_with (go_at_call 113; refine (closure_any v.1 v.2 x _).mono ?_; rintro e w1 ⟨rfl, hb⟩; have HB1 := Aside0.mk (below_step HB.out hb); clear HB hb)
        go_roundg (gk - 1)
        case measure => omega
        case rel => exact ⟨(i + j) / 2 + 1, j, by go_num, rfl, by omega, by omega, by omega, HS', HB1⟩
      | false =>
        have HS' : Aside0 (bs (less l x) i ((i + j) / 2) = srch l x) := ⟨by
          rw [← HS.out, bs_back _ _ _ hlt]
          unfold less
          rw [← HV.out]
          exact hp⟩
        clear HS
        go_wp2_with (go_at_call 113; refine (closure_any v.1 v.2 x _).mono ?_; rintro e w1 ⟨rfl, hb⟩; have HB1 := Aside0.mk (below_step HB.out hb); clear HB hb)
        go_roundg (gk - 1)
        case measure => omega
        case rel => exact ⟨i, (i + j) / 2, rfl, by go_num, by omega, by omega, by omega, HS', HB1⟩
    · obtain rfl : i = j := by omega
      have HS1 : Aside0 (srch l x = i) := ⟨by rw [← HS.out, bs_done _ _ _ hlt]⟩
      clear HS
      by_cases hn' : i < l.length
      · obtain ⟨ad, e, h0, h1⟩ := HR.out i hn'
        cases e
        replace h0 := (HB.out.cell (World.block_lt_of_cell? w _ h0)).trans h0
        replace h1 := (HB.out.cell (World.block_lt_of_cell? w _ h1)).trans h1
        obtain ⟨v, hv⟩ : ∃ v, v = itm l i := ⟨_, rfl⟩
        rw [← hv] at h0 h1
        have HV := Aside0.mk hv
        clear hv
        have HF : Aside0 (fnd l x = (cmpS v.1 x == 0)) := ⟨by
          unfold fnd
          rw [HS1.out, ← HV.out, Bool.eq_iff_iff]
          simp [hn']⟩
        cases hp : (cmpS v.1 x == 0) with
        | true =>
          have HF1 : Aside0 (fnd l x = true) := ⟨HF.out.trans hp⟩
          clear HF
          go_wp2_with (go_at_call 113; refine (closure_any v.1 v.2 x _).mono ?_; rintro e w1 ⟨rfl, hb⟩; have HB1 := Aside0.mk (below_step HB.out hb); clear HB hb)
          go_ret2
          exact ⟨by rw [HS1.out, HF1.out]; try rfl, HB1.out⟩
        | false =>
          have HF1 : Aside0 (fnd l x = false) := ⟨HF.out.trans hp⟩
          clear HF
          go_wp2_with (go_at_call 113; refine (closure_any v.1 v.2 x _).mono ?_; rintro e w1 ⟨rfl, hb⟩; have HB1 := Aside0.mk (below_step HB.out hb); clear HB hb)
          go_ret2
          exact ⟨by rw [HS1.out, HF1.out]; try rfl, HB1.out⟩
      · have HF1 : Aside0 (fnd l x = false) := ⟨by
          unfold fnd
          rw [HS1.out]
          simp [hn']⟩
        obtain rfl : i = l.length := by omega
        go_wp2
        go_ret2
        exact ⟨by rw [HS1.out, HF1.out]; try rfl, HB.out⟩
end Go.Proofs.Ytmafibbnojdpjaa.Tr
end
section
set_option linter.unusedVariables false
set_option maxRecDepth 100000
set_option linter.unusedSimpArgs false
namespace Go.Proofs.Ytmafibbnojdpjaa.Tr
open Go.RowKit Go.Proofs.YtmafibbnojdpjaaW.PrintWords Go.Proofs.YtmafibbnojdpjaaW.PrintLast Go.Proofs.YtmafibbnojdpjaaW.PrintMore
def lf (T : List (List Item)) (i : Nat) : List Item := T.getD i []
def LeavesAt (w : World) (A : Option Addr) (T : List (List Item)) : Prop := ∀ i, i < T.length → ∃ ad Ai c, A = some ad ∧ w.cell? (ad.add i) = some (.slice Ai (lf T i).length c) ∧ (lf T i).length ≤ c ∧ 0 < (lf T i).length ∧ ItemsAt w Ai (lf T i)
def fk (T : List (List Item)) (i : Nat) : ByteArray := (itm (lf T i) 0).1
theorem up {w w1 : World} (hb : Below w.heap.size w w1) {a : Addr} {v : Value} (h : w.cell? a = some v) : w1.cell? a = some v := (hb.cell (World.block_lt_of_cell? w _ h)).trans h
theorem ItemsAt.up {w w1 : World} (hb : Below w.heap.size w w1) {A : Option Addr} {l : List Item} (h : ItemsAt w A l) : ItemsAt w1 A l := fun i hi => by
  obtain ⟨ad, e, h0, h1⟩ := h i hi
  exact ⟨ad, e, Tr.up hb h0, Tr.up hb h1⟩
theorem LeavesAt.up {w w1 : World} (hb : Below w.heap.size w w1) {A : Option Addr} {T : List (List Item)} (h : LeavesAt w A T) : LeavesAt w1 A T := fun i hi => by
  obtain ⟨ad, Ai, c, e, h0, h1, h2, h3⟩ := h i hi
  exact ⟨ad, Ai, c, e, Tr.up hb h0, h1, h2, h3.up hb⟩
/-- k > x, as the machine tells it -/
def gtS (k x : ByteArray) : Bool := !Op.bytesLess k.toList x.toList && !k.toList == x.toList
set_option maxHeartbeats 1000000 in
theorem leafcl_any (i : Nat) (bt bk g c0 : Nat) (A0 : Option Addr) (T : List (List Item)) (x : ByteArray) (w : World) (hi : i < T.length) (hl : LeavesAt w A0 T)
    (h1 : w.cell? ⟨bt, 0, none⟩ = some (.pointer (some ⟨g, 0, none⟩))) (h2 : w.cell? ⟨bk, 0, none⟩ = some (.string x)) (h3 : w.cell? ⟨g, 0, none⟩ = some (.slice A0 T.length c0)) :
    Calls Try.prog 136 #[.int .i64 (i : Int), .pointer (some ⟨bt, 0, none⟩), .pointer (some ⟨bk, 0, none⟩)] w fun e w' => e = .returned (.bool (gtS (fk T i) x)) ∧ Below w.heap.size w w' := by
  obtain ⟨ad, Ai, c, rfl, e1, e2, e3, e4⟩ := hl i hi
  obtain ⟨ad2, rfl, f1, f2⟩ := e4 0 e3
  rw [show ad2.add (0 * 2) = ad2 from Addr.add_zero' _] at f1 f2
  go_enter Try.func136, Try.ntmps136
  go_wp2
  go_quiet (fail)
  go_wp2
  go_ret
  exact ⟨rfl, pw_below_drewN (Below.refl _ _) nq⟩
def notGt (T : List (List Item)) (x : ByteArray) (i : Nat) : Bool := !gtS (fk T i) x
def lsrch (T : List (List Item)) (x : ByteArray) : Nat := bs (notGt T x) 0 T.length
set_option maxHeartbeats 1000000 in
theorem lsearch_any (bt bk g c0 : Nat) (A0 : Option Addr) (T : List (List Item)) (x : ByteArray) (w : World) (hn : T.length < 4611686018427387904) (hl : LeavesAt w A0 T)
    (h1 : w.cell? ⟨bt, 0, none⟩ = some (.pointer (some ⟨g, 0, none⟩))) (h2 : w.cell? ⟨bk, 0, none⟩ = some (.string x)) (h3 : w.cell? ⟨g, 0, none⟩ = some (.slice A0 T.length c0)) :
    Calls Try.prog 135 #[.int .i64 (T.length : Int), .func (.func 136) #[] #[.pointer (some ⟨bt, 0, none⟩), .pointer (some ⟨bk, 0, none⟩)]] w fun e w' => e = .returned (.int .i64 (lsrch T x : Int)) ∧ Below w.heap.size w w' := by
  have hB := Below.refl w.heap.size w
  have HB := Aside0.mk hB
  clear hB
  have HL := Aside0.mk hl
  have H1 := Aside0.mk h1
  have H2 := Aside0.mk h2
  have H3 := Aside0.mk h3
  clear hl h1 h2 h3
  go_enter Try.func135, Try.ntmps135
  go_wp2
  go_loopg [5, 6] (T.length + 1) (fun kq v9 v10 w' => ∃ (i j : Nat), v9 = .int .i64 (i : Int) ∧ v10 = .int .i64 (j : Int) ∧ i ≤ j ∧ j ≤ T.length ∧ j - i < kq ∧ Aside0 (bs (notGt T x) i j = lsrch T x) ∧ Aside0 (Below w.heap.size w w'))
  case atStart => exact ⟨0, T.length, rfl, rfl, by omega, by omega, by omega, ⟨rfl⟩, HB⟩
  case round =>
    obtain ⟨i, j, rfl, rfl, hij, hjl, hk, HS, HB⟩ := hrel
    by_cases hlt : i < j
    · have hm : (i + j) / 2 < T.length := by omega
      cases hp : gtS (fk T ((i + j) / 2)) x with
      | false =>
        have HS' : Aside0 (bs (notGt T x) ((i + j) / 2 + 1) j = lsrch T x) := ⟨by
          rw [← HS.out, bs_on _ _ _ hlt]
          unfold notGt
          rw [hp]; rfl⟩
        clear HS
        go_wp2_with (go_at_call 136; refine (leafcl_any ((i + j) / 2) bt bk g c0 A0 T x _ hm (HL.out.up HB.out) (up HB.out H1.out) (up HB.out H2.out) (up HB.out H3.out)).mono ?_; rw [hp]; rintro e w1 ⟨rfl, hb⟩; have HB1 := Aside0.mk (below_step HB.out hb); clear HB hb)
        go_roundg (gk - 1)
        case measure => omega
        case rel => exact ⟨(i + j) / 2 + 1, j, by go_num, rfl, by omega, by omega, by omega, HS', HB1⟩
      | true =>
        have HS' : Aside0 (bs (notGt T x) i ((i + j) / 2) = lsrch T x) := ⟨by
          rw [← HS.out, bs_back _ _ _ hlt]
          unfold notGt
          rw [hp]; rfl⟩
        clear HS
        go_wp2_with (go_at_call 136; refine (leafcl_any ((i + j) / 2) bt bk g c0 A0 T x _ hm (HL.out.up HB.out) (up HB.out H1.out) (up HB.out H2.out) (up HB.out H3.out)).mono ?_; rw [hp]; rintro e w1 ⟨rfl, hb⟩; have HB1 := Aside0.mk (below_step HB.out hb); clear HB hb)
        go_roundg (gk - 1)
        case measure => omega
        case rel => exact ⟨i, (i + j) / 2, rfl, by go_num, by omega, by omega, by omega, HS', HB1⟩
    · obtain rfl : i = j := by omega
      have HS1 : Aside0 (lsrch T x = i) := ⟨by rw [← HS.out, bs_done _ _ _ hlt]⟩
      clear HS
      go_wp2
      go_ret
      exact ⟨by rw [HS1.out]; try rfl, HB.out⟩
theorem lsrch_le (T : List (List Item)) (x : ByteArray) : lsrch T x ≤ T.length := (bs_range _ T.length _ 0 T.length rfl (Nat.zero_le _) (Nat.le_refl _)).2
set_option maxHeartbeats 1000000 in
theorem leaf_any (g c0 : Nat) (A0 : Option Addr) (T : List (List Item)) (x : ByteArray) (w : World) (hn : T.length < 4611686018427387904) (hl : LeavesAt w A0 T) (h3 : w.cell? ⟨g, 0, none⟩ = some (.slice A0 T.length c0)) :
    Calls Try.prog 111 #[.pointer (some ⟨g, 0, none⟩), .string x] w fun e w' => e = .returned (.int .i64 ((lsrch T x - 1 : Nat) : Int)) ∧ Below w.heap.size w w' := by
  have HL := Aside0.mk hl
  have H3 := Aside0.mk h3
  have hgl := World.block_lt_of_cell? w _ h3
  have HG := Aside0.mk hgl
  have hb2 : Below w.heap.size w ((w.alloc (.cells #[.pointer (some ⟨g, 0, none⟩)] 149 (0, 0))).alloc (.cells #[.string x] 9 (0, 0))) := below_alloc (below_alloc (Below.refl _ _) _) _
  have HB2 := Aside0.mk hb2
  have h3' := up hb2 h3
  have e1 : ((w.alloc (.cells #[.pointer (some ⟨g, 0, none⟩)] 149 (0, 0))).alloc (.cells #[.string x] 9 (0, 0))).cell? ⟨w.heap.size, 0, none⟩ = some (.pointer (some ⟨g, 0, none⟩)) := by
    refine up (below_alloc (Below.refl _ _) _) ?_
    unfold World.cell?
    rw [show (w.alloc (.cells #[.pointer (some ⟨g, 0, none⟩)] 149 (0, 0))).heap[w.heap.size]? = _ from blk_new _ _]
    rfl
  have e2 : ((w.alloc (.cells #[.pointer (some ⟨g, 0, none⟩)] 149 (0, 0))).alloc (.cells #[.string x] 9 (0, 0))).cell? ⟨w.heap.size + 1, 0, none⟩ = some (.string x) := by
    have hq := blk_new (w.alloc (.cells #[.pointer (some ⟨g, 0, none⟩)] 149 (0, 0))) (.cells #[.string x] 9 (0, 0))
    rw [World.size_alloc] at hq
    unfold World.cell?
    rw [hq]
    rfl
  have E1 := Aside0.mk e1
  have E2 := Aside0.mk e2
  have E3 := Aside0.mk h3'
  clear hl hgl hb2 e1 e2
  go_enter Try.func111, Try.ntmps111
  go_wp2_with (go_at_call 135; refine (lsearch_any w.heap.size (w.heap.size + 1) g c0 A0 T x _ hn (HL.out.up HB2.out) E1.out E2.out E3.out).mono ?_; rintro e w1 ⟨rfl, hb⟩; have HB3 := Aside0.mk (below_step HB2.out hb); clear hb)
  all_goals
    go_ret
    refine ⟨?_, HB3.out⟩
    have hw : wrap64 ((lsrch T x : Int) - 1) = (lsrch T x : Int) - 1 := by have := lsrch_le T x; unfold wrap64; omega
    rw [hw] at h
    first
    | (have q : wrap64 ((lsrch T x : Int) - 1) = ((lsrch T x - 1 : Nat) : Int) := (by rw [hw]; omega)
       rw [← q]; rfl)
    | (have q : (0 : Int) = ((lsrch T x - 1 : Nat) : Int) := (by omega)
       rw [← q]; rfl)
end Go.Proofs.Ytmafibbnojdpjaa.Tr
end
section
set_option linter.unusedVariables false
set_option maxRecDepth 100000
set_option linter.unusedSimpArgs false
namespace Go.Proofs.Ytmafibbnojdpjaa.Tr
open Go.RowKit Go.Proofs.YtmafibbnojdpjaaW.PrintWords Go.Proofs.YtmafibbnojdpjaaW.PrintLast Go.Proofs.YtmafibbnojdpjaaW.PrintMore
/-- where a key is, or would be: leaf, place, there -/
def findT (T : List (List Item)) (x : ByteArray) : Nat × Nat × Bool := if T.length = 0 then (0, 0, false) else (lsrch T x - 1, srch (lf T (lsrch T x - 1)) x, fnd (lf T (lsrch T x - 1)) x)
set_option maxHeartbeats 1000000 in
theorem find_any (g c0 : Nat) (A0 : Option Addr) (T : List (List Item)) (x : ByteArray) (w : World) (hn : T.length < 4611686018427387904) (hs : ∀ i, (lf T i).length < 4611686018427387904) (hl : LeavesAt w A0 T) (h3 : w.cell? ⟨g, 0, none⟩ = some (.slice A0 T.length c0)) :
    Calls Try.prog 92 #[.pointer (some ⟨g, 0, none⟩), .string x] w fun e w' => e = .returned (.tuple #[.int .i64 ((findT T x).1 : Int), .int .i64 ((findT T x).2.1 : Int), .bool (findT T x).2.2]) ∧ Below w.heap.size w w' := by
  by_cases hz : T.length = 0
  · unfold findT
    rw [if_pos hz]
    rw [hz] at h3
    go_enter Try.func92, Try.ntmps92
    go_wp2
    go_ret3
    exact ⟨rfl, Below.refl _ _⟩
  · have hi : lsrch T x - 1 < T.length := by have := lsrch_le T x; omega
    obtain ⟨ad, Ai, c, rfl, e1, e2, e3, e4⟩ := hl _ hi
    have e5 := Aside0.mk e4
    have HL := Aside0.mk hl
    have H3 := Aside0.mk h3
    clear e4 hl
    have hz' : (((T.length : Int)) == 0) = false := by simpa using hz
    unfold findT
    rw [if_neg hz]
    go_enter Try.func92, Try.ntmps92
    go_wp2_with (first
      | (go_at_call 111; refine (leaf_any g c0 (some ad) T x _ hn HL.out H3.out).mono ?_; rintro e w1 ⟨rfl, hb⟩; have h3 := up hb H3.out; have e1 := up hb e1; have HI := Aside0.mk (e5.out.up hb); have HB := Aside0.mk hb; clear hb)
      | (go_at_call 112; refine (search_any Ai c (lf T (lsrch T x - 1)) x _ HI.out e2 (hs _)).mono ?_; rintro e w2 ⟨rfl, hb⟩; have HB2 := Aside0.mk (below_step HB.out hb); clear hb))
    go_ret3
    exact ⟨rfl, HB2.out⟩
theorem findT_there (T : List (List Item)) (x : ByteArray) (h : (findT T x).2.2 = true) : (findT T x).1 < T.length ∧ (findT T x).2.1 < (lf T (findT T x).1).length ∧ cmpS (itm (lf T (findT T x).1) (findT T x).2.1).1 x = 0 := by
  unfold findT at h ⊢
  by_cases hz : T.length = 0
  · rw [if_pos hz] at h; cases h
  · rw [if_neg hz] at h ⊢
    have := of_decide_eq_true (show decide _ = true from h)
    have := lsrch_le T x
    exact ⟨by simp only; omega, (by assumption : _ ∧ _).1, (by assumption : _ ∧ _).2⟩
set_option maxHeartbeats 1000000 in
theorem get_any (g c0 : Nat) (A0 : Option Addr) (T : List (List Item)) (x : ByteArray) (w : World) (hn : T.length < 4611686018427387904) (hs : ∀ i, (lf T i).length < 4611686018427387904) (hl : LeavesAt w A0 T) (h3 : w.cell? ⟨g, 0, none⟩ = some (.slice A0 T.length c0)) :
    Calls Try.prog 67 #[.pointer (some ⟨g, 0, none⟩), .string x] w fun e w' => e = .returned (.tuple #[if (findT T x).2.2 then (itm (lf T (findT T x).1) (findT T x).2.1).2 else .slice none 0 0, .bool (findT T x).2.2]) ∧ Below w.heap.size w w' := by
  have hf := find_any g c0 A0 T x w hn hs hl h3
  cases ht : (findT T x).2.2 with
  | false =>
    rw [ht] at hf
    have HF := Aside0.mk hf
    clear hf hl h3
    go_enter Try.func67, Try.ntmps67
    go_wp2_with (go_at_call 92; refine HF.out.mono ?_; rintro e w1 ⟨rfl, hb⟩; have HB := Aside0.mk hb; clear hb)
    go_ret2
    exact ⟨rfl, HB.out⟩
  | true =>
    obtain ⟨t1, t2, _⟩ := findT_there T x ht
    obtain ⟨ad, Ai, c, rfl, e1, e2, e3, e4⟩ := hl _ t1
    obtain ⟨ad2, rfl, f0, f1⟩ := e4 _ t2
    rw [ht] at hf
    generalize (findT T x).1 = i at *
    generalize (findT T x).2.1 = k at *
    have HF := Aside0.mk hf
    clear hf hl e4
    go_enter Try.func67, Try.ntmps67
    go_wp2_with (go_at_call 92; refine HF.out.mono ?_; rintro e w1 ⟨rfl, hb⟩; have h3 := up hb h3; have e1 := up hb e1; have f1 := up hb f1; have HB := Aside0.mk hb; clear hb)
    go_ret2
    exact ⟨rfl, HB.out⟩
end Go.Proofs.Ytmafibbnojdpjaa.Tr
end
