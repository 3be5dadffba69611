/- Trees of strings: Ts, Tf, Tg, Th, Ti, Tj, Tk, out of the texts for trees of ints by gen_str.py. -/
import Derived.Test.YtmpcmpanolnpfaaTw
set_option linter.unusedVariables false
set_option linter.unusedSimpArgs false
namespace Go.Proofs.Ytmpcmpanolnpfaa.Tr.Sr
open Go.RowKit Go.Proofs.YtmpcmpanolnpfaaW.PrintWords Go.Proofs.YtmpcmpanolnpfaaW.PrintLast Go.Proofs.YtmpcmpanolnpfaaW.PrintMore
section
set_option maxHeartbeats 1000000 in
theorem closure_any (k : ByteArray) (v : Value) (x : ByteArray) (w : World) : Calls Try.prog 48 #[.agg #[.string k, v], .string x] w fun e w' => e = .returned (.int .i64 (cmpS k x)) ∧ Below w.heap.size w w' := by
  go_enter Try.func48, Try.ntmps48
  go_wp2_with (go_at_call 40; refine (compare_any _ _ _).mono ?_; rintro e w' ⟨rfl, rfl⟩)
  go_ret
  exact ⟨rfl, (Below.refl _ _).alloc (Nat.le_refl _) _⟩
set_option maxHeartbeats 1000000 in
theorem search_any (A0 : Option Addr) (c0 : Nat) (l : List Item) (x : ByteArray) (w : World) (hr0 : ItemsAt w A0 l) (hc0 : l.length ≤ c0) (hn : l.length < 4611686018427387904) :
    Calls Try.prog 47 #[.slice A0 l.length c0, .string x, .func (.func 48) #[] #[]] w fun e w' => e = .returned (.tuple #[.int .i64 (srch l x : Int), .bool (fnd l x)]) ∧ Below w.heap.size w w' := by
  have hB := Below.refl w.heap.size w
  have HB := Aside0.mk hB
  clear hB
  have HR := Aside0.mk hr0
  have HC := Aside0.mk hc0
  clear hr0 hc0
  go_enter Try.func47, Try.ntmps47
  go_wp2
  go_loopg [9, 10] (l.length + 1) (fun kq v9 v10 w' => ∃ (i j : Nat), v9 = .int .i64 (i : Int) ∧ v10 = .int .i64 (j : Int) ∧ i ≤ j ∧ j ≤ l.length ∧ j - i < kq ∧ Aside0 (bs (less l x) i j = srch l x) ∧ Aside0 (Below w.heap.size w w'))
  case atStart => exact ⟨0, l.length, rfl, rfl, by omega, by omega, by omega, ⟨rfl⟩, HB⟩
  case round =>
    obtain ⟨i, j, rfl, rfl, hij, hjl, hk, HS, HB⟩ := hrel
    by_cases hlt : i < j
    · have hm : (i + j) / 2 < l.length := by omega
      obtain ⟨ad, e, h0, h1⟩ := HR.out ((i + j) / 2) hm
      cases e
      replace h0 := (HB.out.cell (World.block_lt_of_cell? w _ h0)).trans h0
      replace h1 := (HB.out.cell (World.block_lt_of_cell? w _ h1)).trans h1
      obtain ⟨v, hv⟩ : ∃ v, v = itm l ((i + j) / 2) := ⟨_, rfl⟩
      rw [← hv] at h0 h1
      have HV := Aside0.mk hv
      clear hv
      cases hp : decide (cmpS v.1 x < 0) with
      | true =>
        have HS' : Aside0 (bs (less l x) ((i + j) / 2 + 1) j = srch l x) := ⟨by
          rw [← HS.out, bs_on _ _ _ hlt]
          unfold less
          rw [← HV.out]
          exact hp⟩
        clear HS
        go_wp2_with (go_at_call 48; refine (closure_any v.1 v.2 x _).mono ?_; rintro e w1 ⟨rfl, hb⟩; have HB1 := Aside0.mk (below_step HB.out hb); clear HB hb)
        go_roundg (gk - 1)
        case measure => omega
        case rel => exact ⟨(i + j) / 2 + 1, j, by go_num, rfl, by omega, by omega, by omega, HS', HB1⟩
      | false =>
        have HS' : Aside0 (bs (less l x) i ((i + j) / 2) = srch l x) := ⟨by
          rw [← HS.out, bs_back _ _ _ hlt]
          unfold less
          rw [← HV.out]
          exact hp⟩
        clear HS
        go_wp2_with (go_at_call 48; refine (closure_any v.1 v.2 x _).mono ?_; rintro e w1 ⟨rfl, hb⟩; have HB1 := Aside0.mk (below_step HB.out hb); clear HB hb)
        go_roundg (gk - 1)
        case measure => omega
        case rel => exact ⟨i, (i + j) / 2, rfl, by go_num, by omega, by omega, by omega, HS', HB1⟩
    · obtain rfl : i = j := by omega
      have HS1 : Aside0 (srch l x = i) := ⟨by rw [← HS.out, bs_done _ _ _ hlt]⟩
      clear HS
      by_cases hn' : i < l.length
      · obtain ⟨ad, e, h0, h1⟩ := HR.out i hn'
        cases e
        replace h0 := (HB.out.cell (World.block_lt_of_cell? w _ h0)).trans h0
        replace h1 := (HB.out.cell (World.block_lt_of_cell? w _ h1)).trans h1
        obtain ⟨v, hv⟩ : ∃ v, v = itm l i := ⟨_, rfl⟩
        rw [← hv] at h0 h1
        have HV := Aside0.mk hv
        clear hv
        have HF : Aside0 (fnd l x = (cmpS v.1 x == 0)) := ⟨by
          unfold fnd
          rw [HS1.out, ← HV.out, Bool.eq_iff_iff]
          simp [hn']⟩
        cases hp : (cmpS v.1 x == 0) with
        | true =>
          have HF1 : Aside0 (fnd l x = true) := ⟨HF.out.trans hp⟩
          clear HF
          go_wp2_with (go_at_call 48; refine (closure_any v.1 v.2 x _).mono ?_; rintro e w1 ⟨rfl, hb⟩; have HB1 := Aside0.mk (below_step HB.out hb); clear HB hb)
          go_ret2
          exact ⟨by rw [HS1.out, HF1.out]; try rfl, HB1.out⟩
        | false =>
          have HF1 : Aside0 (fnd l x = false) := ⟨HF.out.trans hp⟩
          clear HF
          go_wp2_with (go_at_call 48; refine (closure_any v.1 v.2 x _).mono ?_; rintro e w1 ⟨rfl, hb⟩; have HB1 := Aside0.mk (below_step HB.out hb); clear HB hb)
          go_ret2
          exact ⟨by rw [HS1.out, HF1.out]; try rfl, HB1.out⟩
      · have HF1 : Aside0 (fnd l x = false) := ⟨by
          unfold fnd
          rw [HS1.out]
          simp [hn']⟩
        obtain rfl : i = l.length := by omega
        go_wp2
        go_ret2
        exact ⟨by rw [HS1.out, HF1.out]; try rfl, HB.out⟩
end
section
set_option maxHeartbeats 1000000 in
theorem leafcl_any (i : Nat) (bt bk g c0 : Nat) (A0 : Option Addr) (T : List (List Item)) (x : ByteArray) (w : World) (hi : i < T.length) (hl : LeavesAt w A0 T)
    (h1 : w.cell? ⟨bt, 0, none⟩ = some (.pointer (some ⟨g, 0, none⟩))) (h2 : w.cell? ⟨bk, 0, none⟩ = some (.string x)) (h3 : w.cell? ⟨g, 0, none⟩ = some (.slice A0 T.length c0)) :
    Calls Try.prog 60 #[.int .i64 (i : Int), .pointer (some ⟨bt, 0, none⟩), .pointer (some ⟨bk, 0, none⟩)] w fun e w' => e = .returned (.bool (gtS (fk T i) x)) ∧ Below w.heap.size w w' := by
  obtain ⟨ad, Ai, c, rfl, e1, e2, e3, e4⟩ := hl i hi
  obtain ⟨ad2, rfl, f1, f2⟩ := e4 0 e3
  rw [show ad2.add (0 * 2) = ad2 from Addr.add_zero' _] at f1 f2
  go_enter Try.func60, Try.ntmps60
  go_wp2
  go_quiet (fail)
  go_wp2
  go_ret
  exact ⟨rfl, pw_below_drewN (Below.refl _ _) nq⟩
set_option maxHeartbeats 1000000 in
theorem lsearch_any (bt bk g c0 : Nat) (A0 : Option Addr) (T : List (List Item)) (x : ByteArray) (w : World) (hn : T.length < 4611686018427387904) (hl : LeavesAt w A0 T)
    (h1 : w.cell? ⟨bt, 0, none⟩ = some (.pointer (some ⟨g, 0, none⟩))) (h2 : w.cell? ⟨bk, 0, none⟩ = some (.string x)) (h3 : w.cell? ⟨g, 0, none⟩ = some (.slice A0 T.length c0)) :
    Calls Try.prog 54 #[.int .i64 (T.length : Int), .func (.func 60) #[] #[.pointer (some ⟨bt, 0, none⟩), .pointer (some ⟨bk, 0, none⟩)]] w fun e w' => e = .returned (.int .i64 (lsrch T x : Int)) ∧ Below w.heap.size w w' := by
  have hB := Below.refl w.heap.size w
  have HB := Aside0.mk hB
  clear hB
  have HL := Aside0.mk hl
  have H1 := Aside0.mk h1
  have H2 := Aside0.mk h2
  have H3 := Aside0.mk h3
  clear hl h1 h2 h3
  go_enter Try.func54, Try.ntmps54
  go_wp2
  go_loopg [5, 6] (T.length + 1) (fun kq v9 v10 w' => ∃ (i j : Nat), v9 = .int .i64 (i : Int) ∧ v10 = .int .i64 (j : Int) ∧ i ≤ j ∧ j ≤ T.length ∧ j - i < kq ∧ Aside0 (bs (notGt T x) i j = lsrch T x) ∧ Aside0 (Below w.heap.size w w'))
  case atStart => exact ⟨0, T.length, rfl, rfl, by omega, by omega, by omega, ⟨rfl⟩, HB⟩
  case round =>
    obtain ⟨i, j, rfl, rfl, hij, hjl, hk, HS, HB⟩ := hrel
    by_cases hlt : i < j
    · have hm : (i + j) / 2 < T.length := by omega
      cases hp : gtS (fk T ((i + j) / 2)) x with
      | false =>
        have HS' : Aside0 (bs (notGt T x) ((i + j) / 2 + 1) j = lsrch T x) := ⟨by
          rw [← HS.out, bs_on _ _ _ hlt]
          unfold notGt
          rw [hp]; rfl⟩
        clear HS
        go_wp2_with (go_at_call 60; refine (leafcl_any ((i + j) / 2) bt bk g c0 A0 T x _ hm (HL.out.up HB.out) (up HB.out H1.out) (up HB.out H2.out) (up HB.out H3.out)).mono ?_; rw [hp]; rintro e w1 ⟨rfl, hb⟩; have HB1 := Aside0.mk (below_step HB.out hb); clear HB hb)
        go_roundg (gk - 1)
        case measure => omega
        case rel => exact ⟨(i + j) / 2 + 1, j, by go_num, rfl, by omega, by omega, by omega, HS', HB1⟩
      | true =>
        have HS' : Aside0 (bs (notGt T x) i ((i + j) / 2) = lsrch T x) := ⟨by
          rw [← HS.out, bs_back _ _ _ hlt]
          unfold notGt
          rw [hp]; rfl⟩
        clear HS
        go_wp2_with (go_at_call 60; refine (leafcl_any ((i + j) / 2) bt bk g c0 A0 T x _ hm (HL.out.up HB.out) (up HB.out H1.out) (up HB.out H2.out) (up HB.out H3.out)).mono ?_; rw [hp]; rintro e w1 ⟨rfl, hb⟩; have HB1 := Aside0.mk (below_step HB.out hb); clear HB hb)
        go_roundg (gk - 1)
        case measure => omega
        case rel => exact ⟨i, (i + j) / 2, rfl, by go_num, by omega, by omega, by omega, HS', HB1⟩
    · obtain rfl : i = j := by omega
      have HS1 : Aside0 (lsrch T x = i) := ⟨by rw [← HS.out, bs_done _ _ _ hlt]⟩
      clear HS
      go_wp2
      go_ret
      exact ⟨by rw [HS1.out]; try rfl, HB.out⟩
set_option maxHeartbeats 1000000 in
theorem leaf_any (g c0 : Nat) (A0 : Option Addr) (T : List (List Item)) (x : ByteArray) (w : World) (hn : T.length < 4611686018427387904) (hl : LeavesAt w A0 T) (h3 : w.cell? ⟨g, 0, none⟩ = some (.slice A0 T.length c0)) :
    Calls Try.prog 46 #[.pointer (some ⟨g, 0, none⟩), .string x] w fun e w' => e = .returned (.int .i64 ((lsrch T x - 1 : Nat) : Int)) ∧ Below w.heap.size w w' := by
  have HL := Aside0.mk hl
  have H3 := Aside0.mk h3
  have hgl := World.block_lt_of_cell? w _ h3
  have HG := Aside0.mk hgl
  have hb2 : Below w.heap.size w ((w.alloc (.cells #[.pointer (some ⟨g, 0, none⟩)] 40 (0, 0))).alloc (.cells #[.string x] 9 (0, 0))) := below_alloc (below_alloc (Below.refl _ _) _) _
  have HB2 := Aside0.mk hb2
  have h3' := up hb2 h3
  have e1 : ((w.alloc (.cells #[.pointer (some ⟨g, 0, none⟩)] 40 (0, 0))).alloc (.cells #[.string x] 9 (0, 0))).cell? ⟨w.heap.size, 0, none⟩ = some (.pointer (some ⟨g, 0, none⟩)) := by
    refine up (below_alloc (Below.refl _ _) _) ?_
    unfold World.cell?
    rw [show (w.alloc (.cells #[.pointer (some ⟨g, 0, none⟩)] 40 (0, 0))).heap[w.heap.size]? = _ from blk_new _ _]
    rfl
  have e2 : ((w.alloc (.cells #[.pointer (some ⟨g, 0, none⟩)] 40 (0, 0))).alloc (.cells #[.string x] 9 (0, 0))).cell? ⟨w.heap.size + 1, 0, none⟩ = some (.string x) := by
    have hq := blk_new (w.alloc (.cells #[.pointer (some ⟨g, 0, none⟩)] 40 (0, 0))) (.cells #[.string x] 9 (0, 0))
    rw [World.size_alloc] at hq
    unfold World.cell?
    rw [hq]
    rfl
  have E1 := Aside0.mk e1
  have E2 := Aside0.mk e2
  have E3 := Aside0.mk h3'
  clear hl hgl hb2 e1 e2
  go_enter Try.func46, Try.ntmps46
  go_wp2_with (go_at_call 54; refine (lsearch_any w.heap.size (w.heap.size + 1) g c0 A0 T x _ hn (HL.out.up HB2.out) E1.out E2.out E3.out).mono ?_; rintro e w1 ⟨rfl, hb⟩; have HB3 := Aside0.mk (below_step HB2.out hb); clear hb)
  all_goals
    go_ret
    refine ⟨?_, HB3.out⟩
    have hw : wrap64 ((lsrch T x : Int) - 1) = (lsrch T x : Int) - 1 := by have := lsrch_le T x; unfold wrap64; omega
    have q : max 0 (wrap64 ((lsrch T x : Int) - 1)) = ((lsrch T x - 1 : Nat) : Int) := by rw [hw]; omega
    rw [← q]
    rfl
end
section
set_option maxHeartbeats 1000000 in
theorem find_any (g c0 : Nat) (A0 : Option Addr) (T : List (List Item)) (x : ByteArray) (w : World) (hn : T.length < 4611686018427387904) (hs : ∀ i, (lf T i).length < 4611686018427387904) (hl : LeavesAt w A0 T) (h3 : w.cell? ⟨g, 0, none⟩ = some (.slice A0 T.length c0)) :
    Calls Try.prog 31 #[.pointer (some ⟨g, 0, none⟩), .string x] w fun e w' => e = .returned (.tuple #[.int .i64 ((findT T x).1 : Int), .int .i64 ((findT T x).2.1 : Int), .bool (findT T x).2.2]) ∧ Below w.heap.size w w' := by
  by_cases hz : T.length = 0
  · unfold findT
    rw [if_pos hz]
    rw [hz] at h3
    go_enter Try.func31, Try.ntmps31
    go_wp2
    go_ret3
    exact ⟨rfl, Below.refl _ _⟩
  · have hi : lsrch T x - 1 < T.length := by have := lsrch_le T x; omega
    obtain ⟨ad, Ai, c, rfl, e1, e2, e3, e4⟩ := hl _ hi
    have e5 := Aside0.mk e4
    have HL := Aside0.mk hl
    have H3 := Aside0.mk h3
    clear e4 hl
    have hz' : (((T.length : Int)) == 0) = false := by simpa using hz
    unfold findT
    rw [if_neg hz]
    go_enter Try.func31, Try.ntmps31
    go_wp2_with (first
      | (go_at_call 46; refine (leaf_any g c0 (some ad) T x _ hn HL.out H3.out).mono ?_; rintro e w1 ⟨rfl, hb⟩; have h3 := up hb H3.out; have e1 := up hb e1; have HI := Aside0.mk (e5.out.up hb); have HB := Aside0.mk hb; clear hb)
      | (go_at_call 47; refine (search_any Ai c (lf T (lsrch T x - 1)) x _ HI.out e2 (hs _)).mono ?_; rintro e w2 ⟨rfl, hb⟩; have HB2 := Aside0.mk (below_step HB.out hb); clear hb))
    go_ret3
    exact ⟨rfl, HB2.out⟩
set_option maxHeartbeats 1000000 in
theorem get_any (g c0 : Nat) (A0 : Option Addr) (T : List (List Item)) (x : ByteArray) (w : World) (hn : T.length < 4611686018427387904) (hs : ∀ i, (lf T i).length < 4611686018427387904) (hl : LeavesAt w A0 T) (h3 : w.cell? ⟨g, 0, none⟩ = some (.slice A0 T.length c0)) :
    Calls Try.prog 16 #[.pointer (some ⟨g, 0, none⟩), .string x] w fun e w' => e = .returned (.tuple #[if (findT T x).2.2 then (itm (lf T (findT T x).1) (findT T x).2.1).2 else .string ⟨#[]⟩, .bool (findT T x).2.2]) ∧ Below w.heap.size w w' := by
  have hf := find_any g c0 A0 T x w hn hs hl h3
  cases ht : (findT T x).2.2 with
  | false =>
    rw [ht] at hf
    have HF := Aside0.mk hf
    clear hf hl h3
    go_enter Try.func16, Try.ntmps16
    go_wp2_with (go_at_call 31; refine HF.out.mono ?_; rintro e w1 ⟨rfl, hb⟩; have HB := Aside0.mk hb; clear hb)
    go_ret2
    exact ⟨rfl, HB.out⟩
  | true =>
    obtain ⟨t1, t2, _⟩ := findT_there T x ht
    obtain ⟨ad, Ai, c, rfl, e1, e2, e3, e4⟩ := hl _ t1
    obtain ⟨ad2, rfl, f0, f1⟩ := e4 _ t2
    rw [ht] at hf
    generalize (findT T x).1 = i at *
    generalize (findT T x).2.1 = k at *
    have HF := Aside0.mk hf
    clear hf hl e4
    go_enter Try.func16, Try.ntmps16
    go_wp2_with (go_at_call 31; refine HF.out.mono ?_; rintro e w1 ⟨rfl, hb⟩; have h3 := up hb h3; have e1 := up hb e1; have f1 := up hb f1; have HB := Aside0.mk hb; clear hb)
    go_ret2
    exact ⟨rfl, HB.out⟩
theorem len_any (g : Nat) (n : Int) (w : World) (h : w.cell? ⟨g, 1, none⟩ = some (.int .i64 n)) : Calls Try.prog 17 #[.pointer (some ⟨g, 0, none⟩)] w fun e w' => e = .returned (.int .i64 n) ∧ w' = w := by
  go_enter Try.func17, Try.ntmps17
  go_wp2
  go_ret
  exact ⟨rfl, rfl⟩
theorem len_nil (w : World) : Calls Try.prog 17 #[.pointer none] w fun e w' => e = .returned (.int .i64 0) ∧ w' = w := by
  go_enter Try.func17, Try.ntmps17
  go_wp2
  go_ret
  exact ⟨rfl, rfl⟩
end
section
theorem info74 : (Try.prog.info? 74).map (fun i => (i.zero, i.size, i.bytes)) = some (some (.agg #[.string ⟨#[]⟩, .string ⟨#[]⟩]), 2, 32) := by kernel_rfl
set_option maxHeartbeats 1000000 in
set_option maxRecDepth 100000 in
theorem clone_any (ad : Addr) (m c : Nat) (news : List Value) (w : World) (hl : news.length = m * 2) (hnews : ∀ j u, news[j]? = some u → w.cell? (ad.add j) = some u) (h1 : ∀ u ∈ news, u.oneCell' = true)
    (hm : 0 < m) (hb : m ≤ 4398046511103) :
    Calls Try.prog 51 #[.slice (some ad) m c] w fun e w' => ∃ g cap, e = .returned (.slice (some ⟨g, 0, none⟩) m cap) ∧ w'.ownsRow w.heap.size 74 2 (.slice (some ⟨g, 0, none⟩) m cap) m news ∧ Below w.heap.size w w' := by
  obtain ⟨i0, hi0, hz0, hs0, hb0⟩ := info_parts info74
  have hN := Aside0.mk hnews
  have hO := World.ownsRow_lit (base := w.heap.size) (e := 74) (size := 2) w #[] 0 (Nat.le_refl _) (Nat.zero_le _) rfl
  have HO := Aside0.mk hO
  have HBl : Below w.heap.size w (w.alloc (.cells #[] 74 (0, 0))) := below_alloc (Below.refl _ _) _
  have HB := Aside0.mk HBl
  clear hnews hO HBl
  have q65 : ∀ (w : World) (a : Option Addr) (n c n' c' : Nat), (binOp .eql 75 (.slice a n c) (.slice none n' c')).run Try.prog w = .ok (.bool a.isNone) w := fun w a n c n' c' => Lib.run_eql_slice_nil w _ _ a n c n' c' Try.underlying75
  go_enter Try.func51, Try.ntmps51
  go_wp2_with (first | (refine wpList_append_lies _ rfl (.tmp 5) (.tmp 6) 75 rfl w.heap.size 74 i0 _ 2 32 Try.underlying75 hi0 hz0 hs0 hb0 rfl (by decide) (.slice (some ⟨w.heap.size, 0, none⟩) 0 0) 0 [] rfl HO.out ad m c news rfl hl (fun j u h => up HB.out (hN.out j u h)) h1 hm (by simp only [maxLen]; omega) (by omega) (by simp) _ rfl ?_; intro g cap w1 ho hg hat hlt))
  go_ret
  exact ⟨g, cap, rfl, by simpa using ho, HB.out.grown hg (by simp) (by intro k hk; simp [Value.ownBlock] at hk; omega)⟩
theorem ownsRow_below {w1 w2 : World} {base e size n : Nat} {v : Value} {xs : List Value} (h : w1.ownsRow base e size v n xs) (hb : Below w1.heap.size w1 w2) : w2.ownsRow base e size v n xs :=
  h.kept (row := none) ⟨hb.os, hb.tape, hb.output, hb.size, fun k hk _ => hb.block k hk⟩ (by cases hv : v.ownBlock with | none => exact .inl rfl | some k => exact .inr (by simp))
set_option maxHeartbeats 1000000 in
set_option maxRecDepth 100000 in
theorem halves_any (ad : Addr) (m c : Nat) (news : List Value) (w : World) (hl : news.length = m * 2) (hnews : ∀ j u, news[j]? = some u → w.cell? (ad.add j) = some u) (h1 : ∀ u ∈ news, u.oneCell' = true)
    (hm : 2 ≤ m) (hb : m ≤ 4398046511103) (hc : m ≤ c) (hc2 : c ≤ 9223372036854775807) :
    Calls Try.prog 33 #[.slice (some ad) m c] w fun e w' => ∃ g cap g2 cap2, e = .returned (.tuple #[.slice (some ⟨g, 0, none⟩) (m / 2) cap, .slice (some ⟨g2, 0, none⟩) (m - m / 2) cap2]) ∧
      w'.ownsRow w.heap.size 74 2 (.slice (some ⟨g, 0, none⟩) (m / 2) cap) (m / 2) (news.take (m / 2 * 2)) ∧ w'.ownsRow w.heap.size 74 2 (.slice (some ⟨g2, 0, none⟩) (m - m / 2) cap2) (m - m / 2) (news.drop (m / 2 * 2)) ∧ g ≠ g2 ∧ Below w.heap.size w w' := by
  have hN := Aside0.mk hnews
  clear hnews
  have a0 : (m : Int) / 2 = ((m / 2 : Nat) : Int) := by omega
  have a1 : (0 : Int) ≤ ((m / 2 : Nat) : Int) := by omega
  have a2 : ((m / 2 : Nat) : Int) ≤ (c : Int) := by omega
  have a3 : ((m / 2 : Nat) : Int) ≤ (m : Int) := by omega
  have a4 : m / 2 ≤ c := by omega
  have a5 : ¬ c = m / 2 := by omega
  have a6 : m / 2 ≤ m := by omega
  have HB0 : Aside0 (Below w.heap.size w w.drew) := ⟨⟨rfl, rfl, rfl, Nat.le_refl _, fun _ _ => rfl⟩⟩
  generalize hh : m / 2 = d at a0 a1 a2 a3 a4 a5 a6 ⊢
  go_enter Try.func33, Try.ntmps33
  go_wp2
  go_region_law ((rw [if_pos (by rfl)]; go_simp; first
    | (refine (clone_any ad d c (news.take (d * 2)) _ (by rw [List.length_take]; omega) (fun j u h => up (HB0.out) (hN.out j u (by rw [List.getElem?_take] at h; split at h <;> simp_all))) (fun u h => h1 u (List.mem_of_mem_take h)) (by omega) (by omega)).mono ?_; rintro e w1 ⟨g, cap, rfl, ho, hb⟩; have HO1 := Aside0.mk ho; have HB1 := Aside0.mk hb; clear ho hb)
    | (refine (clone_any (ad.add (d * 2)) (m - d) (c - d) (news.drop (d * 2)) _ (by rw [List.length_drop]; omega) (fun j u h => up HB1.out (up HB0.out (by rw [add_add]; exact hN.out _ u (by rw [List.getElem?_drop] at h; exact h)))) (fun u h => h1 u (List.mem_of_mem_drop h)) (by omega) (by omega)).mono ?_; rintro e w2 ⟨g2, cap2, rfl, ho, hb⟩; have HO2 := Aside0.mk ho; have HB2 := Aside0.mk hb; clear ho hb)))
  go_wp2
  go_ret2
  have hsz : w.heap.size ≤ w1.heap.size := HB1.out.size
  have g1 := (HO1.out.lt g (by rfl)).2
  have g3 := (HO2.out.lt g2 (by rfl)).1
  exact ⟨g, cap, g2, cap2, rfl, ownsRow_below HO1.out HB2.out, ownsRow_lower HO2.out hsz, by omega, below_step (below_step HB0.out HB1.out) HB2.out⟩
end
section
set_option maxHeartbeats 1000000 in
set_option maxRecDepth 100000 in
/-- behind all -/
theorem insert_end (base b n cap0 : Nat) (xs : List Value) (ad : Addr) (m c : Nat) (news : List Value) (w : World) (hown : w.ownsRow base 74 2 (.slice (some ⟨b, 0, none⟩) n cap0) n xs) (hbase : base ≤ w.heap.size)
    (hn0 : 0 < n) (hnc : n ≤ cap0) (hcap : cap0 ≤ 9223372036854775807) (hl : news.length = m * 2) (hnews : ∀ j u, news[j]? = some u → w.cell? (ad.add j) = some u) (h1 : ∀ u ∈ news, u.oneCell' = true) (hm : 0 < m) (hb : n + m ≤ 4398046511103) :
    Calls Try.prog 32 #[.slice (some ⟨b, 0, none⟩) n cap0, .int .i64 (n : Int), .slice (some ad) m c] w fun e w' => ∃ g cap, e = .returned (.slice (some ⟨g, 0, none⟩) (n + m) cap) ∧
      w'.ownsRow base 74 2 (.slice (some ⟨g, 0, none⟩) (n + m) cap) (n + m) (xs ++ news) ∧ w.grownBy w' (some b) ∧ (g = b ∨ g = w.heap.size) ∧ g < w'.heap.size := by
  obtain ⟨i0, hi0, hz0, hs0, hb0⟩ := info_parts info74
  have hN := Aside0.mk hnews
  have HO := Aside0.mk hown
  clear hnews hown
  have a1 : (0 : Int) ≤ (n : Int) := by omega
  have a2 : (n : Int) ≤ (cap0 : Int) := by omega
  have a3 : ¬ (m : Int) = 0 := by omega
  have a4 : ((m : Int) == 0) = false := by simpa using (show ¬ m = 0 by omega)
  go_enter Try.func32, Try.ntmps32
  go_wp2_with (first | (refine wpList_append_lies _ rfl (.tmp 23) (.tmp 24) 75 rfl base 74 i0 _ 2 32 Try.underlying75 hi0 hz0 hs0 hb0 rfl (by decide) (.slice (some ⟨b, 0, none⟩) n cap0) n xs rfl HO.out ad m c news rfl hl hN.out h1 hm (by simp only [maxLen]; omega) (by omega) hbase _ rfl ?_; intro g cap w1 ho hg hat hlt))
  all_goals
    go_ret
    refine ⟨g, cap, rfl, ho, hg, ?_, hlt⟩
    rcases hat with h | h
    · left
      simp [Value.ownBlock] at h
      omega
    · exact .inr h
end
section
theorem grownBy_setRow (w : World) (g : Nat) (cs : Array Value) : w.grownBy (w.setRow g cs) (some g) := ⟨rfl, rfl, rfl, by simp, fun k hk hne => setRow_other w g k cs (fun e => hne (by rw [e]))⟩
set_option maxHeartbeats 1000000 in
set_option maxRecDepth 100000 in
/-- there is room -/
theorem insert_room (base b n k cap0 vb : Nat) (xs vs : List Value) (tv : TypeId) (w : World) (hown : w.ownsRow base 74 2 (.slice (some ⟨b, 0, none⟩) n cap0) n xs)
    (hk : k < n) (hroom : n + 1 ≤ cap0) (hvl : vs.length = 2) (hv : w.heap[vb]? = some (.cells vs.toArray tv (0, 0))) (hvb : vb ≠ b) (h1 : ∀ u ∈ vs, u.oneCell' = true) (h1x : ∀ u ∈ xs, u.oneCell' = true) :
    Calls Try.prog 32 #[.slice (some ⟨b, 0, none⟩) n cap0, .int .i64 (k : Int), .slice (some ⟨vb, 0, none⟩) 1 1] w fun e w' => e = .returned (.slice (some ⟨b, 0, none⟩) (n + 1) cap0) ∧
      w'.ownsRow base 74 2 (.slice (some ⟨b, 0, none⟩) (n + 1) cap0) (n + 1) (xs.take (k * 2) ++ vs ++ xs.drop (k * 2)) ∧ w.grownBy w' (some b) := by
  obtain ⟨i0, hi0, hz0, hs0, hb0⟩ := info_parts info74
  have hsz : (Try.prog.info? 74).map (·.size) = some 2 := by rw [hi0]; simp [hs0]
  obtain ⟨hxl, hO⟩ := hown
  rcases hO with ⟨e, _⟩ | ⟨g, cap, cur, e, hgb, hg, hnc, hcm, hcs, htk⟩
  · cases e
  cases e
  have hcm' : cap0 ≤ 9223372036854775807 := by simpa only [maxLen] using hcm
  have hov : ∀ lb cb, (callFunc 49 #[.slice (some ⟨vb, 0, none⟩) 1 1, .slice (some ⟨b, (k + 1) * 2, none⟩) lb cb]).run Try.prog w = .ok (.value (.bool false)) w := fun lb cb => by
    rw [run_callFunc_extern Try.func49 (by kernel_rfl) (by kernel_rfl) (by kernel_rfl) (e := Extern.SlicesOverlaps.overlaps #[75, 75] #[4]) (by kernel_rfl),
      Lib.run_overlaps_apart w 75 4 74 Try.underlying75 2 (fun w => by simp [sizeOf, typeInfo, hi0, hs0]) ⟨vb, 0, none⟩ ⟨b, (k + 1) * 2, none⟩ 1 1 lb cb hvb tv 74 2 cur.size
        (by simp [World.shape?, hv, hvl]) (by simp [World.shape?, hg]) (by omega) (by simp [World.frozen?, hv]) (by simp [World.frozen?, hv])]
    rfl
  have hdl : (xs.drop (k * 2)).length = (n - k) * 2 := by rw [List.length_drop, hxl]; omega
  obtain ⟨row1, hr1⟩ : ∃ r : Array Value, r = (cur.toList.take ((k + 1) * 2) ++ (xs.drop (k * 2) ++ cur.toList.drop ((k + 1) * 2 + (xs.drop (k * 2)).length))).toArray := ⟨_, rfl⟩
  obtain ⟨hl1, _, _⟩ := room_row cur.toList xs vs (k * 2) (n * 2) 2 htk.symm hxl (by omega) (by rw [Array.length_toList, hcs]; omega) hvl row1.toList _ (by rw [hr1, show (k + 1) * 2 = k * 2 + 2 by omega]) rfl
  have hl1' : row1.size = cur.size := by simpa using hl1
  have HX : ∀ j v, (xs.drop (k * 2))[j]? = some v → w.drew.cell? ((⟨b, k * 2, none⟩ : Addr).add j) = some v := fun j v hj => cells_of_heap (w := w.drew) hg _ _ _ (by
    rw [List.getElem?_drop, ← htk, List.getElem?_take] at hj
    split at hj
    · simpa using hj
    · cases hj)
  have HXa := Aside0.mk HX
  have Hg1 : (w.drew.setRow b row1).heap[b]? = some (.cells row1 74 (0, 0)) := setRow_heap w.drew b cur row1 74 (0, 0) hg
  have HV : ∀ j v, vs[j]? = some v → (w.drew.setRow b row1).cell? ((⟨vb, 0, none⟩ : Addr).add j) = some v := fun j v hj => by
    rw [Addr.add_lit, cell_setRow_other _ _ _ _ hvb]
    exact cell_of_row w vb _ vs.toArray tv (0, 0) hv |>.trans (by simpa using hj)
  have HVa := Aside0.mk HV
  have a1 : (0 : Int) ≤ (k : Int) := by omega
  have a2 : (k : Int) ≤ (n : Int) := by omega
  have a3 : ¬ (k : Int) = (n : Int) := by omega
  have a4 : ((k : Int) == (n : Int)) = false := by simp; omega
  have hw1 : IntKind.i64.wrap ((k : Int) + 1) = (k : Int) + 1 := by rw [IntKind.wrap_i64]; omega
  have a5 : ¬ (cap0 : Int) < (n : Int) + 1 := by omega
  have a6 : (n : Int) + 1 ≤ (cap0 : Int) := by omega
  have a7 : (0 : Int) ≤ (n : Int) + 1 := by omega
  have a8 : (0 : Int) ≤ (k : Int) + 1 := by omega
  have a9 : (k : Int) + 1 ≤ (n : Int) + 1 := by omega
  have b1 : (k : Int) ≤ (n : Int) + 1 := by omega
  have b2 : ¬ (cap0 = k + 1) := by omega
  have b3 : ¬ (cap0 = k) := by omega
  have b4 : (k : Int) ≤ (cap0 : Int) := by omega
  have htn : ((k : Int) + 1).toNat = k + 1 := by omega
  have htm : ((n : Int) + 1).toNat = n + 1 := by omega
  clear HX HV
  have HR1 := Aside0.mk hr1
  clear hr1
  have HTK := Aside0.mk htk.symm
  clear htk
  go_enter Try.func32, Try.ntmps32
  go_wp2_with (simp only [hov])
  go_region_law (refine Cpy.step_copy_at rfl _ _ 75 75 rfl 74 2 Try.underlying75 hsz b ((k + 1) * 2) (n + 1 - (k + 1)) (cap0 - (k + 1)) ⟨b, k * 2, none⟩ (n + 1 - k) (cap0 - k) (by simp [Act.eval, Act.put]) (by simp [Act.eval, Act.put]) cur 74 hg (xs.drop (k * 2)) (by rw [hdl]; simp only [Nat.min_def]; split <;> omega) HXa.out (by rw [hdl, hcs]; omega) (fun u hu => h1x u (List.mem_of_mem_drop hu)) ?_; rw [← HR1.out])
  go_wp2_with (first | (refine Cpy.wpList_copy_at rfl _ _ 75 75 rfl 74 2 Try.underlying75 hsz b (k * 2) (n + 1 - k) (cap0 - k) ⟨vb, 0, none⟩ 1 1 rfl rfl row1 74 Hg1 vs (by rw [hvl]; simp only [Nat.min_def]; split <;> omega) HVa.out (by rw [hvl, hl1', hcs]; omega) h1 ?_))
  go_ret
  obtain ⟨_, l2, e2⟩ := room_row cur.toList xs vs (k * 2) (n * 2) 2 HTK.out hxl (by omega) (by rw [Array.length_toList, hcs]; omega) hvl row1.toList _ (by rw [HR1.out, show (k + 1) * 2 = k * 2 + 2 by omega]) rfl
  refine ⟨rfl, ⟨?_, .inr ⟨b, cap0, _, rfl, hgb, setRow_heap _ b row1 _ 74 (0, 0) Hg1, hroom, hcm, ?_, ?_⟩⟩, ?_⟩
  · rw [← e2, List.length_take, l2, Array.length_toList, hcs]; omega
  · rw [List.size_toArray, l2, Array.length_toList, hcs]
  · rw [show (n + 1) * 2 = n * 2 + 2 by omega]; exact e2
  · exact grownBy_trans (grownBy_trans (grownBy_drew w _) (grownBy_setRow _ _ _)) (grownBy_setRow _ _ _)
set_option maxHeartbeats 1000000 in
set_option maxRecDepth 100000 in
/-- there is none -/
theorem insert_grow (base b n k cap0 vb : Nat) (xs vs : List Value) (tv : TypeId) (w : World) (hown : w.ownsRow base 74 2 (.slice (some ⟨b, 0, none⟩) n cap0) n xs) (hbase : base ≤ w.heap.size)
    (hk : k < n) (hroom : cap0 < n + 1) (hbig : n ≤ 4398046511103) (hvl : vs.length = 2) (hv : w.heap[vb]? = some (.cells vs.toArray tv (0, 0))) (h1 : ∀ u ∈ vs, u.oneCell' = true) (h1x : ∀ u ∈ xs, u.oneCell' = true) :
    Calls Try.prog 32 #[.slice (some ⟨b, 0, none⟩) n cap0, .int .i64 (k : Int), .slice (some ⟨vb, 0, none⟩) 1 1] w fun e w' => ∃ cap, e = .returned (.slice (some ⟨w.heap.size, 0, none⟩) (n + 1) cap) ∧
      w'.ownsRow base 74 2 (.slice (some ⟨w.heap.size, 0, none⟩) (n + 1) cap) (n + 1) (xs.take (k * 2) ++ vs ++ xs.drop (k * 2)) ∧ Below w.heap.size w w' := by
  obtain ⟨i0, hi0, hz0, hs0, hb0⟩ := info_parts info74
  have hsz : (Try.prog.info? 74).map (·.size) = some 2 := by rw [hi0]; simp [hs0]
  obtain ⟨hxl, hO⟩ := hown
  rcases hO with ⟨e, _⟩ | ⟨g, cap, cur, e, hgb, hg, hnc, hcm, hcs, htk⟩
  · cases e
  cases e
  have hcells : ∀ j v, xs[j]? = some v → w.cell? ((⟨b, 0, none⟩ : Addr).add j) = some v := fun j v hj => cells_of_heap hg _ _ _ (by
    rw [← htk, List.getElem?_take] at hj
    split at hj
    · simpa using hj
    · cases hj)
  have hcm' : cap0 ≤ 9223372036854775807 := by simpa only [maxLen] using hcm
  have hbs : b < w.heap.size := (Array.getElem?_eq_some_iff.1 hg).1
  have hvs : vb < w.heap.size := (Array.getElem?_eq_some_iff.1 hv).1
  have hik : k + (n + 1 - k) = n + 1 := by omega
  have hkk : (n : Int) + 1 - (k : Int) = ((n + 1 - k : Nat) : Int) := by omega
  have hold : (Builtin.firstCells i0.size k (.slice (some ⟨b, 0, none⟩) k cap0)).run Try.prog w.drew = .ok (xs.take (k * 2)).toArray w.drew := by
    rw [hs0]
    exact run_firstCells_some w.drew 2 k ⟨b, 0, none⟩ k cap0 (xs.take (k * 2)) (by rw [List.length_take]; omega) (fun j v hj => by
      rw [List.getElem?_take] at hj
      split at hj
      · exact hcells j v hj
      · cases hj)
  obtain ⟨G, hG⟩ : ∃ G, G = grownCap w (n + 1) cap0 74 := ⟨_, rfl⟩
  obtain ⟨z, hz⟩ : ∃ z : Value, z = .agg #[.string ⟨#[]⟩, .string ⟨#[]⟩] := ⟨_, rfl⟩
  have hzc : z.cells.size = 2 := by rw [hz]; rfl
  rw [← hz] at hz0
  obtain ⟨row0, hr0⟩ : ∃ r : Array Value, r = (xs.take (k * 2)).toArray ++ Builtin.zeroCells z.cells (n + 1 - k) ++ Builtin.zeroCells z.cells (G - (n + 1)) := ⟨_, rfl⟩
  have hrz : ∀ ty, (Builtin.append_ #[75, 3] ty #[.slice (some ⟨b, 0, none⟩) k cap0, .int .i64 ((n : Int) + 1 - (k : Int))]).run Try.prog w =
      .ok (.slice (some ⟨w.heap.size, 0, none⟩) (n + 1) G) (w.drew.alloc (.cells row0 74)) := fun ty => by
    have h := Lib.run_append_grow_zeros w 75 3 ty 74 i0 _ .i64 .i64 Try.underlying75 Try.underlying3 hi0 hz0 (some ⟨b, 0, none⟩) k cap0 _ hold (n + 1 - k) (by omega) (by omega) (by omega) (by omega) (by rw [hb0]; omega) (by rw [hb0, hik]; exact growslice_fits hroom (by omega))
    rw [hik, ← hG, ← hr0] at h
    rw [hkk]
    exact h
  have hGn : n + 1 ≤ G := by rw [hG]; exact grownCap_ge w _ _ _
  have hGm : G ≤ maxLen := by rw [hG]; exact grownCap_le_maxLen w (n + 1) cap0 74 (by unfold maxLen; omega)
  have hG63 : G ≤ 9223372036854775807 := by simpa only [maxLen] using hGm
  obtain ⟨row1, hr1⟩ : ∃ r : Array Value, r = (row0.toList.take (k * 2) ++ (vs ++ row0.toList.drop (k * 2 + vs.length))).toArray := ⟨_, rfl⟩
  have hdl : (xs.drop (k * 2)).length = (n - k) * 2 := by rw [List.length_drop, hxl]; omega
  obtain ⟨l0, l1, l2, e2⟩ := grow_row xs vs (Builtin.zeroCells z.cells (n + 1 - k)).toList (Builtin.zeroCells z.cells (G - (n + 1))).toList (k * 2) (n * 2) 2 hxl (by omega) hvl (by rw [Array.length_toList, size_zeroCells, hzc]; omega) row0.toList row1.toList _ (by rw [hr0]; simp) (by rw [hr1, hvl]) rfl
  have hzl : n * 2 + 2 + (Builtin.zeroCells z.cells (G - (n + 1))).toList.length = G * 2 := by rw [Array.length_toList, size_zeroCells, hzc]; omega
  rw [hzl] at l0 l1 l2
  rw [Array.length_toList] at l0 l1
  have Hg0 : (w.drew.alloc (.cells row0 74)).heap[w.heap.size]? = some (.cells row0 74 (0, 0)) := heap_alloc_new w.drew _
  have Hg1 : ((w.drew.alloc (.cells row0 74)).setRow w.heap.size row1).heap[w.heap.size]? = some (.cells row1 74 (0, 0)) := setRow_heap _ _ _ row1 74 (0, 0) Hg0
  have HV : ∀ j v, vs[j]? = some v → (w.drew.alloc (.cells row0 74)).cell? ((⟨vb, 0, none⟩ : Addr).add j) = some v := fun j v hj =>
    cells_of_heap (t := tv) (fr := (0, 0)) ((heap_alloc_old w.drew (.cells row0 74) hvs).trans hv) 0 j v (by simpa using hj)
  have HX : ∀ j v, (xs.drop (k * 2))[j]? = some v → ((w.drew.alloc (.cells row0 74)).setRow w.heap.size row1).cell? ((⟨b, k * 2, none⟩ : Addr).add j) = some v := fun j v hj => by
    rw [Addr.add_lit, cell_setRow_other _ _ _ _ (by show b ≠ w.heap.size; omega)]
    rw [List.getElem?_drop] at hj
    have h := hcells _ v hj
    rw [Addr.add_lit, Nat.zero_add] at h
    exact up (below_alloc (Below.refl _ _) _) (w := w.drew) h
  have HVa := Aside0.mk HV
  have HXa := Aside0.mk HX
  have HRZ := Aside0.mk hrz
  have HR1 := Aside0.mk hr1
  rw [show k * 2 + 2 = (k + 1) * 2 by omega, hdl] at l2 e2
  rw [show n * 2 + 2 = (n + 1) * 2 by omega] at e2
  have HE := Aside0.mk (And.intro l2 e2)
  clear HV HX hrz hr1 hr0 hz hG hcells htk hold l2 e2 hkk hik hzl
  have a1 : (0 : Int) ≤ (k : Int) := by omega
  have a2 : (k : Int) ≤ (n : Int) := by omega
  have a3 : ¬ (k : Int) = (n : Int) := by omega
  have a4 : ((k : Int) == (n : Int)) = false := by simp; omega
  have hw1 : IntKind.i64.wrap ((k : Int) + 1) = (k : Int) + 1 := by rw [IntKind.wrap_i64]; omega
  have a5 : (cap0 : Int) < (n : Int) + 1 := by omega
  have a7 : (0 : Int) ≤ (n : Int) + 1 := by omega
  have a8 : (0 : Int) ≤ (k : Int) + 1 := by omega
  have a9 : (k : Int) + 1 ≤ (n : Int) + 1 := by omega
  have b1 : (k : Int) ≤ (n : Int) + 1 := by omega
  have b2 : ¬ (G = k + 1) := by omega
  have b3 : ¬ (G = k) := by omega
  have b4 : (k : Int) ≤ (cap0 : Int) := by omega
  have b5 : ¬ (cap0 = k) := by omega
  have htn : ((k : Int) + 1).toNat = k + 1 := by omega
  have htm : ((n : Int) + 1).toNat = n + 1 := by omega
  go_enter Try.func32, Try.ntmps32
  go_wp2_with (first
    | (refine Lib.wpList_append_run _ rfl _ _ 75 3 rfl _ _ rfl rfl _ _ (HRZ.out _) ?_)
    | (refine Cpy.wpList_copy_at rfl _ _ 75 75 rfl 74 2 Try.underlying75 hsz w.heap.size (k * 2) (n + 1 - k) (G - k) ⟨vb, 0, none⟩ 1 1 rfl rfl row0 74 Hg0 vs (by rw [hvl]; simp only [Nat.min_def]; split <;> omega) HVa.out (by rw [hvl, l0]; omega) h1 ?_; rw [← HR1.out]))
  go_region_law (refine Cpy.step_copy_at rfl _ _ 75 75 rfl 74 2 Try.underlying75 hsz w.heap.size ((k + 1) * 2) (n + 1 - (k + 1)) (G - (k + 1)) ⟨b, k * 2, none⟩ (n - k) (cap0 - k) (by simp [Act.eval, Act.put]) (by simp [Act.eval, Act.put]) row1 74 Hg1 (xs.drop (k * 2)) (by rw [hdl]; simp only [Nat.min_def]; split <;> omega) HXa.out (by rw [hdl, l1]; omega) (fun u hu => h1x u (List.mem_of_mem_drop hu)) ?_)
  go_wp2
  go_ret
  obtain ⟨l2, e2⟩ := HE.out
  refine ⟨G, rfl, ⟨?_, .inr ⟨w.heap.size, G, _, rfl, hbase, setRow_heap _ w.heap.size row1 _ 74 (0, 0) Hg1, hGn, hGm, ?_, ?_⟩⟩, ?_⟩
  · rw [← e2, List.length_take, l2]; omega
  · rw [List.size_toArray]
    first | exact l2 | (rw [hdl]; exact l2)
  · first | exact e2 | (rw [hdl]; exact e2)
  · exact below_setRow (belowDrew (below_setRow (belowDrew (below_alloc (Below.refl _ _) _)) (Nat.le_refl _) _)) (Nat.le_refl _) _
end
section
/-- Insert of one, anywhere -/
theorem insert_any (base b n k cap0 vb : Nat) (xs vs : List Value) (tv : TypeId) (w : World) (hown : w.ownsRow base 74 2 (.slice (some ⟨b, 0, none⟩) n cap0) n xs) (hbase : base ≤ w.heap.size)
    (hk : k ≤ n) (hn0 : 0 < n) (hbig : n ≤ 4398046511102) (hvl : vs.length = 2) (hv : w.heap[vb]? = some (.cells vs.toArray tv (0, 0))) (hvb : vb ≠ b) (h1 : ∀ u ∈ vs, u.oneCell' = true) (h1x : ∀ u ∈ xs, u.oneCell' = true) :
    Calls Try.prog 32 #[.slice (some ⟨b, 0, none⟩) n cap0, .int .i64 (k : Int), .slice (some ⟨vb, 0, none⟩) 1 1] w fun e w' => ∃ g cap, e = .returned (.slice (some ⟨g, 0, none⟩) (n + 1) cap) ∧
      w'.ownsRow base 74 2 (.slice (some ⟨g, 0, none⟩) (n + 1) cap) (n + 1) (xs.take (k * 2) ++ vs ++ xs.drop (k * 2)) ∧ w.grownBy w' (some b) ∧ (g = b ∨ w.heap.size ≤ g) := by
  obtain ⟨c1, c2, c3, c4, c5⟩ := own_caps hown
  by_cases hkn : k = n
  · subst hkn
    refine (insert_end base b k cap0 xs ⟨vb, 0, none⟩ 1 1 vs w hown hbase hn0 c1 c2 (by omega) (fun j u hj => cells_of_heap hv 0 j u (by simpa using hj)) h1 (by omega) (by omega)).mono ?_
    rintro e w' ⟨g, cap, he, ho, hg, hgb, _⟩
    refine ⟨g, cap, he, ?_, hg, ?_⟩
    · rw [List.take_of_length_le (by omega), List.drop_eq_nil_of_le (by omega), List.append_nil]; exact ho
    · rcases hgb with h | h
      · exact .inl h
      · exact .inr (by omega)
  · by_cases hr : n + 1 ≤ cap0
    · refine (insert_room base b n k cap0 vb xs vs tv w hown (by omega) hr hvl hv hvb h1 h1x).mono ?_
      rintro e w' ⟨he, ho, hg⟩
      exact ⟨b, cap0, he, ho, hg, .inl rfl⟩
    · refine (insert_grow base b n k cap0 vb xs vs tv w hown hbase (by omega) (by omega) (by omega) hvl hv h1 h1x).mono ?_
      rintro e w' ⟨cap, he, ho, hb⟩
      exact ⟨_, cap, he, ho, below_grown hb _, .inr (Nat.le_refl _)⟩
end
end Go.Proofs.Ytmpcmpanolnpfaa.Tr.Sr
