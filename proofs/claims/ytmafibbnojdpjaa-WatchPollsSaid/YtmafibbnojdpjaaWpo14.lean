/- Lemmas that the proof needs, part 14. -/
import Derived.Test.YtmafibbnojdpjaaWKept
import Derived.Deep.RegionHeld3
import Derived.Test.YtmafibbnojdpjaaWWords
import Derived.Test.YtmafibbnojdpjaaWpo2
import Derived.Test.YtmafibbnojdpjaaWpo3
import Derived.Test.YtmafibbnojdpjaaWpo4
import Derived.Test.YtmafibbnojdpjaaWpo5
import Derived.Test.YtmafibbnojdpjaaWpo6
import Derived.Test.YtmafibbnojdpjaaWpo7
import Derived.Test.YtmafibbnojdpjaaWpo8
import Derived.Test.YtmafibbnojdpjaaWpo9
import Derived.Test.YtmafibbnojdpjaaWpo10
import Derived.Test.YtmafibbnojdpjaaWpo11
import Derived.Test.YtmafibbnojdpjaaWpo12
section
set_option linter.unusedVariables false
set_option maxRecDepth 100000
set_option linter.unusedSimpArgs false
namespace Go.Proofs.Ytmafibbnojdpjaa.St
open Go.Proofs.Ytmafibbnojdpjaa.Tr Go.RowKit Go.Proofs.YtmafibbnojdpjaaW.PrintWords Go.Proofs.YtmafibbnojdpjaaW.PrintLast Go.Proofs.YtmafibbnojdpjaaW.PrintMore Go.Proofs.Ytmafibbnojdpjaa.P
variable {G : Nat → Prop} {col : Nat → Nat} {w w' : World} {s : Nat} {M : StM} {H : Value} {L : List Tr.Item}
theorem cA_take {l : List Cm} {i : Nat} (hi : i < l.length) : l.take (i + 1) = l.take i ++ [cA l i] := by
  rw [List.take_succ_eq_append_getElem hi, cA_eq hi]
set_option maxHeartbeats 2000000 in
theorem since_old (h : StoreC G col w s M H L) (q : Int) (hq : q < M.low) :
    Calls Try.prog 59 #[.pointer (some ⟨s, 0, none⟩), .int .i64 q] w fun e w' => e = .returned (.tuple #[.slice none 0 0, .int .i64 12]) ∧ Below w.heap.size w w' := by
  have HLO : Aside0 (Calls Try.prog 43 #[.pointer (some ⟨s, 0, none⟩)] w fun e w' => e = .returned (.int .i64 M.low) ∧ w' = w) := ⟨low_any h⟩
  have d0 : decide (q < M.low) = true := decide_eq_true hq
  clear h hq
  go_enter Try.func59, Try.ntmps59
  go_wp2_with (first | (go_at_call 43; refine HLO.out.mono ?_; rintro e w1 ⟨rfl, e1⟩; subst e1))
  go_ret2
  exact ⟨rfl, Below.refl _ _⟩
set_option maxHeartbeats 2000000 in
theorem since_mark (h : StoreC G col w s M H L) (hi : 0 ≤ M.low) (hl : lastM M ≤ maxSeq) (q : Int) (hq : lastM M < q) :
    Calls Try.prog 59 #[.pointer (some ⟨s, 0, none⟩), .int .i64 q] w fun e w' => e = .returned (.tuple #[.slice none 0 0, .int .i64 13]) ∧ Below w.heap.size w w' := by
  have HLO : Aside0 (Calls Try.prog 43 #[.pointer (some ⟨s, 0, none⟩)] w fun e w' => e = .returned (.int .i64 M.low) ∧ w' = w) := ⟨low_any h⟩
  have HLA : Aside0 (Calls Try.prog 37 #[.pointer (some ⟨s, 0, none⟩)] w fun e w' => e = .returned (.int .i64 (lastM M)) ∧ ∃ n, w' = w.drewN n) := ⟨last_any h hi hl⟩
  have d0 : decide (q < M.low) = false := decide_eq_false (by unfold lastM at hq; omega)
  have d1 : decide (lastM M < q) = true := decide_eq_true hq
  clear h hq hl
  go_enter Try.func59, Try.ntmps59
  go_wp2_with (first
    | (go_at_call 43; refine HLO.out.mono ?_; rintro e w1 ⟨rfl, e1⟩; subst e1)
    | (go_at_call 37; refine HLA.out.mono ?_; rintro e w1 ⟨rfl, n, rfl⟩))
  go_ret2
  exact ⟨rfl, pw_below_drewN (Below.refl _ _) _⟩
set_option maxHeartbeats 8000000 in
theorem since_good (h : StoreC G col w s M H L) (hi : 0 ≤ M.low) (hl : lastM M ≤ maxSeq) (k : Nat) (hk : k ≤ M.hist.length) (hsz : M.hist.length ≤ 1000000) (hws : ∀ c ∈ M.hist, c.f2.length ≤ 200) :
    Calls Try.prog 59 #[.pointer (some ⟨s, 0, none⟩), .int .i64 (M.low + k)] w fun e w' => ∃ v, e = .returned (.tuple #[v, .int .i64 0]) ∧ Kd.R k28 28 w' w.heap.size (fun _ => True) v (M.hist.drop k) ∧ Below w.heap.size w w' := by
  have HLO : Aside0 (Calls Try.prog 43 #[.pointer (some ⟨s, 0, none⟩)] w fun e w' => e = .returned (.int .i64 M.low) ∧ w' = w) := ⟨low_any h⟩
  have HLA : Aside0 (Calls Try.prog 37 #[.pointer (some ⟨s, 0, none⟩)] w fun e w' => e = .returned (.int .i64 (lastM M)) ∧ ∃ n, w' = w.drewN n) := ⟨last_any h hi hl⟩
  have d0 : decide (M.low + (k : Int) < M.low) = false := decide_eq_false (by omega)
  have d1 : decide (lastM M < M.low + (k : Int)) = false := decide_eq_false (by unfold lastM; omega)
  obtain ⟨A, c, rfl, hc, hC⟩ := h.histS
  have c2 := h.c2
  have c3 := h.c3
  have hlow : M.low ≤ 1099511627776 := by unfold lastM maxSeq at hl; omega
  have e3 : IntKind.i64.wrap (M.low + (k : Int) - M.low) = (k : Int) := by rw [IntKind.wrap_i64]; omega
  have e4 : (0 : Int) ≤ (k : Int) := by omega
  have e5 : (k : Int) ≤ (M.hist.length : Int) := by omega
  have HC := Aside0.mk (Kd.C_drop hC hk hc)
  obtain ⟨A1, hA1⟩ : ∃ A1, (if c = k then A else A.map (·.add (k * k28.sz))) = A1 := ⟨_, rfl⟩
  rw [hA1, List.length_drop] at HC
  have hA2 : (if c = k then A else A.map (·.add (k * 3))) = A1 := hA1
  have HWS : Aside0 (∀ i, i < (M.hist.drop k).length → (cA (M.hist.drop k) i).f2.length ≤ 200) := ⟨fun i hi => by rw [cA_eq hi]; exact hws _ (List.mem_of_mem_drop (List.getElem_mem _))⟩
  have HLN : Aside0 ((M.hist.drop k).length = M.hist.length - k) := ⟨List.length_drop⟩
  generalize M.hist.drop k = L1 at *
  have HSZ := Aside0.mk hsz
  clear h hl hws hC hA1
  go_enter Try.func59, Try.ntmps59
  go_wp2_with (first
    | (go_at_call 43; refine HLO.out.mono ?_; rintro e w1 ⟨rfl, e1⟩; subst e1)
    | (go_at_call 37; refine HLA.out.mono ?_; rintro e w1 ⟨rfl, n, rfl⟩))
  go_quiet (fail)
  go_wp2
  have HB0 : Aside0 (Below w1.heap.size w1 ((w1.drewN n).drewN nq)) := ⟨pw_below_drewN (pw_below_drewN (Below.refl _ _) _) _⟩
  clear HLO HLA d0 d1 c2 c3 hA2 e3 e5
  generalize (w1.drewN n).drewN nq = W2 at *
  go_loopg [33, 6] (L1.length + 1) (fun kq v33 v6 wq => ∃ (i : Nat), v33 = .int .i64 (i : Int) ∧ i ≤ L1.length ∧ L1.length - i < kq ∧ Aside0 (Kd.R k28 28 wq w1.heap.size (fun _ => True) v6 (L1.take i)) ∧ Aside0 (Below w1.heap.size w1 wq))
  case atStart => exact ⟨0, rfl, Nat.zero_le _, by omega, ⟨Kd.R_nil _ _ _ _ _⟩, HB0⟩
  case round =>
    clear HB0
    obtain ⟨i, rfl, hi, hk, HR, HB⟩ := hrel
    have z0 : (0 : Int) ≤ (i : Int) := by omega
    have hln := HLN.out
    by_cases hlt : i < L1.length
    · have z1 : (i : Int) < ((M.hist.length - k : Nat) : Int) := by omega
      obtain ⟨ad5, A5, c5, eA, f0, f1, f2, f3, f4⟩ := at_T28 (Kd.C_below HC.out HB.out) (i : Int) z0 z1
      rw [rd_cA, Int.toNat_natCast] at f0 f1 f2
      rw [rd_cA] at f3 f4
      subst eA
      have hx2 := HWS.out i hlt
      have hb2 : Below wr.heap.size wr (wr.alloc (.cells #[.int .i64 (cA L1 i).f0, .int .i64 (cA L1 i).f1, .slice A5 (cA L1 i).f2.length c5] 28)) := below_alloc (Below.refl _ _) _
      have HCL := Aside0.mk (clonew_any (cA L1 i).f2 A5 c5 _ (Kd.C_below f4 hb2) f3 (by omega))
      have HTK := Aside0.mk (cA_take hlt)
      generalize cA L1 i = x at *
      have hnew := heap_alloc_new wr (.cells #[.int .i64 x.f0, .int .i64 x.f1, .slice A5 x.f2.length c5] 28)
      have HNW := Aside0.mk hnew
      obtain ⟨d0, d1, d2⟩ := three_new wr 28 (.int .i64 x.f0) (.int .i64 x.f1) (.slice A5 x.f2.length c5)
      have HB2 := Aside0.mk hb2
      clear f3 f4 hb2 hnew hln
      go_wp2_with (first
        | (go_at_call 66; refine HCL.out.mono ?_; rintro e w5 ⟨v5, rfl, hv5, hb5⟩; obtain ⟨A6, c6, rfl⟩ := Kd.R_slice hv5
           have HV5 := Aside0.mk hv5
           have HB5 := Aside0.mk hb5
           have x5 := (hb5.block wr.heap.size (by rw [World.size_alloc]; exact Nat.lt_succ_self _)).trans HNW.out
           have t0 : w5.cell? ⟨wr.heap.size, 0, none⟩ = some (.int .i64 x.f0) := (cell_of_row _ _ _ _ _ _ x5).trans rfl
           have t1 : w5.cell? ⟨wr.heap.size, 1, none⟩ = some (.int .i64 x.f1) := (cell_of_row _ _ _ _ _ _ x5).trans rfl
           have t2 : w5.cell? ⟨wr.heap.size, 2, none⟩ = some (.slice A5 x.f2.length c5) := (cell_of_row _ _ _ _ _ _ x5).trans rfl
           have z2 : w5.frozen? ⟨wr.heap.size, 2, none⟩ = false := by simp [World.frozen?, x5]
           have X5 := Aside0.mk x5
           clear hv5 hb5 x5)
        | ((with_reducible refine gate_builtin (b := .append) (xs := #[.tmp 41, .tmp 43]) rfl ?_); at_builtin
           refine Kd.R_append k28 (w0 := w1) w1.heap.size rfl (.tmp 41) (.tmp 43) 23 28 (.agg #[.int .i64 0, .int .i64 0, .slice none 0 0]) 40 rfl Try.underlying23 info28 rfl (by decide) (by decide) u6 (L1.take i) x [.int .i64 x.f0, .int .i64 x.f1, .slice A6 x.f2.length c6] (fun _ => True) (fun k => wr.heap.size ≤ k) rfl ?hx ?hp ?hok (fun _ _ => trivial) ?ho ?hb ?hbs ?hl ?_
           case hx => show Value.slice (some ⟨w5.heap.size, 0, none⟩) 1 1 = _; rw [World.size_setCell]
           case hp => exact k28_mkM _ _ _ x (Kd.R_lower (Kd.R_mono (Kd.R_far (p := ⟨wr.heap.size, 2, none⟩) (Kd.R_bound HV5.out) (fun k hk e => by have := hk.2.1; rw [World.size_alloc] at this; have e' : k = wr.heap.size := e; omega) _) (fun k hk => by have := hk.2.1; rw [World.size_alloc] at this; omega)) (by rw [World.size_alloc]; have := HB.out.size; omega))
           case hok => exact fun k hk => ⟨trivial, fun e => by have := Kd.R_lt HR.out k e.symm; omega⟩
           case ho => exact Kd.R_mono (Kd.R_far (p := ⟨wr.heap.size, 2, none⟩) (Kd.R_below (Kd.R_bound HR.out) (below_step HB2.out HB5.out)) (fun k hk e => by have := hk.2.2.1; have e' : k = wr.heap.size := e; omega) _) (fun _ _ => trivial)
           case hb => exact (below_step HB.out (below_step HB2.out HB5.out)).setCell (p := ⟨wr.heap.size, 2, none⟩) HB.out.size _
           case hbs => show w1.heap.size ≤ (w5.setCell _ _).heap.size; rw [World.size_setCell]; exact (below_step HB.out (below_step HB2.out HB5.out)).size
           case hl => have := HSZ.out; rw [List.length_take]; omega
           intro v7 w7 h1 h2 h3 h4
           rw [← HTK.out] at h1
           have H1 := Aside0.mk h1
           have H2 := Aside0.mk h2
           clear h1 h2 h3 h4))
      go_roundg (gk - 1)
      case measure => omega
      case rel => exact ⟨i + 1, by go_num, by omega, by omega, H1, H2⟩
    · have hiz : i = L1.length := by omega
      subst hiz
      rw [List.take_length] at HR
      have z1 : ¬ ((L1.length : Int) < ((M.hist.length - k : Nat) : Int)) := by omega
      clear hln hlt
      go_wp2
      go_ret2
      exact ⟨_, rfl, HR.out, HB.out⟩
end Go.Proofs.Ytmafibbnojdpjaa.St
end
section
set_option linter.unusedVariables false
set_option maxRecDepth 100000
set_option linter.unusedSimpArgs false
namespace Go.Proofs.Ytmafibbnojdpjaa.ChQ
open Go.RowKit Go.Proofs.Ytmafibbnojdpjaa.C Go.Proofs.Ytmafibbnojdpjaa.P Go.Proofs.YtmafibbnojdpjaaW.PrintWords Go.Proofs.YtmafibbnojdpjaaW.PrintLast
def key (l : List S118) (i : Nat) : Int := (rd_T118 l (i : Int)).f0
theorem bs_spec (p : Nat → Bool) (n r : Nat) (hr : ∀ k, k < r → p k = true) (hs : ∀ k, r ≤ k → k < n → p k = false) :
    ∀ d i j, j - i = d → i ≤ r → r ≤ j → j ≤ n → bs p i j = r := by
  intro d
  induction d using Nat.strongRecOn with
  | _ d ih =>
    intro i j hd hir hrj hjn
    by_cases h : i < j
    · by_cases c : (i + j) / 2 < r
      · rw [bs_on p i j h (hr _ c)]
        exact ih (j - ((i + j) / 2 + 1)) (by omega) _ _ rfl (by omega) hrj hjn
      · rw [bs_back p i j h (hs _ (by omega) (by omega))]
        exact ih ((i + j) / 2 - i) (by omega) _ _ rfl hir (by omega) (by omega)
    · rw [bs_done p i j h]; omega
theorem cmp_lt (a b : Int) : cmpI a b < 0 ↔ a < b := by
  unfold cmpI
  by_cases h : a < b
  · simp [h]
  · by_cases h2 : b < a
    · simp [h, h2]
    · simp [h, h2]
theorem cmp_eq (a b : Int) : cmpI a b = 0 ↔ a = b := by
  unfold cmpI
  by_cases h : a < b
  · simp [h]; omega
  · by_cases h2 : b < a
    · simp [h, h2]; omega
    · simp [h, h2]; omega
theorem less_eq (l : List S118) (x : Int) (i : Nat) : less l x i = decide (key l i < x) := by
  unfold less key
  rw [decide_eq_decide]
  exact cmp_lt _ _
theorem srch_eq (l : List S118) (x : Int) (n : Nat) (hn : n ≤ l.length) (h1 : ∀ i, i < n → key l i < x) (h2 : ∀ i, n ≤ i → i < l.length → x ≤ key l i) : srch l x = n := by
  unfold srch
  refine bs_spec _ l.length n (fun k hk => ?_) (fun k hk hl => ?_) _ 0 _ rfl (Nat.zero_le _) hn (Nat.le_refl _)
  · rw [less_eq]; exact decide_eq_true (h1 k hk)
  · rw [less_eq]; exact decide_eq_false (by have := h2 k hk hl; omega)
theorem behind_eq (l : List S118) (x : Int) (hr : ∀ i j, i < j → j < l.length → key l i < key l j) (n : Nat) (hn : n ≤ l.length) (h1 : ∀ i, i < n → key l i ≤ x) (h2 : ∀ i, n ≤ i → i < l.length → x < key l i) : behindN l x = n := by
  unfold behindN
  by_cases c : 0 < n ∧ key l (n - 1) = x
  · have e : srch l x = n - 1 := srch_eq l x (n - 1) (by omega) (fun i hi => by have := hr i (n - 1) hi (by omega); omega) (fun i hi hl => by
      by_cases c2 : i = n - 1
      · subst c2; omega
      · have := h2 i (by omega) hl; omega)
    have f : fnd l x = true := by
      unfold fnd
      rw [e]
      exact decide_eq_true ⟨by omega, (cmp_eq _ _).2 c.2⟩
    rw [f, if_pos rfl, e]; omega
  · have e : srch l x = n := srch_eq l x n hn (fun i hi => by
      by_cases c2 : i = n - 1
      · subst c2
        have := h1 (n - 1) hi
        have : key l (n - 1) ≠ x := fun h => c ⟨by omega, h⟩
        omega
      · have a := hr i (n - 1) (by omega) (by omega)
        have b := h1 (n - 1) (by omega)
        omega) (fun i hi hl => by have := h2 i hi hl; omega)
    have f : fnd l x = false := by
      unfold fnd
      rw [e]
      refine decide_eq_false ?_
      rintro ⟨ha, hb⟩
      have := (cmp_eq _ _).1 hb
      have h := h2 n (Nat.le_refl _) ha
      unfold key at h
      omega
    rw [f, e]; rfl
end Go.Proofs.Ytmafibbnojdpjaa.ChQ
namespace Go.Proofs.Ytmafibbnojdpjaa.St
open Go.Proofs.Ytmafibbnojdpjaa.ChQ (key behind_eq)
open Go.Proofs.Ytmafibbnojdpjaa.C (behindN chain_Chain_behind.calls chain_Chain_behind.f)
open Go.Proofs.Ytmafibbnojdpjaa.Tr Go.RowKit Go.Proofs.YtmafibbnojdpjaaW.PrintWords Go.Proofs.YtmafibbnojdpjaaW.PrintLast Go.Proofs.YtmafibbnojdpjaaW.PrintMore Go.Proofs.Ytmafibbnojdpjaa.P
def upV (c : List Ver) : Prop := c.Pairwise fun a b => a.f0 < b.f0
def cutV (c : List Ver) (q : Int) : List Ver := c.filter fun v => decide (v.f0 ≤ q)
/-- what belonged to the key behind a commit -/
def atO (c : List Ver) (q : Int) : Option ByteArray := (cutV c q).getLast?.bind fun v => if v.f2 then none else some v.f1
theorem cut_split {c : List Ver} (h : upV c) (q : Int) : cutV c q = c.take (cutV c q).length ∧ ∀ v ∈ c.drop (cutV c q).length, q < v.f0 := by
  induction c with
  | nil => exact ⟨rfl, fun v hv => (by cases hv)⟩
  | cons a c ih =>
    obtain ⟨h1, h2⟩ := List.pairwise_cons.1 h
    obtain ⟨i1, i2⟩ := ih h2
    by_cases hk : a.f0 ≤ q
    · have e1 : cutV (a :: c) q = a :: cutV c q := by unfold cutV; rw [List.filter_cons_of_pos (by simpa using hk)]
      rw [e1, List.length_cons, List.take_succ_cons, List.drop_succ_cons, ← i1]
      exact ⟨rfl, i2⟩
    · have hno : ∀ b ∈ c, ¬ b.f0 ≤ q := fun b hb => by have := h1 b hb; omega
      have e1 : cutV (a :: c) q = [] := by
        unfold cutV
        rw [List.filter_eq_nil_iff]
        intro b hb
        rcases List.mem_cons.1 hb with rfl | hb
        · simpa using hk
        · simpa using hno b hb
      rw [e1]
      refine ⟨rfl, fun v hv => ?_⟩
      rcases List.mem_cons.1 hv with rfl | hv
      · omega
      · have := hno v hv; omega
theorem key_get {c : List Ver} {i : Nat} (h : i < c.length) : key c i = c[i].f0 := by simp [key, rd_T118, List.getD, h]
theorem cut_len (c : List Ver) (q : Int) : (cutV c q).length ≤ c.length := List.length_filter_le _ _
theorem behind_cut {c : List Ver} (h : upV c) (q : Int) : behindN c q = ((cutV c q).length : Int) := by
  obtain ⟨h1, h2⟩ := cut_split h q
  have hl := cut_len c q
  refine behind_eq c q (fun i j hij hj => ?_) _ hl (fun i hi => ?_) (fun i hi hil => ?_)
  · rw [key_get (by omega), key_get hj]
    exact List.pairwise_iff_getElem.1 h i j (by omega) hj hij
  · rw [key_get (by omega)]
    have hm : c[i] ∈ cutV c q := by
      rw [h1, List.mem_take_iff_getElem]
      exact ⟨i, by omega, rfl⟩
    have := (List.mem_filter.1 hm).2
    simpa using this
  · rw [key_get hil]
    refine h2 _ ?_
    rw [List.mem_drop_iff_getElem]
    exact ⟨i - (cutV c q).length, by omega, by congr 1; omega⟩
set_option maxHeartbeats 4000000 in
theorem at_any {c : List Ver} (h : upV c) (A : Option Addr) (cap : Nat) (q : Int) (w : World) (hr : Kd.C k118 w A c.length c) (hc : c.length ≤ cap) (hn : c.length < 4611686018427387904) :
    Calls Try.prog 83 #[.slice A c.length cap, .int .i64 q] w fun e w' => e = .returned (.tuple #[.string ((atO c q).getD ⟨#[]⟩), .bool (atO c q).isSome]) ∧ Below w.heap.size w w' := by
  have HBH := Aside0.mk (chain_Chain_behind.calls A cap c q ((cutV c q).length : Int) w hr hc (by unfold chain_Chain_behind.f; rw [if_pos hn, behind_cut h]))
  obtain ⟨e1, _⟩ := cut_split h q
  have hl := cut_len c q
  have HR := Aside0.mk hr
  by_cases h0 : (cutV c q).length = 0
  · have ea : atO c q = none := by unfold atO; rw [List.length_eq_zero_iff.1 h0]; rfl
    rw [h0] at HBH
    rw [ea]
    clear h0 ea hl e1 hr
    go_enter Try.func83, Try.ntmps83
    go_wp2_with (go_at_call 104; refine HBH.out.mono ?_; rintro e w1 ⟨rfl, hb⟩; have HB := Aside0.mk hb; clear hb)
    go_ret2
    exact ⟨rfl, HB.out⟩
  · obtain ⟨n, hn0⟩ : ∃ n, (cutV c q).length = n + 1 := ⟨(cutV c q).length - 1, by omega⟩
    have hnl : n < c.length := by omega
    have ea : atO c q = if (c[n]).f2 then none else some (c[n]).f1 := by
      unfold atO
      rw [e1, hn0, List.take_succ_eq_append_getElem hnl, List.getLast?_append]
      simp
    obtain ⟨ad, eA, _, f1, f2⟩ := at_T118 hr (n : Int) (by omega) (by omega)
    rw [show rd_T118 c (n : Int) = c[n] from by simp [rd_T118, List.getD, hnl], Int.toNat_natCast] at f1 f2
    rw [hn0] at HBH
    rw [ea]
    subst eA
    generalize c[n] = v at *
    have d0 : (((n + 1 : Nat) : Int) == 0) = false := beq_eq_false_iff_ne.2 (by omega)
    have e3 : IntKind.i64.wrap (((n + 1 : Nat) : Int) - 1) = (n : Int) := by rw [IntKind.wrap_i64]; omega
    have e4 : wrap64 (((n + 1 : Nat) : Int) - 1) = (n : Int) := by rw [w64 (by omega) (by omega)]; omega
    have z0 : (0 : Int) ≤ (n : Int) := by omega
    have z1 : (n : Int) < (c.length : Int) := by omega
    clear h0 ea e1 hr hl hn0
    cases hg : v.f2 with
    | true =>
      rw [hg] at f2
      go_enter Try.func83, Try.ntmps83
      go_wp2_with (go_at_call 104; refine HBH.out.mono ?_; rintro e w1 ⟨rfl, hb⟩; have f1 := up hb f1; have f2 := up hb f2; have HB := Aside0.mk hb; clear hb)
      go_ret2
      exact ⟨rfl, HB.out⟩
    | false =>
      rw [hg] at f2
      go_enter Try.func83, Try.ntmps83
      go_wp2_with (go_at_call 104; refine HBH.out.mono ?_; rintro e w1 ⟨rfl, hb⟩; have f1 := up hb f1; have f2 := up hb f2; have HB := Aside0.mk hb; clear hb)
      go_ret2
      exact ⟨rfl, HB.out⟩
end Go.Proofs.Ytmafibbnojdpjaa.St
end
section
set_option linter.unusedVariables false
set_option maxRecDepth 100000
set_option linter.unusedSimpArgs false
namespace Go.Proofs.Ytmafibbnojdpjaa.St
open Go.Proofs.Ytmafibbnojdpjaa.Tr Go.RowKit Go.Proofs.YtmafibbnojdpjaaW.PrintWords Go.Proofs.YtmafibbnojdpjaaW.PrintLast Go.Proofs.Ytmafibbnojdpjaa.P
def hasPre (p x : ByteArray) : Bool := decide (p.size ≤ x.size) && ((x.extract 0 p.size).toList == p.toList)
def onlyW (p : ByteArray) (ws : List Wr) : List Wr := ws.filter fun x => hasPre p x.f0
def onlyC (p : ByteArray) (c : Cm) : Cm := ⟨c.f0, c.f1, onlyW p c.f2⟩
def onlyL (p : ByteArray) (cs : List Cm) : List Cm := (cs.map (onlyC p)).filter fun c => decide (c.f2.length ≠ 0)
theorem pre_f (x p : ByteArray) : strings_HasPrefix.f x p = some (hasPre p x) := by
  unfold strings_HasPrefix.f stringslite_HasPrefix.f hasPre
  by_cases c : p.size ≤ x.size
  · rw [if_pos (by omega), if_pos (by omega), if_pos (by omega), decide_eq_true c]
    simp
  · rw [if_neg (by omega), decide_eq_false c]
    rfl
theorem onlyW_snoc {p : ByteArray} {ws : List Wr} {i : Nat} (hi : i < ws.length) : onlyW p (ws.take (i + 1)) = onlyW p (ws.take i) ++ if hasPre p (wA ws i).f0 = true then [wA ws i] else [] := by
  unfold onlyW
  rw [List.take_succ_eq_append_getElem hi, List.filter_append, wA_eq hi, List.filter_cons]
  rfl
theorem only_l0 (p : ByteArray) (ws : List Wr) (q t : Int) (hn : ws.length < 3518437208883) : ∀ (d i : Nat), i + d = ws.length → Ev (fun k => watch_only.l0 k p ws (ws.length : Int) (i : Int) q t (onlyW p (ws.take i))) (q, t, onlyW p ws)
  | 0, i, h => by
    obtain rfl : i = ws.length := by omega
    rw [List.take_length]
    refine Ev.step (fun k => by simp only [watch_only.l0]; rfl) ?_
    exact ev_neg (by omega) (Ev.now _)
  | d + 1, i, h => by
    have hi : i < ws.length := by omega
    refine Ev.step (fun k => by simp only [watch_only.l0]; rfl) ?_
    rw [show wrap64 ((i : Int) + 1) = ((i + 1 : Nat) : Int) from by rw [w64 (by omega) (by omega)]; rfl, rd_wA, pre_f]
    have hil : (i : Int) < (ws.length : Int) := by omega
    refine ev_pos hil (ev_pos (by omega) (ev_pos hil ?_))
    simp only [Option.bind_some]
    have ih := only_l0 p ws q t hn d (i + 1) (by omega)
    rw [onlyW_snoc hi] at ih
    cases hp : hasPre p (wA ws i).f0 with
    | true =>
      rw [hp, if_pos rfl] at ih
      have hl : (onlyW p (ws.take i)).length < 3518437208883 := by
        have h1 := List.length_filter_le (fun x : Wr => hasPre p x.f0) (ws.take i)
        rw [List.length_take] at h1
        unfold onlyW
        omega
      exact ev_pos rfl (ev_pos hl ih)
    | false =>
      rw [hp, if_neg (by decide), List.append_nil] at ih
      exact ev_neg (by decide) ih
theorem only_any (c : Cm) (p : ByteArray) (A : Option Addr) (cap : Nat) (w : World) (hr : Kd.C k31 w A c.f2.length c.f2) (hc : c.f2.length ≤ cap) (hn : c.f2.length < 3518437208883) :
    Calls Try.prog 86 #[.agg #[.int .i64 c.f0, .int .i64 c.f1, .slice A c.f2.length cap], .string p] w fun e w' => ∃ v, e = .returned (.agg #[.int .i64 c.f0, .int .i64 c.f1, v]) ∧ Kd.R k31 31 w' w.heap.size (fun _ => True) v (onlyW p c.f2) ∧ Below w.heap.size w w' := by
  obtain ⟨k, hk⟩ := (show Ev (fun k => watch_only.f k c.f0 c.f1 c.f2 p) (c.f0, c.f1, onlyW p c.f2) from only_l0 p c.f2 c.f0 c.f1 hn c.f2.length 0 (by omega)).rounds
  exact watch_only.calls k c.f0 c.f1 A cap c.f2 p c.f0 c.f1 (onlyW p c.f2) w hr hc hk
/-- the commits of a batch, and its mark -/
def pollF (p : ByteArray) (most : Nat) : List Cm → List Cm → Int → List Cm × Int
  | [], acc, m => (acc, m)
  | c :: cs, acc, m => if acc.length = most then (acc, m) else if (onlyW p c.f2).length = 0 then pollF p most cs acc c.f0 else pollF p most cs (acc ++ [onlyC p c]) c.f0
theorem pollF_nil (p : ByteArray) (most : Nat) (acc : List Cm) (m : Int) : pollF p most [] acc m = (acc, m) := rfl
theorem pollF_full {p : ByteArray} {most : Nat} {acc : List Cm} (h : acc.length = most) (c : Cm) (cs : List Cm) (m : Int) : pollF p most (c :: cs) acc m = (acc, m) := by
  rw [pollF, if_pos h]
theorem pollF_skip {p : ByteArray} {most : Nat} {acc : List Cm} {c : Cm} (h : ¬ acc.length = most) (h0 : (onlyW p c.f2).length = 0) (cs : List Cm) (m : Int) : pollF p most (c :: cs) acc m = pollF p most cs acc c.f0 := by
  rw [pollF, if_neg h, if_pos h0]
theorem pollF_take {p : ByteArray} {most : Nat} {acc : List Cm} {c : Cm} (h : ¬ acc.length = most) (h0 : ¬ (onlyW p c.f2).length = 0) (cs : List Cm) (m : Int) : pollF p most (c :: cs) acc m = pollF p most cs (acc ++ [onlyC p c]) c.f0 := by
  rw [pollF, if_neg h, if_neg h0]
end Go.Proofs.Ytmafibbnojdpjaa.St
end
section
set_option linter.unusedVariables false
set_option maxRecDepth 100000
set_option linter.unusedSimpArgs false
namespace Go.Proofs.Ytmafibbnojdpjaa.St
open Go.Proofs.Ytmafibbnojdpjaa.Tr Go.RowKit Go.Proofs.YtmafibbnojdpjaaW.PrintWords Go.Proofs.YtmafibbnojdpjaaW.PrintLast Go.Proofs.YtmafibbnojdpjaaW.PrintMore Go.Proofs.Ytmafibbnojdpjaa.P
variable {G : Nat → Prop} {col : Nat → Nat} {w w' : World} {s : Nat} {M : StM} {H : Value} {L : List Tr.Item}
theorem below_grown2 {n : Nat} {w a b : World} {row : Option Nat} (h : Below n w a) (hg : a.grownBy b row) (hn : n ≤ a.heap.size) (hr : ∀ k, row = some k → n ≤ k) : Below n w b := h.grown hg hn hr
theorem onlyW_len (p : ByteArray) (ws : List Wr) : (onlyW p ws).length ≤ ws.length := List.length_filter_le _ _
set_option maxHeartbeats 2000000 in
theorem poll_arg (a : Option Addr) (q m : Int) (p : ByteArray) (w : World) (h : m < 1 ∨ 100 < m ∨ 400 < p.size) :
    Calls Try.prog 57 #[.pointer a, .int .i64 q, .string p, .int .i64 m] w fun e w' => e = .returned (.tuple #[.agg #[.slice none 0 0, .int .i64 0], .int .i64 1]) ∧ Below w.heap.size w w' := by
  have hb : Below w.heap.size w (w.alloc (.cells #[.slice none 0 0, .int .i64 0] 92)) := below_alloc (Below.refl _ _) _
  have HB := Aside0.mk hb
  clear hb
  by_cases h1 : m < 1
  · clear h
    go_enter Try.func57, Try.ntmps57
    go_wp2
    go_step3
    go_wp2
    (try simp only [Exit.noGoto_ret])
    refine bodyPost_ret (results_ct rfl _ _ w.heap.size 92 #[.slice none 0 0, .int .i64 0] (0, 0) _ rfl (heap_alloc_new _ _) Try.underlying92 rfl (by kernel_rfl)) rfl ⟨rfl, HB.out⟩
  · by_cases h2 : 100 < m
    · clear h
      go_enter Try.func57, Try.ntmps57
      go_wp2
      go_step3
      go_wp2
      (try simp only [Exit.noGoto_ret])
      refine bodyPost_ret (results_ct rfl _ _ w.heap.size 92 #[.slice none 0 0, .int .i64 0] (0, 0) _ rfl (heap_alloc_new _ _) Try.underlying92 rfl (by kernel_rfl)) rfl ⟨rfl, HB.out⟩
    · have h3 : (400 : Int) < (p.size : Int) := by omega
      clear h
      go_enter Try.func57, Try.ntmps57
      go_wp2
      go_step3
      go_wp2
      (try simp only [Exit.noGoto_ret])
      refine bodyPost_ret (results_ct rfl _ _ w.heap.size 92 #[.slice none 0 0, .int .i64 0] (0, 0) _ rfl (heap_alloc_new _ _) Try.underlying92 rfl (by kernel_rfl)) rfl ⟨rfl, HB.out⟩
set_option maxHeartbeats 2000000 in
theorem poll_err (h : StoreC G col w s M H L) (hi : 0 ≤ M.low) (hl : lastM M ≤ maxSeq) (q m : Int) (p : ByteArray) (h1 : 1 ≤ m) (h2 : m ≤ 100) (h3 : p.size ≤ 400) (er : Int) (he : er ≠ 0)
    (hS : ∀ W, Below w.heap.size w W → Calls Try.prog 59 #[.pointer (some ⟨s, 0, none⟩), .int .i64 q] W fun e w' => e = .returned (.tuple #[.slice none 0 0, .int .i64 er]) ∧ Below W.heap.size W w') :
    Calls Try.prog 57 #[.pointer (some ⟨s, 0, none⟩), .int .i64 q, .string p, .int .i64 m] w fun e w' => e = .returned (.tuple #[.agg #[.slice none 0 0, .int .i64 0], .int .i64 er]) ∧ Below w.heap.size w w' := by
  have hb : Below w.heap.size w (w.alloc (.cells #[.slice none 0 0, .int .i64 0] 92)) := below_alloc (Below.refl _ _) _
  have HS := Aside0.mk (hS _ hb)
  have HB := Aside0.mk hb
  have g1 : ¬ m < 1 := by omega
  have g2 : ¬ 100 < m := by omega
  have g3 : ¬ (400 : Int) < (p.size : Int) := by omega
  have g4 : (er == 0) = false := by simpa using he
  have g5 : (er != 0) = true := by simpa using he
  have hnew := heap_alloc_new w (.cells #[.slice none 0 0, .int .i64 0] 92)
  have HW := Aside0.mk hnew
  clear hb hS h hl h1 h2 h3 he hnew
  go_enter Try.func57, Try.ntmps57
  go_wp2
  go_step3
  go_wp2_with (first
    | (go_at_call 59; refine HS.out.mono ?_; rintro e w1 ⟨rfl, hb1⟩
       have x1 := (hb1.block w.heap.size (by rw [World.size_alloc]; exact Nat.lt_succ_self _)).trans HW.out
       have t0 : w1.cell? ⟨w.heap.size, 0, none⟩ = some (.slice none 0 0) := (cell_of_row _ _ _ _ _ _ x1).trans rfl
       have t1 : w1.cell? ⟨w.heap.size, 1, none⟩ = some (.int .i64 0) := (cell_of_row _ _ _ _ _ _ x1).trans rfl
       have z0 : w1.frozen? ⟨w.heap.size, 0, none⟩ = false := by simp [World.frozen?, x1]
       have z1 : w1.frozen? ⟨w.heap.size, 1, none⟩ = false := by simp [World.frozen?, x1]
       have X1 := Aside0.mk x1
       have HB1 := Aside0.mk (below_step HB.out hb1)
       clear hb1 x1))
  (try simp only [Exit.noGoto_ret])
  refine bodyPost_ret (results_ct rfl _ _ w.heap.size 92 #[.slice none 0 0, .int .i64 0] (0, 0) _ rfl ?_ Try.underlying92 rfl (by kernel_rfl)) rfl ⟨rfl, ?_⟩
  · exact (heap_setCell_at _ w.heap.size 1 _ _ _ (.int .i64 0) (heap_setCell_at _ w.heap.size 0 _ _ _ (.slice none 0 0) X1.out)).trans rfl
  · exact (HB1.out.setCell (p := ⟨w.heap.size, 0, none⟩) (Nat.le_refl _) _).setCell (p := ⟨w.heap.size, 1, none⟩) (Nat.le_refl _) _
set_option maxHeartbeats 16000000 in
theorem poll_good (h : StoreC G col w s M H L) (hi : 0 ≤ M.low) (hl : lastM M ≤ maxSeq) (k : Nat) (hk : k ≤ M.hist.length) (hsz : M.hist.length ≤ 1000000) (hws : ∀ c ∈ M.hist, c.f2.length ≤ 200) (p : ByteArray) (m : Nat) (h1 : 1 ≤ m) (h2 : m ≤ 100) (h3 : p.size ≤ 400) :
    Calls Try.prog 57 #[.pointer (some ⟨s, 0, none⟩), .int .i64 (M.low + k), .string p, .int .i64 (m : Int)] w fun e w' => ∃ v mk, e = .returned (.tuple #[.agg #[v, .int .i64 mk], .int .i64 0]) ∧ Kd.R k28 28 w' w.heap.size (fun _ => True) v (pollF p m (M.hist.drop k) [] (M.low + k)).1 ∧ mk = (pollF p m (M.hist.drop k) [] (M.low + k)).2 ∧ Below w.heap.size w w' := by
  have hb : Below w.heap.size w (w.alloc (.cells #[.slice none 0 0, .int .i64 0] 92)) := below_alloc (Below.refl _ _) _
  have HS := Aside0.mk (since_good (h.below hb) hi hl k hk hsz hws)
  have HB0 := Aside0.mk hb
  have HWS : Aside0 (∀ i, i < (M.hist.drop k).length → (cA (M.hist.drop k) i).f2.length ≤ 200) := ⟨fun i hi => by rw [cA_eq hi]; exact hws _ (List.mem_of_mem_drop (List.getElem_mem _))⟩
  have HLN : Aside0 ((M.hist.drop k).length ≤ 1000000) := ⟨by rw [List.length_drop]; omega⟩
  have g1 : ¬ (m : Int) < 1 := by omega
  have g2 : ¬ 100 < (m : Int) := by omega
  have g3 : ¬ (400 : Int) < (p.size : Int) := by omega
  have hnew := heap_alloc_new w (.cells #[.slice none 0 0, .int .i64 0] 92)
  have HW := Aside0.mk hnew
  generalize M.hist.drop k = L1 at *
  generalize M.low + (k : Int) = q0 at *
  clear hb hws h hl h3 hnew hi hk hsz
  go_enter Try.func57, Try.ntmps57
  go_wp2
  go_step3
  go_wp2_with (first
    | (go_at_call 59; refine HS.out.mono ?_; rintro e w1 ⟨v, rfl, hv1, hb1⟩; obtain ⟨A1, c1, rfl⟩ := Kd.R_slice hv1
       have HV1 := Aside0.mk hv1
       have X1 := Aside0.mk ((hb1.block w.heap.size (by rw [World.size_alloc]; exact Nat.lt_succ_self _)).trans HW.out)
       have HN : w.heap.size < w1.heap.size := by have := hb1.size; rw [World.size_alloc] at this; omega
       have HB1 := Aside0.mk (below_step HB0.out hb1)
       clear hb1 hv1))
  go_step3
  go_wp2
  have hbb : Below w1.heap.size w1 (w1.alloc (.cells #[.slice none 0 0, .int .i64 q0] 92)) := below_alloc (Below.refl _ _) _
  have hn1 := heap_alloc_new w1 (.cells #[.slice none 0 0, .int .i64 q0] 92)
  have HY0 := Aside0.mk hn1
  have HZ0 := Aside0.mk ((hbb.block w.heap.size HN).trans X1.out)
  have HB2 := Aside0.mk (below_step HB1.out hbb)
  have HL0 : Aside0 (Kd.R k28 28 (w1.alloc (.cells #[.slice none 0 0, .int .i64 q0] 92)) (w.heap.size + 1) (fun k => k < w1.heap.size) (.slice A1 L1.length c1) L1) := ⟨Kd.R_below (Kd.R_mono (Kd.R_bound (by have := HV1.out; rwa [World.size_alloc] at this)) (fun k hk => hk.2.2.1)) hbb⟩
  have hsz2 : w1.heap.size < (w1.alloc (.cells #[.slice none 0 0, .int .i64 q0] 92)).heap.size := by rw [World.size_alloc]; exact Nat.lt_succ_self _
  clear hbb hn1 HV1 X1 HW HS HB0
  generalize w1.alloc (.cells #[.slice none 0 0, .int .i64 q0] 92) = W2 at *
  generalize w1.heap.size = N1 at *
  go_loopg [41] (L1.length + 1) (fun kq v41 wq => ∃ (i : Nat) (acc : List Cm) (mk : Int) (u : Value), v41 = .int .i64 (i : Int) ∧ i ≤ L1.length ∧ L1.length - i < kq ∧ acc.length ≤ i ∧ Aside0 (pollF p m (L1.drop i) acc mk = pollF p m L1 [] q0) ∧ Aside0 (wq.heap[N1]? = some (.cells #[u, .int .i64 mk] 92 (0, 0))) ∧ Aside0 (wq.heap[w.heap.size]? = some (.cells #[.slice none 0 0, .int .i64 0] 92 (0, 0))) ∧ Aside0 (Kd.R k28 28 wq (N1 + 1) (fun _ => True) u acc) ∧ Aside0 (Kd.R k28 28 wq (w.heap.size + 1) (fun k => k < N1) (.slice A1 L1.length c1) L1) ∧ N1 < wq.heap.size ∧ Aside0 (Below w.heap.size w wq))
  case atStart => exact ⟨0, [], q0, _, rfl, Nat.zero_le _, by omega, Nat.le_refl _, ⟨rfl⟩, HY0, HZ0, ⟨Kd.R_nil _ _ _ _ _⟩, HL0, hsz2, HB2⟩
  case round =>
    clear HB2 HL0 HZ0 HY0 hsz2 HB1
    obtain ⟨i, acc, mk, u, rfl, hi, hk, hacc, HP, HY, HZ, HU, HL, hN, HB⟩ := hrel
    have hln := HLN.out
    have z0 : (0 : Int) ≤ (i : Int) := by omega
    have yt0 : wr.cell? ⟨N1, 0, none⟩ = some u := (cell_of_row _ _ _ _ _ _ HY.out).trans rfl
    have yt1 : wr.cell? ⟨N1, 1, none⟩ = some (.int .i64 mk) := (cell_of_row _ _ _ _ _ _ HY.out).trans rfl
    have yz1 : wr.frozen? ⟨N1, 1, none⟩ = false := by simp [World.frozen?, HY.out]
    have zt0 : wr.cell? ⟨w.heap.size, 0, none⟩ = some (.slice none 0 0) := (cell_of_row _ _ _ _ _ _ HZ.out).trans rfl
    have zt1 : wr.cell? ⟨w.heap.size, 1, none⟩ = some (.int .i64 0) := (cell_of_row _ _ _ _ _ _ HZ.out).trans rfl
    have zz0 : wr.frozen? ⟨w.heap.size, 0, none⟩ = false := by simp [World.frozen?, HZ.out]
    have zz1 : wr.frozen? ⟨w.heap.size, 1, none⟩ = false := by simp [World.frozen?, HZ.out]
    obtain ⟨Au, cu, rfl⟩ := Kd.R_slice HU.out
    have HN1 : w.heap.size ≤ N1 + 1 := by omega
    by_cases hlt : i < L1.length
    · have z1 : (i : Int) < (L1.length : Int) := by omega
      obtain ⟨A9, c9, e9, _, hC9⟩ := Kd.R_reads HL.out
      obtain ⟨ad5, A5, c5, eA, f0, f1, f2, f3, f4⟩ := at_T28 hC9 (i : Int) z0 z1
      rw [rd_cA, Int.toNat_natCast] at f0 f1 f2
      rw [rd_cA] at f3 f4
      obtain rfl : A1 = some ad5 := by
        have := e9.trans (by rw [eA])
        injection this
      clear e9 hC9 eA
      have hadl : ad5.block < N1 := HL.out.1 _ rfl
      have hadb : (ad5.add (i * 3)).block = ad5.block := by
        obtain ⟨g, rfl⟩ := Kd.R_head HL.out
        rw [Addr.add_lit]
      have HONV : Aside0 (Kd.C k31 (wr.setCell ⟨N1, 1, none⟩ (.int .i64 (cA L1 i).f0)) A5 (cA L1 i).f2.length (cA L1 i).f2) := ⟨by
        obtain ⟨A9, c9, e9, _, hC9⟩ := Kd.R_reads (Kd.R_far (p := ⟨N1, 1, none⟩) HL.out (fun k hk e => by have e' : k = N1 := e; omega) (.int .i64 (cA L1 i).f0))
        obtain ⟨ad6, A6, c6, eA, _, _, g2, _, g4⟩ := at_T28 hC9 (i : Int) z0 z1
        rw [rd_cA, Int.toNat_natCast] at g2
        rw [rd_cA] at g4
        have e6 : ad6 = ad5 := by
          have := e9.trans (by rw [eA])
          injection this with q1 q2 q3
          injection q1 with q1
          exact q1.symm
        rw [e6] at g2
        have hq : (wr.setCell ⟨N1, 1, none⟩ (.int .i64 (cA L1 i).f0)).cell? ⟨(ad5.add (i * 3)).block, (ad5.add (i * 3)).off + 2, none⟩ = wr.cell? ⟨(ad5.add (i * 3)).block, (ad5.add (i * 3)).off + 2, none⟩ := World.cell?_of_block (Below.heap_setCell wr _ _ _ (show (ad5.add (i * 3)).block ≠ N1 from by rw [hadb]; omega))
        rw [hq, f2] at g2
        injection g2 with g2
        injection g2 with q1 q2 q3
        rw [q1]
        exact g4⟩
      clear hadl hadb
      have hx2 := HWS.out i hlt
      have HD : Aside0 (L1.drop i = cA L1 i :: L1.drop (i + 1)) := ⟨by rw [List.drop_eq_getElem_cons hlt, cA_eq hlt]⟩
      generalize cA L1 i = x at *
      have hb2 : Below wr.heap.size wr (wr.alloc (.cells #[.int .i64 x.f0, .int .i64 x.f1, .slice A5 x.f2.length c5] 28)) := below_alloc (Below.refl _ _) _
      by_cases hm : acc.length = m
      · have hmm : ((acc.length : Int) == (m : Int)) = true := beq_iff_eq.2 (by omega)
        have HF : Aside0 (mk = (pollF p m L1 [] q0).2) := ⟨by rw [← HP.out, HD.out, pollF_full hm]⟩
        have HA : Aside0 ((pollF p m L1 [] q0).1 = acc) := ⟨by rw [← HP.out, HD.out, pollF_full hm]⟩
        have HU2 := Aside0.mk (Kd.R_below HU.out hb2)
        have HZ2 := Aside0.mk ((hb2.block w.heap.size (by omega)).trans HZ.out)
        have HBB := Aside0.mk (below_step HB.out hb2)
        have d3 := Tr.up hb2 yt0
        have d4 := Tr.up hb2 yt1
        have d5 := Tr.up hb2 zt0
        have d6 := Tr.up hb2 zt1
        have d7 := (World.frozen?_of_block (hb2.block w.heap.size (by omega))).trans zz0
        have d8 := (World.frozen?_of_block (hb2.block w.heap.size (by omega))).trans zz1
        clear hb2 f3 f4 HP HD hm
        go_wp2
        (try simp only [Exit.noGoto_ret])
        refine bodyPost_ret (results_ct rfl _ _ w.heap.size 92 #[.slice Au acc.length cu, .int .i64 mk] (0, 0) _ rfl ?_ Try.underlying92 rfl (by kernel_rfl)) rfl ?_
        · exact (heap_setCell_at _ w.heap.size 1 _ _ _ (.int .i64 mk) (heap_setCell_at _ w.heap.size 0 _ _ _ (.slice Au acc.length cu) HZ2.out)).trans rfl
        · refine ⟨.slice Au acc.length cu, mk, rfl, ?_, HF.out, (HBB.out.setCell (p := ⟨w.heap.size, 0, none⟩) (Nat.le_refl _) _).setCell (p := ⟨w.heap.size, 1, none⟩) (Nat.le_refl _) _⟩
          rw [HA.out]
          exact Kd.R_mono (Kd.R_far (p := ⟨w.heap.size, 1, none⟩) (Kd.R_far (p := ⟨w.heap.size, 0, none⟩) (Kd.R_mono (Kd.R_lower (Kd.R_bound HU2.out) HN1) (fun k hk => (show k ≠ w.heap.size from by have := hk.2.1; omega))) (fun k hk => hk) _) (fun k hk => hk) _) (fun _ _ => trivial)
      · have hmm : ((acc.length : Int) == (m : Int)) = false := beq_eq_false_iff_ne.2 (by omega)
        obtain ⟨V, hV⟩ : ∃ V, V = wr.setCell ⟨N1, 1, none⟩ (.int .i64 x.f0) := ⟨_, rfl⟩
        have hVs : V.heap.size = wr.heap.size := by rw [hV]; exact World.size_setCell _ _ _
        have hVN : V.heap[N1]? = some (.cells #[.slice Au acc.length cu, .int .i64 x.f0] 92 (0, 0)) := by rw [hV]; exact (heap_setCell_at wr N1 1 _ _ _ _ HY.out).trans rfl
        have hVo : ∀ b, b ≠ N1 → V.heap[b]? = wr.heap[b]? := fun b hb => by rw [hV]; exact Below.heap_setCell wr _ _ b hb
        have hbV : Below V.heap.size V (V.alloc (.cells #[.int .i64 x.f0, .int .i64 x.f1, .slice A5 x.f2.length c5] 28)) := below_alloc (Below.refl _ _) _
        have HON := Aside0.mk (only_any x p A5 c5 _ (Kd.C_below (by rw [hV]; exact HONV.out) hbV) f3 (by omega))
        have HXW := Aside0.mk (heap_alloc_new V (.cells #[.int .i64 x.f0, .int .i64 x.f1, .slice A5 x.f2.length c5] 28))
        rw [hVs] at HXW
        have HBV := Aside0.mk hbV
        have HVS := Aside0.mk hVs
        have HVN := Aside0.mk hVN
        have HVO := Aside0.mk hVo
        have HBW : Aside0 (Below w.heap.size w V) := ⟨by rw [hV]; exact HB.out.setCell (p := ⟨N1, 1, none⟩) (show w.heap.size ≤ N1 by omega) _⟩
        rw [hV] at HON
        have HVE := Aside0.mk hV
        have d3 := Tr.up hb2 yt0
        have d4 := Tr.up hb2 yt1
        obtain ⟨e0, e1, e2⟩ := three_new wr 28 (.int .i64 x.f0) (.int .i64 x.f1) (.slice A5 x.f2.length c5)
        have n1 : ¬ N1 = wr.heap.size := by omega
        have n2 : ¬ wr.heap.size = N1 := by omega
        have d9 := (World.frozen?_of_block (hb2.block N1 hN)).trans yz1
        have HPF : Aside0 ((onlyW p x.f2).length = 0 → pollF p m (L1.drop (i + 1)) acc x.f0 = pollF p m L1 [] q0) := ⟨fun h0 => by rw [← HP.out, HD.out, pollF_skip hm h0]⟩
        have HPT : Aside0 ((onlyW p x.f2).length ≠ 0 → pollF p m (L1.drop (i + 1)) (acc ++ [⟨x.f0, x.f1, onlyW p x.f2⟩]) x.f0 = pollF p m L1 [] q0) := ⟨fun h0 => by rw [← HP.out, HD.out, pollF_take hm h0]; rfl⟩
        have hyl : (onlyW p x.f2).length ≤ 200 := Nat.le_trans (onlyW_len p x.f2) hx2
        generalize onlyW p x.f2 = ys at *
        by_cases hw0 : ys.length = 0
        · have hwl : decide ((0 : Int) < (ys.length : Int)) = false := decide_eq_false (by omega)
          have hwn : decide (0 < ys.length) = false := decide_eq_false (by omega)
          have HW0 := Aside0.mk hw0
          clear hw0
          clear hb2 f3 f4 hm hV hVs hVN hVo hbV HP HD
          go_wp2_with (first
            | (go_at_call 86; refine HON.out.mono ?_; rintro e w5 ⟨v5, rfl, hv5, hb5⟩; obtain ⟨A7, c7, rfl⟩ := Kd.R_slice hv5
               rw [← HVE.out] at hb5 hv5
               have x5 := (hb5.block wr.heap.size (by rw [World.size_alloc, HVS.out]; exact Nat.lt_succ_self _)).trans HXW.out
               have y5 := ((hb5.block N1 (by rw [World.size_alloc, HVS.out]; omega)).trans (HBV.out.block N1 (by rw [HVS.out]; exact hN))).trans HVN.out
               have t0 : w5.cell? ⟨wr.heap.size, 0, none⟩ = some (.int .i64 x.f0) := (cell_of_row _ _ _ _ _ _ x5).trans rfl
               have t1 : w5.cell? ⟨wr.heap.size, 1, none⟩ = some (.int .i64 x.f1) := (cell_of_row _ _ _ _ _ _ x5).trans rfl
               have t2 : w5.cell? ⟨wr.heap.size, 2, none⟩ = some (.slice A5 x.f2.length c5) := (cell_of_row _ _ _ _ _ _ x5).trans rfl
               have z0 : w5.frozen? ⟨wr.heap.size, 0, none⟩ = false := by simp [World.frozen?, x5]
               have z1 : w5.frozen? ⟨wr.heap.size, 1, none⟩ = false := by simp [World.frozen?, x5]
               have z2 : w5.frozen? ⟨wr.heap.size, 2, none⟩ = false := by simp [World.frozen?, x5]
               have y0 : w5.cell? ⟨N1, 0, none⟩ = some (.slice Au acc.length cu) := (cell_of_row _ _ _ _ _ _ y5).trans rfl
               have yz0 : w5.frozen? ⟨N1, 0, none⟩ = false := by simp [World.frozen?, y5]
               have HK5 : Aside0 (∀ b, b < wr.heap.size → b ≠ N1 → w5.heap[b]? = wr.heap[b]?) := ⟨fun b h1 h2 => ((hb5.block b (by rw [World.size_alloc, HVS.out]; omega)).trans (HBV.out.block b (by rw [HVS.out]; exact h1))).trans (HVO.out b h2)⟩
               have HS5 : Aside0 (wr.heap.size < w5.heap.size) := ⟨by have := hb5.size; rw [World.size_alloc, HVS.out] at this; omega⟩
               have HB5 : Aside0 (Below w.heap.size w w5) := ⟨below_step HBW.out (below_step HBV.out hb5)⟩
               have X5 := Aside0.mk x5
               have Y5 := Aside0.mk y5
               have HV5 := Aside0.mk (Kd.R_bound hv5)
               clear hv5 hb5 x5 y5))
          have K6 : ∀ b, b ≠ wr.heap.size → (((w5.setCell ⟨wr.heap.size, 0, none⟩ (.int .i64 x.f0)).setCell ⟨wr.heap.size, 1, none⟩ (.int .i64 x.f1)).setCell ⟨wr.heap.size, 2, none⟩ (.slice A7 ys.length c7)).heap[b]? = w5.heap[b]? := fun b hb => (Below.heap_setCell _ _ _ b hb).trans ((Below.heap_setCell _ _ _ b hb).trans (Below.heap_setCell _ _ _ b hb))
          have S6 : (((w5.setCell ⟨wr.heap.size, 0, none⟩ (.int .i64 x.f0)).setCell ⟨wr.heap.size, 1, none⟩ (.int .i64 x.f1)).setCell ⟨wr.heap.size, 2, none⟩ (.slice A7 ys.length c7)).heap.size = w5.heap.size := by rw [World.size_setCell, World.size_setCell, World.size_setCell]
          have B6 : Below w.heap.size w (((w5.setCell ⟨wr.heap.size, 0, none⟩ (.int .i64 x.f0)).setCell ⟨wr.heap.size, 1, none⟩ (.int .i64 x.f1)).setCell ⟨wr.heap.size, 2, none⟩ (.slice A7 ys.length c7)) := ((HB5.out.setCell (p := ⟨wr.heap.size, 0, none⟩) (show w.heap.size ≤ wr.heap.size by omega) _).setCell (p := ⟨wr.heap.size, 1, none⟩) (show w.heap.size ≤ wr.heap.size by omega) _).setCell (p := ⟨wr.heap.size, 2, none⟩) (show w.heap.size ≤ wr.heap.size by omega) _
          have hwl5 := HS5.out
          go_roundg (gk - 1)
          case measure => omega
          case rel =>
            refine ⟨i + 1, acc, x.f0, _, by go_num, by omega, by omega, by omega, ⟨HPF.out HW0.out⟩, ⟨(K6 N1 n1).trans Y5.out⟩, ⟨(K6 _ (by omega)).trans ((HK5.out _ (by omega) (by omega)).trans HZ.out)⟩, ⟨?_⟩, ⟨?_⟩, by omega, ⟨B6⟩⟩
            · exact Kd.R_mono (Kd.R_step (Kd.R_bound HU.out) (fun k hk hl => (K6 k (by omega)).trans (HK5.out k hl (by have := hk.2.1; omega)))) (fun _ _ => trivial)
            · exact Kd.R_step HL.out (fun k hk hl => (K6 k (by omega)).trans (HK5.out k hl (by omega)))
        · have hwl : decide ((0 : Int) < (ys.length : Int)) = true := decide_eq_true (by omega)
          have hwn : decide (0 < ys.length) = true := decide_eq_true (by omega)
          have HW0 := Aside0.mk hw0
          clear hw0
          clear hb2 f3 f4 hm hV hVs hVN hVo hbV HP HD
          go_wp2_with (first
            | (go_at_call 86; refine HON.out.mono ?_; rintro e w5 ⟨v5, rfl, hv5, hb5⟩; obtain ⟨A7, c7, rfl⟩ := Kd.R_slice hv5
               rw [← HVE.out] at hb5 hv5
               have x5 := (hb5.block wr.heap.size (by rw [World.size_alloc, HVS.out]; exact Nat.lt_succ_self _)).trans HXW.out
               have y5 := ((hb5.block N1 (by rw [World.size_alloc, HVS.out]; omega)).trans (HBV.out.block N1 (by rw [HVS.out]; exact hN))).trans HVN.out
               have t0 : w5.cell? ⟨wr.heap.size, 0, none⟩ = some (.int .i64 x.f0) := (cell_of_row _ _ _ _ _ _ x5).trans rfl
               have t1 : w5.cell? ⟨wr.heap.size, 1, none⟩ = some (.int .i64 x.f1) := (cell_of_row _ _ _ _ _ _ x5).trans rfl
               have t2 : w5.cell? ⟨wr.heap.size, 2, none⟩ = some (.slice A5 x.f2.length c5) := (cell_of_row _ _ _ _ _ _ x5).trans rfl
               have z0 : w5.frozen? ⟨wr.heap.size, 0, none⟩ = false := by simp [World.frozen?, x5]
               have z1 : w5.frozen? ⟨wr.heap.size, 1, none⟩ = false := by simp [World.frozen?, x5]
               have z2 : w5.frozen? ⟨wr.heap.size, 2, none⟩ = false := by simp [World.frozen?, x5]
               have y0 : w5.cell? ⟨N1, 0, none⟩ = some (.slice Au acc.length cu) := (cell_of_row _ _ _ _ _ _ y5).trans rfl
               have yz0 : w5.frozen? ⟨N1, 0, none⟩ = false := by simp [World.frozen?, y5]
               have HK5 : Aside0 (∀ b, b < wr.heap.size → b ≠ N1 → w5.heap[b]? = wr.heap[b]?) := ⟨fun b h1 h2 => ((hb5.block b (by rw [World.size_alloc, HVS.out]; omega)).trans (HBV.out.block b (by rw [HVS.out]; exact h1))).trans (HVO.out b h2)⟩
               have HS5 : Aside0 (wr.heap.size < w5.heap.size) := ⟨by have := hb5.size; rw [World.size_alloc, HVS.out] at this; omega⟩
               have HB5 : Aside0 (Below w.heap.size w w5) := ⟨below_step HBW.out (below_step HBV.out hb5)⟩
               have X5 := Aside0.mk x5
               have Y5 := Aside0.mk y5
               have HV5 := Aside0.mk (Kd.R_bound hv5)
               clear hv5 hb5 x5 y5)
            | ((with_reducible refine gate_builtin (b := .append) (xs := #[.tmp 61, .tmp 63]) rfl ?_); at_builtin
               have K6 : ∀ b, b ≠ wr.heap.size → (((w5.setCell ⟨wr.heap.size, 0, none⟩ (.int .i64 x.f0)).setCell ⟨wr.heap.size, 1, none⟩ (.int .i64 x.f1)).setCell ⟨wr.heap.size, 2, none⟩ (.slice A7 ys.length c7)).heap[b]? = w5.heap[b]? := fun b hb => (Below.heap_setCell _ _ _ b hb).trans ((Below.heap_setCell _ _ _ b hb).trans (Below.heap_setCell _ _ _ b hb))
               have S6 : (((w5.setCell ⟨wr.heap.size, 0, none⟩ (.int .i64 x.f0)).setCell ⟨wr.heap.size, 1, none⟩ (.int .i64 x.f1)).setCell ⟨wr.heap.size, 2, none⟩ (.slice A7 ys.length c7)).heap.size = w5.heap.size := by rw [World.size_setCell, World.size_setCell, World.size_setCell]
               have B6 : Below w.heap.size w (((w5.setCell ⟨wr.heap.size, 0, none⟩ (.int .i64 x.f0)).setCell ⟨wr.heap.size, 1, none⟩ (.int .i64 x.f1)).setCell ⟨wr.heap.size, 2, none⟩ (.slice A7 ys.length c7)) := ((HB5.out.setCell (p := ⟨wr.heap.size, 0, none⟩) (show w.heap.size ≤ wr.heap.size by omega) _).setCell (p := ⟨wr.heap.size, 1, none⟩) (show w.heap.size ≤ wr.heap.size by omega) _).setCell (p := ⟨wr.heap.size, 2, none⟩) (show w.heap.size ≤ wr.heap.size by omega) _
               have hwl5 := HS5.out
               refine Kd.R_append k28 (w0 := w5) (N1 + 1) rfl (.tmp 61) (.tmp 63) 23 28 (.agg #[.int .i64 0, .int .i64 0, .slice none 0 0]) 40 rfl Try.underlying23 info28 rfl (by decide) (by decide) (.slice Au acc.length cu) acc ⟨x.f0, x.f1, ys⟩ [.int .i64 x.f0, .int .i64 x.f1, .slice A7 ys.length c7] (fun _ => True) (fun k => wr.heap.size ≤ k) rfl ?hx ?hp ?hok (fun _ _ => trivial) ?ho ?hb ?hbs ?hl ?_
               case hx => show Value.slice (some ⟨w5.heap.size, 0, none⟩) 1 1 = _; rw [World.size_setCell, World.size_setCell, World.size_setCell]
               case hp => exact k28_mkM _ _ _ ⟨x.f0, x.f1, ys⟩ (Kd.R_lower (Kd.R_mono (Kd.R_step HV5.out (fun k hk _ => K6 k (by have := hk.2.1; rw [World.size_alloc, HVS.out] at this; omega))) (fun k hk => by have := hk.2.1; rw [World.size_alloc, HVS.out] at this; omega)) (by rw [World.size_alloc, HVS.out]; omega))
               case hok => exact fun k hk => ⟨trivial, fun e => by have := Kd.R_lt HU.out k e.symm; omega⟩
               case ho => exact Kd.R_mono (Kd.R_step (Kd.R_bound HU.out) (fun k hk hl => (K6 k (by omega)).trans (HK5.out k hl (by have := hk.2.1; omega)))) (fun _ _ => trivial)
               case hb => exact (((Below.refl _ w5).setCell (p := ⟨wr.heap.size, 0, none⟩) (show N1 + 1 ≤ wr.heap.size by omega) _).setCell (p := ⟨wr.heap.size, 1, none⟩) (show N1 + 1 ≤ wr.heap.size by omega) _).setCell (p := ⟨wr.heap.size, 2, none⟩) (show N1 + 1 ≤ wr.heap.size by omega) _
               case hbs => omega
               case hl => omega
               intro v7 w7 h1 h2 h3 h4
               obtain ⟨A8, c8, rfl⟩ := Kd.R_slice h1
               rw [List.length_append, List.length_singleton] at h1
               have y7 := (h3.block N1 (by omega) (fun e => by have := Kd.R_base HU.out N1 e.symm; omega)).trans ((K6 N1 n1).trans Y5.out)
               have yt7 : w7.cell? ⟨N1, 0, none⟩ = some (.slice Au acc.length cu) := (cell_of_row _ _ _ _ _ _ y7).trans rfl
               have yz7 : w7.frozen? ⟨N1, 0, none⟩ = false := by simp [World.frozen?, y7]
               have Y7 := Aside0.mk y7
               have H1 := Aside0.mk h1
               have H2 : Aside0 (Below w.heap.size w w7) := ⟨below_grown2 B6 h3 (by omega) (fun k e => by have := Kd.R_base HU.out k e; omega)⟩
               have H3 : Aside0 (∀ b, b < wr.heap.size → b < N1 → w7.heap[b]? = wr.heap[b]?) := ⟨fun b q1 q2 => (h3.block b (by omega) (fun e => by have := Kd.R_base HU.out b e.symm; omega)).trans ((K6 b (by omega)).trans (HK5.out b q1 (by omega)))⟩
               have hs7 : wr.heap.size ≤ w7.heap.size := by have := h3.size; omega
               clear h1 h2 h3 h4 y7 K6 S6 B6 hwl5))
          go_roundg (gk - 1)
          case measure => omega
          case rel =>
            have K7 : ∀ b, b ≠ N1 → (w7.setCell ⟨N1, 0, none⟩ (.slice A8 (acc.length + 1) c8)).heap[b]? = w7.heap[b]? := fun b hb => Below.heap_setCell _ _ _ b hb
            refine ⟨i + 1, acc ++ [(⟨x.f0, x.f1, ys⟩ : Cm)], x.f0, .slice A8 (acc.length + 1) c8, by go_num, by omega, by omega, by rw [List.length_append, List.length_singleton]; omega, ⟨HPT.out HW0.out⟩, ⟨(heap_setCell_at w7 N1 0 _ _ _ _ Y7.out).trans rfl⟩, ⟨(K7 _ (by omega)).trans ((H3.out _ (by omega) (by omega)).trans HZ.out)⟩, ⟨?_⟩, ⟨?_⟩, by rw [World.size_setCell]; omega, ⟨H2.out.setCell (p := ⟨N1, 0, none⟩) (show w.heap.size ≤ N1 by omega) _⟩⟩
            · exact Kd.R_mono (Kd.R_step (Kd.R_bound H1.out) (fun k hk hl => K7 k (by have := hk.2.1; omega))) (fun _ _ => trivial)
            · exact Kd.R_step HL.out (fun k hk hl => (K7 k (by omega)).trans (H3.out k hl hk))
    · have hiz : i = L1.length := by omega
      subst hiz
      have HF : Aside0 (mk = (pollF p m L1 [] q0).2) := ⟨by rw [← HP.out, List.drop_length]; rfl⟩
      have HA : Aside0 ((pollF p m L1 [] q0).1 = acc) := ⟨by rw [← HP.out, List.drop_length]; rfl⟩
      clear hlt HP
      go_wp2
      (try simp only [Exit.noGoto_ret])
      refine bodyPost_ret (results_ct rfl _ _ w.heap.size 92 #[.slice Au acc.length cu, .int .i64 mk] (0, 0) _ rfl ?_ Try.underlying92 rfl (by kernel_rfl)) rfl ?_
      · exact (heap_setCell_at _ w.heap.size 1 _ _ _ (.int .i64 mk) (heap_setCell_at _ w.heap.size 0 _ _ _ (.slice Au acc.length cu) HZ.out)).trans rfl
      · refine ⟨.slice Au acc.length cu, mk, rfl, ?_, HF.out, (HB.out.setCell (p := ⟨w.heap.size, 0, none⟩) (Nat.le_refl _) _).setCell (p := ⟨w.heap.size, 1, none⟩) (Nat.le_refl _) _⟩
        rw [HA.out]
        exact Kd.R_mono (Kd.R_far (p := ⟨w.heap.size, 1, none⟩) (Kd.R_far (p := ⟨w.heap.size, 0, none⟩) (Kd.R_mono (Kd.R_lower (Kd.R_bound HU.out) HN1) (fun k hk => (show k ≠ w.heap.size from by have := hk.2.1; omega))) (fun k hk => hk) _) (fun k hk => hk) _) (fun _ _ => trivial)
end Go.Proofs.Ytmafibbnojdpjaa.St
end
section
set_option linter.unusedVariables false
set_option maxRecDepth 100000
set_option linter.unusedSimpArgs false
namespace Go.Proofs.Ytmafibbnojdpjaa.St
open Go.Proofs.Ytmafibbnojdpjaa.Tr Go.RowKit Go.Proofs.YtmafibbnojdpjaaW.PrintWords Go.Proofs.YtmafibbnojdpjaaW.PrintLast Go.Proofs.YtmafibbnojdpjaaW.PrintMore Go.Proofs.Ytmafibbnojdpjaa.P
/-- a row of one write, as it is made -/
theorem one_w {W : World} {b : Nat} (x : Wr) (hh : W.heap[b]? = some (.cells #[.string x.f0, .string x.f1, .bool x.f2] 31 (0, 0))) : Kd.C k31 W (some ⟨b, 0, none⟩) 1 [x] := by
  have h : Kd.R k31 31 W 0 (fun _ => True) (.slice (some ⟨b, 0, none⟩) 1 1) [x] := by
    refine ⟨fun _ _ => trivial, [.string x.f0, .string x.f1, .bool x.f2], ⟨rfl, .inr ⟨b, 1, _, rfl, Nat.zero_le _, hh, Nat.le_refl _, by simp [maxLen], rfl, rfl⟩⟩, ?_⟩
    exact (Reps.none (k31.M W 0 (fun k => True ∧ some k ≠ (Value.slice (some ⟨b, 0, none⟩) 1 1).ownBlock)) 3).snoc (k31_mkM W 0 _ x) rfl
  exact (Kd.R_reads' h).2.2
def bB : ByteArray := ⟨#[98]⟩
def hc1 : Cm := ⟨1, 0, [⟨⟨#[97]⟩, ⟨#[]⟩, false⟩]⟩
def hc2 : Cm := ⟨2, 0, [⟨⟨#[98]⟩, ⟨#[]⟩, false⟩]⟩
def hM0 : StM := newM 0 []
def hM1 : StM := comM hM0 hc1
def hM2 : StM := comM hM1 hc2
theorem hN0 : newOk 0 [] = true := by decide +kernel
theorem hG1 : goodC hM0 hc1 = true := by decide +kernel
theorem hG2 : goodC hM1 hc2 = true := by decide +kernel
theorem hI0 : Inv hM0 := inv_new hN0
theorem hI1 : Inv hM1 := inv_com hI0 hG1
theorem hPol : pollF bB 5 (hM2.hist.drop 0) [] 0 = ([hc2], 2) := by kernel_rfl
theorem hL1 : hM1.hist.length ≤ 1000000 ∧ hM1.K.length ≤ 1000000 := by decide +kernel
theorem hL0 : hM0.hist.length ≤ 1000000 ∧ hM0.K.length ≤ 1000000 := by decide +kernel
theorem hW2 : ∀ c ∈ hM2.hist, c.f2.length ≤ 200 := by
  intro c hc
  have : c = hc1 ∨ c = hc2 := by
    have e : hM2.hist = [hc1, hc2] := rfl
    rw [e] at hc
    simpa using hc
  rcases this with rfl | rfl <;> decide
set_option maxHeartbeats 4000000 in
theorem head17_any (w : World) : Calls Try.prog 25 #[] w fun e w' => e = .returned (.bool true) ∧ Below w.heap.size w w' := by
  have HNW := Aside0.mk (new_any 0 [] none 0 w (Kd.C_nil _ _) (Nat.le_refl _) (by decide))
  have HC1 : Aside0 (∀ (W : World) (s b : Nat), StoreAt (fun k => w.heap.size ≤ k) W s hM0 → w.heap.size ≤ W.heap.size → W.heap[b]? = some (.cells #[.string ⟨#[97]⟩, .string ⟨#[]⟩, .bool false] 31 (0, 0)) → Calls Try.prog 36 #[.pointer (some ⟨s, 0, none⟩), .agg #[.int .i64 1, .int .i64 0, .slice (some ⟨b, 0, none⟩) 1 1]] W fun e w' => e = .returned (.int .i64 0) ∧ StoreAt (fun k => w.heap.size ≤ k) w' s hM1 ∧ Fr (fun k => w.heap.size ≤ k) W w') := ⟨fun W s b hs hl hh => by
    have := com_any hs hI0 (fun k hk => Nat.le_trans hl hk) hL0 hc1 (some ⟨b, 0, none⟩) 1 (one_w ⟨⟨#[97]⟩, ⟨#[]⟩, false⟩ hh) (Nat.le_refl _) (by decide)
    unfold errC stepM at this
    rw [if_pos hG1, if_pos hG1] at this
    exact this⟩
  have HC2 : Aside0 (∀ (W : World) (s b : Nat), StoreAt (fun k => w.heap.size ≤ k) W s hM1 → w.heap.size ≤ W.heap.size → W.heap[b]? = some (.cells #[.string ⟨#[98]⟩, .string ⟨#[]⟩, .bool false] 31 (0, 0)) → Calls Try.prog 36 #[.pointer (some ⟨s, 0, none⟩), .agg #[.int .i64 2, .int .i64 0, .slice (some ⟨b, 0, none⟩) 1 1]] W fun e w' => e = .returned (.int .i64 0) ∧ StoreAt (fun k => w.heap.size ≤ k) w' s hM2 ∧ Fr (fun k => w.heap.size ≤ k) W w') := ⟨fun W s b hs hl hh => by
    have := com_any hs hI1 (fun k hk => Nat.le_trans hl hk) hL1 hc2 (some ⟨b, 0, none⟩) 1 (one_w ⟨⟨#[98]⟩, ⟨#[]⟩, false⟩ hh) (Nat.le_refl _) (by decide)
    unfold errC stepM at this
    rw [if_pos hG2, if_pos hG2] at this
    exact this⟩
  have HPO : Aside0 (∀ (W : World) (s : Nat), StoreAt (fun k => w.heap.size ≤ k) W s hM2 → Calls Try.prog 57 #[.pointer (some ⟨s, 0, none⟩), .int .i64 0, .string ⟨#[98]⟩, .int .i64 5] W fun e w' => ∃ v, e = .returned (.tuple #[.agg #[v, .int .i64 2], .int .i64 0]) ∧ Kd.R k28 28 w' W.heap.size (fun _ => True) v [hc2] ∧ Below W.heap.size W w') := ⟨fun W s hs => by
    obtain ⟨col, H, L, hs⟩ := hs
    refine (poll_good hs (by decide +kernel) (by decide +kernel) 0 (Nat.zero_le _) (by decide +kernel) hW2 bB 5 (by decide) (by decide) (by decide +kernel)).mono ?_
    rintro e w' ⟨v, mk, rfl, hr, rfl, hb⟩
    rw [show hM2.low + ((0 : Nat) : Int) = 0 from by decide +kernel, hPol] at hr
    rw [show hM2.low + ((0 : Nat) : Int) = 0 from by decide +kernel, hPol]
    exact ⟨v, rfl, hr, hb⟩⟩
  go_enter Try.func25, Try.ntmps25
  go_wp2_with (first
    | (go_at_call 35; refine HNW.out.mono ?_; rintro e w1 ⟨hb, _, h1⟩; obtain ⟨s, rfl, hs⟩ := h1 hN0; have HS1 := Aside0.mk hs; have HB1 := Aside0.mk hb; clear hb h1 hs))
  have hq1 : Below w1.heap.size w1 (w1.alloc (.cells #[.string ⟨#[97]⟩, .string ⟨#[]⟩, .bool false] 31)) := below_alloc (Below.refl _ _) _
  refine (HC1.out _ s _ (HS1.out.below hq1) (Nat.le_trans HB1.out.size hq1.size) (heap_alloc_new _ _)).mono ?_
  rintro e w2 ⟨rfl, hs2, hf2⟩
  have HS2 := Aside0.mk hs2
  have HB2 := Aside0.mk (fr_below (fun k hk => hk) (HB1.out.trans (hq1.mono HB1.out.size)) hf2)
  clear hs2 hf2 hq1 HB1 HS1 HC1
  go_wp2_with fail
  have hq2 : Below w2.heap.size w2 (w2.alloc (.cells #[.string ⟨#[98]⟩, .string ⟨#[]⟩, .bool false] 31)) := below_alloc (Below.refl _ _) _
  refine (HC2.out _ s _ (HS2.out.below hq2) (Nat.le_trans HB2.out.size hq2.size) (heap_alloc_new _ _)).mono ?_
  rintro e w3 ⟨rfl, hs3, hf3⟩
  have HS3 := Aside0.mk hs3
  have HB3 := Aside0.mk (fr_below (fun k hk => hk) (HB2.out.trans (hq2.mono HB2.out.size)) hf3)
  clear hs3 hf3 hq2 HB2 HS2 HC2
  go_wp2_with (first
    | (go_at_call 57; refine (HPO.out _ s HS3.out).mono ?_; rintro e w4 ⟨v, rfl, hr, hb⟩
       obtain ⟨A, c, rfl, _, hC⟩ := Kd.R_reads hr
       have hb5 : Below w4.heap.size w4 (w4.alloc (.cells #[.slice A [hc2].length c, .int .i64 2] 92)) := below_alloc (Below.refl _ _) _
       obtain ⟨ad, A2, c2, rfl, f0, _⟩ := at_T28 (Kd.C_below hC hb5) 0 (by decide) (by decide)
       change (w4.alloc (.cells #[.slice (some ad) 1 c, .int .i64 2] 92)).cell? (ad.add 0) = some (.int .i64 2) at f0
       rw [show ad.add 0 = ad from by cases ad; rfl] at f0
       have HB5 := Aside0.mk (below_step (below_step HB3.out hb) hb5)
       clear hr hb hC hb5))
  go_ret
  exact ⟨rfl, HB5.out⟩
end Go.Proofs.Ytmafibbnojdpjaa.St
end
section
set_option linter.unusedVariables false
namespace Go.Proofs.Ytmafibbnojdpjaa.Tr
/-- the low bits of a number, at 64 bits -/
theorem low_bits (n m : Int) (k : Nat) (hm : (BitVec.ofInt 64 m).toNat = 2 ^ k - 1) : bits .and .i64 n m = IntKind.i64.wrap (((n % 18446744073709551616).toNat % 2 ^ k : Nat) : Int) := by
  have h : (BitVec.ofInt 64 n &&& BitVec.ofInt 64 m).toNat = (n % 18446744073709551616).toNat % 2 ^ k := by
    rw [BitVec.toNat_and, hm, Nat.and_two_pow_sub_one_eq_mod, BitVec.toNat_ofInt]
    rfl
  rw [← h]
  rfl
end Go.Proofs.Ytmafibbnojdpjaa.Tr
end
