/- Lemmas that the proof needs, part 12. -/
import Derived.Test.YtmafibbnojdpjaaWKept
import Derived.Deep.RegionHeld3
import Derived.Test.YtmafibbnojdpjaaWWords
import Derived.Test.YtmafibbnojdpjaaSf1
import Derived.Test.YtmafibbnojdpjaaSf2
import Derived.Test.YtmafibbnojdpjaaSf3
import Derived.Test.YtmafibbnojdpjaaSf4
import Derived.Test.YtmafibbnojdpjaaSf5
import Derived.Test.YtmafibbnojdpjaaSf6
import Derived.Test.YtmafibbnojdpjaaSf7
import Derived.Test.YtmafibbnojdpjaaSf8
import Derived.Test.YtmafibbnojdpjaaSf9
import Derived.Test.YtmafibbnojdpjaaSf10
import Derived.Test.YtmafibbnojdpjaaSf11
section
set_option linter.unusedVariables false
set_option maxRecDepth 100000
set_option linter.unusedSimpArgs false
namespace Go.Proofs.Ytmafibbnojdpjaa.St
open Go.Proofs.Ytmafibbnojdpjaa.Tr Go.RowKit Go.Proofs.YtmafibbnojdpjaaW.PrintWords Go.Proofs.YtmafibbnojdpjaaW.PrintLast Go.Proofs.YtmafibbnojdpjaaW.PrintMore Go.Proofs.Ytmafibbnojdpjaa.P
variable {G : Nat → Prop} {col : Nat → Nat} {w w' : World} {s : Nat} {M : StM} {H : Value} {L : List Tr.Item}
theorem cA_take {l : List Cm} {i : Nat} (hi : i < l.length) : l.take (i + 1) = l.take i ++ [cA l i] := by
  rw [List.take_succ_eq_append_getElem hi, cA_eq hi]
set_option maxHeartbeats 2000000 in
theorem since_old (h : StoreC G col w s M H L) (q : Int) (hq : q < M.low) :
    Calls Try.prog 59 #[.pointer (some ⟨s, 0, none⟩), .int .i64 q] w fun e w' => e = .returned (.tuple #[.slice none 0 0, .int .i64 12]) ∧ Below w.heap.size w w' := by
  have HLO : Aside0 (Calls Try.prog 43 #[.pointer (some ⟨s, 0, none⟩)] w fun e w' => e = .returned (.int .i64 M.low) ∧ w' = w) := ⟨low_any h⟩
  have d0 : decide (q < M.low) = true := decide_eq_true hq
  clear h hq
  go_enter Try.func59, Try.ntmps59
  go_wp2_with (first | (go_at_call 43; refine HLO.out.mono ?_; rintro e w1 ⟨rfl, e1⟩; subst e1))
  go_ret2
  exact ⟨rfl, Below.refl _ _⟩
set_option maxHeartbeats 2000000 in
theorem since_mark (h : StoreC G col w s M H L) (hi : 0 ≤ M.low) (hl : lastM M ≤ maxSeq) (q : Int) (hq : lastM M < q) :
    Calls Try.prog 59 #[.pointer (some ⟨s, 0, none⟩), .int .i64 q] w fun e w' => e = .returned (.tuple #[.slice none 0 0, .int .i64 13]) ∧ Below w.heap.size w w' := by
  have HLO : Aside0 (Calls Try.prog 43 #[.pointer (some ⟨s, 0, none⟩)] w fun e w' => e = .returned (.int .i64 M.low) ∧ w' = w) := ⟨low_any h⟩
  have HLA : Aside0 (Calls Try.prog 37 #[.pointer (some ⟨s, 0, none⟩)] w fun e w' => e = .returned (.int .i64 (lastM M)) ∧ ∃ n, w' = w.drewN n) := ⟨last_any h hi hl⟩
  have d0 : decide (q < M.low) = false := decide_eq_false (by unfold lastM at hq; omega)
  have d1 : decide (lastM M < q) = true := decide_eq_true hq
  clear h hq hl
  go_enter Try.func59, Try.ntmps59
  go_wp2_with (first
    | (go_at_call 43; refine HLO.out.mono ?_; rintro e w1 ⟨rfl, e1⟩; subst e1)
    | (go_at_call 37; refine HLA.out.mono ?_; rintro e w1 ⟨rfl, n, rfl⟩))
  go_ret2
  exact ⟨rfl, pw_below_drewN (Below.refl _ _) _⟩
set_option maxHeartbeats 8000000 in
theorem since_good (h : StoreC G col w s M H L) (hi : 0 ≤ M.low) (hl : lastM M ≤ maxSeq) (k : Nat) (hk : k ≤ M.hist.length) (hsz : M.hist.length ≤ 1000000) (hws : ∀ c ∈ M.hist, c.f2.length ≤ 200) :
    Calls Try.prog 59 #[.pointer (some ⟨s, 0, none⟩), .int .i64 (M.low + k)] w fun e w' => ∃ v, e = .returned (.tuple #[v, .int .i64 0]) ∧ Kd.R k28 28 w' w.heap.size (fun _ => True) v (M.hist.drop k) ∧ Below w.heap.size w w' := by
  have HLO : Aside0 (Calls Try.prog 43 #[.pointer (some ⟨s, 0, none⟩)] w fun e w' => e = .returned (.int .i64 M.low) ∧ w' = w) := ⟨low_any h⟩
  have HLA : Aside0 (Calls Try.prog 37 #[.pointer (some ⟨s, 0, none⟩)] w fun e w' => e = .returned (.int .i64 (lastM M)) ∧ ∃ n, w' = w.drewN n) := ⟨last_any h hi hl⟩
  have d0 : decide (M.low + (k : Int) < M.low) = false := decide_eq_false (by omega)
  have d1 : decide (lastM M < M.low + (k : Int)) = false := decide_eq_false (by unfold lastM; omega)
  obtain ⟨A, c, rfl, hc, hC⟩ := h.histS
  have c2 := h.c2
  have c3 := h.c3
  have hlow : M.low ≤ 1099511627776 := by unfold lastM maxSeq at hl; omega
  have e3 : IntKind.i64.wrap (M.low + (k : Int) - M.low) = (k : Int) := by rw [IntKind.wrap_i64]; omega
  have e4 : (0 : Int) ≤ (k : Int) := by omega
  have e5 : (k : Int) ≤ (M.hist.length : Int) := by omega
  have HC := Aside0.mk (Kd.C_drop hC hk hc)
  obtain ⟨A1, hA1⟩ : ∃ A1, (if c = k then A else A.map (·.add (k * k28.sz))) = A1 := ⟨_, rfl⟩
  rw [hA1, List.length_drop] at HC
  have hA2 : (if c = k then A else A.map (·.add (k * 3))) = A1 := hA1
  have HWS : Aside0 (∀ i, i < (M.hist.drop k).length → (cA (M.hist.drop k) i).f2.length ≤ 200) := ⟨fun i hi => by rw [cA_eq hi]; exact hws _ (List.mem_of_mem_drop (List.getElem_mem _))⟩
  have HLN : Aside0 ((M.hist.drop k).length = M.hist.length - k) := ⟨List.length_drop⟩
  generalize M.hist.drop k = L1 at *
  have HSZ := Aside0.mk hsz
  clear h hl hws hC hA1
  go_enter Try.func59, Try.ntmps59
  go_wp2_with (first
    | (go_at_call 43; refine HLO.out.mono ?_; rintro e w1 ⟨rfl, e1⟩; subst e1)
    | (go_at_call 37; refine HLA.out.mono ?_; rintro e w1 ⟨rfl, n, rfl⟩))
  go_quiet (fail)
  go_wp2
  have HB0 : Aside0 (Below w1.heap.size w1 ((w1.drewN n).drewN nq)) := ⟨pw_below_drewN (pw_below_drewN (Below.refl _ _) _) _⟩
  clear HLO HLA d0 d1 c2 c3 hA2 e3 e5
  generalize (w1.drewN n).drewN nq = W2 at *
  go_loopg [33, 6] (L1.length + 1) (fun kq v33 v6 wq => ∃ (i : Nat), v33 = .int .i64 (i : Int) ∧ i ≤ L1.length ∧ L1.length - i < kq ∧ Aside0 (Kd.R k28 28 wq w1.heap.size (fun _ => True) v6 (L1.take i)) ∧ Aside0 (Below w1.heap.size w1 wq))
  case atStart => exact ⟨0, rfl, Nat.zero_le _, by omega, ⟨Kd.R_nil _ _ _ _ _⟩, HB0⟩
  case round =>
    clear HB0
    obtain ⟨i, rfl, hi, hk, HR, HB⟩ := hrel
    have z0 : (0 : Int) ≤ (i : Int) := by omega
    have hln := HLN.out
    by_cases hlt : i < L1.length
    · have z1 : (i : Int) < ((M.hist.length - k : Nat) : Int) := by omega
      obtain ⟨ad5, A5, c5, eA, f0, f1, f2, f3, f4⟩ := at_T28 (Kd.C_below HC.out HB.out) (i : Int) z0 z1
      rw [rd_cA, Int.toNat_natCast] at f0 f1 f2
      rw [rd_cA] at f3 f4
      subst eA
      have hx2 := HWS.out i hlt
      have hb2 : Below wr.heap.size wr (wr.alloc (.cells #[.int .i64 (cA L1 i).f0, .int .i64 (cA L1 i).f1, .slice A5 (cA L1 i).f2.length c5] 28)) := below_alloc (Below.refl _ _) _
      have HCL := Aside0.mk (clonew_any (cA L1 i).f2 A5 c5 _ (Kd.C_below f4 hb2) f3 (by omega))
      have HTK := Aside0.mk (cA_take hlt)
      generalize cA L1 i = x at *
      have hnew := heap_alloc_new wr (.cells #[.int .i64 x.f0, .int .i64 x.f1, .slice A5 x.f2.length c5] 28)
      have HNW := Aside0.mk hnew
      obtain ⟨d0, d1, d2⟩ := three_new wr 28 (.int .i64 x.f0) (.int .i64 x.f1) (.slice A5 x.f2.length c5)
      have HB2 := Aside0.mk hb2
      clear f3 f4 hb2 hnew hln
      go_wp2_with (first
        | (go_at_call 66; refine HCL.out.mono ?_; rintro e w5 ⟨v5, rfl, hv5, hb5⟩; obtain ⟨A6, c6, rfl⟩ := Kd.R_slice hv5
           have HV5 := Aside0.mk hv5
           have HB5 := Aside0.mk hb5
           have x5 := (hb5.block wr.heap.size (by rw [World.size_alloc]; exact Nat.lt_succ_self _)).trans HNW.out
           have t0 : w5.cell? ⟨wr.heap.size, 0, none⟩ = some (.int .i64 x.f0) := (cell_of_row _ _ _ _ _ _ x5).trans rfl
           have t1 : w5.cell? ⟨wr.heap.size, 1, none⟩ = some (.int .i64 x.f1) := (cell_of_row _ _ _ _ _ _ x5).trans rfl
           have t2 : w5.cell? ⟨wr.heap.size, 2, none⟩ = some (.slice A5 x.f2.length c5) := (cell_of_row _ _ _ _ _ _ x5).trans rfl
           have z2 : w5.frozen? ⟨wr.heap.size, 2, none⟩ = false := by simp [World.frozen?, x5]
           have X5 := Aside0.mk x5
           clear hv5 hb5 x5)
        | ((with_reducible refine gate_builtin (b := .append) (xs := #[.tmp 41, .tmp 43]) rfl ?_); at_builtin
           refine Kd.R_append k28 (w0 := w1) w1.heap.size rfl (.tmp 41) (.tmp 43) 23 28 (.agg #[.int .i64 0, .int .i64 0, .slice none 0 0]) 40 rfl Try.underlying23 info28 rfl (by decide) (by decide) u6 (L1.take i) x [.int .i64 x.f0, .int .i64 x.f1, .slice A6 x.f2.length c6] (fun _ => True) (fun k => wr.heap.size ≤ k) rfl ?hx ?hp ?hok (fun _ _ => trivial) ?ho ?hb ?hbs ?hl ?_
           case hx => show Value.slice (some ⟨w5.heap.size, 0, none⟩) 1 1 = _; rw [World.size_setCell]
           case hp => exact k28_mkM _ _ _ x (Kd.R_lower (Kd.R_mono (Kd.R_far (p := ⟨wr.heap.size, 2, none⟩) (Kd.R_bound HV5.out) (fun k hk e => by have := hk.2.1; rw [World.size_alloc] at this; have e' : k = wr.heap.size := e; omega) _) (fun k hk => by have := hk.2.1; rw [World.size_alloc] at this; omega)) (by rw [World.size_alloc]; have := HB.out.size; omega))
           case hok => exact fun k hk => ⟨trivial, fun e => by have := Kd.R_lt HR.out k e.symm; omega⟩
           case ho => exact Kd.R_mono (Kd.R_far (p := ⟨wr.heap.size, 2, none⟩) (Kd.R_below (Kd.R_bound HR.out) (below_step HB2.out HB5.out)) (fun k hk e => by have := hk.2.2.1; have e' : k = wr.heap.size := e; omega) _) (fun _ _ => trivial)
           case hb => exact (below_step HB.out (below_step HB2.out HB5.out)).setCell (p := ⟨wr.heap.size, 2, none⟩) HB.out.size _
           case hbs => show w1.heap.size ≤ (w5.setCell _ _).heap.size; rw [World.size_setCell]; exact (below_step HB.out (below_step HB2.out HB5.out)).size
           case hl => have := HSZ.out; rw [List.length_take]; omega
           intro v7 w7 h1 h2 h3 h4
           rw [← HTK.out] at h1
           have H1 := Aside0.mk h1
           have H2 := Aside0.mk h2
           clear h1 h2 h3 h4))
      go_roundg (gk - 1)
      case measure => omega
      case rel => exact ⟨i + 1, by go_num, by omega, by omega, H1, H2⟩
    · have hiz : i = L1.length := by omega
      subst hiz
      rw [List.take_length] at HR
      have z1 : ¬ ((L1.length : Int) < ((M.hist.length - k : Nat) : Int)) := by omega
      clear hln hlt
      go_wp2
      go_ret2
      exact ⟨_, rfl, HR.out, HB.out⟩
end Go.Proofs.Ytmafibbnojdpjaa.St
end
section
set_option linter.unusedVariables false
set_option maxRecDepth 100000
set_option linter.unusedSimpArgs false
namespace Go.Proofs.Ytmafibbnojdpjaa.ChQ
open Go.RowKit Go.Proofs.Ytmafibbnojdpjaa.C Go.Proofs.Ytmafibbnojdpjaa.P Go.Proofs.YtmafibbnojdpjaaW.PrintWords Go.Proofs.YtmafibbnojdpjaaW.PrintLast
def key (l : List S118) (i : Nat) : Int := (rd_T118 l (i : Int)).f0
theorem bs_spec (p : Nat → Bool) (n r : Nat) (hr : ∀ k, k < r → p k = true) (hs : ∀ k, r ≤ k → k < n → p k = false) :
    ∀ d i j, j - i = d → i ≤ r → r ≤ j → j ≤ n → bs p i j = r := by
  intro d
  induction d using Nat.strongRecOn with
  | _ d ih =>
    intro i j hd hir hrj hjn
    by_cases h : i < j
    · by_cases c : (i + j) / 2 < r
      · rw [bs_on p i j h (hr _ c)]
        exact ih (j - ((i + j) / 2 + 1)) (by omega) _ _ rfl (by omega) hrj hjn
      · rw [bs_back p i j h (hs _ (by omega) (by omega))]
        exact ih ((i + j) / 2 - i) (by omega) _ _ rfl hir (by omega) (by omega)
    · rw [bs_done p i j h]; omega
theorem cmp_lt (a b : Int) : cmpI a b < 0 ↔ a < b := by
  unfold cmpI
  by_cases h : a < b
  · simp [h]
  · by_cases h2 : b < a
    · simp [h, h2]
    · simp [h, h2]
theorem cmp_eq (a b : Int) : cmpI a b = 0 ↔ a = b := by
  unfold cmpI
  by_cases h : a < b
  · simp [h]; omega
  · by_cases h2 : b < a
    · simp [h, h2]; omega
    · simp [h, h2]; omega
theorem less_eq (l : List S118) (x : Int) (i : Nat) : less l x i = decide (key l i < x) := by
  unfold less key
  rw [decide_eq_decide]
  exact cmp_lt _ _
theorem srch_eq (l : List S118) (x : Int) (n : Nat) (hn : n ≤ l.length) (h1 : ∀ i, i < n → key l i < x) (h2 : ∀ i, n ≤ i → i < l.length → x ≤ key l i) : srch l x = n := by
  unfold srch
  refine bs_spec _ l.length n (fun k hk => ?_) (fun k hk hl => ?_) _ 0 _ rfl (Nat.zero_le _) hn (Nat.le_refl _)
  · rw [less_eq]; exact decide_eq_true (h1 k hk)
  · rw [less_eq]; exact decide_eq_false (by have := h2 k hk hl; omega)
theorem behind_eq (l : List S118) (x : Int) (hr : ∀ i j, i < j → j < l.length → key l i < key l j) (n : Nat) (hn : n ≤ l.length) (h1 : ∀ i, i < n → key l i ≤ x) (h2 : ∀ i, n ≤ i → i < l.length → x < key l i) : behindN l x = n := by
  unfold behindN
  by_cases c : 0 < n ∧ key l (n - 1) = x
  · have e : srch l x = n - 1 := srch_eq l x (n - 1) (by omega) (fun i hi => by have := hr i (n - 1) hi (by omega); omega) (fun i hi hl => by
      by_cases c2 : i = n - 1
      · subst c2; omega
      · have := h2 i (by omega) hl; omega)
    have f : fnd l x = true := by
      unfold fnd
      rw [e]
      exact decide_eq_true ⟨by omega, (cmp_eq _ _).2 c.2⟩
    rw [f, if_pos rfl, e]; omega
  · have e : srch l x = n := srch_eq l x n hn (fun i hi => by
      by_cases c2 : i = n - 1
      · subst c2
        have := h1 (n - 1) hi
        have : key l (n - 1) ≠ x := fun h => c ⟨by omega, h⟩
        omega
      · have a := hr i (n - 1) (by omega) (by omega)
        have b := h1 (n - 1) (by omega)
        omega) (fun i hi hl => by have := h2 i hi hl; omega)
    have f : fnd l x = false := by
      unfold fnd
      rw [e]
      refine decide_eq_false ?_
      rintro ⟨ha, hb⟩
      have := (cmp_eq _ _).1 hb
      have h := h2 n (Nat.le_refl _) ha
      unfold key at h
      omega
    rw [f, e]; rfl
end Go.Proofs.Ytmafibbnojdpjaa.ChQ
namespace Go.Proofs.Ytmafibbnojdpjaa.St
open Go.Proofs.Ytmafibbnojdpjaa.ChQ (key behind_eq)
open Go.Proofs.Ytmafibbnojdpjaa.C (behindN chain_Chain_behind.calls chain_Chain_behind.f)
open Go.Proofs.Ytmafibbnojdpjaa.Tr Go.RowKit Go.Proofs.YtmafibbnojdpjaaW.PrintWords Go.Proofs.YtmafibbnojdpjaaW.PrintLast Go.Proofs.YtmafibbnojdpjaaW.PrintMore Go.Proofs.Ytmafibbnojdpjaa.P
def upV (c : List Ver) : Prop := c.Pairwise fun a b => a.f0 < b.f0
def cutV (c : List Ver) (q : Int) : List Ver := c.filter fun v => decide (v.f0 ≤ q)
/-- what belonged to the key behind a commit -/
def atO (c : List Ver) (q : Int) : Option ByteArray := (cutV c q).getLast?.bind fun v => if v.f2 then none else some v.f1
theorem cut_split {c : List Ver} (h : upV c) (q : Int) : cutV c q = c.take (cutV c q).length ∧ ∀ v ∈ c.drop (cutV c q).length, q < v.f0 := by
  induction c with
  | nil => exact ⟨rfl, fun v hv => (by cases hv)⟩
  | cons a c ih =>
    obtain ⟨h1, h2⟩ := List.pairwise_cons.1 h
    obtain ⟨i1, i2⟩ := ih h2
    by_cases hk : a.f0 ≤ q
    · have e1 : cutV (a :: c) q = a :: cutV c q := by unfold cutV; rw [List.filter_cons_of_pos (by simpa using hk)]
      rw [e1, List.length_cons, List.take_succ_cons, List.drop_succ_cons, ← i1]
      exact ⟨rfl, i2⟩
    · have hno : ∀ b ∈ c, ¬ b.f0 ≤ q := fun b hb => by have := h1 b hb; omega
      have e1 : cutV (a :: c) q = [] := by
        unfold cutV
        rw [List.filter_eq_nil_iff]
        intro b hb
        rcases List.mem_cons.1 hb with rfl | hb
        · simpa using hk
        · simpa using hno b hb
      rw [e1]
      refine ⟨rfl, fun v hv => ?_⟩
      rcases List.mem_cons.1 hv with rfl | hv
      · omega
      · have := hno v hv; omega
theorem key_get {c : List Ver} {i : Nat} (h : i < c.length) : key c i = c[i].f0 := by simp [key, rd_T118, List.getD, h]
theorem cut_len (c : List Ver) (q : Int) : (cutV c q).length ≤ c.length := List.length_filter_le _ _
theorem behind_cut {c : List Ver} (h : upV c) (q : Int) : behindN c q = ((cutV c q).length : Int) := by
  obtain ⟨h1, h2⟩ := cut_split h q
  have hl := cut_len c q
  refine behind_eq c q (fun i j hij hj => ?_) _ hl (fun i hi => ?_) (fun i hi hil => ?_)
  · rw [key_get (by omega), key_get hj]
    exact List.pairwise_iff_getElem.1 h i j (by omega) hj hij
  · rw [key_get (by omega)]
    have hm : c[i] ∈ cutV c q := by
      rw [h1, List.mem_take_iff_getElem]
      exact ⟨i, by omega, rfl⟩
    have := (List.mem_filter.1 hm).2
    simpa using this
  · rw [key_get hil]
    refine h2 _ ?_
    rw [List.mem_drop_iff_getElem]
    exact ⟨i - (cutV c q).length, by omega, by congr 1; omega⟩
set_option maxHeartbeats 4000000 in
theorem at_any {c : List Ver} (h : upV c) (A : Option Addr) (cap : Nat) (q : Int) (w : World) (hr : Kd.C k118 w A c.length c) (hc : c.length ≤ cap) (hn : c.length < 4611686018427387904) :
    Calls Try.prog 83 #[.slice A c.length cap, .int .i64 q] w fun e w' => e = .returned (.tuple #[.string ((atO c q).getD ⟨#[]⟩), .bool (atO c q).isSome]) ∧ Below w.heap.size w w' := by
  have HBH := Aside0.mk (chain_Chain_behind.calls A cap c q ((cutV c q).length : Int) w hr hc (by unfold chain_Chain_behind.f; rw [if_pos hn, behind_cut h]))
  obtain ⟨e1, _⟩ := cut_split h q
  have hl := cut_len c q
  have HR := Aside0.mk hr
  by_cases h0 : (cutV c q).length = 0
  · have ea : atO c q = none := by unfold atO; rw [List.length_eq_zero_iff.1 h0]; rfl
    rw [h0] at HBH
    rw [ea]
    clear h0 ea hl e1 hr
    go_enter Try.func83, Try.ntmps83
    go_wp2_with (go_at_call 104; refine HBH.out.mono ?_; rintro e w1 ⟨rfl, hb⟩; have HB := Aside0.mk hb; clear hb)
    go_ret2
    exact ⟨rfl, HB.out⟩
  · obtain ⟨n, hn0⟩ : ∃ n, (cutV c q).length = n + 1 := ⟨(cutV c q).length - 1, by omega⟩
    have hnl : n < c.length := by omega
    have ea : atO c q = if (c[n]).f2 then none else some (c[n]).f1 := by
      unfold atO
      rw [e1, hn0, List.take_succ_eq_append_getElem hnl, List.getLast?_append]
      simp
    obtain ⟨ad, eA, _, f1, f2⟩ := at_T118 hr (n : Int) (by omega) (by omega)
    rw [show rd_T118 c (n : Int) = c[n] from by simp [rd_T118, List.getD, hnl], Int.toNat_natCast] at f1 f2
    rw [hn0] at HBH
    rw [ea]
    subst eA
    generalize c[n] = v at *
    have d0 : (((n + 1 : Nat) : Int) == 0) = false := beq_eq_false_iff_ne.2 (by omega)
    have e3 : IntKind.i64.wrap (((n + 1 : Nat) : Int) - 1) = (n : Int) := by rw [IntKind.wrap_i64]; omega
    have e4 : wrap64 (((n + 1 : Nat) : Int) - 1) = (n : Int) := by rw [w64 (by omega) (by omega)]; omega
    have z0 : (0 : Int) ≤ (n : Int) := by omega
    have z1 : (n : Int) < (c.length : Int) := by omega
    clear h0 ea e1 hr hl hn0
    cases hg : v.f2 with
    | true =>
      rw [hg] at f2
      go_enter Try.func83, Try.ntmps83
      go_wp2_with (go_at_call 104; refine HBH.out.mono ?_; rintro e w1 ⟨rfl, hb⟩; have f1 := up hb f1; have f2 := up hb f2; have HB := Aside0.mk hb; clear hb)
      go_ret2
      exact ⟨rfl, HB.out⟩
    | false =>
      rw [hg] at f2
      go_enter Try.func83, Try.ntmps83
      go_wp2_with (go_at_call 104; refine HBH.out.mono ?_; rintro e w1 ⟨rfl, hb⟩; have f1 := up hb f1; have f2 := up hb f2; have HB := Aside0.mk hb; clear hb)
      go_ret2
      exact ⟨rfl, HB.out⟩
end Go.Proofs.Ytmafibbnojdpjaa.St
end
section
set_option linter.unusedVariables false
set_option maxRecDepth 100000
set_option linter.unusedSimpArgs false
namespace Go.Proofs.Ytmafibbnojdpjaa.St
open Go.Proofs.Ytmafibbnojdpjaa.Tr Go.RowKit Go.Proofs.YtmafibbnojdpjaaW.PrintWords Go.Proofs.YtmafibbnojdpjaaW.PrintLast Go.Proofs.YtmafibbnojdpjaaW.PrintMore Go.Proofs.Ytmafibbnojdpjaa.P
/-- a row of one write, as it is made -/
theorem one_w {W : World} {b : Nat} (x : Wr) (hh : W.heap[b]? = some (.cells #[.string x.f0, .string x.f1, .bool x.f2] 31 (0, 0))) : Kd.C k31 W (some ⟨b, 0, none⟩) 1 [x] := by
  have h : Kd.R k31 31 W 0 (fun _ => True) (.slice (some ⟨b, 0, none⟩) 1 1) [x] := by
    refine ⟨fun _ _ => trivial, [.string x.f0, .string x.f1, .bool x.f2], ⟨rfl, .inr ⟨b, 1, _, rfl, Nat.zero_le _, hh, Nat.le_refl _, by simp [maxLen], rfl, rfl⟩⟩, ?_⟩
    exact (Reps.none (k31.M W 0 (fun k => True ∧ some k ≠ (Value.slice (some ⟨b, 0, none⟩) 1 1).ownBlock)) 3).snoc (k31_mkM W 0 _ x) rfl
  exact (Kd.R_reads' h).2.2
def hc1 : Cm := ⟨1, 0, [⟨⟨#[97]⟩, ⟨#[]⟩, false⟩]⟩
def hc2 : Cm := ⟨2, 0, [⟨⟨#[98]⟩, ⟨#[]⟩, false⟩]⟩
def hM0 : StM := newM 0 []
def hM1 : StM := comM hM0 hc1
def hM2 : StM := comM hM1 hc2
theorem hN0 : newOk 0 [] = true := by decide +kernel
theorem hG1 : goodC hM0 hc1 = true := by decide +kernel
theorem hI0 : Inv hM0 := inv_new hN0
theorem hI1 : Inv hM1 := inv_com hI0 hG1
theorem hL0 : hM0.hist.length ≤ 1000000 ∧ hM0.K.length ≤ 1000000 := by decide +kernel
theorem hW2 : ∀ c ∈ hM2.hist, c.f2.length ≤ 200 := by
  intro c hc
  have : c = hc1 ∨ c = hc2 := by
    have e : hM2.hist = [hc1, hc2] := rfl
    rw [e] at hc
    simpa using hc
  rcases this with rfl | rfl <;> decide
end Go.Proofs.Ytmafibbnojdpjaa.St
end
