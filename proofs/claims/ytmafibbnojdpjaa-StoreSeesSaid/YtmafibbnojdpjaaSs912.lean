/- Lemmas that the proof needs, part 12. -/
import Derived.Test.YtmafibbnojdpjaaWKept
import Derived.Deep.RegionHeld3
import Derived.Test.YtmafibbnojdpjaaWWords
import Derived.Test.YtmafibbnojdpjaaSs91
import Derived.Test.YtmafibbnojdpjaaSs92
import Derived.Test.YtmafibbnojdpjaaSs93
import Derived.Test.YtmafibbnojdpjaaSs94
import Derived.Test.YtmafibbnojdpjaaSs95
import Derived.Test.YtmafibbnojdpjaaSs96
import Derived.Test.YtmafibbnojdpjaaSs97
import Derived.Test.YtmafibbnojdpjaaSs98
import Derived.Test.YtmafibbnojdpjaaSs99
import Derived.Test.YtmafibbnojdpjaaSs910
import Derived.Test.YtmafibbnojdpjaaSs911
section
set_option linter.unusedVariables false
set_option maxRecDepth 100000
set_option linter.unusedSimpArgs false
namespace Go.Proofs.Ytmafibbnojdpjaa.ChQ
open Go.RowKit Go.Proofs.Ytmafibbnojdpjaa.C Go.Proofs.Ytmafibbnojdpjaa.P Go.Proofs.YtmafibbnojdpjaaW.PrintWords Go.Proofs.YtmafibbnojdpjaaW.PrintLast
def key (l : List S118) (i : Nat) : Int := (rd_T118 l (i : Int)).f0
theorem bs_spec (p : Nat → Bool) (n r : Nat) (hr : ∀ k, k < r → p k = true) (hs : ∀ k, r ≤ k → k < n → p k = false) :
    ∀ d i j, j - i = d → i ≤ r → r ≤ j → j ≤ n → bs p i j = r := by
  intro d
  induction d using Nat.strongRecOn with
  | _ d ih =>
    intro i j hd hir hrj hjn
    by_cases h : i < j
    · by_cases c : (i + j) / 2 < r
      · rw [bs_on p i j h (hr _ c)]
        exact ih (j - ((i + j) / 2 + 1)) (by omega) _ _ rfl (by omega) hrj hjn
      · rw [bs_back p i j h (hs _ (by omega) (by omega))]
        exact ih ((i + j) / 2 - i) (by omega) _ _ rfl hir (by omega) (by omega)
    · rw [bs_done p i j h]; omega
theorem cmp_lt (a b : Int) : cmpI a b < 0 ↔ a < b := by
  unfold cmpI
  by_cases h : a < b
  · simp [h]
  · by_cases h2 : b < a
    · simp [h, h2]
    · simp [h, h2]
theorem cmp_eq (a b : Int) : cmpI a b = 0 ↔ a = b := by
  unfold cmpI
  by_cases h : a < b
  · simp [h]; omega
  · by_cases h2 : b < a
    · simp [h, h2]; omega
    · simp [h, h2]; omega
theorem less_eq (l : List S118) (x : Int) (i : Nat) : less l x i = decide (key l i < x) := by
  unfold less key
  rw [decide_eq_decide]
  exact cmp_lt _ _
theorem srch_eq (l : List S118) (x : Int) (n : Nat) (hn : n ≤ l.length) (h1 : ∀ i, i < n → key l i < x) (h2 : ∀ i, n ≤ i → i < l.length → x ≤ key l i) : srch l x = n := by
  unfold srch
  refine bs_spec _ l.length n (fun k hk => ?_) (fun k hk hl => ?_) _ 0 _ rfl (Nat.zero_le _) hn (Nat.le_refl _)
  · rw [less_eq]; exact decide_eq_true (h1 k hk)
  · rw [less_eq]; exact decide_eq_false (by have := h2 k hk hl; omega)
theorem behind_eq (l : List S118) (x : Int) (hr : ∀ i j, i < j → j < l.length → key l i < key l j) (n : Nat) (hn : n ≤ l.length) (h1 : ∀ i, i < n → key l i ≤ x) (h2 : ∀ i, n ≤ i → i < l.length → x < key l i) : behindN l x = n := by
  unfold behindN
  by_cases c : 0 < n ∧ key l (n - 1) = x
  · have e : srch l x = n - 1 := srch_eq l x (n - 1) (by omega) (fun i hi => by have := hr i (n - 1) hi (by omega); omega) (fun i hi hl => by
      by_cases c2 : i = n - 1
      · subst c2; omega
      · have := h2 i (by omega) hl; omega)
    have f : fnd l x = true := by
      unfold fnd
      rw [e]
      exact decide_eq_true ⟨by omega, (cmp_eq _ _).2 c.2⟩
    rw [f, if_pos rfl, e]; omega
  · have e : srch l x = n := srch_eq l x n hn (fun i hi => by
      by_cases c2 : i = n - 1
      · subst c2
        have := h1 (n - 1) hi
        have : key l (n - 1) ≠ x := fun h => c ⟨by omega, h⟩
        omega
      · have a := hr i (n - 1) (by omega) (by omega)
        have b := h1 (n - 1) (by omega)
        omega) (fun i hi hl => by have := h2 i hi hl; omega)
    have f : fnd l x = false := by
      unfold fnd
      rw [e]
      refine decide_eq_false ?_
      rintro ⟨ha, hb⟩
      have := (cmp_eq _ _).1 hb
      have h := h2 n (Nat.le_refl _) ha
      unfold key at h
      omega
    rw [f, e]; rfl
end Go.Proofs.Ytmafibbnojdpjaa.ChQ
namespace Go.Proofs.Ytmafibbnojdpjaa.St
open Go.Proofs.Ytmafibbnojdpjaa.ChQ (key behind_eq)
open Go.Proofs.Ytmafibbnojdpjaa.C (behindN chain_Chain_behind.calls chain_Chain_behind.f)
open Go.Proofs.Ytmafibbnojdpjaa.Tr Go.RowKit Go.Proofs.YtmafibbnojdpjaaW.PrintWords Go.Proofs.YtmafibbnojdpjaaW.PrintLast Go.Proofs.YtmafibbnojdpjaaW.PrintMore Go.Proofs.Ytmafibbnojdpjaa.P
def upV (c : List Ver) : Prop := c.Pairwise fun a b => a.f0 < b.f0
def cutV (c : List Ver) (q : Int) : List Ver := c.filter fun v => decide (v.f0 ≤ q)
/-- what belonged to the key behind a commit -/
def atO (c : List Ver) (q : Int) : Option ByteArray := (cutV c q).getLast?.bind fun v => if v.f2 then none else some v.f1
theorem cut_split {c : List Ver} (h : upV c) (q : Int) : cutV c q = c.take (cutV c q).length ∧ ∀ v ∈ c.drop (cutV c q).length, q < v.f0 := by
  induction c with
  | nil => exact ⟨rfl, fun v hv => (by cases hv)⟩
  | cons a c ih =>
    obtain ⟨h1, h2⟩ := List.pairwise_cons.1 h
    obtain ⟨i1, i2⟩ := ih h2
    by_cases hk : a.f0 ≤ q
    · have e1 : cutV (a :: c) q = a :: cutV c q := by unfold cutV; rw [List.filter_cons_of_pos (by simpa using hk)]
      rw [e1, List.length_cons, List.take_succ_cons, List.drop_succ_cons, ← i1]
      exact ⟨rfl, i2⟩
    · have hno : ∀ b ∈ c, ¬ b.f0 ≤ q := fun b hb => by have := h1 b hb; omega
      have e1 : cutV (a :: c) q = [] := by
        unfold cutV
        rw [List.filter_eq_nil_iff]
        intro b hb
        rcases List.mem_cons.1 hb with rfl | hb
        · simpa using hk
        · simpa using hno b hb
      rw [e1]
      refine ⟨rfl, fun v hv => ?_⟩
      rcases List.mem_cons.1 hv with rfl | hv
      · omega
      · have := hno v hv; omega
theorem key_get {c : List Ver} {i : Nat} (h : i < c.length) : key c i = c[i].f0 := by simp [key, rd_T118, List.getD, h]
theorem cut_len (c : List Ver) (q : Int) : (cutV c q).length ≤ c.length := List.length_filter_le _ _
theorem behind_cut {c : List Ver} (h : upV c) (q : Int) : behindN c q = ((cutV c q).length : Int) := by
  obtain ⟨h1, h2⟩ := cut_split h q
  have hl := cut_len c q
  refine behind_eq c q (fun i j hij hj => ?_) _ hl (fun i hi => ?_) (fun i hi hil => ?_)
  · rw [key_get (by omega), key_get hj]
    exact List.pairwise_iff_getElem.1 h i j (by omega) hj hij
  · rw [key_get (by omega)]
    have hm : c[i] ∈ cutV c q := by
      rw [h1, List.mem_take_iff_getElem]
      exact ⟨i, by omega, rfl⟩
    have := (List.mem_filter.1 hm).2
    simpa using this
  · rw [key_get hil]
    refine h2 _ ?_
    rw [List.mem_drop_iff_getElem]
    exact ⟨i - (cutV c q).length, by omega, by congr 1; omega⟩
set_option maxHeartbeats 4000000 in
theorem at_any {c : List Ver} (h : upV c) (A : Option Addr) (cap : Nat) (q : Int) (w : World) (hr : Kd.C k118 w A c.length c) (hc : c.length ≤ cap) (hn : c.length < 4611686018427387904) :
    Calls Try.prog 83 #[.slice A c.length cap, .int .i64 q] w fun e w' => e = .returned (.tuple #[.string ((atO c q).getD ⟨#[]⟩), .bool (atO c q).isSome]) ∧ Below w.heap.size w w' := by
  have HBH := Aside0.mk (chain_Chain_behind.calls A cap c q ((cutV c q).length : Int) w hr hc (by unfold chain_Chain_behind.f; rw [if_pos hn, behind_cut h]))
  obtain ⟨e1, _⟩ := cut_split h q
  have hl := cut_len c q
  have HR := Aside0.mk hr
  by_cases h0 : (cutV c q).length = 0
  · have ea : atO c q = none := by unfold atO; rw [List.length_eq_zero_iff.1 h0]; rfl
    rw [h0] at HBH
    rw [ea]
    clear h0 ea hl e1 hr
    go_enter Try.func83, Try.ntmps83
    go_wp2_with (go_at_call 104; refine HBH.out.mono ?_; rintro e w1 ⟨rfl, hb⟩; have HB := Aside0.mk hb; clear hb)
    go_ret2
    exact ⟨rfl, HB.out⟩
  · obtain ⟨n, hn0⟩ : ∃ n, (cutV c q).length = n + 1 := ⟨(cutV c q).length - 1, by omega⟩
    have hnl : n < c.length := by omega
    have ea : atO c q = if (c[n]).f2 then none else some (c[n]).f1 := by
      unfold atO
      rw [e1, hn0, List.take_succ_eq_append_getElem hnl, List.getLast?_append]
      simp
    obtain ⟨ad, eA, _, f1, f2⟩ := at_T118 hr (n : Int) (by omega) (by omega)
    rw [show rd_T118 c (n : Int) = c[n] from by simp [rd_T118, List.getD, hnl], Int.toNat_natCast] at f1 f2
    rw [hn0] at HBH
    rw [ea]
    subst eA
    generalize c[n] = v at *
    have d0 : (((n + 1 : Nat) : Int) == 0) = false := beq_eq_false_iff_ne.2 (by omega)
    have e3 : IntKind.i64.wrap (((n + 1 : Nat) : Int) - 1) = (n : Int) := by rw [IntKind.wrap_i64]; omega
    have e4 : wrap64 (((n + 1 : Nat) : Int) - 1) = (n : Int) := by rw [w64 (by omega) (by omega)]; omega
    have z0 : (0 : Int) ≤ (n : Int) := by omega
    have z1 : (n : Int) < (c.length : Int) := by omega
    clear h0 ea e1 hr hl hn0
    cases hg : v.f2 with
    | true =>
      rw [hg] at f2
      go_enter Try.func83, Try.ntmps83
      go_wp2_with (go_at_call 104; refine HBH.out.mono ?_; rintro e w1 ⟨rfl, hb⟩; have f1 := up hb f1; have f2 := up hb f2; have HB := Aside0.mk hb; clear hb)
      go_ret2
      exact ⟨rfl, HB.out⟩
    | false =>
      rw [hg] at f2
      go_enter Try.func83, Try.ntmps83
      go_wp2_with (go_at_call 104; refine HBH.out.mono ?_; rintro e w1 ⟨rfl, hb⟩; have f1 := up hb f1; have f2 := up hb f2; have HB := Aside0.mk hb; clear hb)
      go_ret2
      exact ⟨rfl, HB.out⟩
end Go.Proofs.Ytmafibbnojdpjaa.St
end
section
set_option linter.unusedVariables false
set_option maxRecDepth 100000
set_option linter.unusedSimpArgs false
namespace Go.Proofs.Ytmafibbnojdpjaa.St
open Go.Proofs.Ytmafibbnojdpjaa.Tr Go.RowKit Go.Proofs.YtmafibbnojdpjaaW.PrintWords Go.Proofs.YtmafibbnojdpjaaW.PrintLast Go.Proofs.YtmafibbnojdpjaaW.PrintMore Go.Proofs.Ytmafibbnojdpjaa.P
/-- a row of one write, as it is made -/
theorem one_w {W : World} {b : Nat} (x : Wr) (hh : W.heap[b]? = some (.cells #[.string x.f0, .string x.f1, .bool x.f2] 31 (0, 0))) : Kd.C k31 W (some ⟨b, 0, none⟩) 1 [x] := by
  have h : Kd.R k31 31 W 0 (fun _ => True) (.slice (some ⟨b, 0, none⟩) 1 1) [x] := by
    refine ⟨fun _ _ => trivial, [.string x.f0, .string x.f1, .bool x.f2], ⟨rfl, .inr ⟨b, 1, _, rfl, Nat.zero_le _, hh, Nat.le_refl _, by simp [maxLen], rfl, rfl⟩⟩, ?_⟩
    exact (Reps.none (k31.M W 0 (fun k => True ∧ some k ≠ (Value.slice (some ⟨b, 0, none⟩) 1 1).ownBlock)) 3).snoc (k31_mkM W 0 _ x) rfl
  exact (Kd.R_reads' h).2.2
def hc1 : Cm := ⟨1, 0, [⟨⟨#[97]⟩, ⟨#[]⟩, false⟩]⟩
def hc2 : Cm := ⟨2, 0, [⟨⟨#[98]⟩, ⟨#[]⟩, false⟩]⟩
def hM0 : StM := newM 0 []
def hM1 : StM := comM hM0 hc1
def hM2 : StM := comM hM1 hc2
theorem hN0 : newOk 0 [] = true := by decide +kernel
theorem hG1 : goodC hM0 hc1 = true := by decide +kernel
theorem hI0 : Inv hM0 := inv_new hN0
theorem hI1 : Inv hM1 := inv_com hI0 hG1
theorem hL0 : hM0.hist.length ≤ 1000000 ∧ hM0.K.length ≤ 1000000 := by decide +kernel
theorem hW2 : ∀ c ∈ hM2.hist, c.f2.length ≤ 200 := by
  intro c hc
  have : c = hc1 ∨ c = hc2 := by
    have e : hM2.hist = [hc1, hc2] := rfl
    rw [e] at hc
    simpa using hc
  rcases this with rfl | rfl <;> decide
end Go.Proofs.Ytmafibbnojdpjaa.St
end
section
set_option linter.unusedVariables false
namespace Go.Proofs.Ytmafibbnojdpjaa.Tr
/-- the low bits of a number, at 64 bits -/
theorem low_bits (n m : Int) (k : Nat) (hm : (BitVec.ofInt 64 m).toNat = 2 ^ k - 1) : bits .and .i64 n m = IntKind.i64.wrap (((n % 18446744073709551616).toNat % 2 ^ k : Nat) : Int) := by
  have h : (BitVec.ofInt 64 n &&& BitVec.ofInt 64 m).toNat = (n % 18446744073709551616).toNat % 2 ^ k := by
    rw [BitVec.toNat_and, hm, Nat.and_two_pow_sub_one_eq_mod, BitVec.toNat_ofInt]
    rfl
  rw [← h]
  rfl
end Go.Proofs.Ytmafibbnojdpjaa.Tr
end
