/- Lemmas that the proof needs, part 10. -/
import Derived.StillTailTactics
import Derived.Test.YtmafibbnojdpjaaKp4
import Derived.Test.YtmafibbnojdpjaaKp7
import Derived.Test.YtmafibbnojdpjaaKp8
section
set_option linter.unusedVariables false
set_option maxRecDepth 100000
set_option linter.unusedSimpArgs false
namespace Go.Proofs.Ytmafibbnojdpjaa.C
open Go.Proofs.Ytmafibbnojdpjaa.P Go.RowKit Go.Proofs.YtmafibbnojdpjaaW.PrintWords Go.Proofs.YtmafibbnojdpjaaW.PrintLast Go.Proofs.YtmafibbnojdpjaaW.PrintMore
theorem info118 : (Try.prog.info? 118).map (fun i => (i.zero, i.size, i.bytes)) = some (some (.agg #[.int .i64 0, .string ⟨#[]⟩, .bool false]), 3, 32) := by kernel_rfl
def lastI (l : List S118) : Int := if l.length = 0 then -1 else (rd_T118 l ((l.length - 1 : Nat) : Int)).f0
theorem last_eq (l : List S118) (h : l.length < 4611686018427387904) : chain_Chain_Last.f l = some (lastI l) := by
  unfold chain_Chain_Last.f lastI
  by_cases c : l.length = 0
  · rw [if_pos (by omega), if_pos c]
  · have e : wrap64 ((l.length : Int) - 1) = ((l.length - 1 : Nat) : Int) := by unfold wrap64; omega
    rw [if_neg (by omega), e, if_pos (by omega), if_pos (by omega), if_neg c]
def badV (l : List S118) (q : Int) (s : ByteArray) (g : Bool) : Bool := decide (q ≤ lastI l) || decide (q < 0) || decide (q > 1099511627776) || (g && s.toList != [])
def chain_Chain_Put.f (l0 : List S118) (a1_0 : Int) (a1_1 : ByteArray) (a1_2 : Bool) : Option (List S118 × Int) :=
  if l0.length < 2199023255600 then (if badV l0 a1_0 a1_1 a1_2 = true then some ([], 1) else some (l0 ++ [⟨a1_0, a1_1, a1_2⟩], 0)) else none
theorem last_q (A0 : Option Addr) (c0 : Nat) (l0 : List S118) (r : Int) (w : World) (hr0 : Kd.C k118 w A0 l0.length l0) (hc0 : l0.length ≤ c0) (h : chain_Chain_Last.f l0 = some r) :
    Calls Try.prog 89 #[.slice A0 l0.length c0] w fun e w' => e = .returned (.int .i64 r) ∧ ∃ n, w' = w.drewN n :=
  (chain_Chain_Last.calls A0 c0 l0 r w hr0 hc0 h).mono fun _ _ ⟨he, hd⟩ => ⟨he, hd.out⟩
set_option maxHeartbeats 1000000 in
theorem put_bad (A0 : Option Addr) (c0 : Nat) (l0 : List S118) (q : Int) (s : ByteArray) (g : Bool) (w : World) (hr0 : Kd.C k118 w A0 l0.length l0) (hc0 : l0.length ≤ c0) (hn : l0.length < 2199023255600) (hb : badV l0 q s g = true) :
    Calls Try.prog 68 #[.slice A0 l0.length c0, .agg #[.int .i64 q, .string s, .bool g]] w fun e w' => e = .returned (.tuple #[.slice none 0 0, .int .i64 1]) ∧ Below w.heap.size w w' := by
  have HL := Aside0.mk (last_eq l0 (by omega))
  have HR := Aside0.mk hr0
  have HC := Aside0.mk hc0
  clear hr0 hc0
  unfold badV at hb
  generalize lastI l0 = la at *
  have hw : (decide (q ≤ la) = true) ∨ (decide (q ≤ la) = false ∧ decide (q < 0) = true) ∨ (decide (q ≤ la) = false ∧ decide (q < 0) = false ∧ decide (1099511627776 < q) = true) ∨ (decide (q ≤ la) = false ∧ decide (q < 0) = false ∧ decide (1099511627776 < q) = false ∧ g = true ∧ (s.toList != []) = true) := by
    cases h1 : decide (q ≤ la)
    · cases h2 : decide (q < 0)
      · cases h3 : decide (1099511627776 < q)
        · have h3' : decide (q > 1099511627776) = false := h3
          rw [h1, h2, h3'] at hb
          simp only [Bool.false_or, Bool.and_eq_true] at hb
          exact .inr (.inr (.inr ⟨rfl, rfl, rfl, hb⟩))
        · exact .inr (.inr (.inl ⟨rfl, rfl, rfl⟩))
      · exact .inr (.inl ⟨rfl, rfl⟩)
    · exact .inl rfl
  clear hb
  have d6 : (s.toList != []) = true → (!s.toList.isEmpty) = true := by cases s.toList <;> simp
  rcases hw with d1 | ⟨d1, d2⟩ | ⟨d1, d2, d3⟩ | ⟨d1, d2, d3, rfl, d5⟩
  rotate_left 3
  have d7 := d6 d5
  clear d6
  rotate_right 3
  all_goals
    go_enter Try.func68, Try.ntmps68
    go_wp2_with fail
    go_quiet ((go_at_call 89; exact Calls.quiet_of (last_q A0 c0 l0 la _ (Kd.C_below HR.out (by repeat (first | apply below_alloc | apply pw_below_drewN | apply below_drew1 | exact Below.refl _ _))) HC.out HL.out)))
    go_wp2
    go_ret2
    exact ⟨rfl, (by repeat (first | apply below_alloc | apply pw_below_drewN | apply below_drew1 | exact Below.refl _ _))⟩
theorem k118_KM (w : World) : ∀ y c, k118.K w y c → k118.M w w.heap.size (fun _ => False) y c := by
  intro y c hy
  obtain rfl := k118_open hy
  exact k118_mkM _ _ _ _
theorem new3 (w : World) (t : TypeId) (x y z : Value) (n : Nat) (hn : n = w.heap.size) : ∀ j u, ([x, y, z] : List Value)[j]? = some u → (w.alloc (.cells #[x, y, z] t)).cell? ((⟨n, 0, none⟩ : Addr).add j) = some u := by
  subst hn
  intro j u hu
  match j, hu with
  | 0, hu => simp at hu; subst hu; simp [Addr.add]
  | 1, hu => simp at hu; subst hu; simp [Addr.add]
  | 2, hu => simp at hu; subst hu; simp [Addr.add]
  | j + 3, hu => simp at hu
set_option maxHeartbeats 1000000 in
theorem put_good (A0 : Option Addr) (c0 : Nat) (l0 : List S118) (q : Int) (s : ByteArray) (g : Bool) (w : World) (hr0 : Kd.C k118 w A0 l0.length l0) (hc0 : l0.length ≤ c0) (hn : l0.length < 2199023255600) (hb : badV l0 q s g = false) :
    Calls Try.prog 68 #[.slice A0 l0.length c0, .agg #[.int .i64 q, .string s, .bool g]] w fun e w' => ∃ v0_ : Value, e = .returned (.tuple #[v0_, .int .i64 0]) ∧ Kd.R k118 118 w' w.heap.size (fun _ => True) v0_ (l0 ++ [⟨q, s, g⟩]) ∧ Below w.heap.size w w' := by
  have HL := Aside0.mk (last_eq l0 (by omega))
  have HR := Aside0.mk hr0
  clear hr0
  unfold badV at hb
  generalize lastI l0 = la at *
  simp only [Bool.or_eq_false_iff] at hb
  obtain ⟨⟨⟨d1, d2⟩, d3⟩, d4⟩ := hb
  have d3' : decide (1099511627776 < q) = false := d3
  clear d3
  have d6 : (g && !s.toList.isEmpty) = false := by
    cases g
    · rfl
    · simp only [Bool.true_and] at d4 ⊢
      cases h : s.toList with
      | nil => rfl
      | cons x y => rw [h] at d4; simp at d4
  cases g with
  | false =>
    clear d4 d6
    go_enter Try.func68, Try.ntmps68
    go_wp2_with fail
    go_quiet ((go_at_call 89; exact Calls.quiet_of (last_q A0 c0 l0 la _ (Kd.C_below HR.out (by repeat (first | apply below_alloc | apply pw_below_drewN | apply below_drew1 | exact Below.refl _ _))) hc0 HL.out)))
    go_wp2
    go_region_law ((refine Rows2.C_append_full k118 (by rfl) (.tmp 35) (.tmp 37) 116 118 (.agg #[.int .i64 0, .string ⟨#[]⟩, .bool false]) 32 (by rfl) Try.underlying116 info118 (by rfl) (by decide) (by decide) A0 l0 ⟨q, s, false⟩ [.int .i64 q, .string s, .bool false] (by simp [Act.eval, Act.put]) ⟨w.heap.size + 1, 0, none⟩ (by simp [Act.eval, Act.put]) (Kd.C_below HR.out (by repeat (first | apply below_alloc | apply pw_below_drewN | apply below_drew1 | exact Below.refl _ _))) (k118_KM _) (k118_mkM _ _ _ ⟨q, s, false⟩) (new3 _ _ _ _ _ _ (by simp)) (by omega) ?_; intro v1 w1 hv hgr; have HV := Aside0.mk hv; have HG := Aside0.mk hgr; clear hv hgr))
    go_wp2
    go_ret2
    exact ⟨v1, rfl, Kd.R_lower HV.out (by simp; omega), Below.grown (by repeat (first | apply below_alloc | apply pw_below_drewN | apply below_drew1 | exact Below.refl _ _)) HG.out (by simp; omega) (fun k e => by cases e)⟩
  | true =>
    simp only [Bool.true_and] at d4 d6
    go_enter Try.func68, Try.ntmps68
    go_wp2_with fail
    go_quiet ((go_at_call 89; exact Calls.quiet_of (last_q A0 c0 l0 la _ (Kd.C_below HR.out (by repeat (first | apply below_alloc | apply pw_below_drewN | apply below_drew1 | exact Below.refl _ _))) hc0 HL.out)))
    go_wp2
    go_region_law ((refine Rows2.C_append_full k118 (by rfl) (.tmp 35) (.tmp 37) 116 118 (.agg #[.int .i64 0, .string ⟨#[]⟩, .bool false]) 32 (by rfl) Try.underlying116 info118 (by rfl) (by decide) (by decide) A0 l0 ⟨q, s, true⟩ [.int .i64 q, .string s, .bool true] (by simp [Act.eval, Act.put]) ⟨w.heap.size + 1, 0, none⟩ (by simp [Act.eval, Act.put]) (Kd.C_below HR.out (by repeat (first | apply below_alloc | apply pw_below_drewN | apply below_drew1 | exact Below.refl _ _))) (k118_KM _) (k118_mkM _ _ _ ⟨q, s, true⟩) (new3 _ _ _ _ _ _ (by simp)) (by omega) ?_; intro v1 w1 hv hgr; have HV := Aside0.mk hv; have HG := Aside0.mk hgr; clear hv hgr))
    go_wp2
    go_ret2
    exact ⟨v1, rfl, Kd.R_lower HV.out (by simp; omega), Below.grown (by repeat (first | apply below_alloc | apply pw_below_drewN | apply below_drew1 | exact Below.refl _ _)) HG.out (by simp; omega) (fun k e => by cases e)⟩
theorem chain_Chain_Put.calls (A0 : Option Addr) (c0 : Nat) (l0 : List S118) (a1_0 : Int) (a1_1 : ByteArray) (a1_2 : Bool) (r1 : List S118) (r2 : Int) (w : World) (hr0 : Kd.C k118 w A0 l0.length l0) (hc0 : l0.length ≤ c0) (h : chain_Chain_Put.f l0 a1_0 a1_1 a1_2 = some (r1, r2)) :
    Calls Try.prog 68 #[.slice A0 l0.length c0, .agg #[.int .i64 a1_0, .string a1_1, .bool a1_2]] w fun e w' => ∃ v0_ : Value, e = .returned (.tuple #[v0_, .int .i64 r2]) ∧ Kd.R k118 118 w' w.heap.size (fun _ => True) v0_ r1 ∧ Below w.heap.size w w' := by
  unfold chain_Chain_Put.f at h
  by_cases hn : l0.length < 2199023255600
  · rw [if_pos hn] at h
    cases hb : badV l0 a1_0 a1_1 a1_2 with
    | true =>
      rw [hb] at h
      simp only [if_true, Option.some.injEq, Prod.mk.injEq] at h
      obtain ⟨rfl, rfl⟩ := h
      refine (put_bad A0 c0 l0 a1_0 a1_1 a1_2 w hr0 hc0 hn hb).mono ?_
      rintro e w' ⟨rfl, hB⟩
      exact ⟨_, rfl, Kd.R_nil _ _ _ _ _, hB⟩
    | false =>
      rw [hb] at h
      simp only [Bool.false_eq_true, if_false, Option.some.injEq, Prod.mk.injEq] at h
      obtain ⟨rfl, rfl⟩ := h
      exact put_good A0 c0 l0 a1_0 a1_1 a1_2 w hr0 hc0 hn hb
  · rw [if_neg hn] at h
    cases h
end Go.Proofs.Ytmafibbnojdpjaa.C
end
