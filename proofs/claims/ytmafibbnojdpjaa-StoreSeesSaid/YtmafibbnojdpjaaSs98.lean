/- Lemmas that the proof needs, part 8. -/
import Derived.StillTailTactics
import Derived.Test.YtmafibbnojdpjaaWWords
import Derived.Test.YtmafibbnojdpjaaSs93
import Derived.Test.YtmafibbnojdpjaaSs96
section
set_option linter.unusedVariables false
set_option maxRecDepth 100000
set_option linter.unusedSimpArgs false
namespace Go.Proofs.Ytmafibbnojdpjaa.C
open Go.Proofs.Ytmafibbnojdpjaa.P Go.RowKit Go.Proofs.YtmafibbnojdpjaaW.PrintWords Go.Proofs.YtmafibbnojdpjaaW.PrintLast Go.Proofs.YtmafibbnojdpjaaW.PrintMore
theorem info118 : (Try.prog.info? 118).map (fun i => (i.zero, i.size, i.bytes)) = some (some (.agg #[.int .i64 0, .string ⟨#[]⟩, .bool false]), 3, 32) := by kernel_rfl
def lastI (l : List S118) : Int := if l.length = 0 then -1 else (rd_T118 l ((l.length - 1 : Nat) : Int)).f0
theorem last_eq (l : List S118) (h : l.length < 4611686018427387904) : chain_Chain_Last.f l = some (lastI l) := by
  unfold chain_Chain_Last.f lastI
  by_cases c : l.length = 0
  · rw [if_pos (by omega), if_pos c]
  · have e : wrap64 ((l.length : Int) - 1) = ((l.length - 1 : Nat) : Int) := by unfold wrap64; omega
    rw [if_neg (by omega), e, if_pos (by omega), if_pos (by omega), if_neg c]
def badV (l : List S118) (q : Int) (s : ByteArray) (g : Bool) : Bool := decide (q ≤ lastI l) || decide (q < 0) || decide (q > 1099511627776) || (g && s.toList != [])
def chain_Chain_Put.f (l0 : List S118) (a1_0 : Int) (a1_1 : ByteArray) (a1_2 : Bool) : Option (List S118 × Int) :=
  if l0.length < 2199023255600 then (if badV l0 a1_0 a1_1 a1_2 = true then some ([], 1) else some (l0 ++ [⟨a1_0, a1_1, a1_2⟩], 0)) else none
theorem last_q (A0 : Option Addr) (c0 : Nat) (l0 : List S118) (r : Int) (w : World) (hr0 : Kd.C k118 w A0 l0.length l0) (hc0 : l0.length ≤ c0) (h : chain_Chain_Last.f l0 = some r) :
    Calls Try.prog 89 #[.slice A0 l0.length c0] w fun e w' => e = .returned (.int .i64 r) ∧ ∃ n, w' = w.drewN n :=
  (chain_Chain_Last.calls A0 c0 l0 r w hr0 hc0 h).mono fun _ _ ⟨he, hd⟩ => ⟨he, hd.out⟩
set_option maxHeartbeats 1000000 in
theorem put_bad (A0 : Option Addr) (c0 : Nat) (l0 : List S118) (q : Int) (s : ByteArray) (g : Bool) (w : World) (hr0 : Kd.C k118 w A0 l0.length l0) (hc0 : l0.length ≤ c0) (hn : l0.length < 2199023255600) (hb : badV l0 q s g = true) :
    Calls Try.prog 68 #[.slice A0 l0.length c0, .agg #[.int .i64 q, .string s, .bool g]] w fun e w' => e = .returned (.tuple #[.slice none 0 0, .int .i64 1]) ∧ Below w.heap.size w w' := by
  have HL := Aside0.mk (last_eq l0 (by omega))
  have HR := Aside0.mk hr0
  have HC := Aside0.mk hc0
  clear hr0 hc0
  unfold badV at hb
  generalize lastI l0 = la at *
  have hw : (decide (q ≤ la) = true) ∨ (decide (q ≤ la) = false ∧ decide (q < 0) = true) ∨ (decide (q ≤ la) = false ∧ decide (q < 0) = false ∧ decide (1099511627776 < q) = true) ∨ (decide (q ≤ la) = false ∧ decide (q < 0) = false ∧ decide (1099511627776 < q) = false ∧ g = true ∧ (s.toList != []) = true) := by
    cases h1 : decide (q ≤ la)
    · cases h2 : decide (q < 0)
      · cases h3 : decide (1099511627776 < q)
        · have h3' : decide (q > 1099511627776) = false := h3
          rw [h1, h2, h3'] at hb
          simp only [Bool.false_or, Bool.and_eq_true] at hb
          exact .inr (.inr (.inr ⟨rfl, rfl, rfl, hb⟩))
        · exact .inr (.inr (.inl ⟨rfl, rfl, rfl⟩))
      · exact .inr (.inl ⟨rfl, rfl⟩)
    · exact .inl rfl
  clear hb
  have d6 : (s.toList != []) = true → (!s.toList.isEmpty) = true := by cases s.toList <;> simp
  rcases hw with d1 | ⟨d1, d2⟩ | ⟨d1, d2, d3⟩ | ⟨d1, d2, d3, rfl, d5⟩
  rotate_left 3
  have d7 := d6 d5
  clear d6
  rotate_right 3
  all_goals
    go_enter Try.func68, Try.ntmps68
    go_wp2_with fail
    go_quiet ((go_at_call 89; exact Calls.quiet_of (last_q A0 c0 l0 la _ (Kd.C_below HR.out (by repeat (first | apply below_alloc | apply pw_below_drewN | apply below_drew1 | exact Below.refl _ _))) HC.out HL.out)))
    go_wp2
    go_ret2
    exact ⟨rfl, (by repeat (first | apply below_alloc | apply pw_below_drewN | apply below_drew1 | exact Below.refl _ _))⟩
theorem k118_KM (w : World) : ∀ y c, k118.K w y c → k118.M w w.heap.size (fun _ => False) y c := by
  intro y c hy
  obtain rfl := k118_open hy
  exact k118_mkM _ _ _ _
theorem k118_KM' (w : World) (base : Nat) : ∀ y c, k118.K w y c → k118.M w base (fun _ => False) y c := by
  intro y c hy
  obtain rfl := k118_open hy
  exact k118_mkM _ _ _ _
theorem new3 (w : World) (t : TypeId) (x y z : Value) (n : Nat) (hn : n = w.heap.size) : ∀ j u, ([x, y, z] : List Value)[j]? = some u → (w.alloc (.cells #[x, y, z] t)).cell? ((⟨n, 0, none⟩ : Addr).add j) = some u := by
  subst hn
  intro j u hu
  match j, hu with
  | 0, hu => simp at hu; subst hu; simp [Addr.add]
  | 1, hu => simp at hu; subst hu; simp [Addr.add]
  | 2, hu => simp at hu; subst hu; simp [Addr.add]
  | j + 3, hu => simp at hu
set_option maxHeartbeats 1000000 in
theorem put_good (A0 : Option Addr) (c0 : Nat) (l0 : List S118) (q : Int) (s : ByteArray) (g : Bool) (w : World) (hr0 : Kd.C k118 w A0 l0.length l0) (hc0 : l0.length ≤ c0) (hn : l0.length < 2199023255600) (hb : badV l0 q s g = false) :
    Calls Try.prog 68 #[.slice A0 l0.length c0, .agg #[.int .i64 q, .string s, .bool g]] w fun e w' => ∃ v0_ : Value, e = .returned (.tuple #[v0_, .int .i64 0]) ∧ Kd.R k118 118 w' w.heap.size (fun _ => True) v0_ (l0 ++ [⟨q, s, g⟩]) ∧ Below w.heap.size w w' := by
  have HL := Aside0.mk (last_eq l0 (by omega))
  have HR := Aside0.mk hr0
  clear hr0
  unfold badV at hb
  generalize lastI l0 = la at *
  simp only [Bool.or_eq_false_iff] at hb
  obtain ⟨⟨⟨d1, d2⟩, d3⟩, d4⟩ := hb
  have d3' : decide (1099511627776 < q) = false := d3
  clear d3
  have d6 : (g && !s.toList.isEmpty) = false := by
    cases g
    · rfl
    · simp only [Bool.true_and] at d4 ⊢
      cases h : s.toList with
      | nil => rfl
      | cons x y => rw [h] at d4; simp at d4
  cases g with
  | false =>
    clear d4 d6
    go_enter Try.func68, Try.ntmps68
    go_wp2_with fail
    go_quiet ((go_at_call 89; exact Calls.quiet_of (last_q A0 c0 l0 la _ (Kd.C_below HR.out (by repeat (first | apply below_alloc | apply pw_below_drewN | apply below_drew1 | exact Below.refl _ _))) hc0 HL.out)))
    go_wp2
    go_region_law ((refine Rows2.C_append_full k118 (by rfl) (.tmp 35) (.tmp 37) 116 118 (.agg #[.int .i64 0, .string ⟨#[]⟩, .bool false]) 32 (by rfl) Try.underlying116 info118 (by rfl) (by decide) (by decide) A0 l0 ⟨q, s, false⟩ [.int .i64 q, .string s, .bool false] (by simp [Act.eval, Act.put]) ⟨w.heap.size + 1, 0, none⟩ (by simp [Act.eval, Act.put]) (Kd.C_below HR.out (by repeat (first | apply below_alloc | apply pw_below_drewN | apply below_drew1 | exact Below.refl _ _))) (k118_KM _) (k118_mkM _ _ _ ⟨q, s, false⟩) (new3 _ _ _ _ _ _ (by simp)) (by omega) ?_; intro v1 w1 hv hgr; have HV := Aside0.mk hv; have HG := Aside0.mk hgr; clear hv hgr))
    go_wp2
    go_ret2
    exact ⟨v1, rfl, Kd.R_lower HV.out (by simp; omega), Below.grown (by repeat (first | apply below_alloc | apply pw_below_drewN | apply below_drew1 | exact Below.refl _ _)) HG.out (by simp; omega) (fun k e => by cases e)⟩
  | true =>
    simp only [Bool.true_and] at d4 d6
    go_enter Try.func68, Try.ntmps68
    go_wp2_with fail
    go_quiet ((go_at_call 89; exact Calls.quiet_of (last_q A0 c0 l0 la _ (Kd.C_below HR.out (by repeat (first | apply below_alloc | apply pw_below_drewN | apply below_drew1 | exact Below.refl _ _))) hc0 HL.out)))
    go_wp2
    go_region_law ((refine Rows2.C_append_full k118 (by rfl) (.tmp 35) (.tmp 37) 116 118 (.agg #[.int .i64 0, .string ⟨#[]⟩, .bool false]) 32 (by rfl) Try.underlying116 info118 (by rfl) (by decide) (by decide) A0 l0 ⟨q, s, true⟩ [.int .i64 q, .string s, .bool true] (by simp [Act.eval, Act.put]) ⟨w.heap.size + 1, 0, none⟩ (by simp [Act.eval, Act.put]) (Kd.C_below HR.out (by repeat (first | apply below_alloc | apply pw_below_drewN | apply below_drew1 | exact Below.refl _ _))) (k118_KM _) (k118_mkM _ _ _ ⟨q, s, true⟩) (new3 _ _ _ _ _ _ (by simp)) (by omega) ?_; intro v1 w1 hv hgr; have HV := Aside0.mk hv; have HG := Aside0.mk hgr; clear hv hgr))
    go_wp2
    go_ret2
    exact ⟨v1, rfl, Kd.R_lower HV.out (by simp; omega), Below.grown (by repeat (first | apply below_alloc | apply pw_below_drewN | apply below_drew1 | exact Below.refl _ _)) HG.out (by simp; omega) (fun k e => by cases e)⟩
theorem chain_Chain_Put.calls (A0 : Option Addr) (c0 : Nat) (l0 : List S118) (a1_0 : Int) (a1_1 : ByteArray) (a1_2 : Bool) (r1 : List S118) (r2 : Int) (w : World) (hr0 : Kd.C k118 w A0 l0.length l0) (hc0 : l0.length ≤ c0) (h : chain_Chain_Put.f l0 a1_0 a1_1 a1_2 = some (r1, r2)) :
    Calls Try.prog 68 #[.slice A0 l0.length c0, .agg #[.int .i64 a1_0, .string a1_1, .bool a1_2]] w fun e w' => ∃ v0_ : Value, e = .returned (.tuple #[v0_, .int .i64 r2]) ∧ Kd.R k118 118 w' w.heap.size (fun _ => True) v0_ r1 ∧ Below w.heap.size w w' := by
  unfold chain_Chain_Put.f at h
  by_cases hn : l0.length < 2199023255600
  · rw [if_pos hn] at h
    cases hb : badV l0 a1_0 a1_1 a1_2 with
    | true =>
      rw [hb] at h
      simp only [if_true, Option.some.injEq, Prod.mk.injEq] at h
      obtain ⟨rfl, rfl⟩ := h
      refine (put_bad A0 c0 l0 a1_0 a1_1 a1_2 w hr0 hc0 hn hb).mono ?_
      rintro e w' ⟨rfl, hB⟩
      exact ⟨_, rfl, Kd.R_nil _ _ _ _ _, hB⟩
    | false =>
      rw [hb] at h
      simp only [Bool.false_eq_true, if_false, Option.some.injEq, Prod.mk.injEq] at h
      obtain ⟨rfl, rfl⟩ := h
      exact put_good A0 c0 l0 a1_0 a1_1 a1_2 w hr0 hc0 hn hb
  · rw [if_neg hn] at h
    cases h
/-- How many versions Cut leaves out. -/
def cutN (l : List S118) (x : Int) : Nat := if 0 < behindN l x ∧ (rd_T118 l (behindN l x - 1)).f2 = false then (behindN l x).toNat - 1 else (behindN l x).toNat
theorem behindN_range (l : List S118) (x : Int) : 0 ≤ behindN l x ∧ behindN l x ≤ l.length := by
  have hr := (bs_range (less l x) l.length l.length 0 l.length rfl (by omega) (Nat.le_refl _)).2
  change srch l x ≤ l.length at hr
  unfold behindN
  cases hf : fnd l x with
  | true =>
    unfold fnd at hf
    simp at hf
    simp
    omega
  | false => simp; omega
def chain_Chain_Cut.f (l0 : List S118) (a1 : Int) : Option (List S118) := if l0.length < 2199023255600 then some (l0.drop (cutN l0 a1)) else none
set_option maxHeartbeats 1000000 in
theorem chain_Chain_Cut.calls (A0 : Option Addr) (c0 : Nat) (l0 : List S118) (a1 : Int) (r : List S118) (w : World) (hr0 : Kd.C k118 w A0 l0.length l0) (hc0 : l0.length ≤ c0) (h : chain_Chain_Cut.f l0 a1 = some r) :
    Calls Try.prog 80 #[.slice A0 l0.length c0, .int .i64 a1] w fun e w' => ∃ v0_ : Value, e = .returned v0_ ∧ Kd.R k118 118 w' w.heap.size (fun _ => True) v0_ r ∧ Below w.heap.size w w' := by
  unfold chain_Chain_Cut.f at h
  by_cases hn : l0.length < 2199023255600
  · rw [if_pos hn] at h
    obtain rfl := Option.some.inj h
    clear h
    have hbr := behindN_range l0 a1
    have HN : Aside0 (chain_Chain_behind.f l0 a1 = some (behindN l0 a1)) := ⟨by unfold chain_Chain_behind.f; rw [if_pos (by omega)]⟩
    obtain ⟨m, hm⟩ : ∃ m, m = cutN l0 a1 := ⟨_, rfl⟩
    rw [← hm]
    unfold cutN at hm
    generalize behindN l0 a1 = b at *
    have HR := Aside0.mk hr0
    clear hr0
    obtain ⟨b, rfl⟩ := Int.eq_ofNat_of_zero_le hbr.1
    have hb2 : b ≤ l0.length := by omega
    clear hbr
    by_cases h0 : 0 < b
    · obtain ⟨ad, e, h0', h1, h2⟩ := at_T118 HR.out ((b - 1 : Nat) : Int) (by omega) (by omega)
      cases e
      simp only [Int.toNat_natCast] at h0' h1 h2
      rw [show ((b : Int) - 1) = ((b - 1 : Nat) : Int) from by omega] at hm
      cases hg : (rd_T118 l0 ((b - 1 : Nat) : Int)).f2 with
      | false =>
        rw [hg] at h2
        have HM : Aside0 (m = b - 1) := ⟨by rw [hm, if_pos ⟨by omega, hg⟩]; omega⟩
        clear hm hg h0' h1
        have HJ : Aside0 (List.drop m l0 = l0.drop (b - 1)) := ⟨by rw [HM.out]⟩
        obtain ⟨i0, hi0, _, hs0, _⟩ := info_parts info118
        have hsz : (Try.prog.info? 118).map (·.size) = some k118.sz := by rw [hi0]; simp only [Option.map_some, hs0]; rfl
        have hcut := cut_from (P := Try.prog) 116 118 .i64 Try.underlying116 hi0 3 hs0 (some ad) l0.length c0 ((b : Int) - 1 : Int) (by omega) (by omega)
        rw [show ((b : Int) - 1 : Int).toNat = b - 1 from by omega] at hcut
        have hC2 := Kd.C_drop (k := k118) (m := b - 1) HR.out (by omega) hc0
        rw [show k118.sz = 3 from rfl] at hC2
        generalize (if c0 = b - 1 then (some ad) else ((some ad)).map (·.add ((b - 1) * 3))) = A2 at hcut hC2
        have HC2 := Aside0.mk hC2
        clear hC2 hi0 hs0
        have HSZ := Aside0.mk hsz
        clear hsz
        have hz0 : 0 ≤ (l0.length : Int) - ((b : Int) - 1) := by omega
        have hz1 : ((l0.length : Int) - ((b : Int) - 1)).toNat * 32 ≤ 281474976710656 := by omega
        have HZ : Aside0 (((l0.length : Int) - ((b : Int) - 1)).toNat = (l0.drop (b - 1)).length) := ⟨by rw [List.length_drop]; omega⟩
        go_enter Try.func80, Try.ntmps80
        go_wp2_with (first | (go_at_call 104; refine (chain_Chain_behind.calls _ c0 l0 a1 b _ HR.out hc0 HN.out).mono ?_; rintro e w1 ⟨rfl, hb⟩; have h2' := (hb.cell (World.block_lt_of_cell? w _ h2)).trans h2; have HB := Aside0.mk hb; clear hb) | ((with_reducible refine gate_dst (N := 27) rfl ?_); refine Kd.R_make k118 (w0 := w) w.heap.size 118 rfl (N := 27) rfl 116 _ _ rfl _ rfl rfl Try.underlying116 (.agg #[.int .i64 0, .string ⟨#[]⟩, .bool false]) 32 info118 rfl (by decide) (by omega) z118 (ok := fun _ => True) (okp := fun _ => False) (k118_mkM _ _ _ z118) (fun _ _ => trivial) trivial hz0 hz1 HB.out HB.out.size ?_; intro v1 w2 hr2 hb2 hg2 _; have HR2 := Aside0.mk hr2; have HB2 := Aside0.mk hb2; clear hr2 hb2 hg2) | ((with_reducible refine gate_dst (N := 32) rfl ?_); refine Rows2.R_copy k118 rfl (.tmp 28) (.tmp 31) 116 116 118 rfl Try.underlying116 HSZ.out v1 (List.replicate ((l0.length : Int) - ((b : Int) - 1)).toNat z118) (l0.drop (b - 1)) A2 (c0 - (b - 1)) rfl (by rw [List.length_drop]; rfl) HR2.out (Kd.C_below HC2.out HB2.out) (by rw [List.length_replicate, HZ.out]) (k118_KM' _ _) ?_; intro w3 hr3 hg3; have HR3 := Aside0.mk hr3; have HB3 := Aside0.mk (HB2.out.grown hg3 HB2.out.size (fun k e => by obtain ⟨_, _, hown, _⟩ := HR2.out; exact own_base hown k e)); clear hr3 hg3))
        go_ret
        exact ⟨v1, rfl, by rw [HJ.out]; exact HR3.out, HB3.out⟩
      | true =>
        rw [hg] at h2
        have HM : Aside0 (m = b) := ⟨by rw [hm, if_neg (by rw [hg]; simp)]; omega⟩
        clear hm hg h0' h1
        have HJ : Aside0 (List.drop m l0 = l0.drop (b)) := ⟨by rw [HM.out]⟩
        obtain ⟨i0, hi0, _, hs0, _⟩ := info_parts info118
        have hsz : (Try.prog.info? 118).map (·.size) = some k118.sz := by rw [hi0]; simp only [Option.map_some, hs0]; rfl
        have hcut := cut_from (P := Try.prog) 116 118 .i64 Try.underlying116 hi0 3 hs0 (some ad) l0.length c0 ((b : Int) : Int) (by omega) (by omega)
        rw [show ((b : Int) : Int).toNat = b from by omega] at hcut
        have hC2 := Kd.C_drop (k := k118) (m := b) HR.out (by omega) hc0
        rw [show k118.sz = 3 from rfl] at hC2
        generalize (if c0 = b then (some ad) else ((some ad)).map (·.add ((b) * 3))) = A2 at hcut hC2
        have HC2 := Aside0.mk hC2
        clear hC2 hi0 hs0
        have HSZ := Aside0.mk hsz
        clear hsz
        have hz0 : 0 ≤ (l0.length : Int) - ((b : Int)) := by omega
        have hz1 : ((l0.length : Int) - ((b : Int))).toNat * 32 ≤ 281474976710656 := by omega
        have HZ : Aside0 (((l0.length : Int) - ((b : Int))).toNat = (l0.drop (b)).length) := ⟨by rw [List.length_drop]; omega⟩
        go_enter Try.func80, Try.ntmps80
        go_wp2_with (first | (go_at_call 104; refine (chain_Chain_behind.calls _ c0 l0 a1 b _ HR.out hc0 HN.out).mono ?_; rintro e w1 ⟨rfl, hb⟩; have h2' := (hb.cell (World.block_lt_of_cell? w _ h2)).trans h2; have HB := Aside0.mk hb; clear hb) | ((with_reducible refine gate_dst (N := 27) rfl ?_); refine Kd.R_make k118 (w0 := w) w.heap.size 118 rfl (N := 27) rfl 116 _ _ rfl _ rfl rfl Try.underlying116 (.agg #[.int .i64 0, .string ⟨#[]⟩, .bool false]) 32 info118 rfl (by decide) (by omega) z118 (ok := fun _ => True) (okp := fun _ => False) (k118_mkM _ _ _ z118) (fun _ _ => trivial) trivial hz0 hz1 HB.out HB.out.size ?_; intro v1 w2 hr2 hb2 hg2 _; have HR2 := Aside0.mk hr2; have HB2 := Aside0.mk hb2; clear hr2 hb2 hg2) | ((with_reducible refine gate_dst (N := 32) rfl ?_); refine Rows2.R_copy k118 rfl (.tmp 28) (.tmp 31) 116 116 118 rfl Try.underlying116 HSZ.out v1 (List.replicate ((l0.length : Int) - ((b : Int))).toNat z118) (l0.drop (b)) A2 (c0 - (b)) rfl (by rw [List.length_drop]; rfl) HR2.out (Kd.C_below HC2.out HB2.out) (by rw [List.length_replicate, HZ.out]) (k118_KM' _ _) ?_; intro w3 hr3 hg3; have HR3 := Aside0.mk hr3; have HB3 := Aside0.mk (HB2.out.grown hg3 HB2.out.size (fun k e => by obtain ⟨_, _, hown, _⟩ := HR2.out; exact own_base hown k e)); clear hr3 hg3))
        go_ret
        exact ⟨v1, rfl, by rw [HJ.out]; exact HR3.out, HB3.out⟩
    · obtain rfl : b = 0 := by omega
      have HM : Aside0 (m = 0) := ⟨by rw [hm, if_neg (by omega)]; omega⟩
      clear hm
      rw [show ((0 : Nat) : Int) = 0 from rfl] at HN
      have HJ : Aside0 (List.drop m l0 = l0.drop (0)) := ⟨by rw [HM.out]⟩
      obtain ⟨i0, hi0, _, hs0, _⟩ := info_parts info118
      have hsz : (Try.prog.info? 118).map (·.size) = some k118.sz := by rw [hi0]; simp only [Option.map_some, hs0]; rfl
      have hcut := cut_from (P := Try.prog) 116 118 .i64 Try.underlying116 hi0 3 hs0 A0 l0.length c0 (0 : Int) (by omega) (by omega)
      rw [show (0 : Int).toNat = 0 from by omega] at hcut
      have hC2 := Kd.C_drop (k := k118) (m := 0) HR.out (by omega) hc0
      rw [show k118.sz = 3 from rfl] at hC2
      generalize (if c0 = 0 then A0 else (A0).map (·.add ((0) * 3))) = A2 at hcut hC2
      have HC2 := Aside0.mk hC2
      clear hC2 hi0 hs0
      have HSZ := Aside0.mk hsz
      clear hsz
      have hz0 : 0 ≤ (l0.length : Int) - (0) := by omega
      have hz1 : ((l0.length : Int) - (0)).toNat * 32 ≤ 281474976710656 := by omega
      have HZ : Aside0 (((l0.length : Int) - (0)).toNat = (l0.drop (0)).length) := ⟨by rw [List.length_drop]; omega⟩
      go_enter Try.func80, Try.ntmps80
      go_wp2_with (first | (go_at_call 104; refine (chain_Chain_behind.calls _ c0 l0 a1 0 _ HR.out hc0 HN.out).mono ?_; rintro e w1 ⟨rfl, hb⟩; have HB := Aside0.mk hb; clear hb) | ((with_reducible refine gate_dst (N := 27) rfl ?_); refine Kd.R_make k118 (w0 := w) w.heap.size 118 rfl (N := 27) rfl 116 _ _ rfl _ rfl rfl Try.underlying116 (.agg #[.int .i64 0, .string ⟨#[]⟩, .bool false]) 32 info118 rfl (by decide) (by omega) z118 (ok := fun _ => True) (okp := fun _ => False) (k118_mkM _ _ _ z118) (fun _ _ => trivial) trivial hz0 hz1 HB.out HB.out.size ?_; intro v1 w2 hr2 hb2 hg2 _; have HR2 := Aside0.mk hr2; have HB2 := Aside0.mk hb2; clear hr2 hb2 hg2) | ((with_reducible refine gate_dst (N := 32) rfl ?_); refine Rows2.R_copy k118 rfl (.tmp 28) (.tmp 31) 116 116 118 rfl Try.underlying116 HSZ.out v1 (List.replicate ((l0.length : Int) - (0)).toNat z118) (l0.drop (0)) A2 (c0 - (0)) rfl (by rw [List.length_drop]; rfl) HR2.out (Kd.C_below HC2.out HB2.out) (by rw [List.length_replicate, HZ.out]) (k118_KM' _ _) ?_; intro w3 hr3 hg3; have HR3 := Aside0.mk hr3; have HB3 := Aside0.mk (HB2.out.grown hg3 HB2.out.size (fun k e => by obtain ⟨_, _, hown, _⟩ := HR2.out; exact own_base hown k e)); clear hr3 hg3))
      go_ret
      exact ⟨v1, rfl, by rw [HJ.out]; exact HR3.out, HB3.out⟩
  · rw [if_neg hn] at h
    cases h
end Go.Proofs.Ytmafibbnojdpjaa.C
end
