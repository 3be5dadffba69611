/- TreeMany, the walk. -/
import Derived.Test.YtmpcmpanolnpfaaMd
import Derived.Laws.EntriesVeiled
import Derived.Deep.RegionHeld3
set_option linter.unusedVariables false
set_option linter.unusedSimpArgs false
namespace Go.Proofs.Ytmpcmpanolnpfaa.Tr
open Go.RowKit Go.Proofs.YtmpcmpanolnpfaaW.PrintWords Go.Proofs.YtmpcmpanolnpfaaW.PrintLast Go.Proofs.YtmpcmpanolnpfaaW.PrintMore
attribute [local go_sem] Oper.semAt_some

theorem Boxed.upB {W W' : World} {b : Nat} {t : TypeId} {v : Value} (h : Boxed W b t v) (hb : Below W.heap.size W W') : Boxed W' b t v := (hb.block b h.lt).trans h
theorem three_boxes (w : World) (a b c : Value) (t1 t2 t3 : TypeId) : Boxed (((w.alloc (.cells #[a] t1)).alloc (.cells #[b] t2)).alloc (.cells #[c] t3)) w.heap.size t1 a ∧
    Boxed (((w.alloc (.cells #[a] t1)).alloc (.cells #[b] t2)).alloc (.cells #[c] t3)) (w.heap.size + 1) t2 b ∧ Boxed (((w.alloc (.cells #[a] t1)).alloc (.cells #[b] t2)).alloc (.cells #[c] t3)) (w.heap.size + 2) t3 c := by
  refine ⟨((Boxed.new _ _ _).alloc _).alloc _, ?_, ?_⟩
  · have := Boxed.new (w.alloc (.cells #[a] t1)) t2 b
    rw [World.size_alloc] at this
    exact this.alloc _
  · have := Boxed.new ((w.alloc (.cells #[a] t1)).alloc (.cells #[b] t2)) t3 c
    rw [World.size_alloc, World.size_alloc] at this
    exact this
theorem Cur.box {W0 W : World} {g : Nat} {Z : List Pair} (h : Cur W0 W g Z) {b : Nat} {t : TypeId} {v : Value} (hb : Boxed W0 b t v) : Boxed W b t v := (h.fr.block b hb.lt (by have := hb.lt; omega)).trans hb
/-- what the first loop has laid in -/
def p1 (N S i : Nat) (k : Nat) : Bool := decide (k < N) && (List.range i).any fun j => decide (j * S % 1024 = k)
theorem p1_succ (N S i k : Nat) : p1 N S (i + 1) k = (p1 N S i k || (decide (k < N) && decide (k = i * S % 1024))) := by
  unfold p1
  rw [List.range_succ, List.any_append]
  simp only [List.any_cons, List.any_nil, Bool.or_false, Bool.and_or_distrib_left]
  congr 2
  by_cases h : k = i * S % 1024
  · simp [h]
  · have : ¬ i * S % 1024 = k := fun e => h e.symm
    simp [h, this]
theorem odd_inv : ∀ s, s < 512 → ((2 * s + 1) * ((2 * s + 1) ^ 255 % 1024)) % 1024 = 1 := by decide +kernel
theorem p1_all (N s k : Nat) (hs : s < 512) (hk : k < 1024) : p1 N (2 * s + 1) 1024 k = decide (k < N) := by
  have h1 := odd_inv s hs
  obtain ⟨v, hv⟩ : ∃ v, v = (2 * s + 1) ^ 255 % 1024 := ⟨_, rfl⟩
  rw [← hv] at h1
  have h : (List.range 1024).any (fun j => decide (j * (2 * s + 1) % 1024 = k)) = true := by
    rw [List.any_eq_true]
    refine ⟨k * v % 1024, List.mem_range.2 (Nat.mod_lt _ (by decide)), ?_⟩
    rw [decide_eq_true_eq, Nat.mod_mul_mod, Nat.mul_assoc, Nat.mul_comm v, Nat.mul_mod, h1, Nat.mul_one, Nat.mod_mod, Nat.mod_eq_of_lt hk]
  unfold p1
  rw [h, Bool.and_true]
def p2 (N D i : Nat) (k : Nat) : Bool := decide (k < N) && !(decide (k < i) && decide (k % D = 0))
theorem p2_succ_drop (N D i k : Nat) (h : i % D = 0) : p2 N D (i + 1) k = (p2 N D i k && !decide (k = i)) := by
  unfold p2
  by_cases e : k = i
  · subst e; simp [h]
  · have : decide (k < i + 1) = decide (k < i) := by rw [decide_eq_decide]; omega
    simp [e, this]
theorem p2_succ_keep (N D i k : Nat) (h : ¬ i % D = 0) : p2 N D (i + 1) k = p2 N D i k := by
  unfold p2
  by_cases e : k = i
  · subst e; simp [h]
  · have : decide (k < i + 1) = decide (k < i) := by rw [decide_eq_decide]; omega
    rw [this]
theorem p2_all (N D k : Nat) : p2 N D N k = pf N D k := by
  unfold p2 pf
  by_cases h : k < N <;> simp [h]
theorem prefix_get {p L : List Pair} {a : Pair} (h : (p ++ [a]) <+: L) : L[p.length]? = some a := by
  obtain ⟨t, ht⟩ := h
  rw [← ht]
  simp
theorem results_bool {P : Program} {fn : Func} {p : Tmp} {ty : TypeId} (h : fn.results = #[.cell p ty]) (tmps : Array Value) (w : World) (a : Addr) (b : Bool)
    (hp : tmps.getD p undef = .pointer (some a)) (hc : w.cell? a = some (.bool b)) (hu : P.underlying ty = some .bool) : (results fn tmps).run P w = .ok (.bool b) w := by
  have hp' : tmps[p]?.getD undef = .pointer (some a) := by simpa using hp
  simp [results, h, hp', asAddr, loadVar, isAgg, run_underlying hu, go_sem, hc]
theorem zs_length (N D : Nat) : (zs (pf N D)).length = (js N D).length := by rw [zs_js, List.length_map]
theorem zs_get {N D m : Nat} (hm : m < (js N D).length) : (zs (pf N D))[m]? = some (nm (js N D)[m], ((js N D)[m] : Int)) := by
  rw [zs_js, List.getElem?_map, List.getElem?_eq_getElem hm]; rfl
set_option maxRecDepth 100000 in
set_option maxHeartbeats 4000000 in
theorem many_in (n step drop : Int) (w : World) : CallsIn Fence.wide 4 Try.prog 3 #[.int .i64 n, .int .i64 step, .int .i64 drop] w fun e w' => e = .returned (.bool true) ∧ Below w.heap.size w w' := by
  have hh : ∀ W, CallsIn Fence.wide 3 Try.prog 9 #[] W fun e w' => e = .returned (.bool true) ∧ Below W.heap.size W w' := head_in
  obtain ⟨N, hN⟩ : ∃ N : Nat, n % 1024 = (N : Int) := ⟨(n % 1024).toNat, by omega⟩
  obtain ⟨S0, hS⟩ : ∃ S0 : Nat, step % 512 = (S0 : Int) := ⟨(step % 512).toNat, by omega⟩
  obtain ⟨D0, hD⟩ : ∃ D0 : Nat, drop % 8 = (D0 : Int) := ⟨(drop % 8).toNat, by omega⟩
  have lN : N < 1024 := by omega
  have lS : S0 < 512 := by omega
  have lD : D0 < 8 := by omega
  have m1 : bits .and .i64 n 1023 = (N : Int) := (and_1023 n).trans hN
  have m2 : bits .and .i64 step 511 = (S0 : Int) := (and_511 step).trans hS
  have m3 : bits .and .i64 drop 7 = (D0 : Int) := (and_7 drop).trans hD
  obtain ⟨S, rS⟩ : ∃ S, S = 2 * S0 + 1 := ⟨_, rfl⟩
  obtain ⟨D, rD⟩ : ∃ D, D = 2 + D0 := ⟨_, rfl⟩
  have w1 : IntKind.i64.wrap (2 * (S0 : Int)) = 2 * (S0 : Int) := by rw [IntKind.wrap_i64]; omega
  have w2 : IntKind.i64.wrap (2 * (S0 : Int) + 1) = (S : Int) := by rw [IntKind.wrap_i64]; omega
  have w3 : IntKind.i64.wrap (2 + (D0 : Int)) = (D : Int) := by rw [IntKind.wrap_i64]; omega
  have RS := Aside0.mk rS
  have RD := Aside0.mk rD
  clear hN hS hD rS rD
  refine callsIn_of_wp_marks Try.func3 rfl trivial ?_ rfl
  simp only [Try.ntmps3, List.size_toArray, List.length_cons, List.length_nil, Nat.reduceAdd, Nat.reduceSub, Array.replicate_succ, Array.replicate_zero, List.push_toArray, List.append_toArray, List.nil_append, List.cons_append]
  gi_wp2_with (first
    | (refine ⟨trivial, ?_⟩; gi_at_call 9; refine (hh _).mono ?_; rintro e w1 ⟨rfl, hb⟩; obtain ⟨b1, b2, b3⟩ := three_boxes w (.int .i64 n) (.int .i64 drop) (.bool false) 3 3 4; replace b1 := Boxed.upB b1 hb; replace b2 := Boxed.upB b2 hb; replace b3 := Boxed.upB b3 hb; have c1 := b1.cell; have f1 := b1.frozen; have c2 := b2.cell; have f2 := b2.frozen; have c3 := b3.cell; have f3 := b3.frozen; have HB := Aside0.mk hb; have B1 := Aside0.mk b1; have B2 := Aside0.mk b2; have B3 := Aside0.mk b3; clear hb b1 b2 b3))
  obtain ⟨W0, hW0⟩ : ∃ W0, W0 = ((w1.setCell ⟨w.heap.size, 0, none⟩ (.int .i64 (N : Int))).setCell ⟨w.heap.size + 1, 0, none⟩ (.int .i64 (D : Int))).alloc (.cells #[.func (.func 10) #[] #[]] 24) := ⟨_, rfl⟩
  rw [← hW0]
  have hsz1 : w.heap.size + 3 ≤ w1.heap.size := by have := HB.out.size; simp at this; omega
  have hW0s : W0.heap.size = w1.heap.size + 1 := by rw [hW0, World.size_alloc, size_setCell, size_setCell]
  have x1 : Aside0 (Boxed W0 w.heap.size 3 (.int .i64 (N : Int))) := ⟨by rw [hW0]; exact (((B1.out.set _).other (by omega) _).alloc _)⟩
  have x2 : Aside0 (Boxed W0 (w.heap.size + 1) 3 (.int .i64 (D : Int))) := ⟨by rw [hW0]; exact ((B2.out.other (by omega) _).set _).alloc _⟩
  have x3 : Aside0 (Boxed W0 (w.heap.size + 2) 4 (.bool false)) := ⟨by rw [hW0]; exact ((B3.out.other (by omega) _).other (by omega) _).alloc _⟩
  have x4 : Aside0 (Boxed W0 w1.heap.size 24 (.func (.func 10) #[] #[])) := ⟨by
    rw [hW0]
    have := Boxed.new ((w1.setCell ⟨w.heap.size, 0, none⟩ (.int .i64 (N : Int))).setCell ⟨w.heap.size + 1, 0, none⟩ (.int .i64 (D : Int))) 24 (.func (.func 10) #[] #[])
    rw [size_setCell, size_setCell] at this
    exact this⟩
  have hBW : Aside0 (Below w.heap.size w W0) := ⟨by
    rw [hW0]
    refine Below.alloc ?_ (by rw [size_setCell, size_setCell]; omega) _
    refine Below.setCell (Below.setCell ?_ (p := ⟨w.heap.size, 0, none⟩) (Nat.le_refl _) _) (p := ⟨w.heap.size + 1, 0, none⟩) (Nat.le_succ _) _
    have h3 : Below w.heap.size w (((w.alloc (.cells #[.int .i64 n] 3)).alloc (.cells #[.int .i64 drop] 3)).alloc (.cells #[.bool false] 4)) := (((Below.refl _ w).alloc (Nat.le_refl _) _).alloc (by simp) _).alloc (by simp; omega) _
    exact h3.trans (HB.out.mono (by simp; omega))⟩
  have C0 := Aside0.mk (Cur.new W0)
  rw [hW0s] at C0
  clear c1 c2 c3 f1 f2 f3 B1 B2 B3 HB hW0
  gi_loopw [9] (fun v9 wr => ∃ i : Nat, v9 = .int .i64 (i : Int) ∧ i ≤ 1024 ∧ Aside0 (Cur W0 wr (w1.heap.size + 1) (zs (p1 N S i)))) (fun v9 _ => 1024 - (intOf v9).toNat)
  case atStart => exact ⟨0, rfl, by omega, ⟨by rw [zs_congr (q := fun _ => false) (fun k _ => by simp [p1]), zs_none]; exact C0.out⟩⟩
  case round =>
    obtain ⟨i, rfl, hi, HC⟩ := hrel
    have y1 := HC.out.box x1.out
    have y4 := HC.out.box x4.out
    have c1 := y1.cell
    have c4 := y4.cell
    have Y1 := Aside0.mk y1
    have Y4 := Aside0.mk y4
    clear y1 y4
    by_cases hlt : i < 1024
    · obtain ⟨K, rK⟩ : ∃ K, K = i * S % 1024 := ⟨_, rfl⟩
      have hmul : i * S ≤ 1024 * 1024 := Nat.mul_le_mul (by omega) (by have := RS.out; omega)
      have hlK : K < 1024 := by omega
      have q1 : IntKind.i64.wrap ((i : Int) * (S : Int)) = ((i * S : Nat) : Int) := by rw [← Int.natCast_mul, IntKind.wrap_i64]; omega
      have q2 : bits .and .i64 ((i * S : Nat) : Int) 1023 = (K : Int) := by rw [and_1023, rK]; omega
      have RK := Aside0.mk rK
      have QM := Aside0.mk hmul
      clear rK hmul
      generalize hp : i * S = PR at q1 q2
      clear hp
      by_cases hKN : K < N
      · gi_wp2_with (first
          | (refine ⟨trivial, ?_⟩; gi_at_call 10; refine (callsIn_wide.2 (name_any K (by omega) _)).mono ?_; rintro e w2 ⟨rfl, hb⟩; have HC2 := Aside0.mk (HC.out.below hb); clear hb)
          | (refine ⟨trivial, ?_⟩; gi_at_call 11; refine (callsIn_wide.2 (HC2.out.put (Nat.le_trans (zs_len _) (by decide)) (nm K) (K : Int))).mono ?_; rintro e w3 ⟨rfl, hc⟩; rw [insZ_zs _ hlK] at hc; have HC3 := Aside0.mk hc; clear hc))
        refine ⟨⟨i + 1, by simp, by omega, ⟨?_⟩⟩, by simp [intOf]; omega⟩
        rw [zs_congr (q := p1 N S (i + 1)) (fun k _ => by
          rw [p1_succ, ← RK.out]
          by_cases e : k = K
          · rw [e]; simp [hKN]
          · simp [e])] at HC3
        exact HC3.out
      · gi_wp2
        refine ⟨⟨i + 1, by simp, by omega, ⟨?_⟩⟩, by simp [intOf]; omega⟩
        rw [zs_congr (p := p1 N S (i + 1)) (q := p1 N S i) (fun k _ => by
          rw [p1_succ, ← RK.out]
          by_cases e : k = K
          · rw [e]; simp [hKN]
          · simp [e])]
        exact HC.out
    · have hi2 : i = 1024 := by omega
      have hC1 := HC.out
      rw [hi2, RS.out, zs_congr (q := p2 N D 0) (fun k hk => by rw [p1_all N S0 k lS hk]; simp [p2])] at hC1
      have C1 := Aside0.mk hC1
      clear hC1 HC c1 c4 Y1 Y4 hi2
      gi_wp2
      gi_loopw [11] (fun v11 wr => ∃ j : Nat, v11 = .int .i64 (j : Int) ∧ j ≤ N ∧ Aside0 (Cur W0 wr (w1.heap.size + 1) (zs (p2 N D j)))) (fun v11 _ => N - (intOf v11).toNat)
      case atStart => exact ⟨0, rfl, by omega, C1⟩
      case round =>
        obtain ⟨j, rfl, hj, HC⟩ := hrel
        have y1 := HC.out.box x1.out
        have y2 := HC.out.box x2.out
        have y4 := HC.out.box x4.out
        have c1 := y1.cell
        have c2 := y2.cell
        have c4 := y4.cell
        clear y1 y2 y4
        have hD0 : 2 ≤ D := by have := RD.out; omega
        have hDn : ¬ (D : Int) = 0 := by omega
        have hDn2 : ¬ (D : Int) = -1 := by omega
        by_cases hlt : j < N
        · obtain ⟨R, rR⟩ : ∃ R, R = j % D := ⟨_, rfl⟩
          have q1 : (j : Int).tmod (D : Int) = (R : Int) := by rw [Int.tmod_eq_emod_of_nonneg (by omega), rR]; omega
          have hRD : R < D := by rw [rR]; exact Nat.mod_lt _ (by omega)
          have q2 : IntKind.i64.wrap (R : Int) = (R : Int) := by rw [IntKind.wrap_i64]; have := RD.out; omega
          have RR := Aside0.mk rR
          clear rR
          by_cases hR : R = 0
          · subst hR
            gi_wp2_with (first
              | (refine ⟨trivial, ?_⟩; gi_at_call 10; refine (callsIn_wide.2 (name_any j (by omega) _)).mono ?_; rintro e w2 ⟨rfl, hb⟩; have HC2 := Aside0.mk (HC.out.below hb); clear hb)
              | (refine ⟨trivial, ?_⟩; gi_at_call 12; refine (callsIn_wide.2 (HC2.out.drop (Nat.le_trans (zs_len _) (by decide)) (nm j))).mono ?_; rintro e w3 ⟨rfl, hc⟩; rw [hasZ_zs _ (by omega), show p2 N D j j = true by simp [p2, hlt]]; rw [delZ_zs _ (by omega : j < 1024)] at hc; have HC3 := Aside0.mk hc; clear hc))
            refine ⟨⟨j + 1, by simp, by omega, ⟨?_⟩⟩, by simp [intOf]; omega⟩
            rw [zs_congr (q := p2 N D (j + 1)) (fun k _ => (p2_succ_drop N D j k RR.out.symm).symm)] at HC3
            exact HC3.out
          · gi_wp2
            refine ⟨fun _ h => (by cases h), ?_⟩
            gi_wp2
            refine ⟨trivial, ?_⟩
            gi_wp2
            refine ⟨⟨j + 1, by simp, by omega, ⟨?_⟩⟩, by simp [intOf]; omega⟩
            rw [zs_congr (p := p2 N D (j + 1)) (q := p2 N D j) (fun k _ => p2_succ_keep N D j k (by rw [← RR.out]; exact hR))]
            exact HC.out
        · obtain ⟨V, hV⟩ : ∃ V, V = wr := ⟨_, rfl⟩
          subst hV
          have hj2 : j = N := by omega
          have hC1 := HC.out
          rw [hj2, zs_congr (q := pf N D) (fun k hk => p2_all N D k)] at hC1
          have C2 := Aside0.mk hC1
          have hz := HC.out.fr.size
          clear hC1 HC hj2
          gi_wp2_with (first
            | (refine ⟨trivial, ?_⟩; gi_at_call 13; refine (callsIn_wide.2 (from_any _ _ _)).mono ?_; rintro e w6 ⟨rfl, rfl⟩))
          obtain ⟨W2, hW2⟩ : ∃ W2, W2 = ((V.alloc (.cells #[.int .i64 0] 3)).alloc (.cells #[.pointer (some ⟨w1.heap.size + 1, 0, none⟩)] 25)).alloc (.cells #[.string ⟨#[]⟩] 9) := ⟨_, rfl⟩
          rw [← hW2]
          obtain ⟨bx1, bx2, bx3⟩ := three_boxes V (.int .i64 0) (.pointer (some ⟨w1.heap.size + 1, 0, none⟩)) (.string ⟨#[]⟩) 3 25 9
          rw [← hW2] at bx1 bx2 bx3
          have hb2 : Below V.heap.size V W2 := by
            rw [hW2]
            exact ((((Below.refl _ _).alloc (Nat.le_refl _) _).alloc (by simp) _).alloc (by simp; omega) _)
          have hz2 : W2.heap.size = V.heap.size + 3 := by rw [hW2]; simp
          have hgl := C2.out.tree.lt
          clear hW2
          have hseq := from_stops 3 (by omega) (V.heap.size + 1) (V.heap.size + 2) (w1.heap.size + 1) (fun k => k < V.heap.size ∨ k = V.heap.size + 1 ∨ k = V.heap.size + 2) ⟨#[]⟩ (zs (pf N D)) W2 (.inr (.inl rfl)) (.inr (.inr rfl)) (Nat.le_trans (zs_len _) (by decide))
            ((C2.out.tree.turn (G := fun k => k < V.heap.size ∨ k = V.heap.size + 1 ∨ k = V.heap.size + 2) (fun k hk _ => .inl hk)).below hb2) bx2.cell bx3.cell
          refine' wpIn_rangeFunc_ownF rfl (by omega) (gf := 30) (lb := #[.pointer (some ⟨V.heap.size + 1, 0, none⟩), .pointer (some ⟨V.heap.size + 2, 0, none⟩)]) rfl trivial (enters_of Try.func30 (by kernel_rfl) rfl) hseq Kb.trans
            (fun W l o o' hl _ _ _ => kb_putObj (n := V.heap.size + 3) (fun k hk => by omega) W l o' (by omega)) (Below.refl _ _) (fun _ => rfl)
            (fun pre W => (vals pre = (zs (pf N D)).take pre.length ∧ Boxed W V.heap.size 3 (.int .i64 (kOf N D pre.length : Int))) ∧ Below V.heap.size V W)
            (fun _ pre _ => ¬ vals pre <+: zs (pf N D))
            (OwnFrom.and (Own.from (fun s A B row hs hg hr => ⟨hs.1, boxed_own V.heap.size 3 (fun pre : List (El (zs (pf N D))) => .int .i64 (kOf N D pre.length : Int)) s A B row hs.2 hg hr⟩) _) (ownFrom_below (Nat.le_refl _) (by omega)))
            (fun _ _ _ _ _ hs _ _ => hs)
            ⟨⟨rfl, bx1⟩, hb2⟩ _ ?assign ?body ?done ?stop
          case assign =>
            intro l x W K hK
            dsimp only [pe]
            gi_wp2
            exact hK
          case body =>
            rintro l pre x W ⟨⟨hv, p1⟩, hb⟩ hlen
            have hm : pre.length < (js N D).length := Nat.lt_of_lt_of_eq hlen (zs_length N D)
            have hN : N ≤ 1024 := by omega
            have hst := js_step hN hD0 hm
            have hnx := (js_next hN hm).2.2
            have htm := zs_get hm
            generalize hee : (js N D)[pre.length] = e at hst hnx htm
            generalize hcc : kOf N D pre.length = c at hst p1
            obtain ⟨e1, e2, e3⟩ := hst
            have y1 := Boxed.upB (C2.out.box x1.out) hb
            have y2 := Boxed.upB (C2.out.box x2.out) hb
            have y3 := Boxed.upB (C2.out.box x3.out) hb
            have y4 := Boxed.upB (C2.out.box x4.out) hb
            have HV1 := Aside0.mk hv
            have HT1 := Aside0.mk htm
            have HNX := Aside0.mk hnx
            have P1 := Aside0.mk p1
            have HB1 := Aside0.mk hb
            have hbl := y1.lt
            have hVl : V.heap.size ≤ W.heap.size := hb.size
            have E2 := Aside0.mk e2
            have E3 := Aside0.mk e3
            have Y1 := Aside0.mk y1
            have Y2 := Aside0.mk y2
            have Y3 := Aside0.mk y3
            have Y4 := Aside0.mk y4
            clear hv htm hnx p1 hb e2 e3 y1 y2 y3 y4 hee hcc
            gi_wp2
            gi_loopw [66] (fun _ wq => ∃ c' : Nat, Aside0 (Boxed wq V.heap.size 3 (.int .i64 (c' : Int))) ∧ Aside0 (c' = c ∨ c' = e) ∧ Aside0 (KeepsOthers W wq) ∧ Aside0 (Kb (fun k => k < V.heap.size ∨ k = V.heap.size + 1 ∨ k = V.heap.size + 2) W wq) ∧ Aside0 (Below V.heap.size V wq))
              (fun _ wq => match wq.cell? ⟨V.heap.size, 0, none⟩ with | some (.int _ z) => e + 1 - z.toNat | _ => 0)
            case atStart => exact ⟨c, P1, ⟨.inl rfl⟩, ⟨KeepsOthers.refl _⟩, ⟨Kb.refl _ _⟩, HB1⟩
            case round =>
              obtain ⟨c', BX, HC', HK1, HK2, HB2⟩ := hrel
              have c0 := BX.out.cell
              have f0 := BX.out.frozen
              have c1 := (Boxed.upB (C2.out.box x1.out) HB2.out).cell
              have c2 := (Boxed.upB (C2.out.box x2.out) HB2.out).cell
              have c4 := (Boxed.upB (C2.out.box x4.out) HB2.out).cell
              have hce : c ≤ e ∧ e ≤ c + 1 := by have := E3.out; omega
              have hcc : c' ≤ e := by have := HC'.out; omega
              have q1 : (c' : Int).tmod (D : Int) = ((c' % D : Nat) : Int) := by rw [Int.tmod_eq_emod_of_nonneg (by omega)]; omega
              obtain ⟨R, rR⟩ : ∃ R, R = c' % D := ⟨_, rfl⟩
              rw [← rR] at q1
              have q2 : IntKind.i64.wrap (R : Int) = (R : Int) := by rw [IntKind.wrap_i64]; have : R < D := (by rw [rR]; exact Nat.mod_lt _ (by omega)); have := RD.out; omega
              have q3 : IntKind.i64.wrap ((c' : Int) + 1) = ((c' + 1 : Nat) : Int) := by rw [IntKind.wrap_i64]; omega
              have RR := Aside0.mk rR
              clear rR
              by_cases hR : R = 0
              · subst hR
                have hc1 : c' = c ∧ e = c + 1 := by
                  have h1 := HC'.out
                  have h2 := E2.out
                  have h3 := E3.out
                  have h4 := RR.out
                  rcases h1 with h1 | h1
                  · subst h1
                    exact ⟨rfl, by omega⟩
                  · subst h1
                    exact absurd h4.symm h2
                have HC1 := Aside0.mk hc1
                clear hc1
                gi_wp2
                have hc1 := HC1.out
                have nb := BX.out.set (.int .i64 ((c' : Int) + 1))
                refine ⟨⟨e, ⟨?_⟩, ⟨.inr rfl⟩, ⟨HK1.out.trans (KeepsOthers.setCell _ _ _)⟩, ⟨HK2.out.trans (kb_setCell _ _ _ _ (by simp))⟩, ⟨HB2.out.setCell (p := ⟨V.heap.size, 0, none⟩) (Nat.le_refl _) _⟩⟩, ?_⟩
                · rw [show (e : Int) = (c' : Int) + 1 by omega]
                  exact nb
                · rw [nb.cell, c0]
                  simp only
                  omega
              · have hc1 : c' = e := by
                  have h1 := HC'.out
                  have h3 := E3.out
                  have h4 := RR.out
                  rcases h1 with h1 | h1
                  · subst h1
                    omega
                  · exact h1
                subst hc1
                obtain ⟨y, hy1, hy2, hxy⟩ := mem_zs.1 x.2
                obtain ⟨⟨xk, xv⟩, hx⟩ := x
                simp only [Prod.mk.injEq] at hxy
                obtain ⟨rfl, rfl⟩ := hxy
                have HX := Aside0.mk hx
                have nc : ¬ (N : Int) ≤ (c' : Int) := by omega
                have hRI : ¬ (R : Int) = 0 := by omega
                have hRb : (((R : Int)) == 0) = false := by simpa using hR
                by_cases hye : y = c'
                · subst hye
                  gi_wp2_with (first
                    | (refine ⟨trivial, ?_⟩; gi_at_call 10; refine (CallsIn.inRound l (callsIn_wide.2 (name_any y (by omega) _))).mono ?_; rintro e w2 ⟨rfl, hb⟩; have c5 := up hb c0; have f5 := upf hb BX.out.lt f0; have HB5 := Aside0.mk hb; clear hb))
                  have hlo : KeepsOthers wr w2 := ⟨HB5.out.size, fun k o hk _ => (HB5.out.block k (Array.getElem?_eq_some_iff.1 hk).1).trans hk⟩
                  have nb : Boxed w2 V.heap.size 3 (.int .i64 (y : Int)) := Boxed.upB BX.out HB5.out
                  refine ⟨(HK1.out.trans hlo).trans (KeepsOthers.setCell _ _ _), (HK2.out.trans (Kb.below HB5.out)).trans (kb_setCell _ _ _ _ (by simp)), ⟨?_, ?_⟩, ?_⟩
                  · rw [vals_snoc, HV1.out, List.length_append, List.length_singleton, List.take_add_one, HT1.out]
                    rfl
                  · rw [List.length_append, List.length_singleton, HNX.out, show ((y + 1 : Nat) : Int) = (y : Int) + 1 by omega]
                    exact nb.set _
                  · exact (HB2.out.trans (HB5.out.mono HB2.out.size)).setCell (p := ⟨V.heap.size, 0, none⟩) (Nat.le_refl _) _
                · have hyi : ¬ (y : Int) = (c' : Int) := by omega
                  have hyb : (((y : Int)) == (c' : Int)) = false := by simp; omega
                  have c3 := (Boxed.upB (C2.out.box x3.out) HB2.out).cell
                  have f3 := (Boxed.upB (C2.out.box x3.out) HB2.out).frozen
                  gi_wp2
                  refine ⟨fun _ h => (by cases h), ?_⟩
                  gi_wp2
                  refine ⟨HK1.out.trans (KeepsOthers.setCell _ _ _), fun hpre => hye ?_⟩
                  rw [vals_snoc] at hpre
                  have hlv : (vals pre).length = pre.length := by simp [vals]
                  have h1 := prefix_get hpre
                  rw [hlv, HT1.out] at h1
                  simp only [Option.some.injEq, Prod.mk.injEq] at h1
                  omega
          case done =>
            rintro D2 ys W hD2 hys ⟨⟨hv, p1⟩, hb⟩ hK
            replace hys : vals ys = fromL (zs (pf N D)) ⟨#[]⟩ := hys
            rw [fromL_zs] at hys
            have hyl : ys.length = (js N D).length := by
              have := congrArg List.length hys
              rw [zs_length] at this
              simpa [vals] using this
            rw [hyl] at p1
            have hke := kOf_end (N := N) (D := D) (by omega) hD0
            have hjl := js_len (N := N) (D := D) (by omega) (by omega)
            have y1 := Boxed.upB (C2.out.box x1.out) hb
            have y2 := Boxed.upB (C2.out.box x2.out) hb
            have y3 := Boxed.upB (C2.out.box x3.out) hb
            have hln := len_int ((C2.out.below hb).below (belowDrew (Below.refl _ _))).tree
            rw [zs_length] at hln
            generalize (js N D).length = JL at *
            generalize kOf N D JL = kf at *
            have c0 := p1.cell
            have c1 := y1.cell
            have c2 := y2.cell
            have c3 := y3.cell
            have f3 := y3.frozen
            have HL := Aside0.mk hln
            have HK := Aside0.mk hK
            have HB := Aside0.mk hb
            have Y3 := Aside0.mk y3
            clear hln hK hb hys hv p1 y1 y2 y3
            obtain ⟨Q, rQ⟩ : ∃ Q, Q = (N + D - 1) / D := ⟨_, rfl⟩
            have hQ : Q ≤ N ∧ JL = N - Q := by
              rw [rQ]
              refine ⟨?_, hjl⟩
              rcases Nat.eq_zero_or_pos N with h | h
              · subst h
                rw [Nat.zero_add, Nat.div_eq_of_lt (by omega)]
                exact Nat.le_refl _
              · rw [Nat.div_le_iff_le_mul_add_pred (by omega)]
                have : 2 * N ≤ D * N := Nat.mul_le_mul_right _ hD0
                omega
            have r1 : IntKind.i64.wrap ((N : Int) + (D : Int)) = (N : Int) + (D : Int) := by rw [IntKind.wrap_i64]; have := RD.out; omega
            have r2 : IntKind.i64.wrap ((N : Int) + (D : Int) - 1) = (N : Int) + (D : Int) - 1 := by rw [IntKind.wrap_i64]; have := RD.out; omega
            have r3 : ((N : Int) + (D : Int) - 1).tdiv (D : Int) = (Q : Int) := by
              rw [Int.tdiv_eq_ediv_of_nonneg (by omega), rQ]
              have : (N : Int) + (D : Int) - 1 = ((N + D - 1 : Nat) : Int) := by omega
              rw [this, ← Int.natCast_ediv]
            have r4 : IntKind.i64.wrap (Q : Int) = (Q : Int) := by rw [IntKind.wrap_i64]; omega
            have r5 : IntKind.i64.wrap ((N : Int) - (Q : Int)) = (JL : Int) := by rw [IntKind.wrap_i64]; omega
            have r6 : IntKind.i64.wrap ((N : Int) - 1) = (N : Int) - 1 := by rw [IntKind.wrap_i64]; omega
            have r7 : (N : Int) - 1 ≤ (kf : Int) := by omega
            have HLd : Aside0 (Calls Try.prog 14 #[.pointer (some ⟨w1.heap.size + 1, 0, none⟩)] W.drew fun e w' => e = .returned (.int .i64 (JL : Int)) ∧ w' = W.drew) := HL
            have hDz : ¬ D = 0 := by omega
            clear rQ hQ hjl hke
            gi_wp2
            refine wpIn_wide.2 (wp_region_noPanic ?_)
            refine wp_region_held_drew (S := (fun w1 => w1.cell? ⟨V.heap.size, 0, none⟩ = some (.int .i64 (kf : Int)) ∧ w1.cell? ⟨w.heap.size, 0, none⟩ = some (.int .i64 (N : Int)) ∧ w1.cell? ⟨w.heap.size + 1, 0, none⟩ = some (.int .i64 (D : Int)))) (by kernel_rfl) (by (try dsimp only); exact ⟨c0, c1, c2⟩) (fun hHeld => ?_)
            refine wpAnyH_take (i := 0) (v := ?_) rfl (by kernel_rfl) (by kernel_rfl) (by kernel_rfl) (fun _ _ _ h => h) (Or.inl ⟨by rfl, ?_⟩) (by assumption) ?_
            rotate_left
            · intro w hSw; (try dsimp only at hSw); go_simp; (try with_reducible rfl)
            try simp only [Act.put, List.setIfInBounds_toArray, List.set_cons_zero, List.set_cons_succ]
            refine wpAnyH_take (i := 2) (v := ?_) rfl (by kernel_rfl) (by kernel_rfl) (by kernel_rfl) (fun _ _ _ h => h) (Or.inl ⟨by rfl, ?_⟩) (by assumption) ?_
            rotate_left
            · intro w hSw; (try dsimp only at hSw); go_simp; (try with_reducible rfl)
            try simp only [Act.put, List.setIfInBounds_toArray, List.set_cons_zero, List.set_cons_succ]
            refine wpAnyH_take (i := 3) (v := ?_) rfl (by kernel_rfl) (by kernel_rfl) (by kernel_rfl) (fun _ _ _ h => h) (Or.inl ⟨by rfl, ?_⟩) (by assumption) ?_
            rotate_left
            · intro w hSw; (try dsimp only at hSw); go_simp; (try with_reducible rfl)
            try simp only [Act.put, List.setIfInBounds_toArray, List.set_cons_zero, List.set_cons_succ]
            refine wpAnyH_take (i := 4) (v := ?_) rfl (by kernel_rfl) (by kernel_rfl) (by kernel_rfl) (fun _ _ _ h => h) (Or.inl ⟨by rfl, ?_⟩) (by assumption) ?_
            rotate_left
            · intro w hSw; (try dsimp only at hSw); go_simp; (try with_reducible rfl)
            try simp only [Act.put, List.setIfInBounds_toArray, List.set_cons_zero, List.set_cons_succ]
            refine wpAnyH_take (i := 5) (v := ?_) rfl (by kernel_rfl) (by kernel_rfl) (by kernel_rfl) (fun _ _ _ h => h) (Or.inl ⟨by rfl, ?_⟩) (by assumption) ?_
            rotate_left
            · intro w hSw; (try dsimp only at hSw); go_simp; (try with_reducible rfl)
            try simp only [Act.put, List.setIfInBounds_toArray, List.set_cons_zero, List.set_cons_succ]
            refine wpAnyH_take (i := 6) (v := ?_) rfl (by kernel_rfl) (by kernel_rfl) (by kernel_rfl) (fun _ _ _ h => h) (Or.inl ⟨by rfl, ?_⟩) (by assumption) ?_
            rotate_left
            · intro w hSw; (try dsimp only at hSw); go_simp; (try with_reducible rfl)
            try simp only [Act.put, List.setIfInBounds_toArray, List.set_cons_zero, List.set_cons_succ]
            refine wpAnyH_take (i := 7) (v := ?_) rfl (by kernel_rfl) (by kernel_rfl) (by kernel_rfl) (fun _ _ _ h => h) (Or.inl ⟨by rfl, ?_⟩) (by assumption) ?_
            rotate_left
            · intro w hSw; (try dsimp only at hSw); go_simp; (try with_reducible rfl)
            try simp only [Act.put, List.setIfInBounds_toArray, List.set_cons_zero, List.set_cons_succ]
            refine wpAnyH_take (i := 8) (v := ?_) rfl (by kernel_rfl) (by kernel_rfl) (by kernel_rfl) (fun _ _ _ h => h) (Or.inl ⟨by rfl, ?_⟩) (by assumption) ?_
            rotate_left
            · intro w hSw; (try dsimp only at hSw); go_simp; (try with_reducible rfl)
            try simp only [Act.put, List.setIfInBounds_toArray, List.set_cons_zero, List.set_cons_succ]
            refine wpAnyH_take (i := 9) (v := ?_) rfl (by kernel_rfl) (by kernel_rfl) (by kernel_rfl) (fun _ _ _ h => h) (Or.inl ⟨by rfl, ?_⟩) (by assumption) ?_
            rotate_left
            · intro w hSw; (try dsimp only at hSw); go_simp; (try with_reducible rfl)
            try simp only [Act.put, List.setIfInBounds_toArray, List.set_cons_zero, List.set_cons_succ]
            refine wpAnyH_ready (rs := [1]) (by kernel_rfl) (by simp) ?_
            refine AllReadyH.cons rfl (fun K hK => ?_) AllReadyH.nil
            go_simp
            refine HLd.out.mono ?_
            rintro e w7 ⟨rfl, rfl⟩
            go_simp
            refine hK.out _ _ (by (try dsimp only); exact ⟨c0, c1, c2⟩) (fun hHeld => ?_)
            clear hK K
            try simp only [Act.put, List.setIfInBounds_toArray, List.set_cons_zero, List.set_cons_succ]
            refine wpAnyH_take (i := 10) (v := ?_) rfl (by kernel_rfl) (by kernel_rfl) (by kernel_rfl) (fun _ _ _ h => h) (Or.inl ⟨by rfl, ?_⟩) (by assumption) ?_
            rotate_left
            · intro w hSw; (try dsimp only at hSw); go_simp; (try with_reducible rfl)
            try simp only [Act.put, List.setIfInBounds_toArray, List.set_cons_zero, List.set_cons_succ]
            refine wpAnyH_take (i := 11) (v := ?_) rfl (by kernel_rfl) (by kernel_rfl) (by kernel_rfl) (fun _ _ _ h => h) (Or.inl ⟨by rfl, ?_⟩) (by assumption) ?_
            rotate_left
            · intro w hSw; (try dsimp only at hSw); go_simp; (try with_reducible rfl)
            try simp only [Act.put, List.setIfInBounds_toArray, List.set_cons_zero, List.set_cons_succ]
            refine wpAnyH_take (i := 12) (v := ?_) rfl (by kernel_rfl) (by kernel_rfl) (by kernel_rfl) (fun _ _ _ h => h) (Or.inl ⟨by rfl, ?_⟩) (by assumption) ?_
            rotate_left
            · intro w hSw; (try dsimp only at hSw); go_simp; (try with_reducible rfl)
            try simp only [Act.put, List.setIfInBounds_toArray, List.set_cons_zero, List.set_cons_succ]
            refine wpAnyH_take (i := 13) (v := ?_) rfl (by kernel_rfl) (by kernel_rfl) (by kernel_rfl) (fun _ _ _ h => h) (Or.inl ⟨by rfl, ?_⟩) (by assumption) ?_
            rotate_left
            · intro w hSw; (try dsimp only at hSw); go_simp; (try with_reducible rfl)
            try simp only [Act.put, List.setIfInBounds_toArray, List.set_cons_zero, List.set_cons_succ]
            refine wpAnyH_take (i := 14) (v := ?_) rfl (by kernel_rfl) (by kernel_rfl) (by kernel_rfl) (fun _ _ _ h => h) (Or.inl ⟨by rfl, ?_⟩) (by assumption) ?_
            rotate_left
            · intro w hSw; (try dsimp only at hSw); go_simp; (try with_reducible rfl)
            try simp only [Act.put, List.setIfInBounds_toArray, List.set_cons_zero, List.set_cons_succ]
            refine wpAnyH_take (i := 15) (v := ?_) rfl (by kernel_rfl) (by kernel_rfl) (by kernel_rfl) (fun _ _ _ h => h) (Or.inl ⟨by rfl, ?_⟩) (by assumption) ?_
            rotate_left
            · intro w hSw; (try dsimp only at hSw); go_simp; (try with_reducible rfl)
            try simp only [Act.put, List.setIfInBounds_toArray, List.set_cons_zero, List.set_cons_succ]
            refine wpAnyH_take (i := 16) (v := ?_) rfl (by kernel_rfl) (by kernel_rfl) (by kernel_rfl) (fun _ _ _ h => h) (Or.inl ⟨by rfl, ?_⟩) (by assumption) ?_
            rotate_left
            · intro w hSw; (try dsimp only at hSw); go_simp; (try with_reducible rfl)
            try simp only [Act.put, List.setIfInBounds_toArray, List.set_cons_zero, List.set_cons_succ]
            refine wpAnyH_ready (rs := [17]) (by kernel_rfl) (by simp) ?_
            refine AllReadyH.cons rfl (fun K hK => ?_) AllReadyH.nil
            go_simp
            refine hK.out _ _ (by (try dsimp only); exact ⟨(World.cell?_of_block (Below.heap_setCell W _ _ _ (by show V.heap.size ≠ w.heap.size + 1 + 1; omega))).trans c0, (World.cell?_of_block (Below.heap_setCell W _ _ _ (by show w.heap.size ≠ w.heap.size + 1 + 1; omega))).trans c1, (World.cell?_of_block (Below.heap_setCell W _ _ _ (by show w.heap.size + 1 ≠ w.heap.size + 1 + 1; omega))).trans c2⟩) (fun hHeld => ?_)
            clear hK K
            try simp only [Act.put, List.setIfInBounds_toArray, List.set_cons_zero, List.set_cons_succ]
            refine wpAnyH_done (by kernel_rfl) ?_ _
            refine NoPanic.normal ?_
            have hK2 : (W.setCell ⟨w.heap.size + 1 + 1, 0, none⟩ (.bool true)).drew.heap[D2]? = some (.deferred (some [])) := (KeepsOthers.setCell W ⟨w.heap.size + 1 + 1, 0, none⟩ (.bool true)).same D2 _ HK.out rfl
            have c6 : (W.setCell ⟨w.heap.size + 1 + 1, 0, none⟩ (.bool true)).drew.cell? ⟨w.heap.size + 1 + 1, 0, none⟩ = some (.bool true) := World.cell?_setCell_same' _ _ _ (by rw [c3]; rfl)
            gi_wp2
            refine ⟨by simp, .inl ⟨_, _, rfl, run_takeDeferred hK2, ?_⟩⟩
            have hDn : D2 ≠ w.heap.size + 2 := by omega
            refine ⟨.bool true, results_bool rfl _ _ ⟨w.heap.size + 1 + 1, 0, none⟩ true rfl ?_ Try.underlying4, rfl, ?_⟩
            · exact (World.cell?_of_block (World.putObj_heap_other (Ne.symm hDn))).trans c6
            · have hBa : Below w.heap.size w W := hBW.out.trans ((C2.out.fr.isBelow.mono hBW.out.size).trans (HB.out.mono (by omega)))
              have hBb : Below w.heap.size w (W.setCell ⟨w.heap.size + 1 + 1, 0, none⟩ (.bool true)).drew := (hBa.setCell (p := ⟨w.heap.size + 1 + 1, 0, none⟩) (by show w.heap.size ≤ w.heap.size + 1 + 1; omega) _).drew
              exact hBb.trans (belowK_b (w := w) (Nat.le_refl _) _ D2 _ _ (by omega) hK2 rfl rfl)
          case stop =>
            rintro D2 c pre W hD2 hsp h _
            replace hsp : vals pre <+: fromL (zs (pf N D)) ⟨#[]⟩ := hsp
            rw [fromL_zs] at hsp
            exact absurd hsp h
end Go.Proofs.Ytmpcmpanolnpfaa.Tr
