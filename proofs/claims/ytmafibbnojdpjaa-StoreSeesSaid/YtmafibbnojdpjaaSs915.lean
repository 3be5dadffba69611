/- Lemmas that the proof needs, part 15. -/
import Derived.Maps.OwnIn
import Derived.Test.YtmafibbnojdpjaaWKept
import Derived.Deep.RegionHeld3
import Derived.Test.YtmafibbnojdpjaaWWords
import Derived.Test.YtmafibbnojdpjaaSs91
import Derived.Test.YtmafibbnojdpjaaSs92
import Derived.Test.YtmafibbnojdpjaaSs93
import Derived.Test.YtmafibbnojdpjaaSs94
import Derived.Test.YtmafibbnojdpjaaSs95
import Derived.Test.YtmafibbnojdpjaaSs96
import Derived.Test.YtmafibbnojdpjaaSs97
import Derived.Test.YtmafibbnojdpjaaSs98
import Derived.Test.YtmafibbnojdpjaaSs99
import Derived.Test.YtmafibbnojdpjaaSs910
import Derived.Test.YtmafibbnojdpjaaSs911
import Derived.Test.YtmafibbnojdpjaaSs912
import Derived.Test.YtmafibbnojdpjaaSs913
import Derived.Test.YtmafibbnojdpjaaSs914
section
set_option linter.unusedVariables false
set_option maxRecDepth 100000
set_option linter.unusedSimpArgs false
namespace Go.Proofs.Ytmafibbnojdpjaa.St
open Go.Proofs.Ytmafibbnojdpjaa.Tr Go.RowKit Go.Proofs.YtmafibbnojdpjaaW.PrintWords Go.Proofs.YtmafibbnojdpjaaW.PrintLast Go.Proofs.YtmafibbnojdpjaaW.PrintMore Go.Proofs.Ytmafibbnojdpjaa.P
attribute [local go_sem] Oper.semAt_some
theorem R_append_in {F : Fence} {n : Nat} {P : Program} {ops : Array Oper} {rest : List Oper} {o : Oper} {a : Act} {Q : Exit → Act → World → Prop} {α : Type} (d : Kd α) {W V : World} (cs : List Value) (e : TypeId) (hV : V = W.alloc (.cells cs.toArray e)) (base : Nat) (hgd : o.guard = none) (s x : Operand) (t : TypeId) (z : Value) (bytes : Nat)
    (ho : o.op = .call { callee := .builtin .append, args := #[s, x], argTypes := #[t, t] })
    (ht : P.underlying t = some (.slice e)) (hinfo : (P.info? e).map (fun i => (i.zero, i.size, i.bytes)) = some (some z, d.sz, bytes)) (hz : z.cells.size = d.sz) (hs0 : 0 < d.sz) (hb0 : 0 < bytes)
    (v : Value) (xs : List α) (p : α) (ok okp : Nat → Prop) (hs : a.eval s = v) (hx : a.eval x = .slice (some ⟨W.heap.size, 0, none⟩) 1 1) (hp : d.M W base okp p cs) (hokp : ∀ k, okp k → ok k ∧ some k ≠ v.ownBlock) (hfresh : ∀ k, W.heap.size ≤ k → ok k)
    (HO : d.R e W base ok v xs) (hbase : base ≤ W.heap.size) (hl : (xs.length + 1) * bytes ≤ 140737488355328)
    (h : ∀ v1 w1, d.R e w1 base ok v1 (xs ++ [p]) → W.grownBy w1 v.ownBlock → wpListIn F n P ops Q rest (a.put o.dst v1) w1) :
    wpListIn F n P ops Q (o :: rest) a V := by
  subst hV
  obtain ⟨h0, inner, hown, hr⟩ := HO
  obtain ⟨i0, hi, hzz⟩ := Option.map_eq_some_iff.1 hinfo
  simp only [Prod.mk.injEq] at hzz
  obtain ⟨hz0, hz1, hz2⟩ := hzz
  have hlen : xs.length + 1 ≤ 140737488355328 := Nat.le_trans (Nat.le_mul_of_pos_right _ hb0) hl
  refine wpListIn_append_own_at (W.alloc (.cells cs.toArray e)) hgd s x t ho base e i0 z d.sz bytes ht hi hz0 hz1 hz2 hz hs0 v xs.length inner hs (hown.alloc _) ⟨W.heap.size, 0, none⟩ 1 1 cs hx (by rw [d.K_len (d.K_of_M hp)]; simp)
    (by simpa using World.news_of_block (cs := cs.toArray) (t := e) (fr := (0, 0)) (heap_alloc_new W (.cells cs.toArray e))) (d.K_one (d.K_of_M hp)) (by simp only [maxLen]; omega) hl (by simp; omega) ?_
  intro v1 w1 hown1 hg _ hat
  have hg1 := World.grownBy.trans (World.grownBy_alloc W _ _) hg
  refine h v1 w1 (Kd.R_appended h0 hr hp hokp hfresh hown1 hg1 ?_) hg1
  rcases hat with hat | hat
  · exact .inl hat
  · exact .inr ⟨_, hat, by simp⟩
def kvW (a : KV) : Wr := ⟨a.1, a.2, false⟩
/-- the state's writes behind a commit -/
def baseM (M : StM) (q : Int) : List Wr := (showM M ⟨#[]⟩ ⟨#[]⟩ q).map kvW
theorem own31 {X : World} {v : Value} {l : List Wr} {ok : Nat → Prop} (h : Kd.R k31 31 X 0 ok v l) (k : Nat) (hk : v.ownBlock = some k) : ok k ∧ ∃ cs fr, X.heap[k]? = some (.cells cs 31 fr) := by
  obtain ⟨h0, inner, hown, _⟩ := h
  refine ⟨h0 k hk, ?_⟩
  rcases hown.2 with ⟨rfl, _⟩ | ⟨g', cap, cur, rfl, _, hh, _⟩
  · simp [Value.ownBlock] at hk
  · have : g' = k := by simpa [Value.ownBlock] using hk
    subst this
    exact ⟨_, _, hh⟩
theorem own_rounds {X w1 w : World} {v v1 : Value} {l l1 : List Wr} {n6 : Nat} (hb : w.heap.size < n6) (h4 : n6 ≤ X.heap.size) (hX : Kd.R k31 31 X 0 (fun k => n6 ≤ k) v l) (h3 : Below w.heap.size w X) (hg : X.grownBy w1 v.ownBlock) (hB : Boxed w1 w.heap.size 22 v)
    (h1 : Kd.R k31 31 w1 0 (fun k => n6 ≤ k) v1 l1) : KeepsFrom n6 X (w1.setCell ⟨w.heap.size, 0, none⟩ v1) ∧ Kf Foe (fun k => k < n6 ∧ k ≠ w.heap.size) (n6 + 2) X (w1.setCell ⟨w.heap.size, 0, none⟩ v1) ∧
      (∃ v, Boxed (w1.setCell ⟨w.heap.size, 0, none⟩ v1) w.heap.size 22 v ∧ Kd.R k31 31 (w1.setCell ⟨w.heap.size, 0, none⟩ v1) 0 (fun k => n6 ≤ k) v l1 ∧ Below w.heap.size w (w1.setCell ⟨w.heap.size, 0, none⟩ v1) ∧ n6 ≤ (w1.setCell ⟨w.heap.size, 0, none⟩ v1).heap.size) := by
  have hs : X.heap.size ≤ (w1.setCell ⟨w.heap.size, 0, none⟩ v1).heap.size := by rw [World.size_setCell]; exact hg.size
  have far : ∀ k, k < X.heap.size → k ≠ w.heap.size → v.ownBlock ≠ some k → (w1.setCell ⟨w.heap.size, 0, none⟩ v1).heap[k]? = X.heap[k]? := fun k hk hne ho => (Below.heap_setCell w1 ⟨w.heap.size, 0, none⟩ v1 k hne).trans (hg.block k hk (fun e => ho e.symm))
  have notown : ∀ k o, X.heap[k]? = some o → ¬ Foe o → v.ownBlock ≠ some k := fun k o ho hf e => by
    obtain ⟨_, cs, fr, q⟩ := own31 hX k e
    rw [ho] at q
    injection q with q
    exact hf ⟨cs, fr, q⟩
  have low : ∀ k, k < n6 → v.ownBlock ≠ some k := fun k hk e => by
    have : n6 ≤ k := (own31 hX k e).1
    omega
  refine ⟨⟨hs, fun k o hk ho hc => (far k (Array.getElem?_eq_some_iff.1 ho).1 (by omega) (notown k o ho (not_foe_cells hc))).trans ho⟩, ⟨hs, fun k hk hl => far k hl hk.2 (low k hk.1), fun k o hk ho hf => (far k (Array.getElem?_eq_some_iff.1 ho).1 (by omega) (notown k o ho hf)).trans ho⟩, v1, hB.set v1, Kd.R_far h1 (fun k hk e => by have e' : k = w.heap.size := e; have hk' : n6 ≤ k := hk; omega) v1, h3.trans ⟨hg.os, hg.tape, hg.output, hs, fun k hk => far k (Nat.lt_of_lt_of_le hk h3.size) (by omega) (low k (by omega))⟩, Nat.le_trans h4 hs⟩
variable {G : Nat → Prop} {col : Nat → Nat} {w w' : World} {s : Nat} {M : StM} {H : Value} {L : List Tr.Item}
set_option maxHeartbeats 8000000 in
theorem base_any (h : StoreC G col w s M H L) (hinv : Inv M) (hsz : M.K.length ≤ 2000000) (q : Int) :
    Calls Try.prog 52 #[.pointer (some ⟨s, 0, none⟩), .int .i64 q] w fun e w' => ∃ v, e = .returned v ∧ Kd.R k31 31 w' 0 (fun k => w.heap.size ≤ k) v (baseM M q) ∧ Below w.heap.size w w' := by
  have SC := Aside0.mk (h.turn (G' := fun k => k < w.heap.size) (col' := col) (fun k hk _ => hk) (fun _ _ => rfl))
  clear h
  refine (callsIn_wide (n := 5)).1 (callsIn_of_wp_marks Try.func52 rfl trivial ?_ rfl)
  simp only [Try.ntmps52, List.size_toArray, List.length_cons, List.length_nil, Nat.reduceAdd, Nat.reduceSub, Array.replicate_succ, Array.replicate_zero, List.push_toArray, List.append_toArray, List.nil_append, List.cons_append]
  refine wpIn_wide.2 ?_
  go_wp2_with (go_at_call 55; refine (srange_any _ _ _ _ _).mono ?_; rintro e w6 ⟨rfl, hw6⟩; have HW6 := Aside0.mk hw6; clear hw6)
  have hw6 := HW6.out
  clear HW6
  have hz6 : w6.heap.size = w.heap.size + 5 := by rw [hw6]; simp
  have x0 : Boxed w6 w.heap.size 22 (.slice none 0 0) := by
    rw [hw6]
    exact ((((Boxed.new w 22 (.slice none 0 0)).alloc _).alloc _).alloc _).alloc _
  have x1 : Boxed w6 (w.heap.size + 1) 32 (.pointer (some ⟨s, 0, none⟩)) := by
    rw [hw6]
    have := ((Boxed.new (w.alloc (.cells #[.slice none 0 0] 22)) 32 (.pointer (some ⟨s, 0, none⟩))).alloc (.cells #[.string ⟨#[]⟩] 9)).alloc (.cells #[.string ⟨#[]⟩] 9) |>.alloc (.cells #[.int .i64 q] 3)
    rwa [World.size_alloc] at this
  have x2 : Boxed w6 (w.heap.size + 1 + 1) 9 (.string ⟨#[]⟩) := by
    rw [hw6]
    have := ((Boxed.new ((w.alloc (.cells #[.slice none 0 0] 22)).alloc (.cells #[.pointer (some ⟨s, 0, none⟩)] 32)) 9 (.string ⟨#[]⟩)).alloc (.cells #[.string ⟨#[]⟩] 9)).alloc (.cells #[.int .i64 q] 3)
    rwa [World.size_alloc, World.size_alloc] at this
  have x3 : Boxed w6 (w.heap.size + 1 + 2) 9 (.string ⟨#[]⟩) := by
    rw [hw6]
    have := (Boxed.new (((w.alloc (.cells #[.slice none 0 0] 22)).alloc (.cells #[.pointer (some ⟨s, 0, none⟩)] 32)).alloc (.cells #[.string ⟨#[]⟩] 9)) 9 (.string ⟨#[]⟩)).alloc (.cells #[.int .i64 q] 3)
    rwa [World.size_alloc, World.size_alloc, World.size_alloc] at this
  have x4 : Boxed w6 (w.heap.size + 1 + 3) 3 (.int .i64 q) := by
    rw [hw6]
    have := Boxed.new ((((w.alloc (.cells #[.slice none 0 0] 22)).alloc (.cells #[.pointer (some ⟨s, 0, none⟩)] 32)).alloc (.cells #[.string ⟨#[]⟩] 9)).alloc (.cells #[.string ⟨#[]⟩] 9)) 3 (.int .i64 q)
    rwa [World.size_alloc, World.size_alloc, World.size_alloc, World.size_alloc] at this
  have hb6 : Below w.heap.size w w6 := by rw [hw6]; exact below_alloc (below_alloc (below_alloc (below_alloc (below_alloc (Below.refl _ _) _) _) _) _) _
  clear hw6
  have hsl := showM_len M ⟨#[]⟩ ⟨#[]⟩ q
  refine (wpIn_wide (n := 5)).1 ?_
  have hseq := srange_stops 4 (by omega) (w.heap.size + 1) (w.heap.size + 1 + 1) (w.heap.size + 1 + 2) (w.heap.size + 1 + 3) s (fun k => k < w6.heap.size ∧ k ≠ w.heap.size) ⟨#[]⟩ ⟨#[]⟩ q w6 ⟨by omega, by omega⟩ ⟨by omega, by omega⟩ ⟨by omega, by omega⟩ ⟨by omega, by omega⟩ (SC.out.below hb6) hinv hsz (fun k hk h => ⟨hk, Nat.ne_of_lt h⟩) x1 x2 x3 x4 (fun k h => h.1)
  have HB6 := Aside0.mk hb6
  clear x1 x2 x3 x4 hb6
  refine' rangeO rfl (enters_of Try.func84 (by kernel_rfl) rfl) (by omega) hseq (Below.refl _ _) (fun k hk => hk.1) (fun _ => rfl)
    (fun pre X => ∃ v, Boxed X w.heap.size 22 v ∧ Kd.R k31 31 X 0 (fun k => w6.heap.size ≤ k) v (pre.map kvW) ∧ Below w.heap.size w X ∧ w6.heap.size ≤ X.heap.size)
    (fun c pre X => False) ?hI (fun c s A B row hs hg hr => hs) ⟨_, x0, Kd.R_nil _ _ _ _ _, HB6.out, Nat.le_refl _⟩ _ ?assign ?body ?done ?stop
  case hI =>
    rintro pre A C row ⟨v, h1, h2, h3, h4⟩ hg hr
    have hne : ∀ k cs t fr, A.heap[k]? = some (.cells cs t fr) → row ≠ some k := fun k cs t fr hk e => by
      obtain ⟨_, o, q1, q2⟩ := hr k e
      rw [hk] at q1
      injection q1 with q1
      rw [← q1] at q2
      cases q2
    refine ⟨v, (hg.block _ h1.lt (fun e => hne _ _ _ _ h1 e.symm)).trans h1, Kd.R_mono (Kd.R_step (Kd.R_bound h2) (fun k hk hl => ?_)) (fun k hk => hk.1), h3.trans ⟨hg.os, hg.tape, hg.output, hg.size, fun k hk => hg.block k (Nat.lt_of_lt_of_le hk h3.size) (fun e => by have := (hr k e.symm).1; omega)⟩, Nat.le_trans h4 hg.size⟩
    obtain ⟨_, _, _, q, _, cells, hc⟩ := hk
    exact hg.block k hl (fun e => hne _ _ _ _ hc e.symm)
  case assign =>
    intro l2 x W K hK
    dsimp only [kvV]
    gi_wp2
    exact hK
  case body =>
    rintro l2 pre e X ⟨v, h1, h2, h3, h4⟩ hl
    have c0 := h1.cell
    obtain ⟨ek, ev⟩ := e
    have HX := Aside0.mk h2
    have HX1 := Aside0.mk h1
    have HX3 := Aside0.mk h3
    clear h1 h2 h3
    have hlen : ((pre.map kvW).length + 1) * 40 ≤ 140737488355328 := by rw [List.length_map]; omega
    have HLEN := Aside0.mk hlen
    have H4 := Aside0.mk h4
    have HFR : Aside0 (∀ k, X.heap.size ≤ k → w6.heap.size ≤ k) := ⟨fun k hk => Nat.le_trans h4 hk⟩
    clear hlen
    gi_wp2_with (gi_at_builtin; refine R_append_in k31 (W := X) [.string ek, .string ev, .bool false] 31 (by rfl) 0 (by rfl) (.tmp 13) (.tmp 17) 22 (.agg #[.string ⟨#[]⟩, .string ⟨#[]⟩, .bool false]) 40 (by rfl) Try.underlying22 info31 (by rfl) (by decide) (by decide) v (pre.map kvW) (kvW (ek, ev)) (fun k => w6.heap.size ≤ k) (fun _ => False) (by rfl) (by rfl) (k31_mkM X 0 _ (kvW (ek, ev))) (fun k h => h.elim) HFR.out HX.out (Nat.zero_le _) HLEN.out ?_
                 intro v1 w1 hr1 hg1
                 obtain ⟨A1, n1, ev1⟩ := Kd.R_slice hr1
                 subst ev1
                 have hbx : Boxed w1 w.heap.size 22 v := by
                   refine (hg1.block _ HX1.out.lt (fun e => ?_)).trans HX1.out
                   obtain ⟨_, _, _, q⟩ := own31 HX.out _ e.symm
                   rw [show X.heap[w.heap.size]? = _ from HX1.out] at q
                   injection q with q
                   injection q with _ q _
                   cases q
                 have c0 := hbx.cell
                 have z0 := hbx.frozen
                 have HBX := Aside0.mk hbx
                 have HR1 := Aside0.mk hr1
                 have HG1 := Aside0.mk hg1
                 clear hbx hr1 hg1)
    have hq := own_rounds (by omega : w.heap.size < w6.heap.size) H4.out HX.out HX3.out HG1.out HBX.out HR1.out
    rw [show (pre.map kvW ++ [kvW (ek, ev)]).length = pre.length + 1 from by simp] at hq
    refine ⟨hq.1, hq.2.1, ?_⟩
    show ∃ v, Boxed _ w.heap.size 22 v ∧ Kd.R k31 31 _ 0 _ v ((pre ++ [(ek, ev)]).map kvW) ∧ _
    rw [show (pre ++ [(ek, ev)]).map kvW = pre.map kvW ++ [kvW (ek, ev)] from by simp]
    exact hq.2.2
  case done =>
    rintro D xs X hD hxs ⟨v, h1, h2, h3, h4⟩ hK
    have c0 := h1.cell
    have HX := Aside0.mk h2
    have HX3 := Aside0.mk h3
    clear h1 h2 h3
    gi_wp2
    go_wp2
    refine ⟨by simp, .inl ⟨_, _, rfl, run_takeDeferred hK, ?_⟩⟩
    subst hxs
    refine ⟨_, results_tmp rfl _ _ _, _, rfl, Kd.R_mono (Kd.R_step (Kd.R_bound HX.out) (fun k hk hl => World.putObj_heap_other (fun e => ?_))) (fun k hk => by have hk' : w6.heap.size ≤ k := hk.1; show w.heap.size ≤ k; omega),
      HX3.out.trans ⟨rfl, rfl, rfl, by simp, fun k hk => World.putObj_heap_other (by omega)⟩⟩
    obtain ⟨_, _, _, qq, _, cells, hc⟩ := hk
    rw [e, hK] at hc
    cases hc
  case stop =>
    rintro D c pre X hD hsp h hK
    exact h.elim
end Go.Proofs.Ytmafibbnojdpjaa.St
end
section
set_option linter.unusedVariables false
set_option maxRecDepth 100000
set_option linter.unusedSimpArgs false
namespace Go.Proofs.Ytmafibbnojdpjaa.St
open Go.Proofs.Ytmafibbnojdpjaa.Tr Go.RowKit Go.Proofs.YtmafibbnojdpjaaW.PrintWords Go.Proofs.YtmafibbnojdpjaaW.PrintLast Go.Proofs.YtmafibbnojdpjaaW.PrintMore Go.Proofs.Ytmafibbnojdpjaa.P
attribute [local go_sem] Oper.semAt_some
variable {G : Nat → Prop} {col : Nat → Nat} {w w' : World} {s : Nat} {M : StM} {H : Value} {L : List Tr.Item}
/-- how many versions -/
def versM (M : StM) : Nat := (M.K.map (·.2.length)).sum
def lenZ (Z : List Tr.Pair) : Nat := (Z.map (·.2.2.1)).sum
theorem lenZ_snoc (Z : List Tr.Pair) (a : Tr.Pair) : lenZ (Z ++ [a]) = lenZ Z + a.2.2.1 := by simp [lenZ]
theorem F2_lens {R : Tr.Pair → KC → Prop} (hR : ∀ a b, R a b → a.2.2.1 = b.2.length) : ∀ {Z : List Tr.Pair} {K : List KC}, F2 R Z K → lenZ Z = (K.map (·.2.length)).sum
  | [], [], _ => rfl
  | a :: l, b :: m, h => by
    have := F2_lens hR h.2
    unfold lenZ at *
    rw [List.map_cons, List.map_cons, List.sum_cons, List.sum_cons, hR a b h.1, this]
  | [], b :: m, h => h.elim
  | a :: l, [], h => h.elim
theorem lenZ_le (B : Nat) (Z : List Tr.Pair) (h : ∀ a ∈ Z, a.2.2.1 ≤ B) : lenZ Z ≤ Z.length * B := by
  induction Z with
  | nil => simp [lenZ]
  | cons a Z ih =>
    have h1 := h a (List.mem_cons_self ..)
    have h2 := ih (fun b hb => h b (List.mem_cons_of_mem _ hb))
    unfold lenZ at *
    rw [List.map_cons, List.sum_cons, List.length_cons, Nat.succ_mul]
    omega
set_option maxHeartbeats 8000000 in
theorem versions_any (h : StoreC G col w s M H L) (hinv : Inv M) (hsz : M.K.length ≤ 2000000) :
    Calls Try.prog 45 #[.pointer (some ⟨s, 0, none⟩)] w fun e w' => e = .returned (.int .i64 (versM M : Int)) ∧ Below w.heap.size w w' := by
  obtain ⟨Z, hZ, hF⟩ := store_Z h.ch
  have hT := h.tree.turn (G := fun k => k < w.heap.size) (fun k hk _ => hk)
  rw [hZ] at hT
  have hlenS : lenZ Z = versM M := F2_lens (fun a b q => q.2.2) hF
  have hkeys := F2_keys (fun a b h => h.1) hF
  have hZl : Z.length = M.K.length := by rw [← List.length_map (f := (·.1)), hkeys, List.length_map]
  have hZb : ∀ a ∈ Z, a.2.2.1 ≤ 1099511627777 := fun a ha => by
    obtain ⟨b, hb, q⟩ := hF.left a ha
    have h1 := ch_len (hinv.ch b hb).1 (by have := hinv.last0; omega)
    have h2 := hinv.last
    unfold maxSeq at h2
    have := q.2.2
    omega
  have HT := Aside0.mk hT
  have HZB := Aside0.mk hZb
  clear h hT hF hZb hkeys
  refine (callsIn_wide (n := 5)).1 (callsIn_of_wp_marks Try.func45 rfl trivial ?_ rfl)
  simp only [Try.ntmps45, List.size_toArray, List.length_cons, List.length_nil, Nat.reduceAdd, Nat.reduceSub, Array.replicate_succ, Array.replicate_zero, List.push_toArray, List.append_toArray, List.nil_append, List.cons_append]
  refine wpIn_wide.2 ?_
  go_wp2_with (go_at_call 79; refine (from_any _ _ _).mono ?_; rintro e w6 ⟨rfl, hw6⟩; have HW6 := Aside0.mk hw6; clear hw6)
  have hw6 := HW6.out
  clear HW6
  have hz6 : w6.heap.size = w.heap.size + 3 := by rw [hw6]; simp
  have x0 : Boxed w6 w.heap.size 3 (.int .i64 0) := by
    rw [hw6]
    exact ((Boxed.new w 3 (.int .i64 0)).alloc _).alloc _
  have x1 : Boxed w6 (w.heap.size + 1) 149 (.pointer (some ⟨s, 0, none⟩)) := by
    rw [hw6]
    have := (Boxed.new (w.alloc (.cells #[.int .i64 0] 3)) 149 (.pointer (some ⟨s, 0, none⟩))).alloc (.cells #[.string ⟨#[]⟩] 9)
    rwa [World.size_alloc] at this
  have x2 : Boxed w6 (w.heap.size + 1 + 1) 9 (.string ⟨#[]⟩) := by
    rw [hw6]
    have := Boxed.new ((w.alloc (.cells #[.int .i64 0] 3)).alloc (.cells #[.pointer (some ⟨s, 0, none⟩)] 149)) 9 (.string ⟨#[]⟩)
    rwa [World.size_alloc, World.size_alloc] at this
  have hb6 : Below w.heap.size w w6 := by rw [hw6]; exact below_alloc (below_alloc (below_alloc (Below.refl _ _) _) _) _
  clear hw6
  refine (wpIn_wide (n := 5)).1 ?_
  have hseq := SeqO.of (F := fun _ => True) (from_stops (n := 4) (by omega) (w.heap.size + 1) (w.heap.size + 1 + 1) s (fun k => k < w6.heap.size ∧ k ≠ w.heap.size) ⟨#[]⟩ Z w6 ⟨by omega, by omega⟩ ⟨by omega, by omega⟩ (by rw [hZl]; unfold maxTree; omega)
    ((HT.out.below hb6).turn (fun k _ hk => ⟨by omega, Nat.ne_of_lt hk⟩)) x1.cell x2.cell)
  have HB6 := Aside0.mk hb6
  clear x1 x2 hb6
  refine' rangeO rfl (enters_of Try.func103 (by kernel_rfl) rfl) (by omega) hseq (Below.refl _ _) (fun k hk => hk.1) (fun _ => rfl)
    (fun pre X => Boxed X w.heap.size 3 (.int .i64 (lenZ (vals pre) : Int)) ∧ Below w.heap.size w X)
    (fun c pre X => False) (OwnFrom.and (fun s A C row a b c => boxed_const _ _ _ _ s A C row a b c) (ownFrom_below (Nat.le_refl _) (by omega))) (fun c s A B row hs hg hr => hs) ⟨x0, HB6.out⟩ _ ?assign ?body ?done ?stop
  case assign =>
    intro l2 x W K hK
    dsimp only [pe]
    gi_wp2
    exact hK
  case body =>
    rintro l2 pre e X ⟨h1, h3⟩ hl
    have c0 := h1.cell
    have z0 := h1.frozen
    obtain ⟨⟨ek, ea, en, ec⟩, he⟩ := e
    have h0 := HZB.out _ he
    have h2 := lenZ_le 1099511627777 (vals pre) (fun a ha => by obtain ⟨b, _, rfl⟩ := List.mem_map.1 ha; exact HZB.out _ b.2)
    rw [show (vals pre).length = pre.length from List.length_map ..] at h2
    have h4 : lenZ (vals pre) ≤ 2000000 * 1099511627777 := Nat.le_trans h2 (Nat.mul_le_mul_right _ (by omega))
    have hsn : lenZ (vals (pre ++ [⟨(ek, ea, en, ec), he⟩])) = lenZ (vals pre) + en := by rw [vals_snoc, lenZ_snoc]
    dsimp only at h0
    have hadd : IntKind.i64.wrap ((lenZ (vals pre) : Int) + (en : Int)) = ((lenZ (vals pre) + en : Nat) : Int) := by
      rw [IntKind.wrap_i64]
      push_cast
      omega
    have hadd2 : wrap64 ((lenZ (vals pre) : Int) + (en : Int)) = ((lenZ (vals pre) + en : Nat) : Int) := by
      rw [w64 (by omega) (by omega)]
      push_cast
      rfl
    have HX1 := Aside0.mk h1
    have HX3 := Aside0.mk h3
    have HSN := Aside0.mk hsn
    dsimp only [pe, SV]
    clear h1 h3 h0 h2 h4 hsn
    generalize lenZ (vals pre) = m at *
    gi_wp2
    have far : ∀ k, k ≠ w.heap.size → (X.setCell ⟨w.heap.size, 0, none⟩ (.int .i64 ((m : Int) + (en : Int)))).heap[k]? = X.heap[k]? := fun k hk => Below.heap_setCell _ _ _ k hk
    have hs : X.heap.size ≤ (X.setCell ⟨w.heap.size, 0, none⟩ (.int .i64 ((m : Int) + (en : Int)))).heap.size := by rw [World.size_setCell]; exact Nat.le_refl _
    refine ⟨⟨hs, fun k o hk ho hc => (far k (by omega)).trans ho⟩, ⟨hs, fun k hk hl => far k hk.2, fun k o hk ho hf => (far k (by omega)).trans ho⟩, ?_, ?_⟩
    · rw [HSN.out, Int.natCast_add]
      exact HX1.out.set _
    · exact HX3.out.setCell (p := ⟨w.heap.size, 0, none⟩) (Nat.le_refl _) _
  case done =>
    rintro D xs X hD hxs ⟨h1, h3⟩ hK
    replace hxs : vals xs = fromL Z ⟨#[]⟩ := hxs
    have c0 := h1.cell
    rw [hxs, fromL_all, hlenS] at h1 c0
    have HX3 := Aside0.mk h3
    clear h1 h3
    gi_wp2
    go_wp2
    refine ⟨by simp, .inl ⟨_, _, rfl, run_takeDeferred hK, ?_⟩⟩
    exact ⟨_, results_tmp rfl _ _ _, rfl, HX3.out.trans ⟨rfl, rfl, rfl, by simp, fun k hk => World.putObj_heap_other (by omega)⟩⟩
  case stop =>
    rintro D c pre X hD hsp h hK
    exact h.elim
end Go.Proofs.Ytmafibbnojdpjaa.St
end
section
set_option linter.unusedVariables false
set_option maxRecDepth 100000
set_option linter.unusedSimpArgs false
namespace Go.Proofs.Ytmafibbnojdpjaa.St
open Go.Proofs.Ytmafibbnojdpjaa.Tr Go.RowKit Go.Proofs.YtmafibbnojdpjaaW.PrintWords Go.Proofs.YtmafibbnojdpjaaW.PrintLast Go.Proofs.YtmafibbnojdpjaaW.PrintMore Go.Proofs.Ytmafibbnojdpjaa.P
theorem show_all (M : StM) (q : Int) : showM M ⟨#[]⟩ ⟨#[]⟩ q = M.K.flatMap fun b => sh M q b.1 := by
  unfold showM
  rw [List.filter_eq_self.2 (fun a _ => by simp), List.filter_eq_self.2 (fun a _ => by simpa using kl_nil a.1)]
theorem flat_sh (M : StM) (q : Int) (K : List KC) : (K.flatMap fun b => sh M q b.1) = ((K.map (·.1)).filter fun k => (getO M k q).isSome).map fun k => (k, (getO M k q).getD ⟨#[]⟩) := by
  induction K with
  | nil => rfl
  | cons b K ih =>
    rw [List.flatMap_cons, ih, List.map_cons, List.filter_cons]
    unfold sh
    cases hg : getO M b.1 q with
    | none => simp
    | some v => simp [hg]
theorem getO_com {M : StM} (h : Inv M) {c : Cm} (hg : goodC M c = true) {q : Int} (hq : q ≤ lastM M) (z : ByteArray) : getO (comM M c) z q = getO M z q := by
  obtain ⟨h1, h2, h3, h4, h5, h6⟩ := goodC_iff.1 hg
  unfold getO atO
  rw [show (comM M c).K = putAll c.f0 M.K c.f2 from rfl, chain_putAll c.f2 (right_pair h5) M.K h.srt z]
  have : cutV (chainK M.K z ++ (c.f2.filter fun x => decide (x.f0 = z)).map (verOf c.f0)) q = cutV (chainK M.K z) q := by
    unfold cutV
    rw [List.filter_append]
    have : ((c.f2.filter fun x => decide (x.f0 = z)).map (verOf c.f0)).filter (fun v => decide (v.f0 ≤ q)) = [] := by
      rw [List.filter_eq_nil_iff]
      intro v hv
      obtain ⟨x, _, rfl⟩ := List.mem_map.1 hv
      show ¬ decide (c.f0 ≤ q) = true
      rw [decide_eq_true_eq]
      omega
    rw [this, List.append_nil]
  rw [this]
theorem getO_run {q : Int} (z : ByteArray) : ∀ (cs : List Cm) {M M' : StM}, Inv M → q ≤ lastM M → runM M cs = some M' → getO M' z q = getO M z q ∧ Inv M' ∧ q ≤ lastM M' ∧ M'.K.length ≤ M.K.length + 200 * cs.length
  | [], M, M', hi, hq, h => by cases h; exact ⟨rfl, hi, hq, Nat.le_refl _⟩
  | c :: cs, M, M', hi, hq, h => by
    unfold runM at h
    split at h
    · rename_i hg
      have hl : lastM (comM M c) = lastM M + 1 := last_com M c
      have hq2 : q ≤ lastM (comM M c) := by omega
      obtain ⟨g1, g2, g3, g4⟩ := getO_run z cs (inv_com hi hg) hq2 h
      refine ⟨g1.trans (getO_com hi hg hq z), g2, g3, ?_⟩
      have h5 := (goodC_iff.1 hg).2.2.2.2.1
      unfold rightW at h5
      rw [Bool.and_eq_true, decide_eq_true_eq] at h5
      have := putAll_length (s := c.f0) c.f2 M.K
      have e : (comM M c).K.length ≤ M.K.length + c.f2.length := this
      rw [List.length_cons]
      omega
    · cases h
theorem newAll_map {s : Int} (ws : List Wr) (hw : ws.Pairwise fun a b => kl a.f0 b.f0) : newAll s ws = ws.map fun x => (x.f0, [(⟨s, x.f1, false⟩ : Ver)]) := by
  suffices H : ∀ (ws : List Wr) (K : List KC), ws.Pairwise (fun a b => kl a.f0 b.f0) → (∀ b ∈ K, ∀ x ∈ ws, kl b.1 x.f0) → ws.foldl (newPut s) K = K ++ ws.map fun x => (x.f0, [(⟨s, x.f1, false⟩ : Ver)]) by
    simpa [newAll] using H ws [] hw (fun b hb => by cases hb)
  intro ws
  induction ws with
  | nil => intro K _ _; simp
  | cons x ws ih =>
    intro K hp hK
    obtain ⟨h1, h2⟩ := List.pairwise_cons.1 hp
    have e : newPut s K x = K ++ [(x.f0, [(⟨s, x.f1, false⟩ : Ver)])] := by
      unfold newPut insK
      rw [List.filter_eq_self.2 (fun a ha => by simpa using hK a ha x (List.mem_cons_self ..)), List.filter_eq_nil_iff.2 (fun a ha => by simpa using kl_anti (hK a ha x (List.mem_cons_self ..)))]
      simp
    rw [List.foldl_cons, e, ih _ h2 ?_]
    · simp
    · intro b hb y hy
      rcases List.mem_append.1 hb with hb | hb
      · exact hK b hb y (List.mem_cons_of_mem _ hy)
      · rw [List.mem_singleton] at hb
        subst hb
        exact h1 y hy
theorem getO_new {q : Int} {ws : List Wr} (hw : ws.Pairwise fun a b => kl a.f0 b.f0) (z : ByteArray) : (∀ x ∈ ws, x.f0 = z → getO (newM q ws) z q = some x.f1) ∧ ((getO (newM q ws) z q).isSome = true → ∃ x ∈ ws, x.f0 = z) := by
  have hs : SrtK (newM q ws).K := by
    show SrtK (newAll q ws)
    rw [newAll_map ws hw]
    unfold SrtK
    rw [List.pairwise_map]
    exact hw
  have hK : (newM q ws).K = ws.map fun x => (x.f0, [(⟨q, x.f1, false⟩ : Ver)]) := newAll_map ws hw
  constructor
  · rintro x hx rfl
    have := getK_some hs (a := (x.f0, [(⟨q, x.f1, false⟩ : Ver)])) (by rw [hK]; exact List.mem_map.2 ⟨x, hx, rfl⟩)
    unfold getO chainK
    rw [this]
    simp [atO, cutV]
  · intro h
    unfold getO chainK at h
    cases hg : getK (newM q ws).K z with
    | none => rw [hg] at h; simp [atO, cutV] at h
    | some c =>
      have := getK_mem hg
      rw [hK] at this
      obtain ⟨x, hx, e⟩ := List.mem_map.1 this
      injection e with e1 e2
      exact ⟨x, hx, e1⟩
end Go.Proofs.Ytmafibbnojdpjaa.St
end
