/- Lemmas that the proof needs, part 15. -/
import Derived.Maps.OwnIn
import Derived.Test.YtmafibbnojdpjaaWKept
import Derived.Deep.RegionHeld3
import Derived.Test.YtmafibbnojdpjaaWWords
import Derived.Test.YtmafibbnojdpjaaSf1
import Derived.Test.YtmafibbnojdpjaaSf2
import Derived.Test.YtmafibbnojdpjaaSf3
import Derived.Test.YtmafibbnojdpjaaSf4
import Derived.Test.YtmafibbnojdpjaaSf5
import Derived.Test.YtmafibbnojdpjaaSf6
import Derived.Test.YtmafibbnojdpjaaSf7
import Derived.Test.YtmafibbnojdpjaaSf8
import Derived.Test.YtmafibbnojdpjaaSf9
import Derived.Test.YtmafibbnojdpjaaSf10
import Derived.Test.YtmafibbnojdpjaaSf11
import Derived.Test.YtmafibbnojdpjaaSf12
import Derived.Test.YtmafibbnojdpjaaSf13
import Derived.Test.YtmafibbnojdpjaaSf14
section
set_option linter.unusedVariables false
set_option maxRecDepth 100000
set_option linter.unusedSimpArgs false
namespace Go.Proofs.Ytmafibbnojdpjaa.St
open Go.Proofs.Ytmafibbnojdpjaa.Tr Go.RowKit Go.Proofs.YtmafibbnojdpjaaW.PrintWords Go.Proofs.YtmafibbnojdpjaaW.PrintLast Go.Proofs.YtmafibbnojdpjaaW.PrintMore Go.Proofs.Ytmafibbnojdpjaa.P
attribute [local go_sem] Oper.semAt_some
theorem R_append_in {F : Fence} {n : Nat} {P : Program} {ops : Array Oper} {rest : List Oper} {o : Oper} {a : Act} {Q : Exit → Act → World → Prop} {α : Type} (d : Kd α) {W V : World} (cs : List Value) (e : TypeId) (hV : V = W.alloc (.cells cs.toArray e)) (base : Nat) (hgd : o.guard = none) (s x : Operand) (t : TypeId) (z : Value) (bytes : Nat)
    (ho : o.op = .call { callee := .builtin .append, args := #[s, x], argTypes := #[t, t] })
    (ht : P.underlying t = some (.slice e)) (hinfo : (P.info? e).map (fun i => (i.zero, i.size, i.bytes)) = some (some z, d.sz, bytes)) (hz : z.cells.size = d.sz) (hs0 : 0 < d.sz) (hb0 : 0 < bytes)
    (v : Value) (xs : List α) (p : α) (ok okp : Nat → Prop) (hs : a.eval s = v) (hx : a.eval x = .slice (some ⟨W.heap.size, 0, none⟩) 1 1) (hp : d.M W base okp p cs) (hokp : ∀ k, okp k → ok k ∧ some k ≠ v.ownBlock) (hfresh : ∀ k, W.heap.size ≤ k → ok k)
    (HO : d.R e W base ok v xs) (hbase : base ≤ W.heap.size) (hl : (xs.length + 1) * bytes ≤ 140737488355328)
    (h : ∀ v1 w1, d.R e w1 base ok v1 (xs ++ [p]) → W.grownBy w1 v.ownBlock → wpListIn F n P ops Q rest (a.put o.dst v1) w1) :
    wpListIn F n P ops Q (o :: rest) a V := by
  subst hV
  obtain ⟨h0, inner, hown, hr⟩ := HO
  obtain ⟨i0, hi, hzz⟩ := Option.map_eq_some_iff.1 hinfo
  simp only [Prod.mk.injEq] at hzz
  obtain ⟨hz0, hz1, hz2⟩ := hzz
  have hlen : xs.length + 1 ≤ 140737488355328 := Nat.le_trans (Nat.le_mul_of_pos_right _ hb0) hl
  refine wpListIn_append_own_at (W.alloc (.cells cs.toArray e)) hgd s x t ho base e i0 z d.sz bytes ht hi hz0 hz1 hz2 hz hs0 v xs.length inner hs (hown.alloc _) ⟨W.heap.size, 0, none⟩ 1 1 cs hx (by rw [d.K_len (d.K_of_M hp)]; simp)
    (by simpa using World.news_of_block (cs := cs.toArray) (t := e) (fr := (0, 0)) (heap_alloc_new W (.cells cs.toArray e))) (d.K_one (d.K_of_M hp)) (by simp only [maxLen]; omega) hl (by simp; omega) ?_
  intro v1 w1 hown1 hg _ hat
  have hg1 := World.grownBy.trans (World.grownBy_alloc W _ _) hg
  refine h v1 w1 (Kd.R_appended h0 hr hp hokp hfresh hown1 hg1 ?_) hg1
  rcases hat with hat | hat
  · exact .inl hat
  · exact .inr ⟨_, hat, by simp⟩
variable {G : Nat → Prop} {col : Nat → Nat} {w w' : World} {s : Nat} {M : StM} {H : Value} {L : List Tr.Item}
end Go.Proofs.Ytmafibbnojdpjaa.St
end
section
set_option linter.unusedVariables false
set_option maxRecDepth 100000
set_option linter.unusedSimpArgs false
namespace Go.Proofs.Ytmafibbnojdpjaa.St
open Go.Proofs.Ytmafibbnojdpjaa.Tr Go.RowKit Go.Proofs.YtmafibbnojdpjaaW.PrintWords Go.Proofs.YtmafibbnojdpjaaW.PrintLast Go.Proofs.YtmafibbnojdpjaaW.PrintMore Go.Proofs.Ytmafibbnojdpjaa.P
attribute [local go_sem] Oper.semAt_some
variable {G : Nat → Prop} {col : Nat → Nat} {w w' : World} {s : Nat} {M : StM} {H : Value} {L : List Tr.Item}
/-- how many versions -/
def versM (M : StM) : Nat := (M.K.map (·.2.length)).sum
def lenZ (Z : List Tr.Pair) : Nat := (Z.map (·.2.2.1)).sum
theorem lenZ_snoc (Z : List Tr.Pair) (a : Tr.Pair) : lenZ (Z ++ [a]) = lenZ Z + a.2.2.1 := by simp [lenZ]
theorem F2_lens {R : Tr.Pair → KC → Prop} (hR : ∀ a b, R a b → a.2.2.1 = b.2.length) : ∀ {Z : List Tr.Pair} {K : List KC}, F2 R Z K → lenZ Z = (K.map (·.2.length)).sum
  | [], [], _ => rfl
  | a :: l, b :: m, h => by
    have := F2_lens hR h.2
    unfold lenZ at *
    rw [List.map_cons, List.map_cons, List.sum_cons, List.sum_cons, hR a b h.1, this]
  | [], b :: m, h => h.elim
  | a :: l, [], h => h.elim
theorem lenZ_le (B : Nat) (Z : List Tr.Pair) (h : ∀ a ∈ Z, a.2.2.1 ≤ B) : lenZ Z ≤ Z.length * B := by
  induction Z with
  | nil => simp [lenZ]
  | cons a Z ih =>
    have h1 := h a (List.mem_cons_self ..)
    have h2 := ih (fun b hb => h b (List.mem_cons_of_mem _ hb))
    unfold lenZ at *
    rw [List.map_cons, List.sum_cons, List.length_cons, Nat.succ_mul]
    omega
set_option maxHeartbeats 8000000 in
theorem versions_any (h : StoreC G col w s M H L) (hinv : Inv M) (hsz : M.K.length ≤ 2000000) :
    Calls Try.prog 45 #[.pointer (some ⟨s, 0, none⟩)] w fun e w' => e = .returned (.int .i64 (versM M : Int)) ∧ Below w.heap.size w w' := by
  obtain ⟨Z, hZ, hF⟩ := store_Z h.ch
  have hT := h.tree.turn (G := fun k => k < w.heap.size) (fun k hk _ => hk)
  rw [hZ] at hT
  have hlenS : lenZ Z = versM M := F2_lens (fun a b q => q.2.2) hF
  have hkeys := F2_keys (fun a b h => h.1) hF
  have hZl : Z.length = M.K.length := by rw [← List.length_map (f := (·.1)), hkeys, List.length_map]
  have hZb : ∀ a ∈ Z, a.2.2.1 ≤ 1099511627777 := fun a ha => by
    obtain ⟨b, hb, q⟩ := hF.left a ha
    have h1 := ch_len (hinv.ch b hb).1 (by have := hinv.last0; omega)
    have h2 := hinv.last
    unfold maxSeq at h2
    have := q.2.2
    omega
  have HT := Aside0.mk hT
  have HZB := Aside0.mk hZb
  clear h hT hF hZb hkeys
  refine (callsIn_wide (n := 5)).1 (callsIn_of_wp_marks Try.func45 rfl trivial ?_ rfl)
  simp only [Try.ntmps45, List.size_toArray, List.length_cons, List.length_nil, Nat.reduceAdd, Nat.reduceSub, Array.replicate_succ, Array.replicate_zero, List.push_toArray, List.append_toArray, List.nil_append, List.cons_append]
  refine wpIn_wide.2 ?_
  go_wp2_with (go_at_call 79; refine (from_any _ _ _).mono ?_; rintro e w6 ⟨rfl, hw6⟩; have HW6 := Aside0.mk hw6; clear hw6)
  have hw6 := HW6.out
  clear HW6
  have hz6 : w6.heap.size = w.heap.size + 3 := by rw [hw6]; simp
  have x0 : Boxed w6 w.heap.size 3 (.int .i64 0) := by
    rw [hw6]
    exact ((Boxed.new w 3 (.int .i64 0)).alloc _).alloc _
  have x1 : Boxed w6 (w.heap.size + 1) 149 (.pointer (some ⟨s, 0, none⟩)) := by
    rw [hw6]
    have := (Boxed.new (w.alloc (.cells #[.int .i64 0] 3)) 149 (.pointer (some ⟨s, 0, none⟩))).alloc (.cells #[.string ⟨#[]⟩] 9)
    rwa [World.size_alloc] at this
  have x2 : Boxed w6 (w.heap.size + 1 + 1) 9 (.string ⟨#[]⟩) := by
    rw [hw6]
    have := Boxed.new ((w.alloc (.cells #[.int .i64 0] 3)).alloc (.cells #[.pointer (some ⟨s, 0, none⟩)] 149)) 9 (.string ⟨#[]⟩)
    rwa [World.size_alloc, World.size_alloc] at this
  have hb6 : Below w.heap.size w w6 := by rw [hw6]; exact below_alloc (below_alloc (below_alloc (Below.refl _ _) _) _) _
  clear hw6
  refine (wpIn_wide (n := 5)).1 ?_
  have hseq := SeqO.of (F := fun _ => True) (from_stops (n := 4) (by omega) (w.heap.size + 1) (w.heap.size + 1 + 1) s (fun k => k < w6.heap.size ∧ k ≠ w.heap.size) ⟨#[]⟩ Z w6 ⟨by omega, by omega⟩ ⟨by omega, by omega⟩ (by rw [hZl]; unfold maxTree; omega)
    ((HT.out.below hb6).turn (fun k _ hk => ⟨by omega, Nat.ne_of_lt hk⟩)) x1.cell x2.cell)
  have HB6 := Aside0.mk hb6
  clear x1 x2 hb6
  refine' rangeO rfl (enters_of Try.func103 (by kernel_rfl) rfl) (by omega) hseq (Below.refl _ _) (fun k hk => hk.1) (fun _ => rfl)
    (fun pre X => Boxed X w.heap.size 3 (.int .i64 (lenZ (vals pre) : Int)) ∧ Below w.heap.size w X)
    (fun c pre X => False) (OwnFrom.and (fun s A C row a b c => boxed_const _ _ _ _ s A C row a b c) (ownFrom_below (Nat.le_refl _) (by omega))) (fun c s A B row hs hg hr => hs) ⟨x0, HB6.out⟩ _ ?assign ?body ?done ?stop
  case assign =>
    intro l2 x W K hK
    dsimp only [pe]
    gi_wp2
    exact hK
  case body =>
    rintro l2 pre e X ⟨h1, h3⟩ hl
    have c0 := h1.cell
    have z0 := h1.frozen
    obtain ⟨⟨ek, ea, en, ec⟩, he⟩ := e
    have h0 := HZB.out _ he
    have h2 := lenZ_le 1099511627777 (vals pre) (fun a ha => by obtain ⟨b, _, rfl⟩ := List.mem_map.1 ha; exact HZB.out _ b.2)
    rw [show (vals pre).length = pre.length from List.length_map ..] at h2
    have h4 : lenZ (vals pre) ≤ 2000000 * 1099511627777 := Nat.le_trans h2 (Nat.mul_le_mul_right _ (by omega))
    have hsn : lenZ (vals (pre ++ [⟨(ek, ea, en, ec), he⟩])) = lenZ (vals pre) + en := by rw [vals_snoc, lenZ_snoc]
    dsimp only at h0
    have hadd : IntKind.i64.wrap ((lenZ (vals pre) : Int) + (en : Int)) = ((lenZ (vals pre) + en : Nat) : Int) := by
      rw [IntKind.wrap_i64]
      push_cast
      omega
    have hadd2 : wrap64 ((lenZ (vals pre) : Int) + (en : Int)) = ((lenZ (vals pre) + en : Nat) : Int) := by
      rw [w64 (by omega) (by omega)]
      push_cast
      rfl
    have HX1 := Aside0.mk h1
    have HX3 := Aside0.mk h3
    have HSN := Aside0.mk hsn
    dsimp only [pe, SV]
    clear h1 h3 h0 h2 h4 hsn
    generalize lenZ (vals pre) = m at *
    gi_wp2
    have far : ∀ k, k ≠ w.heap.size → (X.setCell ⟨w.heap.size, 0, none⟩ (.int .i64 ((m : Int) + (en : Int)))).heap[k]? = X.heap[k]? := fun k hk => Below.heap_setCell _ _ _ k hk
    have hs : X.heap.size ≤ (X.setCell ⟨w.heap.size, 0, none⟩ (.int .i64 ((m : Int) + (en : Int)))).heap.size := by rw [World.size_setCell]; exact Nat.le_refl _
    refine ⟨⟨hs, fun k o hk ho hc => (far k (by omega)).trans ho⟩, ⟨hs, fun k hk hl => far k hk.2, fun k o hk ho hf => (far k (by omega)).trans ho⟩, ?_, ?_⟩
    · rw [HSN.out, Int.natCast_add]
      exact HX1.out.set _
    · exact HX3.out.setCell (p := ⟨w.heap.size, 0, none⟩) (Nat.le_refl _) _
  case done =>
    rintro D xs X hD hxs ⟨h1, h3⟩ hK
    replace hxs : vals xs = fromL Z ⟨#[]⟩ := hxs
    have c0 := h1.cell
    rw [hxs, fromL_all, hlenS] at h1 c0
    have HX3 := Aside0.mk h3
    clear h1 h3
    gi_wp2
    go_wp2
    refine ⟨by simp, .inl ⟨_, _, rfl, run_takeDeferred hK, ?_⟩⟩
    exact ⟨_, results_tmp rfl _ _ _, rfl, HX3.out.trans ⟨rfl, rfl, rfl, by simp, fun k hk => World.putObj_heap_other (by omega)⟩⟩
  case stop =>
    rintro D c pre X hD hsp h hK
    exact h.elim
end Go.Proofs.Ytmafibbnojdpjaa.St
end
