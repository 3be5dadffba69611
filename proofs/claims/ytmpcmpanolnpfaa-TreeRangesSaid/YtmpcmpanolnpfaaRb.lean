/- Range's contract. -/
import Derived.Test.YtmpcmpanolnpfaaRa
import Derived.Test.YtmpcmpanolnpfaaGb2
set_option linter.unusedVariables false
set_option linter.unusedSimpArgs false
namespace Go.Proofs.Ytmpcmpanolnpfaa.Tr
open Go.RowKit Go.Proofs.YtmpcmpanolnpfaaW.PrintWords Go.Proofs.YtmpcmpanolnpfaaW.PrintLast Go.Proofs.YtmpcmpanolnpfaaW.PrintMore
attribute [local go_sem] Oper.semAt_some

def inTo (y : ByteArray) (a : Pair) : Bool := decide (y = ⟨#[]⟩) || decide (kl a.1 y)
def rangeL (Z : List Pair) (x y : ByteArray) : List Pair := (fromL Z x).filter (inTo y)
theorem inTo_mono {y : ByteArray} {a b : Pair} (h : kl a.1 b.1) (hb : inTo y b = true) : inTo y a = true := by
  unfold inTo at *
  rw [Bool.or_eq_true, decide_eq_true_eq, decide_eq_true_eq] at *
  rcases hb with hb | hb
  · exact .inl hb
  · exact .inr (kl_trans h hb)
theorem srt_from {Z : List Pair} (h : SrtZ Z) (x : ByteArray) : SrtZ (fromL Z x) := List.Pairwise.filter _ h
/-- all of a beginning below: the range begins so -/
theorem range_pre {Z : List Pair} {x y : ByteArray} {p : List Pair} (hp : p <+: fromL Z x) (ha : ∀ a ∈ p, inTo y a = true) : p <+: rangeL Z x y := by
  have := hp.filter (inTo y)
  rwa [List.filter_eq_self.2 ha] at this
theorem range_all {Z : List Pair} {x y : ByteArray} (ha : ∀ a ∈ fromL Z x, inTo y a = true) : rangeL Z x y = fromL Z x := List.filter_eq_self.2 ha
/-- the first that is not below ends the range -/
theorem range_end {Z : List Pair} (h : SrtZ Z) {x y : ByteArray} {p : List Pair} {b : Pair} (hp : p ++ [b] <+: fromL Z x) (ha : ∀ a ∈ p, inTo y a = true) (hb : inTo y b = false) : rangeL Z x y = p := by
  obtain ⟨t, ht⟩ := hp
  have hs := srt_from h x
  unfold rangeL
  rw [← ht] at hs ⊢
  rw [List.append_assoc, List.filter_append, List.filter_eq_self.2 ha, List.filter_eq_nil_iff.2, List.append_nil]
  intro c hc
  rw [List.singleton_append, List.mem_cons] at hc
  rcases hc with rfl | hc
  · rw [hb]; decide
  · intro hcc
    have hlt : kl b.1 c.1 := by
      rw [List.append_assoc] at hs
      have := (List.pairwise_append.1 hs).2.1
      exact (List.pairwise_cons.1 this).1 c hc
    rw [inTo_mono hlt hcc] at hb
    cases hb
theorem boxed_const {β : Type} (B : Nat) (b : Nat) (t : TypeId) (v : Value) : OwnFrom B (fun (_ : β) W => Boxed W b t v) := Own.from (boxed_own b t (fun _ => v)) B
theorem own_up {β : Type} {B B' : Nat} {I : β → World → Prop} (h : OwnFrom B I) (hb : B ≤ B') : OwnFrom B' I := fun s W W' row hs hg hr => h s W W' row hs hg (fun r e => ⟨Nat.le_trans hb (hr r e).1, (hr r e).2⟩)
set_option maxRecDepth 100000 in
set_option maxHeartbeats 4000000 in
theorem range_stops (n : Nat) (hn : 2 ≤ n) (bt bf bo g : Nat) (B : Nat → Prop) (x y : ByteArray) (Z : List Pair) (w : World) (hB1 : B bt) (hB2 : B bf) (hB3 : B bo) (hlen : Z.length ≤ maxTree) (hT : TreeAt B w g (Z.map zi))
    (h1 : Boxed w bt 25 (.pointer (some ⟨g, 0, none⟩))) (h2 : Boxed w bf 9 (.string x)) (h3 : Boxed w bo 9 (.string y)) (hBl : ∀ k, B k → k < w.heap.size) :
    SeqO n Try.prog 35 #[.pointer (some ⟨bt, 0, none⟩), .pointer (some ⟨bf, 0, none⟩), .pointer (some ⟨bo, 0, none⟩)] (fun a : El Z => pe a.1) B (fun xs => vals xs = rangeL Z x y) (fun pre => vals pre <+: rangeL Z x y) Z.length w :=
  fun l J Jx W hW hJ hJx hY h0 => by
    have hn1 : 1 ≤ n := by omega
    have SZ := Aside0.mk (srtZ_of hT.srt)
    obtain ⟨V, hV⟩ : ∃ V, V = W.alloc (.cells #[.func (.yield l) #[] #[]] 29) := ⟨_, rfl⟩
    have hbV : Below W.heap.size W V := by rw [hV]; exact below_alloc (Below.refl _ _) _
    have hVs : V.heap.size = W.heap.size + 1 := by rw [hV, World.size_alloc]
    have YX : Boxed V W.heap.size 29 (.func (.yield l) #[] #[]) := by rw [hV]; exact Boxed.new _ _ _
    have hws := hW.size
    have b1 := Boxed.upB (Boxed.upB h1 hW) hbV
    have b2 := Boxed.upB (Boxed.upB h2 hW) hbV
    have b3 := Boxed.upB (Boxed.upB h3 hW) hbV
    have c1 := b1.cell
    have c2 := b2.cell
    have TV := Aside0.mk ((hT.below hW).below hbV)
    have B3 := Aside0.mk b3
    have HJ0 : Aside0 (J [] V) := ⟨by rw [hV]; exact hJ.alloc _ h0⟩
    have HY := Aside0.mk hY
    have HVS := Aside0.mk hVs
    have HBl : Aside0 (∀ k, B k → k < W.heap.size) := ⟨fun k hk => Nat.lt_of_lt_of_le (hBl k hk) hws⟩
    clear hT h1 h2 h3 b1 b2 b3 hY h0 hbV hVs
    refine callsIn_of_wp_marks Try.func35 rfl trivial ?_ rfl
    simp only [Try.ntmps35, List.size_toArray, List.length_cons, List.length_nil, Nat.reduceAdd, Nat.reduceSub, Array.replicate_succ, Array.replicate_zero, List.push_toArray, List.append_toArray, List.nil_append, List.cons_append]
    rw [hV] at c1 c2
    have HV := Aside0.mk hV
    clear hV
    gi_wp2_with (first
      | (refine ⟨trivial, ?_⟩; gi_at_call 13; refine (callsIn_wide.2 (from_any _ _ _)).mono ?_; rintro e w6 ⟨rfl, rfl⟩))
    have hV := HV.out
    have hVs := HVS.out
    rw [← hV, ← hVs]
    clear hV c1 c2
    obtain ⟨W2, hW2⟩ : ∃ W2, W2 = (V.alloc (.cells #[.pointer (some ⟨g, 0, none⟩)] 25)).alloc (.cells #[.string x] 9) := ⟨_, rfl⟩
    rw [← hW2]
    have hb2 : Below V.heap.size V W2 := by rw [hW2]; exact ((Below.refl _ _).alloc (Nat.le_refl _) _).alloc (by simp) _
    have hz2 : W2.heap.size = V.heap.size + 2 := by rw [hW2]; simp
    have bx1 : Boxed W2 V.heap.size 25 (.pointer (some ⟨g, 0, none⟩)) := by rw [hW2]; exact (Boxed.new _ _ _).alloc _
    have bx2 : Boxed W2 (V.heap.size + 1) 9 (.string x) := by
      rw [hW2]
      have := Boxed.new (V.alloc (.cells #[.pointer (some ⟨g, 0, none⟩)] 25)) 9 (.string x)
      rw [World.size_alloc] at this
      exact this
    have HJ2 : Aside0 (J [] W2) := ⟨by rw [hW2]; exact hJ.alloc _ (hJ.alloc _ HJ0.out)⟩
    clear hW2
    have hseq := SeqO.of (from_stops (n - 1) (by omega) V.heap.size (V.heap.size + 1) g (fun k => B k ∨ k = V.heap.size ∨ k = V.heap.size + 1) x Z W2 (.inr (.inl rfl)) (.inr (.inr rfl)) hlen
      ((TV.out.turn (G := fun k => B k ∨ k = V.heap.size ∨ k = V.heap.size + 1) (fun k _ hk => .inl hk)).below hb2) bx1.cell bx2.cell)
    refine' rangeO rfl (enters_of Try.func30 (by kernel_rfl) rfl) (by omega) hseq (Below.refl _ _) (fun k hk => by rcases hk with hk | hk | hk; exact Nat.lt_trans (HBl.out k hk) (by omega); omega; omega) (fun _ => rfl)
      (fun pre X => (J pre X ∧ (∀ a ∈ vals pre, inTo y a = true)) ∧ (Boxed X W.heap.size 29 (.func (.yield l) #[] #[]) ∧ Boxed X bo 9 (.string y)))
      (fun c pre X => c = .ret ∧ ((Jx pre X ∧ (∀ a ∈ vals pre, inTo y a = true)) ∨ (∃ (p : List (El Z)) (b : El Z), pre = p ++ [b] ∧ J p X ∧ (∀ a ∈ vals p, inTo y a = true) ∧ inTo y b.1 = false)))
      (OwnFrom.and (OwnFrom.and (own_up hJ (by omega)) (ownFrom_pure _ _)) (OwnFrom.and (boxed_const _ _ _ _) (boxed_const _ _ _ _)))
      (fun c s A B row hs hg hr => ?hix)
      ⟨⟨HJ2.out, by simp [vals]⟩, ?hbx⟩ _ ?assign ?body ?done ?stop
    case hix =>
      obtain ⟨q0, hs⟩ := hs
      refine ⟨q0, ?_⟩
      rcases hs with ⟨q1, q2⟩ | ⟨p, b, q1, q2, q3⟩
      · exact .inl ⟨own_up hJx (by omega) _ _ _ _ q1 hg hr, q2⟩
      · exact .inr ⟨p, b, q1, own_up hJ (by omega) _ _ _ _ q2 hg hr, q3⟩
    case hbx => exact ⟨Boxed.upB YX hb2, Boxed.upB B3.out hb2⟩
    case assign =>
      intro l2 x W K hK
      dsimp only [pe]
      gi_wp2
      exact hK
    case body =>
      rintro l2 pre e X ⟨⟨hj, ha⟩, hy, hbo⟩ hl
      have c0 := hbo.cell
      have cy := hy.cell
      obtain ⟨fn, tmps, asg, bdy, hyy, hF, hr⟩ := HY.out pre e X hj hl
      have hin : inTo y e.1 = true → ∀ a ∈ vals (pre ++ [e]), inTo y a = true := fun h a hm => by
        rw [vals_snoc, List.mem_append, List.mem_singleton] at hm
        rcases hm with hm | rfl
        · exact ha a hm
        · exact h
      have HIN := Aside0.mk hin
      have HA := Aside0.mk ha
      have HYB := Aside0.mk hy
      have HBO := Aside0.mk hbo
      have HJp := Aside0.mk hj
      obtain ⟨⟨ek, ev⟩, he⟩ := e
      simp only [pe] at hyy
      have HR := Aside0.mk hr
      clear hin ha hy hbo hr hF hj
      have step : ∀ (e' : Ending) (X' : World), (e' = .returned (.bool true) ∧ J (pre ++ [⟨(ek, ev), he⟩]) X' ∧ Kb (fun k => B k ∨ W.heap.size ≤ k) X X') → inTo y (ek, ev) = true →
          KeepsFrom W2.heap.size X X' ∧ Kb (fun k => (B k ∨ k = V.heap.size ∨ k = V.heap.size + 1) ∨ W2.heap.size + 2 ≤ k) X X' ∧ (J (pre ++ [⟨(ek, ev), he⟩]) X' ∧ (∀ a ∈ vals (pre ++ [⟨(ek, ev), he⟩]), inTo y a = true)) ∧ (Boxed X' W.heap.size 29 (.func (.yield l) #[] #[]) ∧ Boxed X' bo 9 (.string y)) := fun e' X' h hi => by
        obtain ⟨_, h2, h3⟩ := h
        refine ⟨⟨h3.size, fun k o hk ho hc => (h3.block k (.inr (by omega)) (Array.getElem?_eq_some_iff.1 ho).1).trans ho⟩, h3.imp (fun k hk => ?_), ⟨h2, HIN.out hi⟩, (h3.block _ (.inr (Nat.le_refl _)) HYB.out.lt).trans HYB.out, (h3.block _ (.inl hB3) HBO.out.lt).trans HBO.out⟩
        rcases hk with (hk | hk | hk) | hk
        · exact .inl hk
        · exact .inr (by omega)
        · exact .inr (by omega)
        · exact .inr (by omega)
      have STEP := Aside0.mk step
      clear step
      by_cases hy0 : y = ⟨#[]⟩
      · have hi : inTo y (ek, ev) = true := by simp [inTo, hy0]
        have HI := Aside0.mk hi
        clear hi
        gi_wp2
        refine ⟨fun h => (by simp [Fence.wide] at h), RoundIn.mono (⟨trivial, fun c cs _ => HR.out c cs (room_wide _)⟩ : RoundIn (Fence.wide.inRound l2) _ Try.prog l fn tmps asg bdy X _) ?_⟩
        rintro e' X' (h | ⟨rfl, hj', hk'⟩)
        · have hq := Aside0.mk (STEP.out e' X' h HI.out)
          obtain rfl := h.1
          clear h
          gi_wp2
          exact hq.out
        · gi_wp2
          exact ⟨⟨hk'.size, fun k o hk ho hc => hk'.same k o (by omega) ho hc⟩, rfl, .inl ⟨hj', HIN.out HI.out⟩⟩
      · have hyE : y.toList.isEmpty = false := by
          rw [ByteArray.toList_eq]
          cases hd : y.data.toList with
          | nil => exact absurd (show y = ⟨#[]⟩ by cases y; simp at hd; rw [hd]) hy0
          | cons _ _ => rfl
        by_cases hkl : kl ek y
        · have hbl : Op.bytesLess ek.toList y.toList = true := by rw [cb_less, ByteArray.toList_eq, ByteArray.toList_eq]; exact decide_eq_true hkl
          have HI : Aside0 (inTo y (ek, ev) = true) := ⟨by simp [inTo, hkl]⟩
          gi_wp2
          refine ⟨fun h => (by simp [Fence.wide] at h), RoundIn.mono (⟨trivial, fun c cs _ => HR.out c cs (room_wide _)⟩ : RoundIn (Fence.wide.inRound l2) _ Try.prog l fn tmps asg bdy X _) ?_⟩
          rintro e' X' (h | ⟨rfl, hj', hk'⟩)
          · have hq := Aside0.mk (STEP.out e' X' h HI.out)
            obtain rfl := h.1
            clear h
            gi_wp2
            exact hq.out
          · gi_wp2
            exact ⟨⟨hk'.size, fun k o hk ho hc => hk'.same k o (by omega) ho hc⟩, rfl, .inl ⟨hj', HIN.out HI.out⟩⟩
        · have hbl : Op.bytesLess ek.toList y.toList = false := by rw [cb_less, ByteArray.toList_eq, ByteArray.toList_eq]; exact decide_eq_false hkl
          have HI : Aside0 (inTo y (ek, ev) = false) := ⟨by simp [inTo, hy0, hkl]⟩
          gi_wp2
          refine ⟨fun _ h => (by cases h), ?_⟩
          gi_wp2
          exact ⟨KeepsFrom.refl _ _, rfl, .inr ⟨pre, _, rfl, HJp.out, HA.out, HI.out⟩⟩
    case done =>
      rintro D xs X hD hxs ⟨⟨hj, ha⟩, _, _⟩ hK
      replace hxs : vals xs = fromL Z x := hxs
      rw [hxs] at ha
      gi_wp2
      refine ⟨by simp, .inl ⟨_, _, rfl, run_takeDeferred hK, ?_⟩⟩
      exact ⟨_, results_none rfl _ _ _, ⟨_, rfl⟩, .inl ⟨xs, hxs.trans (range_all ha).symm, hJ.putObj _ hj (by omega) hK rfl⟩⟩
    case stop =>
      rintro D c pre X hD hsp ⟨rfl, hx⟩ hK
      replace hsp : vals pre <+: fromL Z x := hsp
      gi_wp2
      refine ⟨by simp, .inl ⟨_, _, rfl, run_takeDeferred hK, ?_⟩⟩
      refine ⟨_, results_none rfl _ _ _, ⟨_, rfl⟩, ?_⟩
      rcases hx with ⟨q1, q2⟩ | ⟨p, b, rfl, q1, q2, q3⟩
      · exact .inr ⟨pre, range_pre hsp q2, hJx.putObj _ q1 (by omega) hK rfl⟩
      · rw [vals_snoc] at hsp
        exact .inl ⟨p, (range_end SZ.out hsp q2 q3).symm, hJ.putObj _ q1 (by omega) hK rfl⟩
end Go.Proofs.Ytmpcmpanolnpfaa.Tr
