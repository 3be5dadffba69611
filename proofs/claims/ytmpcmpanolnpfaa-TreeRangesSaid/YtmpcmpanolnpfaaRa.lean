/- A range over a function whose iterator itself ranges over a function: the contract's word on the iterator's own blocks (SeqO), and the caller's law for it. -/
import Derived.Test.YtmpcmpanolnpfaaGa
set_option linter.unusedVariables false
set_option linter.unusedSimpArgs false
namespace Go.Proofs.Ytmpcmpanolnpfaa.Tr
open Go.RowKit

theorem Kb.imp {B C : Nat → Prop} {W W' : World} (h : Kb C W W') (hBC : ∀ k, B k → C k) : Kb B W W' := ⟨h.size, fun k hk hl => h.block k (hBC k hk) hl⟩
/-- The iterator may turn blocks of its own that are no cells; a round leaves B's blocks and the iterator's own as they lay. -/
def SeqO {α : Type} (n : Nat) (P : Program) (g : Nat) (lb : Array Value) (encs : α → Array Value) (B : Nat → Prop) (S Sp : List α → Prop) (N : Nat) (w : World) : Prop :=
  ∀ (l : Nat) (J Jx : List α → World → Prop) (W : World), Below w.heap.size w W → OwnFrom W.heap.size J → OwnFrom W.heap.size Jx →
    (∀ pre x W1, J pre W1 → pre.length < N → YieldAt Fence.wide (n - 1) P l (encs x) W1 fun e W' =>
      (e = .returned (.bool true) ∧ J (pre ++ [x]) W' ∧ Kb (fun k => B k ∨ W.heap.size ≤ k) W1 W') ∨ (e = .returned (.bool false) ∧ Jx (pre ++ [x]) W' ∧ KeepsFrom W.heap.size W1 W')) →
    J [] W → CallsIn Fence.wide n P g (#[.func (.yield l) #[] #[]] ++ lb) W fun e W' => (∃ v, e = .returned v) ∧ ((∃ xs, S xs ∧ J xs W') ∨ (∃ pre, Sp pre ∧ Jx pre W'))
theorem abides_of_own {β : Type} {B : Nat} {J : β → World → Prop} (h : OwnFrom B J) : AbidesFrom B J := fun s W W' row hs hg hr =>
  h s W W' row hs hg (fun r e => by obtain ⟨h1, o, h2, h3⟩ := hr r e; exact ⟨h1, o, h2, Obj.not_cells_of_walk h3⟩)
theorem SeqO.of {α : Type} {n : Nat} {P : Program} {g : Nat} {lb : Array Value} {encs : α → Array Value} {B : Nat → Prop} {S Sp : List α → Prop} {N : Nat} {w : World} (h : SeqStopsK Fence.wide n P g lb encs (Kb B) S Sp N w) :
    SeqO n P g lb encs B S Sp N w := fun l J Jx W hW hJ hJx hY h0 => h l J Jx W hW (abides_of_own hJ) (abides_of_own hJx) (fun pre x W1 hj hl => (hY pre x W1 hj hl).mono (fun e W' q => by
      rcases q with ⟨h1, h2, h3⟩ | q
      · exact .inl ⟨h1, h2, h3.imp (fun k hk => .inl hk)⟩
      · exact .inr ⟨q.1, q.2.1⟩)) h0
theorem yieldAt_wide {m m' : Nat} {P : Program} {l l2 : Nat} {args : Array Value} {W : World} {R : Ending → World → Prop} (h : YieldAt Fence.wide m P l args W R) : YieldAt (Fence.wide.inRound l2) m' P l args W R := by
  obtain ⟨fn, tmps, assign, body, hy, hF, hr⟩ := h
  exact ⟨fn, tmps, assign, body, hy, trivial, fun c cs _ => hr c cs (room_wide _)⟩
section
variable {α : Type} {n : Nat} {P : Program} {Q : Exit → Act → World → Prop} {a : Act} {w : World}
/-- one round of the loop whose record lies at l and is ready -/
theorem round_at {F : Fence} {m l : Nat} {W : World} {fn : Nat} {tmps : Array Value} {ps : Array Tmp} {assign body : Code} {df : Nat} {args : Array Value} {a₁ : Act} {R : Ending → World → Prop} (hfn : F.fn fn)
    (hl : W.heap[l]? = some (.loop { state := .ready, pending := none, fn := fn, tmps := tmps, params := ps, assign := assign, body := body, defers := df })) (hs : args.size = ps.size)
    (ha : ∀ (K : Act → World → Prop), K a₁ W → assign.wpIn (F.inRound l) m P (Exit.then K (fun _ _ _ => False)) { tmps := (ps.zip args).foldl (fun t (p, v) => t.setIfInBounds p v) tmps, defers := [] } W)
    (hb : body.wpIn (F.inRound l) m P (roundPost P l R) a₁ (W.putObj l (.loop { state := .busy, pending := none, fn := fn, tmps := tmps, params := ps, assign := assign, body := body, defers := df }))) : YieldAt F m P l args W R :=
  ⟨fn, _, assign, body, run_yield hl hs, roundIn_of_wpIn hfn (ha _ ⟨_, run_beginRound hl rfl, hb⟩)⟩
theorem rangeO {g : Operand} {ps : Array Tmp} {assign body : Code} {gf : Nat} {lb : Array Value} (hg : a.eval g = .func (.func gf) #[] lb) (eg : ∀ args w, (callFunc gf args).run P w = .ok (.enter gf args) w) (h1 : 1 ≤ n)
    {encs : α → Array Value} {B : Nat → Prop} {S Sp : List α → Prop} {N : Nat} {w0 : World} (hseq : SeqO (n - 1) P gf lb encs B S Sp N w0) (hb0 : Below w0.heap.size w0 w) (hB : ∀ k, B k → k < w.heap.size) (hps : ∀ x, (encs x).size = ps.size)
    (I : List α → World → Prop) (Ix : Code → List α → World → Prop) (hI : OwnFrom w.heap.size I) (hIx : ∀ c, OwnFrom w.heap.size (Ix c)) (h0 : I [] w) (a₁ : α → Act)
    (hassign : ∀ (l : Nat) (x : α) (W : World) (K : Act → World → Prop), K (a₁ x) W →
      assign.wpIn (Fence.wide.inRound l) (n - 1 - 1) P (Exit.then K (fun _ _ _ => False)) { tmps := (ps.zip (encs x)).foldl (fun t (p, v) => t.setIfInBounds p v) a.tmps, defers := [] } W)
    (hbody : ∀ (l : Nat) (pre : List α) (x : α) (W : World), I pre W → pre.length < N → body.wpIn (Fence.wide.inRound l) (n - 1 - 1) P (ownPostG w.heap.size (Kb (fun k => B k ∨ w.heap.size + 2 ≤ k)) I Ix (pre ++ [x]) W) (a₁ x) W)
    (hdone : ∀ (D : Nat) (xs : List α) (W : World), w.heap.size ≤ D → S xs → I xs W → W.heap[D]? = some (.deferred (some [])) → Q .normal { a with defers := { target := .collected D, args := #[] } :: a.defers } W)
    (hstop : ∀ (D : Nat) (c : Code) (pre : List α) (W : World), w.heap.size ≤ D → Sp pre → Ix c pre W → W.heap[D]? = some (.deferred (some [])) → c.wpIn Fence.wide n P Q { a with defers := { target := .collected D, args := #[] } :: a.defers } W) :
    (Code.rangeFunc g ps assign body).wpIn Fence.wide n P Q a w := by
  refine wpIn_rangeFunc fun fn hfn => ?_
  let rec0 : LoopState → Option Code → Loop := fun st pe => { state := st, pending := pe, fn := fn, tmps := a.tmps, params := ps, assign := assign, body := body, defers := w.heap.size }
  have hL : ((w.alloc (.deferred (some []))).alloc (.loop (rec0 .ready none))).heap[w.heap.size + 1]? = some (.loop (rec0 .ready none)) := by
    have := World.alloc_heap_new (w.alloc (.deferred (some []))) (.loop (rec0 .ready none))
    rwa [World.size_alloc] at this
  have hD : ((w.alloc (.deferred (some []))).alloc (.loop (rec0 .ready none))).heap[w.heap.size]? = some (.deferred (some [])) := (Below.heap_alloc _ _ _ (by simp)).trans (World.alloc_heap_new w _)
  have hs1 : ((w.alloc (.deferred (some []))).alloc (.loop (rec0 .ready none))).heap.size = w.heap.size + 2 := by simp
  have hI1 : I [] ((w.alloc (.deferred (some []))).alloc (.loop (rec0 .ready none))) := hI.alloc _ (hI.alloc _ h0)
  have hb1 : Below w0.heap.size w0 ((w.alloc (.deferred (some []))).alloc (.loop (rec0 .ready none))) := hb0.trans ((((Below.refl _ w).alloc (Nat.le_refl _) _).alloc (by simp) _).mono hb0.size)
  refine ⟨w.heap.size + 1, [{ target := .collected w.heap.size, args := #[] }], _, { target := .fn (.func gf) lb, args := #[.func (.yield (w.heap.size + 1)) #[] #[]] }, _, gf,
    #[.func (.yield (w.heap.size + 1)) #[] #[]] ++ lb, _, run_enterLoop_outer _ _ _ _ _, by simp only [resolve, hg]; simp [go_sem]; rfl, fun _ _ => trivial, by simp [invoke, go_sem, eg]; rfl, fun _ => h1, ?_⟩
  generalize (w.alloc (.deferred (some []))).alloc (.loop (rec0 .ready none)) = W1 at *
  -- the two blocks of the loop itself lie below the iterator's
  have far : ∀ {X Y : World} {row : Option Nat} {k : Nat} {o : Obj}, X.grownBy Y row → (∀ r, row = some r → W1.heap.size ≤ r ∧ ∃ o : Obj, X.heap[r]? = some o ∧ o.isCells = false) → k < w.heap.size + 2 → X.heap[k]? = some o → Y.heap[k]? = some o :=
    fun hgr hr hk ho => (hgr.block _ (Array.getElem?_eq_some_iff.1 ho).1 (fun e => by have := (hr _ e.symm).1; omega)).trans ho
  have up2 : ∀ {β : Type} {J : β → World → Prop} {s : β} {X Y : World} {row : Option Nat}, OwnFrom w.heap.size J → J s X → X.grownBy Y row → (∀ r, row = some r → W1.heap.size ≤ r ∧ ∃ o : Obj, X.heap[r]? = some o ∧ o.isCells = false) → J s Y :=
    fun hJ hs hgr hr => hJ _ _ _ _ hs hgr (fun r e => ⟨by have := (hr r e).1; omega, (hr r e).2⟩)
  refine (hseq (w.heap.size + 1) (fun pre W => I pre W ∧ W.heap[w.heap.size + 1]? = some (.loop (rec0 .ready none)) ∧ W.heap[w.heap.size]? = some (.deferred (some [])))
    (fun pre W => ∃ c, Ix c pre W ∧ W.heap[w.heap.size + 1]? = some (.loop (rec0 .done (some c))) ∧ W.heap[w.heap.size]? = some (.deferred (some []))) W1 hb1
    (fun s X Y row hs hgr hr => ⟨up2 hI hs.1 hgr hr, far hgr hr (by omega) hs.2.1, far hgr hr (by omega) hs.2.2⟩)
    (fun s X Y row hs hgr hr => by obtain ⟨c, q1, q2, q3⟩ := hs; exact ⟨c, up2 (hIx c) q1 hgr hr, far hgr hr (by omega) q2, far hgr hr (by omega) q3⟩)
    (fun pre x W hj hlen => ?_) ⟨hI1, hL, hD⟩).mono ?_
  · obtain ⟨q1, q2, q3⟩ := hj
    have hlt := (Array.getElem?_eq_some_iff.1 q2).1
    refine round_at (args := encs x) hfn q2 (hps x) (fun K hK => hassign _ x W K hK) (wpIn_mono (hbody _ pre x _ (hI.putObj _ q1 (by omega) q2 rfl) hlen) ?_)
    have p2 : (W.putObj (w.heap.size + 1) (.loop (rec0 .busy none))).heap[w.heap.size + 1]? = some (.loop (rec0 .busy none)) := World.putObj_heap_same hlt
    have p3 : (W.putObj (w.heap.size + 1) (.loop (rec0 .busy none))).heap[w.heap.size]? = some (.deferred (some [])) := (World.putObj_heap_other (by omega)).trans q3
    have over : ∀ (jump : Option Code) (W3 : World), KeepsFrom w.heap.size (W.putObj (w.heap.size + 1) (.loop (rec0 .busy none))) W3 →
        (Instr.endRound (w.heap.size + 1) jump).run P W3 = .ok (.bool jump.isNone) (W3.putObj (w.heap.size + 1) (.loop (rec0 (if jump.isNone then .ready else .done) jump))) ∧ W3.heap[w.heap.size + 1]? = some (.loop (rec0 .busy none)) ∧
        (W3.putObj (w.heap.size + 1) (.loop (rec0 (if jump.isNone then .ready else .done) jump))).heap[w.heap.size + 1]? = some (.loop (rec0 (if jump.isNone then .ready else .done) jump)) ∧
        (W3.putObj (w.heap.size + 1) (.loop (rec0 (if jump.isNone then .ready else .done) jump))).heap[w.heap.size]? = some (.deferred (some [])) := fun jump W3 hk => by
      have r2 := hk.same _ _ (by omega) p2 rfl
      exact ⟨run_endRound (P := P) jump r2, r2, World.putObj_heap_same (Array.getElem?_eq_some_iff.1 r2).1, (World.putObj_heap_other (by omega)).trans (hk.same _ _ (Nat.le_refl _) p3 rfl)⟩
    have gone : ∀ {W3 : World} {o : Obj}, KeepsFrom w.heap.size (W.putObj (w.heap.size + 1) (.loop (rec0 .busy none))) W3 → KeepsFrom W1.heap.size W (W3.putObj (w.heap.size + 1) o) := fun {W3 o} hk =>
      ⟨by have := hk.size; simpa using this, fun k o' hB1 ho hc => (World.putObj_heap_other (by omega)).trans (hk.same k o' (by omega) ((World.putObj_heap_other (by omega)).trans ho) hc)⟩
    intro e a3 W3 hp
    cases e with
    | normal =>
      obtain ⟨k1, k2, k3⟩ := hp
      obtain ⟨r1, r2, r3, r4⟩ := over none W3 k1
      have hput : ∀ (X : World) (o : Obj), Kb (fun k => B k ∨ W1.heap.size ≤ k) X (X.putObj (w.heap.size + 1) o) := fun X o => ⟨by simp, fun k hk _ => World.putObj_heap_other (hk.elim (fun hk => by have := hB k hk; omega) (fun hk => by omega))⟩
      refine ⟨_, _, r1, .inl ⟨rfl, ⟨hI.putObj _ k3 (by omega) r2 rfl, r3, r4⟩, ((hput W _).trans (k2.imp (fun k hk => by rw [hs1] at hk; exact hk))).trans (hput W3 _)⟩⟩
    | ret =>
      obtain ⟨r1, r2, r3, r4⟩ := over (some .ret) W3 hp.1
      exact ⟨_, _, r1, .inr ⟨rfl, ⟨.ret, (hIx _).putObj _ hp.2 (by omega) r2 rfl, r3, r4⟩, gone hp.1⟩⟩
    | exit id =>
      obtain ⟨r1, r2, r3, r4⟩ := over (some (.exit id)) W3 hp.1
      exact ⟨_, _, r1, .inr ⟨rfl, ⟨.exit id, (hIx _).putObj _ hp.2 (by omega) r2 rfl, r3, r4⟩, gone hp.1⟩⟩
    | goto t =>
      obtain ⟨r1, r2, r3, r4⟩ := over (some (.goto t)) W3 hp.1
      exact ⟨_, _, r1, .inr ⟨rfl, ⟨.goto t, (hIx _).putObj _ hp.2 (by omega) r2 rfl, r3, r4⟩, gone hp.1⟩⟩
    | panic ch => exact hp.elim
    | outgrown => exact hp.elim
  · rintro e W2 ⟨⟨v, rfl⟩, ⟨xs, hS, q1, q2, q3⟩ | ⟨pre, hS, c, q1, q2, q3⟩⟩
    · exact ⟨none, _, run_endLoop (P := P) q2 (by simp [rec0]), hdone _ xs _ (Nat.le_refl _) hS (hI.putObj _ q1 (by omega) q2 rfl) ((World.putObj_heap_other (by omega)).trans q3)⟩
    · exact ⟨some c, _, run_endLoop (P := P) q2 (by simp [rec0]), hstop _ c pre _ (Nat.le_refl _) hS ((hIx c).putObj _ q1 (by omega) q2 rfl) ((World.putObj_heap_other (by omega)).trans q3)⟩
end
end Go.Proofs.Ytmpcmpanolnpfaa.Tr
