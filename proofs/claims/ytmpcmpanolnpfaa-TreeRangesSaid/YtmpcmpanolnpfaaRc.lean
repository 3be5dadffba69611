/- Range's call; a loop over an iterator that is left by exits alone; the split of a list in order at a key. -/
import Derived.Test.YtmpcmpanolnpfaaRb
set_option linter.unusedVariables false
set_option linter.unusedSimpArgs false
namespace Go.Proofs.Ytmpcmpanolnpfaa.Tr
open Go.RowKit Go.Proofs.YtmpcmpanolnpfaaW.PrintWords Go.Proofs.YtmpcmpanolnpfaaW.PrintLast Go.Proofs.YtmpcmpanolnpfaaW.PrintMore

theorem range_any (p : Option Addr) (x y : ByteArray) (w : World) : Calls Try.prog 21 #[.pointer p, .string x, .string y] w fun e w' =>
    e = .returned (.func (.func 35) #[] #[.pointer (some ⟨w.heap.size, 0, none⟩), .pointer (some ⟨w.heap.size + 1, 0, none⟩), .pointer (some ⟨w.heap.size + 2, 0, none⟩)]) ∧ w' = ((w.alloc (.cells #[.pointer p] 25)).alloc (.cells #[.string x] 9)).alloc (.cells #[.string y] 9) := by
  go_enter Try.func21, Try.ntmps21
  go_wp2
  go_ret
  exact ⟨rfl, rfl⟩
theorem inBlock_same {b : Nat} {Q : Exit → Act → World → Prop} {e : Exit} {a : Act} {w : World} (he : e = .normal ∨ e = .exit b) (h : Q .normal a w) : Exit.inBlock b Q e a w := by
  rcases he with rfl | rfl
  · exact h
  · show if b = b then Q .normal a w else _
    rw [if_pos rfl]
    exact h
theorem own_box {W W' : World} {row : Option Nat} {B b t : Nat} {v : Value} (h : Boxed W b t v) (hg : W.grownBy W' row) (hr : ∀ r, row = some r → B ≤ r ∧ ∃ o : Obj, W.heap[r]? = some o ∧ o.isCells = false) : Boxed W' b t v :=
  boxed_const (β := Unit) B b t v () _ _ _ h hg hr
theorem own_below {w W W' : World} {row : Option Nat} {n B : Nat} (hn : n ≤ w.heap.size) (hB : n ≤ B) (h : Below n w W) (hg : W.grownBy W' row) (hr : ∀ r, row = some r → B ≤ r ∧ ∃ o : Obj, W.heap[r]? = some o ∧ o.isCells = false) : Below n w W' :=
  ownFrom_below (β := Unit) hn hB () _ _ _ h hg hr
section
variable {α : Type} {n : Nat} {P : Program} {Q : Exit → Act → World → Prop} {a : Act} {w : World}
theorem rangeO2 {g : Operand} {ps : Array Tmp} {assign body : Code} {gf : Nat} {lb : Array Value} (hg : a.eval g = .func (.func gf) #[] lb) (eg : ∀ args w, (callFunc gf args).run P w = .ok (.enter gf args) w) (h1 : 1 ≤ n)
    {encs : α → Array Value} {B : Nat → Prop} {S Sp : List α → Prop} {N : Nat} {w0 : World} (hseq : SeqO (n - 1) P gf lb encs B S Sp N w0) (hb0 : Below w0.heap.size w0 w) (hB : ∀ k, B k → k < w.heap.size) (hps : ∀ x, (encs x).size = ps.size)
    (I : List α → World → Prop) (Ix : Nat → List α → World → Prop) (hI : OwnFrom w.heap.size I) (hIx : ∀ c, OwnFrom w.heap.size (Ix c)) (h0 : I [] w) (a₁ : α → Act)
    (hassign : ∀ (l : Nat) (x : α) (W : World) (K : Act → World → Prop), K (a₁ x) W →
      assign.wpIn (Fence.wide.inRound l) (n - 1 - 1) P (Exit.then K (fun _ _ _ => False)) { tmps := (ps.zip (encs x)).foldl (fun t (p, v) => t.setIfInBounds p v) a.tmps, defers := [] } W)
    (hbody : ∀ (l : Nat) (pre : List α) (x : α) (W : World), I pre W → pre.length < N → body.wpIn (Fence.wide.inRound l) (n - 1 - 1) P (ownPostK (Kb (fun k => B k ∨ w.heap.size + 2 ≤ k)) I (fun c pre W => ∃ b, c = .exit b ∧ Ix b pre W) (pre ++ [x]) W) (a₁ x) W)
    (hout : ∀ (D : Nat) (e : Exit) (W : World), w.heap.size ≤ D → W.heap[D]? = some (.deferred (some [])) → ((e = .normal ∧ ∃ xs, S xs ∧ I xs W) ∨ (∃ b pre, e = .exit b ∧ Sp pre ∧ Ix b pre W)) → Q e { a with defers := { target := .collected D, args := #[] } :: a.defers } W) :
    (Code.rangeFunc g ps assign body).wpIn Fence.wide n P Q a w :=
  rangeO hg eg h1 hseq hb0 hB hps I (fun c pre W => ∃ b, c = .exit b ∧ Ix b pre W) hI
    (fun c s X Y row hs hgr hr => by obtain ⟨b, e, hs⟩ := hs; exact ⟨b, e, hIx b _ _ _ _ hs hgr hr⟩) h0 a₁ hassign
    (fun l pre x W hi hl => wpIn_mono (hbody l pre x W hi hl) ownPostG_of_ownPostK)
    (fun D xs W hD hS hi hk => hout D .normal W hD hk (.inl ⟨rfl, xs, hS, hi⟩))
    (fun D c pre W hD hS hx hk => by
      obtain ⟨b, rfl, hx⟩ := hx
      exact wpIn_exit (hout D (.exit b) W hD hk (.inr ⟨b, pre, rfl, hS, hx⟩)))
end
/-- a list in order: those below a key, then the others -/
theorem split_key {Z : List Pair} (h : SrtZ Z) (x : ByteArray) : belowZ Z x = Z.take (belowZ Z x).length ∧ fromL Z x = Z.drop (belowZ Z x).length := by
  induction Z with
  | nil => exact ⟨rfl, rfl⟩
  | cons a Z ih =>
    obtain ⟨h1, h2⟩ := List.pairwise_cons.1 h
    obtain ⟨i1, i2⟩ := ih h2
    by_cases hk : kl a.1 x
    · have e1 : belowZ (a :: Z) x = a :: belowZ Z x := by unfold belowZ; rw [List.filter_cons_of_pos (by simpa using hk)]
      have e2 : fromL (a :: Z) x = fromL Z x := by unfold fromL; rw [List.filter_cons_of_neg (by simpa using hk)]
      rw [e1, e2, List.length_cons, List.take_succ_cons, List.drop_succ_cons, ← i1, ← i2]
      exact ⟨rfl, rfl⟩
    · have hno : ∀ b ∈ Z, ¬ kl b.1 x := fun b hb q => hk (kl_trans (h1 b hb) q)
      have e1 : belowZ (a :: Z) x = [] := by
        unfold belowZ
        rw [List.filter_eq_nil_iff]
        intro b hb
        rcases List.mem_cons.1 hb with rfl | hb
        · simpa using hk
        · simpa using hno b hb
      have e2 : fromL (a :: Z) x = a :: Z := by
        unfold fromL
        refine List.filter_eq_self.2 (fun b hb => ?_)
        rcases List.mem_cons.1 hb with rfl | hb
        · simpa using hk
        · simpa using hno b hb
      rw [e1, e2]
      exact ⟨rfl, rfl⟩
theorem below_take_succ {Z : List Pair} {x : ByteArray} {j : Nat} (hj : j < Z.length) : (belowZ (Z.take (j + 1)) x).length = (belowZ (Z.take j) x).length + if kl (Z[j]).1 x then 1 else 0 := by
  unfold belowZ
  rw [List.take_succ_eq_append_getElem hj, List.filter_append, List.length_append]
  by_cases h : kl (Z[j]).1 x <;> simp [h]
theorem range_below {Z : List Pair} {y : ByteArray} (hy : ¬ y = ⟨#[]⟩) : rangeL Z ⟨#[]⟩ y = belowZ Z y := by
  unfold rangeL belowZ
  rw [fromL_all]
  congr 1
  funext a
  simp [inTo, hy]
theorem below_nil (Z : List Pair) : belowZ Z ⟨#[]⟩ = [] := by
  unfold belowZ
  rw [List.filter_eq_nil_iff]
  intro a _
  simpa using kl_nil a.1
end Go.Proofs.Ytmpcmpanolnpfaa.Tr
