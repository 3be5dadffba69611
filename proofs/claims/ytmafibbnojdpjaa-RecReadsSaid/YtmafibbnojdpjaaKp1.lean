/- Lemmas that the proof needs, part 1. -/
section
set_option linter.unusedVariables false
set_option linter.unusedSimpArgs false
namespace Go.Proofs.Ytmafibbnojdpjaa.RecP
/-- the bytes of a number, the highest one first -/
def be (n : Nat) : List UInt8 := if h : n = 0 then [] else be (n / 256) ++ [UInt8.ofNat (n % 256)]
termination_by n
decreasing_by omega
theorem be_zero : be 0 = [] := by rw [be]; simp
theorem be_pos (n : Nat) (h : n ≠ 0) : be n = be (n / 256) ++ [UInt8.ofNat (n % 256)] := by rw [be]; simp [h]
/-- the number of bytes -/
def val (l : List UInt8) : Nat := l.foldl (fun a b => a * 256 + b.toNat) 0
theorem val_snoc (l : List UInt8) (b : UInt8) : val (l ++ [b]) = val l * 256 + b.toNat := by simp [val]
theorem be_length (n : Nat) : ∀ k, n < 256 ^ k → (be n).length ≤ k := by
  induction n using Nat.strongRecOn with
  | _ n ih =>
    intro k hk
    by_cases h : n = 0
    · subst h; rw [be_zero]; simp
    · cases k with
      | zero => simp at hk; omega
      | succ k =>
        rw [be_pos n h, List.length_append]
        have := ih (n / 256) (by omega) k (by rw [Nat.pow_succ] at hk; omega)
        simp only [List.length_cons, List.length_nil]
        omega
theorem be_length8 (n : Nat) (h : n < 18446744073709551616) : (be n).length ≤ 8 := be_length n 8 (by simpa using h)
/-- the j-th byte -/
theorem be_get (n : Nat) : ∀ j, j < (be n).length → (be n)[j]? = some (UInt8.ofNat (n / 256 ^ ((be n).length - 1 - j) % 256)) := by
  induction n using Nat.strongRecOn with
  | _ n ih =>
    intro j hj
    by_cases h : n = 0
    · subst h; rw [be_zero] at hj; simp at hj
    · have e := be_pos n h
      have hl : (be n).length = (be (n / 256)).length + 1 := by rw [e]; simp
      rw [hl] at hj ⊢
      rw [e]
      by_cases c : j < (be (n / 256)).length
      · rw [List.getElem?_append_left c, ih (n / 256) (by omega) j c]
        congr 3
        rw [Nat.div_div_eq_div_mul, show (be (n / 256)).length + 1 - 1 - j = (be (n / 256)).length - 1 - j + 1 from by omega, Nat.pow_succ, Nat.mul_comm 256]
      · have : j = (be (n / 256)).length := by omega
        subst this
        rw [List.getElem?_append_right (Nat.le_refl _)]
        simp
theorem be_div (n : Nat) : ∀ s, (be n).length = s → ∀ k, n / 256 ^ k = 0 ↔ s ≤ k := by
  induction n using Nat.strongRecOn with
  | _ n ih =>
    intro s hs k
    by_cases h : n = 0
    · subst h; rw [be_zero] at hs; simp at hs; subst hs; simp
    · rw [be_pos n h] at hs
      simp at hs
      cases k with
      | zero => simp; omega
      | succ k =>
        have := ih (n / 256) (by omega) _ rfl k
        rw [Nat.pow_succ, Nat.mul_comm, ← Nat.div_div_eq_div_mul, this]
        omega
def numE (n : Nat) : List UInt8 := UInt8.ofNat (be n).length :: be n
def textE (s : List UInt8) : List UInt8 := numE s.length ++ s
def flagE (b : Bool) : List UInt8 := [if b then 1 else 0]
structure Wr where
  key : List UInt8
  val : List UInt8
  gone : Bool
def writeE (w : Wr) : List UInt8 := textE w.key ++ flagE w.gone ++ textE w.val
def writesE (ws : List Wr) : List UInt8 := numE ws.length ++ ws.flatMap writeE
def commitE (seq time : Nat) (ws : List Wr) : List UInt8 := numE seq ++ numE time ++ writesE ws
def prevOk (lt : List UInt8 → List UInt8 → Bool) : Option (List UInt8) → List UInt8 → Bool
  | none, _ => true
  | some p, k => lt p k
/-- writes that may be: keys rising (lt: the order of keys), nothing too long -/
def risesFrom (lt : List UInt8 → List UInt8 → Bool) : Option (List UInt8) → List Wr → Bool
  | _, [] => true
  | prev, w :: r => !w.key.isEmpty && decide (w.key.length ≤ 400) && decide (w.val.length ≤ 4096) && (!w.gone || w.val.isEmpty) && prevOk lt prev w.key && risesFrom lt (some w.key) r
end Go.Proofs.Ytmafibbnojdpjaa.RecP
end
section
set_option linter.unusedVariables false
set_option linter.unusedSimpArgs false
namespace Go.Proofs.Ytmafibbnojdpjaa.RecP
theorem be_snoc (n : Nat) (b : UInt8) (h : 0 < n * 256 + b.toNat) : be (n * 256 + b.toNat) = be n ++ [b] := by
  rw [be_pos _ (by omega)]
  have h1 : (n * 256 + b.toNat) / 256 = n := by have := b.toNat_lt; omega
  have h2 : (n * 256 + b.toNat) % 256 = b.toNat := by have := b.toNat_lt; omega
  rw [h1, h2, UInt8.ofNat_toNat]
theorem val_lead (l : List UInt8) (b : UInt8) (h : b ≠ 0) : 0 < val (b :: l) := by
  have key : ∀ (l : List UInt8) (a : Nat), 0 < a → 0 < l.foldl (fun a b => a * 256 + b.toNat) a := by
    intro l
    induction l with
    | nil => intro a ha; exact ha
    | cons c l ih => intro a ha; exact ih (a * 256 + c.toNat) (by omega)
  refine key l (0 * 256 + b.toNat) ?_
  have : b.toNat ≠ 0 := fun e => h (by rw [← UInt8.ofNat_toNat (x := b), e]; rfl)
  omega
theorem snoc_ind {p : List UInt8 → Prop} (h0 : p []) (h1 : ∀ l x, p l → p (l ++ [x])) (l : List UInt8) : p l := by
  have : ∀ m : List UInt8, p m.reverse := by
    intro m
    induction m with
    | nil => exact h0
    | cons a m ih => rw [List.reverse_cons]; exact h1 _ _ ih
  have h := this l.reverse
  rwa [List.reverse_reverse] at h
theorem be_val (l : List UInt8) : (∀ b, l.head? = some b → b ≠ 0) → be (val l) = l := by
  refine snoc_ind (p := fun l => (∀ b, l.head? = some b → b ≠ 0) → be (val l) = l) (fun _ => ?_) (fun l x ih h => ?_) l
  · exact be_zero
  · cases l with
    | nil =>
      have hx : x ≠ 0 := h x rfl
      have := be_snoc 0 x (by have h2 : x.toNat ≠ 0 := fun e => hx (by rw [← UInt8.ofNat_toNat (x := x), e]; rfl); omega)
      rw [be_zero] at this
      rw [val_snoc]
      exact this
    | cons b l =>
      have hb : b ≠ 0 := h b rfl
      have hp := val_lead l b hb
      rw [val_snoc, be_snoc _ _ (by omega), ih (fun c hc => by cases hc; exact hb)]
theorem val_lt (l : List UInt8) : val l < 256 ^ l.length := by
  refine snoc_ind (p := fun l => val l < 256 ^ l.length) (by decide) (fun l x ih => ?_) l
  rw [val_snoc, List.length_append, List.length_singleton, Nat.pow_succ]
  have := x.toNat_lt
  omega
/-- may a number stand at the bytes' head? -/
def numB (s : List UInt8) : Bool := match s with
  | [] => false
  | a :: t => decide (a.toNat ≤ 8) && decide (a.toNat ≤ t.length) && !(decide (0 < a.toNat) && decide (t.head? = some 0))
def numV (s : List UInt8) : Nat := match s with
  | [] => 0
  | a :: t => val (t.take a.toNat)
def numRest (s : List UInt8) : List UInt8 := match s with
  | [] => []
  | a :: t => t.drop a.toNat
/-- a number up to most, and what is behind it -/
def numD (most : Nat) (s : List UInt8) : Option (Nat × List UInt8) := if numB s = true then (if numV s ≤ most then some (numV s, numRest s) else none) else none
theorem numD_some {most n : Nat} {s r : List UInt8} (h : numD most s = some (n, r)) : s = numE n ++ r ∧ n ≤ most := by
  unfold numD at h
  by_cases h1 : numB s = true
  · rw [if_pos h1] at h
    by_cases h2 : numV s ≤ most
    · rw [if_pos h2] at h
      cases s with
      | nil => cases h1
      | cons a t =>
        have e1 : val (t.take a.toNat) = n := congrArg Prod.fst (Option.some.inj h)
        have e2 : t.drop a.toNat = r := congrArg Prod.snd (Option.some.inj h)
        have h3 : numV (a :: t) = n := e1
        rw [h3] at h2
        refine ⟨?_, h2⟩
        unfold numB at h1
        simp only [Bool.and_eq_true, decide_eq_true_eq, Bool.not_eq_true', Bool.and_eq_false_iff, decide_eq_false_iff_not] at h1
        obtain ⟨⟨g1, g2⟩, g3⟩ := h1
        have hh : ∀ b, (t.take a.toNat).head? = some b → b ≠ 0 := by
          intro b hb e
          subst e
          rcases g3 with g3 | g3
          · rw [show a.toNat = 0 by omega] at hb
            cases hb
          · cases t with
            | nil => rw [List.take_nil] at hb; cases hb
            | cons c t =>
              cases ha : a.toNat with
              | zero => rw [ha] at hb; cases hb
              | succ k => rw [ha] at hb; exact g3 (by cases hb; rfl)
        have hb := be_val (t.take a.toNat) hh
        rw [e1] at hb
        have hl : (be n).length = a.toNat := by rw [hb, List.length_take]; omega
        unfold numE
        rw [hl, UInt8.ofNat_toNat, List.cons_append, hb, ← e2, List.take_append_drop]
    · rw [if_neg h2] at h; cases h
  · rw [if_neg h1] at h; cases h
/-- what a reader reads: none behind an error -/
abbrev St := Option (List UInt8)
def numR (most : Nat) (s : St) : Nat × St := match s with
  | none => (0, none)
  | some s => match numD most s with
    | none => (0, none)
    | some (n, r) => (n, some r)
def textR (most : Nat) (s : St) : List UInt8 × St := match numR most s with
  | (_, none) => ([], none)
  | (n, some r) => if n ≤ r.length then (r.take n, some (r.drop n)) else ([], none)
def flagR (s : St) : Bool × St := match s with
  | some (a :: t) => if a.toNat ≤ 1 then (decide (a.toNat = 1), some t) else (false, none)
  | _ => (false, none)
theorem numR_none (most : Nat) : numR most none = (0, none) := rfl
theorem numR_some {most n : Nat} {s r : List UInt8} {st : St} (h : numR most st = (n, some r)) : ∃ s, st = some s ∧ s = numE n ++ r ∧ n ≤ most := by
  cases st with
  | none => cases h
  | some s =>
    unfold numR at h
    cases hd : numD most s with
    | none => simp only [hd] at h; cases h
    | some p =>
      obtain ⟨n', r'⟩ := p
      simp only [hd] at h
      cases h
      obtain ⟨h1, h2⟩ := numD_some hd
      exact ⟨s, rfl, h1, h2⟩
theorem numR_le (most : Nat) (st : St) : (numR most st).1 ≤ most := by
  cases h : numR most st with
  | mk n o =>
    cases o with
    | none =>
      cases st with
      | none => cases h; exact Nat.zero_le _
      | some s =>
        unfold numR at h
        cases hd : numD most s with
        | none => simp only [hd] at h; cases h; exact Nat.zero_le _
        | some p => simp only [hd] at h; cases h
    | some r =>
      obtain ⟨s, _, _, h2⟩ := numR_some (s := r) h
      exact h2
theorem textR_some {most : Nat} {x r : List UInt8} {st : St} (h : textR most st = (x, some r)) : ∃ s, st = some s ∧ s = textE x ++ r ∧ x.length ≤ most := by
  unfold textR at h
  cases hn : numR most st with
  | mk n o =>
    simp only [hn] at h
    cases o with
    | none => cases h
    | some q =>
      simp only at h
      by_cases hl : n ≤ q.length
      · rw [if_pos hl] at h
        cases h
        obtain ⟨s, h1, h2, h3⟩ := numR_some (s := q) hn
        have hx : (q.take n).length = n := by rw [List.length_take]; omega
        refine ⟨s, h1, ?_, by omega⟩
        unfold textE
        rw [hx, List.append_assoc, List.take_append_drop, h2]
      · rw [if_neg hl] at h; cases h
theorem flagR_some {b : Bool} {r : List UInt8} {st : St} (h : flagR st = (b, some r)) : ∃ s, st = some s ∧ s = flagE b ++ r := by
  cases st with
  | none => cases h
  | some s =>
    cases s with
    | nil => cases h
    | cons a t =>
      unfold flagR at h
      simp only at h
      by_cases ha : a.toNat ≤ 1
      · rw [if_pos ha] at h
        cases h
        refine ⟨_, rfl, ?_⟩
        unfold flagE
        have hc : a.toNat = 0 ∨ a.toNat = 1 := by omega
        rcases hc with hc | hc
        · have : a = 0 := by rw [← UInt8.ofNat_toNat (x := a), hc]; rfl
          subst this
          rfl
        · have : a = 1 := by rw [← UInt8.ofNat_toNat (x := a), hc]; rfl
          subst this
          rfl
      · rw [if_neg ha] at h; cases h
/-- a write -/
def writeR (s : St) : Wr × St :=
  let k := textR 400 s
  let g := flagR k.2
  let v := textR 4096 g.2
  (⟨k.1, v.1, g.1⟩, v.2)
theorem writeR_some {w : Wr} {r : List UInt8} {st : St} (h : writeR st = (w, some r)) : ∃ s, st = some s ∧ s = writeE w ++ r := by
  unfold writeR at h
  have e1 := congrArg Prod.fst h
  have e2 := congrArg Prod.snd h
  simp only at e1 e2
  obtain ⟨s3, a1, a2, _⟩ := textR_some (x := (textR 4096 (flagR (textR 400 st).2).2).1) (r := r) (by rw [← e2])
  obtain ⟨s2, b1, b2⟩ := flagR_some (b := (flagR (textR 400 st).2).1) (r := s3) (by rw [← a1])
  obtain ⟨s1, c1, c2, _⟩ := textR_some (x := (textR 400 st).1) (r := s2) (by rw [← b1])
  refine ⟨s1, c1, ?_⟩
  rw [← e1]
  unfold writeE
  rw [c2, b2, a2]
  simp [List.append_assoc]
/-- n times -/
def timesR {α : Type} (f : St → α × St) : Nat → St → List α × St
  | 0, s => ([], s)
  | n + 1, s => ((f s).1 :: (timesR f n (f s).2).1, (timesR f n (f s).2).2)
theorem timesR_succ {α : Type} (f : St → α × St) (n : Nat) : ∀ s, timesR f (n + 1) s = ((timesR f n s).1 ++ [(f (timesR f n s).2).1], (f (timesR f n s).2).2) := by
  induction n with
  | zero => intro s; rfl
  | succ n ih =>
    intro s
    rw [show timesR f (n + 1 + 1) s = ((f s).1 :: (timesR f (n + 1) (f s).2).1, (timesR f (n + 1) (f s).2).2) from rfl, ih]
    rfl
theorem timesR_some {α : Type} {f : St → α × St} {e : α → List UInt8} (hf : ∀ st a r, f st = (a, some r) → ∃ s, st = some s ∧ s = e a ++ r) : ∀ (n : Nat) {st : St} {l : List α} {r : List UInt8}, timesR f n st = (l, some r) → ∃ s, st = some s ∧ s = l.flatMap e ++ r ∧ l.length = n
  | 0, st, l, r, h => by
    cases h
    exact ⟨r, rfl, rfl, rfl⟩
  | n + 1, st, l, r, h => by
    have e1 : (f st).1 :: (timesR f n (f st).2).1 = l := congrArg Prod.fst h
    have e2 : (timesR f n (f st).2).2 = some r := congrArg Prod.snd h
    obtain ⟨s2, a1, a2, a3⟩ := timesR_some hf n (st := (f st).2) (l := (timesR f n (f st).2).1) (r := r) (by rw [← e2])
    obtain ⟨s1, b1, b2⟩ := hf st (f st).1 s2 (by rw [← a1])
    refine ⟨s1, b1, ?_, ?_⟩
    · rw [← e1, List.flatMap_cons, b2, a2, List.append_assoc]
    · rw [← e1, List.length_cons, a3]
/-- writes: their number, and they -/
def writesR (most : Nat) (s : St) : List Wr × St := timesR writeR (numR most s).1 (numR most s).2
theorem writesR_some {most : Nat} {ws : List Wr} {r : List UInt8} {st : St} (h : writesR most st = (ws, some r)) : ∃ s, st = some s ∧ s = writesE ws ++ r ∧ ws.length ≤ most := by
  unfold writesR at h
  obtain ⟨s2, a1, a2, a3⟩ := timesR_some (e := writeE) (fun st a r => writeR_some) _ h
  obtain ⟨s1, b1, b2, b3⟩ := numR_some (s := s2) (n := (numR most st).1) (r := s2) (by rw [← a1])
  refine ⟨s1, b1, ?_, by omega⟩
  unfold writesE
  rw [b2, a2, a3, List.append_assoc]
structure Ct where
  q : Nat
  t : Nat
  ws : List Wr
def ctE (c : Ct) : List UInt8 := commitE c.q c.t c.ws
def commitR (s : St) : Ct × St :=
  let q := numR 1099511627776 s
  let t := numR 1099511627776 q.2
  let ws := writesR 200 t.2
  (⟨q.1, t.1, ws.1⟩, ws.2)
theorem commitR_some {c : Ct} {r : List UInt8} {st : St} (h : commitR st = (c, some r)) : ∃ s, st = some s ∧ s = ctE c ++ r := by
  unfold commitR at h
  have e1 := congrArg Prod.fst h
  have e2 := congrArg Prod.snd h
  simp only at e1 e2
  obtain ⟨s3, a1, a2, _⟩ := writesR_some (ws := (writesR 200 (numR 1099511627776 (numR 1099511627776 st).2).2).1) (r := r) (by rw [← e2])
  obtain ⟨s2, b1, b2, _⟩ := numR_some (s := s3) (n := (numR 1099511627776 (numR 1099511627776 st).2).1) (r := s3) (by rw [← a1])
  obtain ⟨s1, c1, c2, _⟩ := numR_some (s := s2) (n := (numR 1099511627776 st).1) (r := s2) (by rw [← b1])
  refine ⟨s1, c1, ?_⟩
  rw [← e1]
  unfold ctE commitE
  rw [c2, b2, a2]
  simp [List.append_assoc]
end Go.Proofs.Ytmafibbnojdpjaa.RecP
end
