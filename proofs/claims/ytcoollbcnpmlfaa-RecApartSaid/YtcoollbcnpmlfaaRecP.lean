/- The plain facts on the encoding of commits: numbers, texts, writes, commits as bytes; none is the beginning of another. No program here. -/
set_option linter.unusedVariables false
set_option linter.unusedSimpArgs false
namespace Go.Proofs.Ytcoollbcnpmlfaa.RecP

/-- the bytes of a number, the highest one first -/
def be (n : Nat) : List UInt8 := if h : n = 0 then [] else be (n / 256) ++ [UInt8.ofNat (n % 256)]
termination_by n
decreasing_by omega
theorem be_zero : be 0 = [] := by rw [be]; simp
theorem be_pos (n : Nat) (h : n ≠ 0) : be n = be (n / 256) ++ [UInt8.ofNat (n % 256)] := by rw [be]; simp [h]
/-- the number of bytes -/
def val (l : List UInt8) : Nat := l.foldl (fun a b => a * 256 + b.toNat) 0
theorem val_snoc (l : List UInt8) (b : UInt8) : val (l ++ [b]) = val l * 256 + b.toNat := by simp [val]
theorem val_be (n : Nat) : val (be n) = n := by
  induction n using Nat.strongRecOn with
  | _ n ih =>
    by_cases h : n = 0
    · subst h; rw [be_zero]; rfl
    · rw [be_pos n h, val_snoc, ih (n / 256) (by omega)]
      simp
      omega
theorem be_length (n : Nat) : ∀ k, n < 256 ^ k → (be n).length ≤ k := by
  induction n using Nat.strongRecOn with
  | _ n ih =>
    intro k hk
    by_cases h : n = 0
    · subst h; rw [be_zero]; simp
    · cases k with
      | zero => simp at hk; omega
      | succ k =>
        rw [be_pos n h, List.length_append]
        have := ih (n / 256) (by omega) k (by rw [Nat.pow_succ] at hk; omega)
        simp only [List.length_cons, List.length_nil]
        omega
theorem be_length8 (n : Nat) (h : n < 18446744073709551616) : (be n).length ≤ 8 := be_length n 8 (by simpa using h)
/-- the j-th byte -/
theorem be_get (n : Nat) : ∀ j, j < (be n).length → (be n)[j]? = some (UInt8.ofNat (n / 256 ^ ((be n).length - 1 - j) % 256)) := by
  induction n using Nat.strongRecOn with
  | _ n ih =>
    intro j hj
    by_cases h : n = 0
    · subst h; rw [be_zero] at hj; simp at hj
    · have e := be_pos n h
      have hl : (be n).length = (be (n / 256)).length + 1 := by rw [e]; simp
      rw [hl] at hj ⊢
      rw [e]
      by_cases c : j < (be (n / 256)).length
      · rw [List.getElem?_append_left c, ih (n / 256) (by omega) j c]
        congr 3
        rw [Nat.div_div_eq_div_mul, show (be (n / 256)).length + 1 - 1 - j = (be (n / 256)).length - 1 - j + 1 from by omega, Nat.pow_succ, Nat.mul_comm 256]
      · have : j = (be (n / 256)).length := by omega
        subst this
        rw [List.getElem?_append_right (Nat.le_refl _)]
        simp
theorem be_div (n : Nat) : ∀ s, (be n).length = s → ∀ k, n / 256 ^ k = 0 ↔ s ≤ k := by
  induction n using Nat.strongRecOn with
  | _ n ih =>
    intro s hs k
    by_cases h : n = 0
    · subst h; rw [be_zero] at hs; simp at hs; subst hs; simp
    · rw [be_pos n h] at hs
      simp at hs
      cases k with
      | zero => simp; omega
      | succ k =>
        have := ih (n / 256) (by omega) _ rfl k
        rw [Nat.pow_succ, Nat.mul_comm, ← Nat.div_div_eq_div_mul, this]
        omega

def numE (n : Nat) : List UInt8 := UInt8.ofNat (be n).length :: be n
def textE (s : List UInt8) : List UInt8 := numE s.length ++ s
def flagE (b : Bool) : List UInt8 := [if b then 1 else 0]
structure Wr where
  key : List UInt8
  val : List UInt8
  gone : Bool
def writeE (w : Wr) : List UInt8 := textE w.key ++ flagE w.gone ++ textE w.val
def writesE (ws : List Wr) : List UInt8 := numE ws.length ++ ws.flatMap writeE
def commitE (seq time : Nat) (ws : List Wr) : List UInt8 := numE seq ++ numE time ++ writesE ws

theorem numE_inj (a b : Nat) (ha : a < 18446744073709551616) (hb : b < 18446744073709551616) (r s : List UInt8) (h : numE a ++ r = numE b ++ s) : a = b ∧ r = s := by
  have la := be_length8 a ha
  have lb := be_length8 b hb
  simp only [numE, List.cons_append, List.cons.injEq] at h
  obtain ⟨h1, h2⟩ := h
  have hl : (be a).length = (be b).length := by
    have := congrArg UInt8.toNat h1
    simp at this
    omega
  obtain ⟨h3, h4⟩ := List.append_inj h2 hl
  exact ⟨by rw [← val_be a, h3, val_be], h4⟩
theorem textE_inj (a b : List UInt8) (ha : a.length < 18446744073709551616) (hb : b.length < 18446744073709551616) (r s : List UInt8) (h : textE a ++ r = textE b ++ s) : a = b ∧ r = s := by
  simp only [textE, List.append_assoc] at h
  obtain ⟨h1, h2⟩ := numE_inj _ _ ha hb _ _ h
  exact List.append_inj h2 h1
theorem flagE_inj (a b : Bool) (r s : List UInt8) (h : flagE a ++ r = flagE b ++ s) : a = b ∧ r = s := by
  cases a <;> cases b <;> simp [flagE] at h <;> simp [h]
def small (w : Wr) : Prop := w.key.length < 18446744073709551616 ∧ w.val.length < 18446744073709551616
theorem writeE_inj (a b : Wr) (ha : small a) (hb : small b) (r s : List UInt8) (h : writeE a ++ r = writeE b ++ s) : a = b ∧ r = s := by
  simp only [writeE, List.append_assoc] at h
  obtain ⟨h1, h⟩ := textE_inj _ _ ha.1 hb.1 _ _ h
  obtain ⟨h2, h⟩ := flagE_inj _ _ _ _ h
  obtain ⟨h3, h⟩ := textE_inj _ _ ha.2 hb.2 _ _ h
  cases a
  cases b
  simp_all
theorem list_inj : ∀ (a b : List Wr), a.length = b.length → (∀ w ∈ a, small w) → (∀ w ∈ b, small w) → ∀ r s, a.flatMap writeE ++ r = b.flatMap writeE ++ s → a = b ∧ r = s
  | [], [], _, _, _, r, s, h => ⟨rfl, by simpa using h⟩
  | x :: a, y :: b, hl, ha, hb, r, s, h => by
    simp only [List.flatMap_cons, List.append_assoc] at h
    obtain ⟨h1, h⟩ := writeE_inj x y (ha x List.mem_cons_self) (hb y List.mem_cons_self) _ _ h
    obtain ⟨h2, h⟩ := list_inj a b (by simpa using hl) (fun w hw => ha w (List.mem_cons_of_mem _ hw)) (fun w hw => hb w (List.mem_cons_of_mem _ hw)) r s h
    exact ⟨by rw [h1, h2], h⟩
  | [], _ :: _, hl, _, _, _, _, _ => by simp at hl
  | _ :: _, [], hl, _, _, _, _, _ => by simp at hl
theorem writesE_inj (a b : List Wr) (la : a.length < 18446744073709551616) (lb : b.length < 18446744073709551616) (ha : ∀ w ∈ a, small w) (hb : ∀ w ∈ b, small w) (r s : List UInt8) (h : writesE a ++ r = writesE b ++ s) : a = b ∧ r = s := by
  simp only [writesE, List.append_assoc] at h
  obtain ⟨h1, h⟩ := numE_inj _ _ la lb _ _ h
  exact list_inj a b h1 ha hb r s h
theorem commitE_inj (q t q' t' : Nat) (a b : List Wr) (h1 : q < 18446744073709551616) (h2 : q' < 18446744073709551616) (h3 : t < 18446744073709551616) (h4 : t' < 18446744073709551616)
    (la : a.length < 18446744073709551616) (lb : b.length < 18446744073709551616) (ha : ∀ w ∈ a, small w) (hb : ∀ w ∈ b, small w) (r s : List UInt8) (h : commitE q t a ++ r = commitE q' t' b ++ s) : q = q' ∧ t = t' ∧ a = b ∧ r = s := by
  simp only [commitE, List.append_assoc] at h
  obtain ⟨e1, h⟩ := numE_inj _ _ h1 h2 _ _ h
  obtain ⟨e2, h⟩ := numE_inj _ _ h3 h4 _ _ h
  obtain ⟨e3, h⟩ := writesE_inj a b la lb ha hb _ _ h
  exact ⟨e1, e2, e3, h⟩

def prevOk (lt : List UInt8 → List UInt8 → Bool) : Option (List UInt8) → List UInt8 → Bool
  | none, _ => true
  | some p, k => lt p k
/-- writes that may be: keys rising (lt: the order of keys), nothing too long -/
def risesFrom (lt : List UInt8 → List UInt8 → Bool) : Option (List UInt8) → List Wr → Bool
  | _, [] => true
  | prev, w :: r => !w.key.isEmpty && decide (w.key.length ≤ 400) && decide (w.val.length ≤ 4096) && (!w.gone || w.val.isEmpty) && prevOk lt prev w.key && risesFrom lt (some w.key) r
end Go.Proofs.Ytcoollbcnpmlfaa.RecP
