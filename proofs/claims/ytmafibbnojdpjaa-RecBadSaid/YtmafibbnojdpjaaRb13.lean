/- Lemmas that the proof needs, part 13. -/
section
set_option linter.unusedVariables false
set_option linter.unusedSimpArgs false
namespace Go.Proofs.Ytmafibbnojdpjaa.RecP
/-- the bytes of a number, the highest one first -/
def be (n : Nat) : List UInt8 := if h : n = 0 then [] else be (n / 256) ++ [UInt8.ofNat (n % 256)]
termination_by n
decreasing_by omega
theorem be_zero : be 0 = [] := by rw [be]; simp
theorem be_pos (n : Nat) (h : n ≠ 0) : be n = be (n / 256) ++ [UInt8.ofNat (n % 256)] := by rw [be]; simp [h]
/-- the number of bytes -/
def val (l : List UInt8) : Nat := l.foldl (fun a b => a * 256 + b.toNat) 0
theorem be_length (n : Nat) : ∀ k, n < 256 ^ k → (be n).length ≤ k := by
  induction n using Nat.strongRecOn with
  | _ n ih =>
    intro k hk
    by_cases h : n = 0
    · subst h; rw [be_zero]; simp
    · cases k with
      | zero => simp at hk; omega
      | succ k =>
        rw [be_pos n h, List.length_append]
        have := ih (n / 256) (by omega) k (by rw [Nat.pow_succ] at hk; omega)
        simp only [List.length_cons, List.length_nil]
        omega
theorem be_length8 (n : Nat) (h : n < 18446744073709551616) : (be n).length ≤ 8 := be_length n 8 (by simpa using h)
/-- the j-th byte -/
theorem be_get (n : Nat) : ∀ j, j < (be n).length → (be n)[j]? = some (UInt8.ofNat (n / 256 ^ ((be n).length - 1 - j) % 256)) := by
  induction n using Nat.strongRecOn with
  | _ n ih =>
    intro j hj
    by_cases h : n = 0
    · subst h; rw [be_zero] at hj; simp at hj
    · have e := be_pos n h
      have hl : (be n).length = (be (n / 256)).length + 1 := by rw [e]; simp
      rw [hl] at hj ⊢
      rw [e]
      by_cases c : j < (be (n / 256)).length
      · rw [List.getElem?_append_left c, ih (n / 256) (by omega) j c]
        congr 3
        rw [Nat.div_div_eq_div_mul, show (be (n / 256)).length + 1 - 1 - j = (be (n / 256)).length - 1 - j + 1 from by omega, Nat.pow_succ, Nat.mul_comm 256]
      · have : j = (be (n / 256)).length := by omega
        subst this
        rw [List.getElem?_append_right (Nat.le_refl _)]
        simp
theorem be_div (n : Nat) : ∀ s, (be n).length = s → ∀ k, n / 256 ^ k = 0 ↔ s ≤ k := by
  induction n using Nat.strongRecOn with
  | _ n ih =>
    intro s hs k
    by_cases h : n = 0
    · subst h; rw [be_zero] at hs; simp at hs; subst hs; simp
    · rw [be_pos n h] at hs
      simp at hs
      cases k with
      | zero => simp; omega
      | succ k =>
        have := ih (n / 256) (by omega) _ rfl k
        rw [Nat.pow_succ, Nat.mul_comm, ← Nat.div_div_eq_div_mul, this]
        omega
def numE (n : Nat) : List UInt8 := UInt8.ofNat (be n).length :: be n
def textE (s : List UInt8) : List UInt8 := numE s.length ++ s
def flagE (b : Bool) : List UInt8 := [if b then 1 else 0]
structure Wr where
  key : List UInt8
  val : List UInt8
  gone : Bool
def writeE (w : Wr) : List UInt8 := textE w.key ++ flagE w.gone ++ textE w.val
def writesE (ws : List Wr) : List UInt8 := numE ws.length ++ ws.flatMap writeE
def commitE (seq time : Nat) (ws : List Wr) : List UInt8 := numE seq ++ numE time ++ writesE ws
def prevOk (lt : List UInt8 → List UInt8 → Bool) : Option (List UInt8) → List UInt8 → Bool
  | none, _ => true
  | some p, k => lt p k
/-- writes that may be: keys rising (lt: the order of keys), nothing too long -/
def risesFrom (lt : List UInt8 → List UInt8 → Bool) : Option (List UInt8) → List Wr → Bool
  | _, [] => true
  | prev, w :: r => !w.key.isEmpty && decide (w.key.length ≤ 400) && decide (w.val.length ≤ 4096) && (!w.gone || w.val.isEmpty) && prevOk lt prev w.key && risesFrom lt (some w.key) r
end Go.Proofs.Ytmafibbnojdpjaa.RecP
end
