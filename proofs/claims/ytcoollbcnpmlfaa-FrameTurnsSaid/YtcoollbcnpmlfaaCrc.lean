/- The plain facts on CRC-32 (Castagnoli) that the frame statements need: linear, one to one, and a burst of at most 32 bits is never missed. No program here. -/
namespace Go.Proofs.Ytcoollbcnpmlfaa.Crc

def poly : BitVec 32 := 0x82f63b78#32
/-- one bit -/
def step (c : BitVec 32) : BitVec 32 := if c.getLsbD 0 then (c >>> 1) ^^^ poly else c >>> 1
def steps : Nat → BitVec 32 → BitVec 32
  | 0, c => c
  | n + 1, c => steps n (step c)
def byte (b : UInt8) : BitVec 32 := b.toBitVec.setWidth 32
def reg : BitVec 32 → List UInt8 → BitVec 32
  | c, [] => c
  | c, b :: r => reg (steps 8 (c ^^^ byte b)) r
def crc (l : List UInt8) : BitVec 32 := ~~~ (reg 0xffffffff#32 l)

theorem step_xor (a b : BitVec 32) : step (a ^^^ b) = step a ^^^ step b := by
  unfold step
  rw [BitVec.getLsbD_xor]
  cases a.getLsbD 0 <;> cases b.getLsbD 0 <;> simp [BitVec.ushiftRight_xor_distrib]
  · rw [BitVec.xor_assoc]
  · rw [BitVec.xor_assoc, BitVec.xor_comm (b >>> 1) poly, BitVec.xor_assoc]
  · rw [show a >>> 1 ^^^ poly ^^^ (b >>> 1 ^^^ poly) = (a >>> 1 ^^^ b >>> 1) ^^^ (poly ^^^ poly) from by ac_rfl, BitVec.xor_self, BitVec.xor_zero]
theorem step_zero : step 0#32 = 0#32 := by decide
theorem step_inj0 (c : BitVec 32) (h : step c = 0#32) : c = 0#32 := by
  have h31 : (step c).getLsbD 31 = false := by rw [h]; simp
  have hl : c.getLsbD 0 = false := by
    unfold step at h31
    cases e : c.getLsbD 0
    · rfl
    · rw [e] at h31
      simp [poly] at h31
  unfold step at h
  rw [hl] at h
  simp only [Bool.false_eq_true, if_false] at h
  apply BitVec.eq_of_getLsbD_eq
  intro i hi
  cases i with
  | zero => rw [hl]; rfl
  | succ i =>
    have := congrArg (fun x => x.getLsbD i) h
    simp [BitVec.getLsbD_ushiftRight] at this
    simp [Nat.add_comm] at this ⊢
    exact this
theorem step_inj (a b : BitVec 32) (h : step a = step b) : a = b := by
  have : step (a ^^^ b) = 0#32 := by rw [step_xor, h, BitVec.xor_self]
  have := step_inj0 _ this
  exact BitVec.xor_eq_zero_iff.1 this
theorem steps_xor (n : Nat) : ∀ a b, steps n (a ^^^ b) = steps n a ^^^ steps n b := by
  induction n with
  | zero => intro a b; rfl
  | succ n ih => intro a b; simp only [steps]; rw [step_xor, ih]
theorem steps_zero (n : Nat) : steps n 0#32 = 0#32 := by
  induction n with
  | zero => rfl
  | succ n ih => simp only [steps]; rw [step_zero, ih]
theorem steps_inj0 (n : Nat) : ∀ c, steps n c = 0#32 → c = 0#32 := by
  induction n with
  | zero => intro c h; exact h
  | succ n ih => intro c h; exact step_inj0 c (ih _ h)

theorem byte_xor (a b : UInt8) : byte (a ^^^ b) = byte a ^^^ byte b := by
  unfold byte
  rw [UInt8.toBitVec_xor, BitVec.setWidth_xor]
theorem byte_zero : byte 0 = 0#32 := by decide

/-- two texts of one length, laid over each other -/
def xors (a b : List UInt8) : List UInt8 := List.zipWith (· ^^^ ·) a b
theorem reg_xor : ∀ (a b : List UInt8) (c d : BitVec 32), a.length = b.length → reg (c ^^^ d) (xors a b) = reg c a ^^^ reg d b
  | [], [], c, d, _ => rfl
  | x :: a, y :: b, c, d, h => by
    simp only [xors, List.zipWith_cons_cons, reg]
    rw [byte_xor, show c ^^^ d ^^^ (byte x ^^^ byte y) = (c ^^^ byte x) ^^^ (d ^^^ byte y) from by ac_rfl, steps_xor]
    exact reg_xor a b _ _ (by simpa using h)
  | [], _ :: _, _, _, h => by simp at h
  | _ :: _, [], _, _, h => by simp at h
theorem xors_zero : ∀ (a : List UInt8), xors a (List.replicate a.length 0) = a
  | [] => rfl
  | x :: a => by
    have := xors_zero a
    simp only [xors] at this ⊢
    simp [List.replicate_succ, this]
theorem not_xor3 (x y z : BitVec 32) : ~~~(x ^^^ y ^^^ z) = ~~~x ^^^ ~~~y ^^^ ~~~z := by
  apply BitVec.eq_of_getLsbD_eq
  intro i hi
  simp [hi]
theorem crc_affine (a b : List UInt8) (h : a.length = b.length) : crc (xors a b) = crc a ^^^ crc b ^^^ crc (List.replicate a.length 0) := by
  have hl : (xors a b).length = a.length := by simp [xors, h]
  have e1 : reg 0xffffffff#32 (xors a b) = reg (0xffffffff#32 ^^^ 0xffffffff#32 ^^^ 0xffffffff#32) (xors (xors a b) (List.replicate a.length 0)) := by
    rw [← hl, xors_zero, BitVec.xor_self, BitVec.zero_xor]
  unfold crc
  rw [← not_xor3, e1, reg_xor _ _ _ _ (by simp [hl]), reg_xor _ _ _ _ h]

/-- noughts in front of nothing -/
theorem reg_noughts (n : Nat) : reg 0#32 (List.replicate n 0) = 0#32 := by
  induction n with
  | zero => rfl
  | succ n ih => simp only [List.replicate_succ, reg]; rw [byte_zero, BitVec.xor_self, steps_zero, ih]
theorem reg_append : ∀ (a b : List UInt8) (c : BitVec 32), reg c (a ++ b) = reg (reg c a) b
  | [], _, _ => rfl
  | x :: a, b, c => by simp only [List.cons_append, reg]; exact reg_append a b _
theorem reg_noughts_inj (n : Nat) : ∀ c, reg c (List.replicate n 0) = 0#32 → c = 0#32 := by
  induction n with
  | zero => intro c h; exact h
  | succ n ih =>
    intro c h
    simp only [List.replicate_succ, reg] at h
    have := ih _ h
    rw [byte_zero, BitVec.xor_zero] at this
    exact steps_inj0 _ _ this
/-- equal sums of texts of one length: the register over what parts them ends at nought -/
theorem crc_eq (a b : List UInt8) (h : a.length = b.length) (e : crc a = crc b) : reg 0#32 (xors a b) = 0#32 := by
  have e' : reg 0xffffffff#32 a = reg 0xffffffff#32 b := by
    unfold crc at e
    have := congrArg (~~~ ·) e
    simpa using this
  have := reg_xor a b 0xffffffff#32 0xffffffff#32 h
  rw [BitVec.xor_self] at this
  rw [this, e', BitVec.xor_self]

/-! a burst -/
def b2v (b : Bool) : BitVec 32 := if b then 1#32 else 0#32
/-- bit by bit, by a function -/
def feed (f : Nat → Bool) : Nat → BitVec 32
  | 0 => 0#32
  | n + 1 => step (feed f n ^^^ b2v (f n))
theorem feed_none (f : Nat → Bool) (a : Nat) (h : ∀ q, q < a → f q = false) : ∀ n, n ≤ a → feed f n = 0#32
  | 0, _ => rfl
  | n + 1, hn => by
    simp only [feed]
    rw [feed_none f a h n (by omega), h n (by omega)]
    decide
def word (f : Nat → Bool) (a : Nat) : Nat → BitVec 32
  | 0 => 0#32
  | n + 1 => word f a n ^^^ (b2v (f (a + n)) <<< n)
theorem steps_one : ∀ i, i < 32 → steps i (1#32 <<< i) = 1#32 := by decide +kernel
theorem steps_b2v (b : Bool) (i : Nat) (h : i < 32) : steps i (b2v b <<< i) = b2v b := by
  cases b
  · simp [b2v, steps_zero]
  · simpa [b2v] using steps_one i h
theorem steps_succ (n : Nat) : ∀ c, steps (n + 1) c = step (steps n c) := by
  induction n with
  | zero => intro c; rfl
  | succ n ih => intro c; simp only [steps]; exact ih (step c)
theorem steps_add (m n : Nat) : ∀ c, steps (m + n) c = steps n (steps m c) := by
  induction n with
  | zero => intro c; rfl
  | succ n ih => intro c; rw [← Nat.add_assoc, steps_succ, ih, steps_succ]
theorem feed_word (f : Nat → Bool) (a : Nat) (h : ∀ q, q < a → f q = false) : ∀ n, n ≤ 32 → feed f (a + n) = steps n (word f a n)
  | 0, _ => feed_none f a h a (Nat.le_refl _)
  | n + 1, hn => by
    rw [← Nat.add_assoc]
    simp only [feed, word]
    rw [feed_word f a h n (by omega), steps_succ, steps_xor, steps_b2v _ _ (by omega)]
theorem feed_after (f : Nat → Bool) (m : Nat) (h : ∀ q, m ≤ q → f q = false) : ∀ k, feed f (m + k) = steps k (feed f m)
  | 0 => rfl
  | k + 1 => by
    rw [← Nat.add_assoc]
    simp only [feed]
    rw [feed_after f m h k, h (m + k) (by omega), steps_succ]
    simp [b2v]
theorem word_bit (f : Nat → Bool) (a : Nat) : ∀ n, n ≤ 32 → ∀ i, i < 32 → (word f a n).getLsbD i = (decide (i < n) && f (a + i))
  | 0, _, i, _ => by simp [word]
  | n + 1, hn, i, hi => by
    simp only [word]
    rw [BitVec.getLsbD_xor, word_bit f a n (by omega) i hi, BitVec.getLsbD_shiftLeft]
    rcases Nat.lt_trichotomy i n with h | h | h
    · simp [h, Nat.lt_succ_of_lt h]
    · subst h
      cases e : f (a + i) <;> simp [b2v, hi]
    · have h1 : ¬ i < n := by omega
      have h2 : ¬ i < n + 1 := by omega
      have h3 : i - n ≠ 0 := by omega
      cases e : f (a + n) <;> simp [b2v, h1, h2, h3]
theorem feed_burst (f : Nat → Bool) (a m : Nat) (h0 : ∀ q, q < a → f q = false) (h1 : ∀ q, a + 32 ≤ q → f q = false) (ham : a ≤ m) (hm : ∀ q, m ≤ q → f q = false)
    (h : feed f m = 0#32) : ∀ q, f q = false := by
  have key : ∀ n, n ≤ 32 → word f a n = 0#32 → ∀ i, i < n → f (a + i) = false := by
    intro n hn hw i hi
    have := word_bit f a n hn i (by omega)
    rw [hw] at this
    simpa [hi] using this.symm
  intro q
  by_cases hq : q < a
  · exact h0 q hq
  by_cases hq2 : a + 32 ≤ q
  · exact h1 q hq2
  by_cases hq3 : m ≤ q
  · exact hm q hq3
  by_cases hm2 : a + 32 ≤ m
  · have e : m = a + 32 + (m - (a + 32)) := by omega
    rw [e, feed_after f (a + 32) h1, feed_word f a h0 32 (by omega)] at h
    have := key 32 (by omega) (steps_inj0 _ _ (steps_inj0 _ _ h)) (q - a) (by omega)
    rwa [show a + (q - a) = q from by omega] at this
  · have e : m = a + (m - a) := by omega
    rw [e, feed_word f a h0 (m - a) (by omega)] at h
    have := key (m - a) (by omega) (steps_inj0 _ _ h) (q - a) (by omega)
    rwa [show a + (q - a) = q from by omega] at this

def feed8 (c : BitVec 32) (b : UInt8) : BitVec 32 :=
  step (step (step (step (step (step (step (step (c ^^^ b2v (b.toBitVec.getLsbD 0)) ^^^ b2v (b.toBitVec.getLsbD 1)) ^^^ b2v (b.toBitVec.getLsbD 2)) ^^^ b2v (b.toBitVec.getLsbD 3)) ^^^ b2v (b.toBitVec.getLsbD 4)) ^^^ b2v (b.toBitVec.getLsbD 5)) ^^^ b2v (b.toBitVec.getLsbD 6)) ^^^ b2v (b.toBitVec.getLsbD 7))
theorem feed8_zero : ∀ b : BitVec 8, steps 8 (b.setWidth 32) = feed8 0#32 ⟨b⟩ := by decide +kernel
theorem feed8_eq (c : BitVec 32) (b : UInt8) : steps 8 (c ^^^ byte b) = feed8 c b := by
  have e := feed8_zero b.toBitVec
  rw [steps_xor]
  unfold byte
  rw [e]
  simp only [feed8, steps, step_xor, BitVec.zero_xor, BitVec.xor_assoc]
/-- bit q of bytes, the lowest one of each first -/
def bit (l : List UInt8) (q : Nat) : Bool := (l.getD (q / 8) 0).toBitVec.getLsbD (q % 8)
theorem reg_snoc (l : List UInt8) (b : UInt8) (c : BitVec 32) : reg c (l ++ [b]) = steps 8 (reg c l ^^^ byte b) := by
  rw [reg_append]; rfl
theorem reg_feed (l : List UInt8) : ∀ j, j ≤ l.length → reg 0#32 (l.take j) = feed (bit l) (8 * j)
  | 0, _ => rfl
  | j + 1, h => by
    have hj : j < l.length := by omega
    rw [List.take_succ_eq_append_getElem hj, reg_snoc, reg_feed l j (by omega), feed8_eq]
    have hb : ∀ t, t < 8 → bit l (8 * j + t) = (l[j]).toBitVec.getLsbD t := by
      intro t ht
      unfold bit
      rw [show (8 * j + t) / 8 = j from by omega, show (8 * j + t) % 8 = t from by omega, show l.getD j 0 = l[j] from by simp [List.getD, List.getElem?_eq_getElem hj]]
    rw [show 8 * (j + 1) = 8 * j + 7 + 1 from by omega]
    simp only [feed, feed8]
    rw [← hb 0 (by omega), ← hb 1 (by omega), ← hb 2 (by omega), ← hb 3 (by omega), ← hb 4 (by omega), ← hb 5 (by omega), ← hb 6 (by omega), ← hb 7 (by omega)]
    rfl
theorem bit_over (l : List UInt8) (q : Nat) (h : 8 * l.length ≤ q) : bit l q = false := by
  unfold bit
  rw [show l.getD (q / 8) 0 = 0 from by simp [List.getD, List.getElem?_eq_none (show l.length ≤ q / 8 by omega)]]
  simp
/-- a burst of at most 32 bits changes the sum, or is none -/
theorem reg_burst (l : List UInt8) (a : Nat) (h0 : ∀ q, q < a → bit l q = false) (h1 : ∀ q, a + 32 ≤ q → bit l q = false) (ha : a ≤ 8 * l.length) (h : reg 0#32 l = 0#32) :
    ∀ q, bit l q = false := by
  have e := reg_feed l l.length (Nat.le_refl _)
  rw [List.take_length, h] at e
  exact feed_burst (bit l) a (8 * l.length) h0 h1 ha (bit_over l) e.symm
end Go.Proofs.Ytcoollbcnpmlfaa.Crc
