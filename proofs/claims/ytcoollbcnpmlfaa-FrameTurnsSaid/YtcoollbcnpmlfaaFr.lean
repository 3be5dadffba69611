/- The plain facts on frames (lengths, sums, texts as lists of bytes) that the frame statements need. No program here. -/
import Derived.Test.YtcoollbcnpmlfaaCrc
namespace Go.Proofs.Ytcoollbcnpmlfaa.Fr
open Go.Proofs.Ytcoollbcnpmlfaa.Crc

def crcN (l : List UInt8) : Nat := (crc l).toNat
theorem crcN_lt (l : List UInt8) : crcN l < 4294967296 := (crc l).isLt
def four (n : Nat) : List UInt8 := [UInt8.ofNat (n % 256), UInt8.ofNat (n / 256 % 256), UInt8.ofNat (n / 65536 % 256), UInt8.ofNat (n / 16777216 % 256)]
def num (l : List UInt8) : Nat := (l.getD 0 0).toNat + 256 * (l.getD 1 0).toNat + 65536 * (l.getD 2 0).toNat + 16777216 * (l.getD 3 0).toNat
theorem four_length (n : Nat) : (four n).length = 4 := rfl
theorem num_lt (l : List UInt8) : num l < 4294967296 := by
  unfold num
  have h0 := (l.getD 0 0).toNat_lt
  have h1 := (l.getD 1 0).toNat_lt
  have h2 := (l.getD 2 0).toNat_lt
  have h3 := (l.getD 3 0).toNat_lt
  omega
theorem num_four (n : Nat) (h : n < 4294967296) (r : List UInt8) : num (four n ++ r) = n := by
  simp [num, four, List.getD]
  omega
theorem four_num (a b c d : UInt8) (r : List UInt8) : four (num (a :: b :: c :: d :: r)) = [a, b, c, d] := by
  have h0 := a.toNat_lt
  have h1 := b.toNat_lt
  have h2 := c.toNat_lt
  have h3 := d.toNat_lt
  unfold four
  have e : num (a :: b :: c :: d :: r) = a.toNat + 256 * b.toNat + 65536 * c.toNat + 16777216 * d.toNat := rfl
  rw [e]
  rw [show (a.toNat + 256 * b.toNat + 65536 * c.toNat + 16777216 * d.toNat) % 256 = a.toNat from by omega,
    show (a.toNat + 256 * b.toNat + 65536 * c.toNat + 16777216 * d.toNat) / 256 % 256 = b.toNat from by omega,
    show (a.toNat + 256 * b.toNat + 65536 * c.toNat + 16777216 * d.toNat) / 65536 % 256 = c.toNat from by omega,
    show (a.toNat + 256 * b.toNat + 65536 * c.toNat + 16777216 * d.toNat) / 16777216 % 256 = d.toNat from by omega]
  simp
theorem four_take (l : List UInt8) (h : 4 ≤ l.length) : four (num l) = l.take 4 := by
  match l, h with
  | a :: b :: c :: d :: r, _ => rw [four_num]; rfl
  | [], h => simp at h
  | [_], h => simp at h
  | [_, _], h => simp at h
  | [_, _, _], h => simp at h

def frame (s : List UInt8) : List UInt8 := four s.length ++ four (crcN (four s.length)) ++ four (crcN s) ++ s
theorem frame_length (s : List UInt8) : (frame s).length = 12 + s.length := by simp [frame, four_length]; omega
def gets (b : List UInt8) : Option (List UInt8) :=
  if b.length < 12 then none else if crcN (b.take 4) ≠ num (b.drop 4) then none else if 262144 < num b then none else if b.length - 12 < num b then none
  else if crcN ((b.drop 12).take (num b)) ≠ num (b.drop 8) then none else some ((b.drop 12).take (num b))
theorem gets_frame (s r : List UInt8) (h : s.length ≤ 262144) : gets (frame s ++ r) = some s := by
  have e0 : frame s ++ r = four s.length ++ (four (crcN (four s.length)) ++ (four (crcN s) ++ (s ++ r))) := by simp [frame]
  have n0 : num (frame s ++ r) = s.length := by rw [e0]; exact num_four _ (by omega) _
  have t4 : (frame s ++ r).take 4 = four s.length := by rw [e0]; exact List.take_left' rfl
  have d4 : (frame s ++ r).drop 4 = four (crcN (four s.length)) ++ (four (crcN s) ++ (s ++ r)) := by rw [e0]; exact List.drop_left' rfl
  have d8 : (frame s ++ r).drop 8 = four (crcN s) ++ (s ++ r) := by
    rw [show 8 = 4 + 4 from rfl, ← List.drop_drop, d4]; exact List.drop_left' rfl
  have d12 : (frame s ++ r).drop 12 = s ++ r := by
    rw [show 12 = 8 + 4 from rfl, ← List.drop_drop, d8]; exact List.drop_left' rfl
  have hl : (frame s ++ r).length = 12 + s.length + r.length := by simp [frame_length]
  unfold gets
  rw [if_neg (by omega), t4, d4, num_four _ (crcN_lt _), if_neg (by simp), n0, if_neg (by omega), if_neg (by omega), d12, List.take_left' rfl, d8, num_four _ (crcN_lt _), if_neg (by simp)]
theorem gets_some (b s : List UInt8) (h : gets b = some s) : b.take (12 + s.length) = frame s ∧ 12 + s.length ≤ b.length ∧ s.length ≤ 262144 := by
  unfold gets at h
  split at h
  · cases h
  split at h
  · cases h
  split at h
  · cases h
  split at h
  · cases h
  split at h
  · cases h
  rename_i h1 h2 h3 h4 h5
  simp only [Option.some.injEq] at h
  have hs : s.length = num b := by rw [← h, List.length_take, List.length_drop]; omega
  refine ⟨?_, by omega, by omega⟩
  have h2' : crcN (b.take 4) = num (b.drop 4) := by simpa using h2
  have h5' : crcN s = num (b.drop 8) := by rw [← h]; simpa using h5
  unfold frame
  rw [hs, four_take b (by omega), h2', four_take (b.drop 4) (by simp; omega), h5', four_take (b.drop 8) (by simp; omega), ← h]
  apply List.ext_getElem?
  intro i
  simp only [List.getElem?_take, List.getElem?_append, List.length_append, List.length_take, List.length_drop, List.getElem?_drop]
  have m4 : min 4 b.length = 4 := by omega
  have m42 : min 4 (b.length - 4) = 4 := by omega
  have m43 : min 4 (b.length - 8) = 4 := by omega
  rw [m4, m42, m43]
  by_cases c1 : i < 4
  · rw [if_pos (show i < 12 + num b by omega), if_pos (by omega), if_pos (by omega), if_pos (by omega), if_pos c1]
  by_cases c2 : i < 8
  · rw [if_pos (show i < 12 + num b by omega), if_pos (by omega), if_pos (by omega), if_neg (by omega), if_pos (by omega), show 4 + (i - 4) = i from by omega]
  by_cases c3 : i < 12
  · rw [if_pos (show i < 12 + num b by omega), if_pos (by omega), if_neg (by omega), if_pos (by omega), show 8 + (i - (4 + 4)) = i from by omega]
  by_cases c4 : i < 12 + num b
  · rw [if_pos c4, if_neg (by omega), if_pos (by omega), show 12 + (i - (4 + 4 + 4)) = i from by omega]
  · rw [if_neg c4, if_neg (by omega), if_neg (by omega)]
theorem gets_cut (s : List UInt8) (m : Nat) (h : s.length ≤ 262144) (hm : m < 12 + s.length) : gets ((frame s).take m) = none := by
  unfold gets
  have hl : ((frame s).take m).length = m := by rw [List.length_take, frame_length]; omega
  rw [hl]
  by_cases c : m < 12
  · rw [if_pos c]
  rw [if_neg c]
  split
  · rfl
  have n0 : num ((frame s).take m) = s.length := by
    have e : (frame s).take m = four s.length ++ ((frame s).take m).drop 4 := by
      have e1 : ((frame s).take m).take 4 = four s.length := by
        rw [List.take_take, show min 4 m = 4 from by omega]
        unfold frame
        simp only [List.append_assoc]
        exact List.take_left' rfl
      rw [← e1]
      exact (List.take_append_drop 4 _).symm
    rw [e]; exact num_four _ (by omega) _
  rw [n0, if_neg (by omega), if_pos (by omega)]
end Go.Proofs.Ytcoollbcnpmlfaa.Fr
