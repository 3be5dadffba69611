/- The printed functions of package frame, as the plain functions on lists of bytes: Sum, number, four, Put, Get, All. -/
import Derived.Test.YtcoollbcnpmlfaaFr
import Derived.Test.YtcoollbcnpmlfaaPx1
import Derived.Test.YtcoollbcnpmlfaaPx2
import Derived.Test.YtcoollbcnpmlfaaPx3
import Derived.Test.YtcoollbcnpmlfaaPx4
import Derived.Test.YtcoollbcnpmlfaaPx5
import Derived.Test.YtcoollbcnpmlfaaPx6
import Derived.Test.YtcoollbcnpmlfaaPx7
import Derived.Test.YtcoollbcnpmlfaaPx8
set_option linter.unusedVariables false
set_option linter.unusedSimpArgs false
namespace Go.Proofs.Ytcoollbcnpmlfaa.FrEv
open Go.RowKit Go.Proofs.Ytcoollbcnpmlfaa.P Go.Proofs.YtcoollbcnpmlfaaW.PrintWords Go.Proofs.YtcoollbcnpmlfaaW.PrintLast
open Go.Proofs.Ytcoollbcnpmlfaa.Crc Go.Proofs.Ytcoollbcnpmlfaa.Fr

theorem ev_pos {α : Type} {c : Prop} [Decidable c] {f g : Nat → Option α} {r : α} (h : c) (k : Ev f r) : Ev (fun n => if c then f n else g n) r := by
  simp only [if_pos h]; exact k
theorem ev_neg {α : Type} {c : Prop} [Decidable c] {f g : Nat → Option α} {r : α} (h : ¬ c) (k : Ev g r) : Ev (fun n => if c then f n else g n) r := by
  simp only [if_neg h]; exact k
theorem ev_bind {α β : Type} {g : Nat → Option α} {f : Nat → α → Option β} {a : α} {r : β} (h : Ev g a) (k : Ev (fun n => f n a) r) : Ev (fun n => (g n).bind (f n)) r := h.bind k
theorem ev_some {α β : Type} {f : Nat → α → Option β} {a : α} {r : β} (k : Ev (fun n => f n a) r) : Ev (fun n => (some a).bind (f n)) r := by
  simp only [Option.bind_some]; exact k
theorem w64 {x : Int} (h0 : -9223372036854775808 ≤ x) (h1 : x < 9223372036854775808) : wrap64 x = x := by
  unfold wrap64; omega

/-- bytes, as the program has them -/
def B (l : List UInt8) : ByteArray := ⟨l.toArray⟩
theorem B_of (s : ByteArray) : s = B s.data.toList := by unfold B; rw [Array.toArray_toList]
theorem B_size (l : List UInt8) : (B l).size = l.length := by simp [B, ByteArray.size]
theorem B_toList (l : List UInt8) : (B l).toList = l := by rw [ByteArray.toList_eq]; rfl
theorem B_append (a b : List UInt8) : B a ++ B b = B (a ++ b) := by
  apply ByteArray.ext
  simp [B, ByteArray.data_append]
theorem B_extract (l : List UInt8) (i j : Nat) : (B l).extract i j = B ((l.take j).drop i) := by
  apply ByteArray.ext
  simp [B, ByteArray.data_extract, List.drop_take]
theorem B_from (l : List UInt8) (i : Nat) : (B l).extract i (B l).size = B (l.drop i) := by
  rw [B_extract, B_size, List.take_length]
theorem B_upto (l : List UInt8) (j : Nat) : (B l).extract 0 j = B (l.take j) := by
  rw [B_extract]; rfl
theorem B_bt (l : List UInt8) (i : Int) : bt (B l) i = ((l.getD i.toNat 0).toNat : Int) := by
  unfold bt
  by_cases h : i.toNat < l.length
  · have h' : i.toNat < (B l).size := by rw [B_size]; exact h
    rw [dif_pos h']
    have e : (B l)[i.toNat]'h' = l[i.toNat] := by
      rfl
    rw [e]
    simp only [List.getD, List.getElem?_eq_getElem h, Option.getD_some]
    rfl
  · have h' : ¬ i.toNat < (B l).size := by rw [B_size]; exact h
    rw [dif_neg h']
    simp [List.getD, List.getElem?_eq_none (show l.length ≤ i.toNat by omega)]
theorem B_nil : (⟨#[]⟩ : ByteArray) = B [] := rfl

/-! numbers of 32 bits -/
theorem toNat_ofInt (v : BitVec 32) : BitVec.ofInt 32 (v.toNat : Int) = v := by
  rw [BitVec.ofInt_natCast, BitVec.ofNat_toNat, BitVec.setWidth_eq]
theorem wrap_u32_of (v : BitVec 32) : IntKind.u32.wrap (v.toNat : Int) = v.toNat := by
  rw [IntKind.wrap_u32]
  have := v.isLt
  omega
theorem bits_xor (a b : BitVec 32) : Go.bits .xor .u32 (a.toNat : Int) (b.toNat : Int) = ((a ^^^ b).toNat : Int) := by
  show IntKind.u32.wrap ((BitVec.ofInt 32 (a.toNat : Int) ^^^ BitVec.ofInt 32 (b.toNat : Int)).toNat : Int) = _
  rw [toNat_ofInt, toNat_ofInt, wrap_u32_of]
theorem bits_and_one (a : BitVec 32) : Go.bits .and .u32 (a.toNat : Int) 1 = if a.getLsbD 0 then 1 else 0 := by
  show IntKind.u32.wrap ((BitVec.ofInt 32 (a.toNat : Int) &&& BitVec.ofInt 32 1).toNat : Int) = _
  rw [toNat_ofInt, wrap_u32_of]
  have e : BitVec.ofInt 32 1 = 1#32 := rfl
  rw [e, BitVec.toNat_and]
  have h : a.toNat &&& (1#32).toNat = a.toNat % 2 := by
    show a.toNat &&& 1 = _
    exact Nat.and_one_is_mod _
  rw [h]
  have hl : a.getLsbD 0 = decide (a.toNat % 2 = 1) := by
    simp [BitVec.getLsbD, Nat.testBit_zero]
  rw [hl]
  by_cases c : a.toNat % 2 = 1
  · simp [c]
  · have : a.toNat % 2 = 0 := by omega
    simp [this]
theorem shr_one (a : BitVec 32) : (a.toNat : Int) / (2 : Int) = ((a >>> 1).toNat : Int) := by
  rw [BitVec.toNat_ushiftRight, Nat.shiftRight_eq_div_pow]
  rfl
theorem step_odd (a : BitVec 32) (h : a.getLsbD 0 = true) : Go.bits .xor .u32 ((a.toNat : Int) / 2) 2197175160 = ((Crc.step a).toNat : Int) := by
  rw [shr_one]
  have := bits_xor (a >>> 1) poly
  rw [show (poly.toNat : Int) = 2197175160 from rfl] at this
  rw [this, Crc.step, if_pos h]
theorem step_even (a : BitVec 32) (h : a.getLsbD 0 = false) : (a.toNat : Int) / 2 = ((Crc.step a).toNat : Int) := by
  rw [shr_one, Crc.step, h]
  rfl
theorem not_of (a : BitVec 32) : Go.bits .xor .u32 4294967295 (a.toNat : Int) = ((~~~ a).toNat : Int) := by
  have := bits_xor 0xffffffff#32 a
  rw [show ((0xffffffff#32).toNat : Int) = 4294967295 from rfl] at this
  rw [this]
  congr 1
theorem xor_byte (a : BitVec 32) (b : UInt8) : Go.bits .xor .u32 (a.toNat : Int) ((b.toNat : Int) % 4294967296) = ((a ^^^ byte b).toNat : Int) := by
  rw [← bits_xor]
  congr 1
  have := b.toNat_lt
  have e : (byte b).toNat = b.toNat := by
    unfold byte
    rw [BitVec.toNat_setWidth]
    show b.toNat % 2 ^ 32 = b.toNat
    omega
  rw [e]
  omega
theorem or_add (i : Nat) (x y : Nat) (hi : i ≤ 32) (hx : x < 2 ^ i) (hm : y % 2 ^ i = 0) (hy : y < 4294967296) : Go.bits .or .u32 (x : Int) (y : Int) = ((x + y : Nat) : Int) := by
  have hx' : x < 2 ^ 32 := Nat.lt_of_lt_of_le hx (Nat.pow_le_pow_right (by decide) hi)
  have := (bits_nat .u32 32 (by decide) (fun n h0 h1 => by rw [IntKind.wrap_u32]; have h1' : n < 4294967296 := h1; omega) x y hx' hy).2
  rw [this]
  congr 1
  have hq : y = 2 ^ i * (y / 2 ^ i) := by
    have := Nat.div_add_mod y (2 ^ i)
    omega
  rw [Nat.or_comm, hq, ← Nat.two_pow_add_eq_or_of_lt hx, Nat.add_comm]

/-! Sum -/
theorem sum_l1 (x : ByteArray) (n i : Int) (r : Int) : ∀ (d : Nat) (j : Int) (v : BitVec 32), 0 ≤ j → j + d = 8 →
    Ev (fun k => frame_Sum.l0 k x ((steps d v).toNat) n (wrap64 (i + 1))) r → Ev (fun k => frame_Sum.l1 k x (v.toNat) n i j) r
  | 0, j, v, h0, h8, h => Ev.step (fun k => by simp only [frame_Sum.l1]; rw [if_neg (by omega)]; rfl) h
  | d + 1, j, v, h0, h8, h => by
    have hj : wrap64 (j + 1) = j + 1 := w64 (by omega) (by omega)
    have ih := sum_l1 x n i r d (j + 1) (Crc.step v) (by omega) (by omega) h
    cases e : v.getLsbD 0 with
    | true => exact Ev.step (fun k => by simp only [frame_Sum.l1]; rw [if_pos (by omega), bits_and_one, e, if_pos (by simp), step_odd v e, hj]) ih
    | false => exact Ev.step (fun k => by simp only [frame_Sum.l1]; rw [if_pos (by omega), bits_and_one, e, if_neg (by simp), step_even v e, hj]) ih
theorem sum_l0 (l : List UInt8) (hl : l.length ≤ 9223372036854775807) : ∀ (d i : Nat) (v : BitVec 32), i + d = l.length →
    Ev (fun k => frame_Sum.l0 k (B l) (v.toNat) (l.length : Int) i) ((~~~ (reg v (l.drop i))).toNat : Int)
  | 0, i, v, h => by
    have e : l.drop i = [] := List.drop_eq_nil_of_le (by omega)
    rw [e]
    exact Ev.step (f := fun _ => _) (fun k => by simp only [frame_Sum.l0]; rw [if_neg (by omega), not_of]; rfl) (Ev.now _)
  | d + 1, i, v, h => by
    have hi : i < l.length := by omega
    have e : l.drop i = l[i] :: l.drop (i + 1) := List.drop_eq_getElem_cons hi
    rw [e]
    have ih := sum_l0 l hl d (i + 1) (steps 8 (v ^^^ byte l[i])) (by omega)
    refine Ev.step (f := fun k => frame_Sum.l1 k (B l) ((v ^^^ byte l[i]).toNat) (l.length : Int) i 0) (fun k => ?_) (sum_l1 (B l) _ i _ 8 0 _ (by omega) (by omega) ?_)
    · simp only [frame_Sum.l0]
      rw [if_pos (by omega), if_pos (by omega), if_pos (by rw [B_size]; omega), B_bt]
      rw [show l.getD (i : Int).toNat 0 = l[i] from by simp [List.getD, List.getElem?_eq_getElem hi], xor_byte]
    · rw [show wrap64 ((i : Int) + 1) = ((i + 1 : Nat) : Int) from by rw [w64 (by omega) (by omega)]; rfl]
      exact ih
theorem sum_ev (l : List UInt8) (hl : l.length ≤ 9223372036854775807) : Ev (fun k => frame_Sum.f k (B l)) (crcN l : Int) := by
  have := sum_l0 l hl l.length 0 0xffffffff#32 (by omega)
  refine Ev.congr (fun k => ?_) this
  show frame_Sum.l0 k (B l) 4294967295 ((B l).size : Int) 0 = _
  rw [B_size]
  rfl

theorem number_eq (l : List UInt8) (h : 4 ≤ l.length) : frame_number.f (B l) = some (num l : Int) := by
  unfold frame_number.f
  rw [B_size, if_pos (by omega), if_pos (by omega), if_pos (by omega), if_pos (by omega), B_bt, B_bt, B_bt, B_bt]
  have e0 := (l.getD 0 0).toNat_lt
  have e1 := (l.getD 1 0).toNat_lt
  have e2 := (l.getD 2 0).toNat_lt
  have e3 := (l.getD 3 0).toNat_lt
  simp only [show (0 : Int).toNat = 0 from rfl, show (1 : Int).toNat = 1 from rfl, show (2 : Int).toNat = 2 from rfl, show (3 : Int).toNat = 3 from rfl]
  obtain ⟨a, ha⟩ : ∃ a, a = (l.getD 0 0).toNat := ⟨_, rfl⟩
  obtain ⟨b, hb⟩ : ∃ b, b = (l.getD 1 0).toNat := ⟨_, rfl⟩
  obtain ⟨c, hc⟩ : ∃ c, c = (l.getD 2 0).toNat := ⟨_, rfl⟩
  obtain ⟨d, hd⟩ : ∃ d, d = (l.getD 3 0).toNat := ⟨_, rfl⟩
  unfold num
  rw [← ha, ← hb, ← hc, ← hd]
  rw [← ha] at e0
  rw [← hb] at e1
  rw [← hc] at e2
  rw [← hd] at e3
  have r1 : ((a : Int) % 4294967296) = (a : Int) := by omega
  have r2 : ((b : Int) % 4294967296 * 256) % 4294967296 = ((b * 256 : Nat) : Int) := by omega
  have r3 : ((c : Int) % 4294967296 * 65536) % 4294967296 = ((c * 65536 : Nat) : Int) := by omega
  have r4 : ((d : Int) % 4294967296 * 16777216) % 4294967296 = ((d * 16777216 : Nat) : Int) := by omega
  rw [r1, r2, r3, r4, or_add 8 _ _ (by decide) (by omega) (by omega) (by omega), or_add 16 _ _ (by decide) (by omega) (by omega) (by omega), or_add 24 _ _ (by decide) (by omega) (by omega) (by omega)]
  congr 1
  omega
theorem four_eq (n : Nat) (h : n < 4294967296) : frame_four.f (n : Int) = some (B (four n)) := by
  unfold frame_four.f
  congr 1
theorem lfour_eq (n : Nat) (h : n < 4294967296) : mailbaglaw05_four.f (n : Int) = some (B (four n)) := by
  rw [← four_eq n h]
  unfold mailbaglaw05_four.f frame_four.f
  rw [Int.tmod_eq_emod_of_nonneg (by omega), Int.tdiv_eq_ediv_of_nonneg (by omega), Int.tdiv_eq_ediv_of_nonneg (by omega), Int.tdiv_eq_ediv_of_nonneg (by omega)]
  have e1 : ((n : Int) / 256) % 4294967296 = (n : Int) / 256 := by omega
  have e2 : ((n : Int) / 65536) % 4294967296 = (n : Int) / 65536 := by omega
  have e3 : ((n : Int) / 16777216) % 4294967296 = (n : Int) / 16777216 := by omega
  have e0 : ((n : Int) % 256) % 256 = (n : Int) % 256 := by omega
  rw [e0, e1, e2, e3]

theorem put_ev (s : List UInt8) (h : s.length ≤ 262144) : Ev (fun k => frame_Put.f k (B s)) (B (frame s), 0) := by
  unfold frame_Put.f
  rw [B_size]
  refine ev_neg (by omega) ?_
  rw [show ((s.length : Int) % 4294967296) = (s.length : Int) from by omega, four_eq _ (by omega)]
  refine ev_some (ev_bind (sum_ev (four s.length) (by rw [four_length]; omega)) ?_)
  rw [four_eq _ (crcN_lt _)]
  refine ev_some (ev_pos (by simp only [B_size, four_length]; omega) (ev_bind (sum_ev s (by omega)) ?_))
  rw [four_eq _ (crcN_lt _)]
  refine ev_some (ev_pos (by simp only [B_size, four_length]; omega) (ev_pos (by simp only [B_size, four_length]; omega) ?_))
  rw [B_append, B_append, B_append]
  exact Ev.now _
theorem put_long (s : List UInt8) (h : 262144 < s.length) : Ev (fun k => frame_Put.f k (B s)) (B [], 4) := by
  unfold frame_Put.f
  rw [B_size]
  exact ev_pos (by omega) (Ev.now _)
theorem one_ev (s : List UInt8) (h : s.length ≤ 262144) : Ev (fun k => mailbaglaw05_one.f k (B s)) (B (frame s)) := by
  unfold mailbaglaw05_one.f
  rw [B_size, show ((s.length : Int) % 4294967296) = (s.length : Int) from by omega, lfour_eq _ (by omega)]
  refine ev_some (ev_bind (sum_ev (four s.length) (by rw [four_length]; omega)) ?_)
  rw [lfour_eq _ (crcN_lt _)]
  refine ev_some (ev_pos (by simp only [B_size, four_length]; omega) (ev_bind (sum_ev s (by omega)) ?_))
  rw [lfour_eq _ (crcN_lt _)]
  refine ev_some (ev_pos (by simp only [B_size, four_length]; omega) (ev_pos (by simp only [B_size, four_length]; omega) ?_))
  rw [B_append, B_append, B_append]
  exact Ev.now _

/-- what Get answers -/
def got (b : List UInt8) : ByteArray × Int := match gets b with
  | some s => (B s, ((12 + s.length : Nat) : Int))
  | none => (B [], 0)
theorem get_j1 (b : List UInt8) (hb : b.length ≤ 140737488355328) (h12 : 12 ≤ b.length) (hc : crcN (b.take 4) = num (b.drop 4)) (h1 : ¬ 262144 < num b) (h2 : ¬ b.length - 12 < num b) :
    Ev (fun k => frame_Get.j1 k (B b) (num b : Int) false) (got b) := by
  have e : wrap64 (12 + wrap64 (num b : Int)) = ((12 + num b : Nat) : Int) := by
    rw [w64 (x := (num b : Int)) (by omega) (by omega), w64 (by omega) (by omega)]; rfl
  have ht : (b.take (12 + num b)).drop 12 = (b.drop 12).take (num b) := by rw [List.drop_take]; congr 1; omega
  refine Ev.step (fun k => by simp only [frame_Get.j1]; rw [if_neg (by simp)]) ?_
  rw [e]
  refine ev_pos (by omega) (ev_pos (by rw [B_size]; omega) ?_)
  rw [show ((12 + num b : Nat) : Int).toNat = 12 + num b from by omega, B_extract, ht]
  refine ev_bind (sum_ev _ (by rw [List.length_take, List.length_drop]; omega)) (ev_pos (by rw [B_size]; omega) ?_)
  rw [B_from, number_eq _ (by rw [List.length_drop]; omega)]
  refine ev_some ?_
  by_cases c : crcN ((b.drop 12).take (num b)) = num (b.drop 8)
  · refine ev_pos (by rw [c]) ?_
    have hg : gets b = some ((b.drop 12).take (num b)) := by
      unfold gets
      rw [if_neg (by omega), if_neg (by simp [hc]), if_neg h1, if_neg h2, if_neg (by simp [c])]
    unfold got
    rw [hg]
    have hl : ((b.drop 12).take (num b)).length = num b := by rw [List.length_take, List.length_drop]; omega
    simp only [hl]
    exact Ev.now _
  · refine ev_neg (by omega) ?_
    have hg : gets b = none := by
      unfold gets
      rw [if_neg (by omega), if_neg (by simp [hc]), if_neg h1, if_neg h2, if_pos c]
    unfold got
    rw [hg]
    exact Ev.now _
theorem get_ev (b : List UInt8) (hb : b.length ≤ 140737488355328) : Ev (fun k => frame_Get.f k (B b)) (got b) := by
  unfold frame_Get.f
  rw [B_size]
  by_cases c1 : b.length < 12
  · refine ev_pos (by omega) (Ev.step (f := fun _ => _) (fun k => by simp only [frame_Get.j0]; rw [if_pos trivial]) ?_)
    unfold got gets
    rw [if_pos c1]
    exact Ev.now _
  refine ev_neg (by omega) (ev_pos (by omega) (ev_pos (by omega) ?_))
  rw [B_upto]
  refine ev_bind (sum_ev _ (by rw [List.length_take]; omega)) ?_
  rw [show (b.length : Nat) = (B b).size from (B_size b).symm, B_from, number_eq _ (by rw [List.length_drop]; omega)]
  refine ev_some ?_
  by_cases c2 : crcN (b.take 4) = num (b.drop 4)
  · have e : ((crcN (b.take 4) : Int) != (num (b.drop 4) : Int)) = false := by simp [c2]
    rw [e]
    refine Ev.step (fun k => by simp only [frame_Get.j0]; rw [if_neg (by simp)]) ?_
    rw [number_eq _ (by omega)]
    refine ev_some ?_
    by_cases c3 : 262144 < num b
    · refine ev_pos (by omega) (Ev.step (f := fun _ => _) (fun k => by simp only [frame_Get.j1]; rw [if_pos trivial]) ?_)
      unfold got gets
      rw [if_neg c1, if_neg (by simp [c2]), if_pos c3]
      exact Ev.now _
    refine ev_neg (by omega) ?_
    rw [B_size, w64 (x := (b.length : Int) - 12) (by omega) (by omega), w64 (x := (num b : Int)) (by omega) (by omega)]
    by_cases c4 : b.length - 12 < num b
    · rw [show decide ((b.length : Int) - 12 < (num b : Int)) = true from decide_eq_true (by omega)]
      refine Ev.step (f := fun _ => _) (fun k => by simp only [frame_Get.j1]; rw [if_pos trivial]) ?_
      unfold got gets
      rw [if_neg c1, if_neg (by simp [c2]), if_neg c3, if_pos c4]
      exact Ev.now _
    · rw [show decide ((b.length : Int) - 12 < (num b : Int)) = false from decide_eq_false (by omega)]
      exact get_j1 b hb (by omega) c2 c3 c4
  · have e : ((crcN (b.take 4) : Int) != (num (b.drop 4) : Int)) = true := by simp; omega
    rw [e]
    refine Ev.step (f := fun _ => _) (fun k => by simp only [frame_Get.j0]; rw [if_pos trivial]) ?_
    unfold got gets
    rw [if_neg c1, if_pos (by simpa using c2)]
    exact Ev.now _

theorem head_ev : Ev (fun k => mailbaglaw05_head.f k) true := by
  unfold mailbaglaw05_head.f
  have e : (⟨#[120]⟩ : ByteArray) = B [120] := rfl
  have e9 : (⟨#[49, 50, 51, 52, 53, 54, 55, 56, 57]⟩ : ByteArray) = B [49, 50, 51, 52, 53, 54, 55, 56, 57] := rfl
  rw [e, e9]
  refine ev_bind (put_ev [120] (by decide)) (ev_bind (get_ev (frame [120]) (by rw [frame_length]; decide)) (ev_bind (sum_ev _ (by decide)) ?_))
  have hg : got (frame [120]) = (B [120], 13) := by
    unfold got
    have := gets_frame [120] [] (by decide)
    rw [List.append_nil] at this
    rw [this]
    rfl
  rw [hg]
  refine ev_pos (by decide +kernel) (ev_pos rfl (ev_pos (by rw [B_size, frame_length]; rfl) (ev_pos (by rw [B_toList]) ?_)))
  exact Ev.now _
end Go.Proofs.Ytcoollbcnpmlfaa.FrEv
