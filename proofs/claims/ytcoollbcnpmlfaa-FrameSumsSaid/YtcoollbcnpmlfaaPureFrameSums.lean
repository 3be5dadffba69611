/- FrameSums: the checksum is affine. Proved for every input; no condition. This text: the plain half. -/
import Derived.Test.YtcoollbcnpmlfaaPx15
import Derived.Test.YtcoollbcnpmlfaaFrEv
set_option linter.unusedVariables false
set_option linter.unusedSimpArgs false
namespace Go.Proofs.Ytcoollbcnpmlfaa.Pure
open Go.RowKit Go.Proofs.Ytcoollbcnpmlfaa.P Go.Proofs.YtcoollbcnpmlfaaW.PrintWords Go.Proofs.YtcoollbcnpmlfaaW.PrintLast Go.Proofs.YtcoollbcnpmlfaaW.PrintMore
open Go.Proofs.Ytcoollbcnpmlfaa.Crc Go.Proofs.Ytcoollbcnpmlfaa.Fr Go.Proofs.Ytcoollbcnpmlfaa.FrEv

def I8 (l : List UInt8) : List Int := l.map fun b => (b.toNat : Int)
theorem I8_str (l : List UInt8) : strOfNums (I8 l) = B l := by
  unfold strOfNums I8 B
  congr 1
  simp [List.map_map, Function.comp_def]
theorem zeros8 (n : Nat) : strOfNums (List.replicate n 0) = B (List.replicate n 0) := by
  have := I8_str (List.replicate n 0)
  rw [← this]
  unfold I8
  rw [List.map_replicate]
  rfl
theorem toNat_ofInt8 (v : BitVec 8) : BitVec.ofInt 8 (v.toNat : Int) = v := by
  apply BitVec.eq_of_toNat_eq
  simp [BitVec.toNat_ofInt]
theorem xor8 (x y : UInt8) : Go.bits .xor .u8 (x.toNat : Int) (y.toNat : Int) = ((x ^^^ y).toNat : Int) := by
  show IntKind.u8.wrap ((BitVec.ofInt 8 (x.toBitVec.toNat : Int) ^^^ BitVec.ofInt 8 (y.toBitVec.toNat : Int)).toNat : Int) = _
  rw [toNat_ofInt8, toNat_ofInt8]
  have h : (x ^^^ y).toNat = (x.toBitVec ^^^ y.toBitVec).toNat := rfl
  rw [h]
  have := (x.toBitVec ^^^ y.toBitVec).isLt
  rw [show IntKind.u8.wrap (((x.toBitVec ^^^ y.toBitVec).toNat : Nat) : Int) = (((x.toBitVec ^^^ y.toBitVec).toNat : Nat) : Int) % 256 from rfl]
  omega
theorem xors_take (a b : List UInt8) (i : Nat) (ha : i < a.length) (hb : i < b.length) : xors (a.take (i + 1)) (b.take (i + 1)) = xors (a.take i) (b.take i) ++ [a.getD i 0 ^^^ b.getD i 0] := by
  unfold xors
  rw [← List.take_zipWith, ← List.take_zipWith, List.take_add_one]
  congr 1
  simp [List.getElem?_zipWith, List.getD_eq_getElem?_getD, List.getElem?_eq_getElem ha, List.getElem?_eq_getElem hb]
theorem sums_l0 (a b : List UInt8) (n : Nat) (hn : n ≤ 200) (ha : n ≤ a.length) (hb : n ≤ b.length) : ∀ (d i : Nat), i + d = n →
    Ev (fun k => mailbaglaw05_FrameSums.l0 k (B a) (B b) (n : Int) (I8 (xors (a.take i) (b.take i))) (i : Int)) true := by
  intro d
  induction d with
  | zero =>
    intro i hd
    have e : i = n := by omega
    subst e
    have la : (a.take i).length = i := by rw [List.length_take]; omega
    have lb : (b.take i).length = i := by rw [List.length_take]; omega
    have lx : (xors (a.take i) (b.take i)).length = i := by unfold xors; rw [List.length_zipWith, la, lb, Nat.min_self]
    refine Ev.step (fun k => by simp only [mailbaglaw05_FrameSums.l0]; rfl) ?_
    refine ev_neg (by omega) ?_
    rw [I8_str, Int.toNat_natCast, B_upto, B_upto, zeros8, B_size, B_size]
    refine ev_bind (sum_ev _ (by rw [lx]; omega)) (ev_pos (by omega) (ev_pos (by omega) (ev_bind (sum_ev _ (by rw [la]; omega)) (ev_pos (by omega) (ev_bind (sum_ev _ (by rw [lb]; omega)) (ev_pos (by omega) (ev_bind (sum_ev _ (by rw [List.length_replicate]; omega)) ?_)))))))
    have h := crc_affine (a.take i) (b.take i) (by rw [la, lb])
    rw [la] at h
    unfold crcN
    rw [bits_xor, bits_xor, h]
    simp only [BEq.rfl]
    exact Ev.now _
  | succ d ih =>
    intro i hd
    refine Ev.step (fun k => by simp only [mailbaglaw05_FrameSums.l0]; rfl) ?_
    have hl : (I8 (xors (a.take i) (b.take i))).length < 140737488355328 := by
      unfold I8 xors
      rw [List.length_map, List.length_zipWith, List.length_take, List.length_take]; omega
    refine ev_pos (by omega) (ev_pos (by omega) (ev_pos (by rw [B_size]; omega) (ev_pos (by rw [B_size]; omega) (ev_pos hl ?_))))
    rw [B_bt, B_bt, Int.toNat_natCast, xor8, w64 (by omega) (by omega), show (i : Int) + 1 = ((i + 1 : Nat) : Int) from by omega]
    have e : I8 (xors (a.take i) (b.take i)) ++ [((a.getD i 0 ^^^ b.getD i 0).toNat : Int)] = I8 (xors (a.take (i + 1)) (b.take (i + 1))) := by
      rw [xors_take a b i (by omega) (by omega)]
      simp [I8]
    rw [e]
    exact ih (i + 1) (by omega)
theorem FrameSums : mailbaglaw05_FrameSums.Pure := by
  intro a b ha hb
  apply Ev.rounds
  unfold mailbaglaw05_FrameSums.f
  refine ev_bind head_ev (ev_pos rfl ?_)
  rw [B_of a, B_of b, B_size, B_size]
  generalize a.data.toList = x
  generalize b.data.toList = y
  have e : mn (x.length : Int) (y.length : Int) = ((min x.length y.length : Nat) : Int) := by unfold mn; split <;> omega
  rw [e]
  by_cases c : ((min x.length y.length : Nat) : Int) > 200
  · exact ev_pos c (Ev.now _)
  · refine ev_neg c ?_
    have h := sums_l0 x y (min x.length y.length) (by omega) (Nat.min_le_left _ _) (Nat.min_le_right _ _) (min x.length y.length) 0 (Nat.zero_add _)
    exact h
end Go.Proofs.Ytcoollbcnpmlfaa.Pure
