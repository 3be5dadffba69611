/- FrameTurns: turned bits within 32 adjacent ones. Proved for every input; no condition. This text: the plain half. -/
import Derived.Test.YtcoollbcnpmlfaaFt0
import Derived.Test.YtcoollbcnpmlfaaTurn2
import Derived.Test.YtcoollbcnpmlfaaFrAll
set_option linter.unusedVariables false
set_option linter.unusedSimpArgs false
set_option linter.unusedSectionVars false
namespace Go.Proofs.Ytcoollbcnpmlfaa.Pure
open Go.RowKit Go.Proofs.Ytcoollbcnpmlfaa.P Go.Proofs.YtcoollbcnpmlfaaW.PrintWords Go.Proofs.YtcoollbcnpmlfaaW.PrintLast
open Go.Proofs.Ytcoollbcnpmlfaa.Crc Go.Proofs.Ytcoollbcnpmlfaa.Fr Go.Proofs.Ytcoollbcnpmlfaa.FrEv Go.Proofs.Ytcoollbcnpmlfaa.FrAll Go.Proofs.Ytcoollbcnpmlfaa.Turn

theorem ft_rd (ls : List (List UInt8)) (i : Nat) (h : i < ls.length) : rdOf ByteArray.empty (ls.map B) (i : Int) = B ls[i] := by
  unfold rdOf
  simp [List.getD, List.getElem?_eq_getElem h]
theorem ft_succ (i : Nat) (h : i < 4611686018427387904) : wrap64 ((i : Int) + 1) = ((i + 1 : Nat) : Int) := by rw [w64 (by omega) (by omega)]; rfl
theorem ft_l2 (ls : List (List UInt8)) (W : Nat) (hW : W ≤ ls.length) (hn : ls.length ≤ 10) : ∀ (d i : Nat), i + d = W →
    Ev (fun k => mailbaglaw05_FrameTurns.l2 k (ls.map B) ((ls.take W).map B) (W : Int) (i : Int)) true := by
  intro d
  have hl : ((ls.take W).map B).length = W := by rw [List.length_map, List.length_take]; omega
  have hl2 : (ls.map B).length = ls.length := List.length_map _
  induction d with
  | zero =>
    intro i hd
    refine Ev.step (fun k => by simp only [mailbaglaw05_FrameTurns.l2]; rfl) ?_
    exact ev_neg (by omega) (Ev.now _)
  | succ d ih =>
    intro i hd
    refine Ev.step (fun k => by simp only [mailbaglaw05_FrameTurns.l2]; rfl) ?_
    refine ev_pos (by omega) (ev_pos (by omega) (ev_pos (by rw [hl]; omega) (ev_pos (by rw [hl2]; omega) ?_)))
    rw [ft_rd (ls.take W) i (by rw [List.length_take]; omega), ft_rd ls i (by omega), List.getElem_take, ft_succ i (by omega)]
    exact ev_pos rfl (ih (i + 1) (by omega))
theorem bit_drop (l : List UInt8) (i q : Nat) : bit (l.drop i) q = bit l (8 * i + q) := by
  unfold bit
  rw [show (8 * i + q) / 8 = i + q / 8 from by omega, show (8 * i + q) % 8 = q % 8 from by omega]
  congr 2
  simp only [List.getD_eq_getElem?_getD, List.getElem?_drop]
theorem xors_append (a b c d : List UInt8) (h : a.length = c.length) : xors (a ++ b) (c ++ d) = xors a c ++ xors b d := by
  unfold xors; exact List.zipWith_append h
/-- where the W-th frame begins -/
def fr (ls : List (List UInt8)) (W : Nat) : Nat := (frames (ls.take W)).length
theorem fr_split (ls : List (List UInt8)) (W : Nat) (hW : W < ls.length) : frames ls = frames (ls.take W) ++ (frame ls[W] ++ frames (ls.drop (W + 1))) := by
  conv => lhs; rw [← List.take_append_drop W ls, frames_append, List.drop_eq_getElem_cons hW, frames_cons]
theorem ft_end (ls : List (List UInt8)) (W : Nat) (hW : W < ls.length) (hn : ls.length ≤ 10) (h2 : ∀ s ∈ ls, s.length ≤ 200) (hb : (frames ls).length ≤ 100000) (E : List UInt8) (hE : (frames ls).length = E.length)
    (a : Nat) (ha : ∀ q, bit E q = true → a ≤ q ∧ q < a + 32) (hz : (∀ q, bit E q = true → 8 * fr ls W ≤ q ∧ q < 8 * fr ls W + 32) ∨ (∀ q, bit E q = true → 8 * fr ls W + 96 ≤ q ∧ q < 8 * fr ls W + 96 + 8 * ls[W].length))
    (q0 : Nat) (h0 : bit E q0 = true) :
    Ev (fun k => (frame_All.f k (strOfNums (I8 (xors (frames ls) E)))).bind fun bt => (if bt.2 = ((fr ls W : Nat) : Int) then (mailbaglaw05_FrameTurns.j5 k (ls.map B) bt.1 ((bt.1.length : Int) != (W : Int))) else (mailbaglaw05_FrameTurns.j5 k (ls.map B) bt.1 true))) true := by
  have hs := fr_split ls W hW
  have lo : ∀ q, bit E q = true → 8 * fr ls W ≤ q := fun q h => by rcases hz with z | z <;> have := z q h <;> omega
  have hf : fr ls W ≤ E.length := by
    have := congrArg List.length hs
    rw [List.length_append, hE] at this
    unfold fr; omega
  have hEs : E = E.take (fr ls W) ++ E.drop (fr ls W) := (List.take_append_drop _ _).symm
  have htl : (E.take (fr ls W)).length = (frames (ls.take W)).length := by rw [List.length_take]; unfold fr at hf ⊢; omega
  have hzero : E.take (fr ls W) = List.replicate (frames (ls.take W)).length 0 := by
    rw [← htl]
    refine none_noughts _ fun q => ?_
    have := bit_seg E 0 (fr ls W) q
    rw [List.drop_zero] at this
    rw [this]
    by_cases c : q < 8 * fr ls W
    · have : bit E (8 * 0 + q) = false := by
        cases hq : bit E (8 * 0 + q) with
        | false => rfl
        | true => have := lo _ hq; omega
      rw [this, Bool.and_false]
    · rw [decide_eq_false c, Bool.false_and]
  have hx : xors (frames ls) E = frames (ls.take W) ++ xors (frame ls[W] ++ frames (ls.drop (W + 1))) (E.drop (fr ls W)) := by
    conv => lhs; rw [hs, hEs, xors_append _ _ _ _ htl.symm, hzero, xors_zero]
  have hnone : gets (xors (frame ls[W] ++ frames (ls.drop (W + 1))) (E.drop (fr ls W))) = none := by
    have hlen : (E.drop (fr ls W)).length = 12 + ls[W].length + (frames (ls.drop (W + 1))).length := by
      have := congrArg List.length hs
      rw [List.length_append, List.length_append, frame_length, hE] at this
      rw [List.length_drop]
      unfold fr; omega
    refine turned_none ls[W] _ _ hlen (h2 _ (List.getElem_mem _)) (a - 8 * fr ls W) (fun q hq => ?_) ?_ (q0 - 8 * fr ls W) ?_
    · rw [bit_drop] at hq
      have := ha _ hq
      omega
    · rcases hz with z | z
      · exact .inl fun q hq => by rw [bit_drop] at hq; have := z _ hq; omega
      · exact .inr fun q hq => by rw [bit_drop] at hq; have := z _ hq; omega
    · have := lo q0 h0
      rw [bit_drop, show 8 * fr ls W + (q0 - 8 * fr ls W) = q0 from by omega]
      exact h0
  have hxl : (xors (frames ls) E).length = (frames ls).length := xors_length _ _ hE
  rw [I8_str]
  have hd : (xors (frames ls) E).drop (fr ls W) = xors (frame ls[W] ++ frames (ls.drop (W + 1))) (E.drop (fr ls W)) := by
    rw [hx]; exact List.drop_left' rfl
  have hall : Ev (fun k => frame_All.f k (B (xors (frames ls) E))) ((ls.take W).map B, ((fr ls W : Nat) : Int)) := by
    unfold frame_All.f
    have st := all_steps (xors (frames ls) E) (xors (frame ls[W] ++ frames (ls.drop (W + 1))) (E.drop (fr ls W))) (by omega) ((ls.take W).map B, ((fr ls W : Nat) : Int)) (ls.take W) [] 0 (Nat.zero_le _) (by rw [List.drop_zero]; exact hx) (fun s h => by have := h2 s (List.mem_of_mem_take h); omega) (by simp; omega)
      (by
        rw [List.nil_append, Nat.zero_add]
        exact all_stop _ (by omega) _ _ (by rw [hxl]; show fr ls W ≤ _; omega) (by show gets ((xors (frames ls) E).drop (fr ls W)) = none; rw [hd]; exact hnone))
    exact st
  refine ev_bind hall (ev_pos rfl ?_)
  have hl : ((ls.take W).map B).length = W := by rw [List.length_map, List.length_take]; omega
  simp only [hl]
  refine Ev.step (fun k => by simp only [mailbaglaw05_FrameTurns.j5]; rfl) ?_
  refine ev_neg (by simp) ?_
  rw [hl]
  exact ft_l2 ls W (by omega) hn W 0 (by omega)
section
variable (ls : List (List UInt8)) (W : Nat) (hW : W < ls.length) (a hi : Nat) (x3 : Int) (hb : (frames ls).length ≤ 100000) (hhi : hi ≤ (frames ls).length) (haa : a ≤ 1000000)
include hb hhi haa
/-- what is turned so far -/
def Tn (E : List UInt8) (i : Nat) (tn : Bool) : Prop := (frames ls).length = E.length ∧ (∀ q, bit E q = true → a ≤ q ∧ q < a + i ∧ q < 8 * hi) ∧ (tn = true → ∃ q, bit E q = true)
theorem ft_done (E : List UInt8) (i : Nat) (hi32 : i ≤ 32) (tn : Bool) (h : Tn ls a hi E i tn)
    (fin : ∀ E q0, (frames ls).length = E.length → (∀ q, bit E q = true → a ≤ q ∧ q < a + 32 ∧ q < 8 * hi) → bit E q0 = true →
      Ev (fun k => (frame_All.f k (strOfNums (I8 (xors (frames ls) E)))).bind fun bt => (if bt.2 = ((fr ls W : Nat) : Int) then (mailbaglaw05_FrameTurns.j5 k (ls.map B) bt.1 ((bt.1.length : Int) != (W : Int))) else (mailbaglaw05_FrameTurns.j5 k (ls.map B) bt.1 true))) true) :
    Ev (fun k => mailbaglaw05_FrameTurns.j4 k (ls.map B) (W : Int) (a : Int) x3 ((fr ls W : Nat) : Int) (hi : Int) (I8 (xors (frames ls) E)) tn (i : Int) false) true := by
  refine Ev.step (fun k => by simp only [mailbaglaw05_FrameTurns.j4]; rfl) ?_
  refine ev_neg (by simp) ?_
  cases tn with
  | false => exact ev_neg (by simp) (Ev.now _)
  | true =>
    obtain ⟨q0, h0⟩ := h.2.2 rfl
    exact ev_pos (by first | rfl | trivial) (fin E q0 h.1 (fun q hq => by have := h.2.1 q hq; omega) h0)
theorem ft_l1 (fin : ∀ E q0, (frames ls).length = E.length → (∀ q, bit E q = true → a ≤ q ∧ q < a + 32 ∧ q < 8 * hi) → bit E q0 = true →
      Ev (fun k => (frame_All.f k (strOfNums (I8 (xors (frames ls) E)))).bind fun bt => (if bt.2 = ((fr ls W : Nat) : Int) then (mailbaglaw05_FrameTurns.j5 k (ls.map B) bt.1 ((bt.1.length : Int) != (W : Int))) else (mailbaglaw05_FrameTurns.j5 k (ls.map B) bt.1 true))) true) :
    ∀ (d i : Nat) (E : List UInt8) (tn : Bool), i + d = 32 → Tn ls a hi E i tn →
    Ev (fun k => mailbaglaw05_FrameTurns.l1 k (ls.map B) (W : Int) (a : Int) x3 ((fr ls W : Nat) : Int) (hi : Int) (I8 (xors (frames ls) E)) tn (i : Int)) true := by
  intro d
  induction d with
  | zero =>
    intro i E tn hd h
    refine Ev.step (fun k => by simp only [mailbaglaw05_FrameTurns.l1]; rfl) ?_
    exact ev_neg (by omega) (ft_done ls W a hi x3 hb hhi haa E i (by omega) tn h fin)
  | succ d ih =>
    intro i E tn hd h
    refine Ev.step (fun k => by simp only [mailbaglaw05_FrameTurns.l1]; rfl) ?_
    refine ev_pos (by omega) ?_
    have e1 : wrap64 ((a : Int) + (i : Int)) = ((a + i : Nat) : Int) := by rw [w64 (by omega) (by omega)]; omega
    have e2 : wrap64 (8 * (hi : Int)) = ((8 * hi : Nat) : Int) := by rw [w64 (by omega) (by omega)]; omega
    rw [e1, e2]
    by_cases c : a + i < 8 * hi
    · rw [decide_eq_true (show ((a + i : Nat) : Int) < ((8 * hi : Nat) : Int) by omega)]
      refine Ev.step (fun k => by simp only [mailbaglaw05_FrameTurns.j4]; rfl) ?_
      rw [e1]
      refine ev_pos (by first | rfl | trivial) (ev_pos (by rw [show IntKind.u64.wrap (i : Int) = (i : Int) % 18446744073709551616 from rfl]; omega) ?_)
      have hx : (xors (frames ls) E).length = E.length := by rw [xors_length _ _ h.1, h.1]
      rw [ft_succ i (by omega)]
      by_cases z : Go.bits .and .u32 (shr .u32 x3 (IntKind.u64.wrap (i : Int))) 1 = 1
      · have e3 : wrap64 (Int.tdiv ((a + i : Nat) : Int) 8) = (((a + i) / 8 : Nat) : Int) := by
          rw [show Int.tdiv ((a + i : Nat) : Int) 8 = (((a + i) / 8 : Nat) : Int) from rfl, w64 (by omega) (by omega)]
        have e4 : IntKind.u64.wrap (Int.tmod ((a + i : Nat) : Int) 8) = (((a + i) % 8 : Nat) : Int) := by
          rw [show Int.tmod ((a + i : Nat) : Int) 8 = (((a + i) % 8 : Nat) : Int) from rfl, show ∀ x : Int, IntKind.u64.wrap x = x % 18446744073709551616 from fun _ => rfl]; omega
        rw [e3, e4]
        have hlt : (a + i) / 8 < E.length := by have := h.1; omega
        refine ev_pos z (ev_pos (by omega) (ev_pos (by rw [I8_length, hx]; omega) (ev_pos (by omega) ?_)))
        rw [Int.toNat_natCast, I8_rd, shl_pw _ (by omega), xor8, I8_set, xors_flip _ _ _ h.1 hlt]
        refine ih (i + 1) (flip E (a + i)) true (by omega) ⟨by rw [flip_length]; exact h.1, fun q hq => ?_, fun _ => ⟨a + i, ?_⟩⟩
        · rw [flip_bit _ _ _ hlt] at hq
          by_cases g : q = a + i
          · omega
          · rw [decide_eq_false g, Bool.xor_false] at hq
            have := h.2.1 q hq; omega
        · rw [flip_bit _ _ _ hlt, decide_eq_true rfl]
          have : bit E (a + i) = false := by
            cases g : bit E (a + i) with
            | false => rfl
            | true => have := h.2.1 _ g; omega
          rw [this]; rfl
      · exact ev_neg z (ih (i + 1) E tn (by omega) ⟨h.1, fun q hq => by have := h.2.1 q hq; omega, h.2.2⟩)
    · rw [decide_eq_false (show ¬ ((a + i : Nat) : Int) < ((8 * hi : Nat) : Int) by omega)]
      exact ft_done ls W a hi x3 hb hhi haa E i (by omega) tn h fin
end
theorem frames_bound : ∀ (ls : List (List UInt8)), (∀ s ∈ ls, s.length ≤ 200) → (frames ls).length ≤ 212 * ls.length
  | [], _ => by simp [frames_nil]
  | s :: ls, h => by
    have a := frames_bound ls (fun x hx => h x (List.mem_cons_of_mem _ hx))
    have b := h s List.mem_cons_self
    rw [frames_cons, List.length_append, frame_length, List.length_cons]
    omega
theorem and_ffff (a : Int) : ∃ m : Nat, Go.bits .and .i64 a 65535 = (m : Int) ∧ m ≤ 65535 := by
  have h : (BitVec.ofInt 64 a &&& 65535#64).toNat ≤ 65535 := by
    rw [BitVec.toNat_and]
    exact Nat.and_le_right
  refine ⟨(BitVec.ofInt 64 a &&& 65535#64).toNat, ?_, h⟩
  show IntKind.i64.wrap ((BitVec.ofInt 64 a &&& BitVec.ofInt 64 65535).toNat : Int) = _
  rw [show BitVec.ofInt 64 65535 = 65535#64 from rfl, IntKind.wrap_i64]
  omega
theorem and_3ff (a : Int) : ∃ m : Nat, Go.bits .and .i64 a 1023 = (m : Int) ∧ m ≤ 1023 := by
  have h : (BitVec.ofInt 64 a &&& 1023#64).toNat ≤ 1023 := by
    rw [BitVec.toNat_and]
    exact Nat.and_le_right
  refine ⟨(BitVec.ofInt 64 a &&& 1023#64).toNat, ?_, h⟩
  show IntKind.i64.wrap ((BitVec.ofInt 64 a &&& BitVec.ofInt 64 1023).toNat : Int) = _
  rw [show BitVec.ofInt 64 1023 = 1023#64 from rfl, IntKind.wrap_i64]
  omega
theorem zeros_bit (n q : Nat) : bit (List.replicate n 0) q = false := by
  unfold bit
  have : (List.replicate n (0 : UInt8)).getD (q / 8) 0 = 0 := by
    simp only [List.getD_eq_getElem?_getD, List.getElem?_replicate]
    split <;> rfl
  rw [this]; simp
section
variable (ls : List (List UInt8)) (W : Nat) (hW : W < ls.length) (x2 x3 : Int) (hn : ls.length ≤ 10)
include hW hn
theorem ft_j2 (h2 : ∀ s ∈ ls, s.length ≤ 200) (lo hi : Nat) (hlh : (lo = fr ls W ∧ hi = fr ls W + 4) ∨ (lo = fr ls W + 12 ∧ hi = fr ls W + 12 + ls[W].length)) :
    Ev (fun k => mailbaglaw05_FrameTurns.j2 k (ls.map B) (W : Int) x2 x3 (B (frames ls)) ((fr ls W : Nat) : Int) (lo : Int) (hi : Int)) true := by
  have hb := frames_bound ls h2
  have hs := congrArg List.length (fr_split ls W hW)
  rw [List.length_append, List.length_append, frame_length] at hs
  have hfr : (frames (ls.take W)).length = fr ls W := rfl
  have hle : lo ≤ hi := by omega
  have hhi : hi ≤ (frames ls).length := by omega
  refine Ev.step (fun k => by simp only [mailbaglaw05_FrameTurns.j2]; rfl) ?_
  by_cases c : lo = hi
  · exact ev_pos (by omega) (Ev.now _)
  refine ev_neg (by omega) (ev_pos (by rw [B_size]; omega) ?_)
  obtain ⟨m, em, hm⟩ := and_ffff x2
  have e1 : wrap64 (8 * wrap64 ((hi : Int) - (lo : Int))) = ((8 * (hi - lo) : Nat) : Int) := by rw [w64 (x := (hi : Int) - (lo : Int)) (by omega) (by omega), w64 (by omega) (by omega)]; omega
  have e2 : wrap64 (8 * (lo : Int)) = ((8 * lo : Nat) : Int) := by rw [w64 (by omega) (by omega)]; omega
  rw [e1, em, e2]
  refine ev_neg (by omega) ?_
  have hmod : m % (8 * (hi - lo)) < 8 * (hi - lo) := Nat.mod_lt _ (by omega)
  have e3 : wrap64 (((8 * lo : Nat) : Int) + Int.tmod (m : Int) ((8 * (hi - lo) : Nat) : Int)) = ((8 * lo + m % (8 * (hi - lo)) : Nat) : Int) := by
    rw [show Int.tmod (m : Int) ((8 * (hi - lo) : Nat) : Int) = ((m % (8 * (hi - lo)) : Nat) : Int) from rfl]
    generalize m % (8 * (hi - lo)) = z at hmod
    rw [w64 (by omega) (by omega)]; omega
  rw [e3, I8_bytesOf]
  generalize m % (8 * (hi - lo)) = z at hmod
  have hz0 : frames ls = xors (frames ls) (List.replicate (frames ls).length 0) := (xors_zero _).symm
  have hstart : Ev (fun k => mailbaglaw05_FrameTurns.l1 k (ls.map B) (W : Int) ((8 * lo + z : Nat) : Int) x3 ((fr ls W : Nat) : Int) (hi : Int) (I8 (xors (frames ls) (List.replicate (frames ls).length 0))) false ((0 : Nat) : Int)) true := by
    refine ft_l1 ls W (8 * lo + z) hi x3 (by omega) hhi (by omega) ?_ 32 0 _ false (by omega) ⟨by rw [List.length_replicate], fun q hq => ?_, fun h => by cases h⟩
    · intro E q0 hE hq h0
      refine ft_end ls W hW hn h2 (by omega) E hE (8 * lo + z) (fun q h => by have := hq q h; omega) ?_ q0 h0
      rcases hlh with ⟨h1, h3⟩ | ⟨h1, h3⟩
      · exact .inl fun q h => by have := hq q h; omega
      · exact .inr fun q h => by have := hq q h; omega
    · rw [zeros_bit] at hq; cases hq
  rw [← hz0] at hstart
  exact hstart
theorem ft_l0 (x4 : Bool) : ∀ (d i : Nat), i + d = ls.length → (∀ s ∈ ls.take i, s.length ≤ 200) →
    Ev (fun k => mailbaglaw05_FrameTurns.l0 k (ls.map B) (W : Int) x2 x3 x4 (B (frames (ls.take i))) (((if W < i then fr ls W else 0) : Nat) : Int) (ls.map B) ((ls.map B).length : Int) (i : Int)) true := by
  have hl : (ls.map B).length = ls.length := List.length_map _
  intro d
  induction d with
  | zero =>
    intro i hd h2
    have ei : i = ls.length := by omega
    subst ei
    rw [List.take_length] at h2 ⊢
    rw [if_pos hW, hl]
    have hb := frames_bound ls h2
    have hs := congrArg List.length (fr_split ls W hW)
    rw [List.length_append, List.length_append, frame_length] at hs
    have hfr : (frames (ls.take W)).length = fr ls W := rfl
    refine Ev.step (fun k => by simp only [mailbaglaw05_FrameTurns.l0]; rfl) ?_
    refine ev_neg (by omega) (ev_pos (by omega) (ev_pos (by rw [hl]; omega) ?_))
    rw [ft_rd ls W hW, B_size]
    have w4 : wrap64 (((fr ls W : Nat) : Int) + 4) = ((fr ls W + 4 : Nat) : Int) := by rw [w64 (by omega) (by omega)]; omega
    have w12 : wrap64 (((fr ls W : Nat) : Int) + 12) = ((fr ls W + 12 : Nat) : Int) := by rw [w64 (by omega) (by omega)]; omega
    have ws : wrap64 (((fr ls W + 12 : Nat) : Int) + (ls[W].length : Int)) = ((fr ls W + 12 + ls[W].length : Nat) : Int) := by rw [w64 (by omega) (by omega)]; omega
    rw [w4, w12, ws]
    cases x4 with
    | true => exact ev_pos (by first | rfl | trivial) (ft_j2 ls W hW x2 x3 hn h2 _ _ (.inl ⟨rfl, rfl⟩))
    | false => exact ev_neg (by simp) (ft_j2 ls W hW x2 x3 hn h2 _ _ (.inr ⟨rfl, rfl⟩))
  | succ d ih =>
    intro i hd h2
    have hi : i < ls.length := by omega
    refine Ev.step (fun k => by simp only [mailbaglaw05_FrameTurns.l0]; rfl) ?_
    refine ev_pos (by omega) (ev_pos (by omega) (ev_pos (by omega) ?_))
    rw [ft_rd ls i hi, B_size]
    by_cases c : (ls[i].length : Int) > 200
    · exact ev_pos c (Ev.now _)
    refine ev_neg c ?_
    have hb := frames_bound (ls.take i) h2
    rw [List.length_take] at hb
    have ht : ls.take (i + 1) = ls.take i ++ [ls[i]] := List.take_succ_eq_append_getElem hi
    have hfs : B (frames (ls.take i)) ++ B (frame ls[i]) = B (frames (ls.take (i + 1))) := by
      rw [B_append, ht, frames_append, frames_cons, frames_nil, List.append_nil]
    have h2' : ∀ s ∈ ls.take (i + 1), s.length ≤ 200 := by
      intro s hs
      rw [ht] at hs
      rcases List.mem_append.1 hs with h | h
      · exact h2 s h
      · rw [List.mem_singleton.1 h]; omega
    have nx := ih (i + 1) (by omega) h2'
    by_cases w : i = W
    · subst w
      rw [if_pos (by omega)] at nx
      refine ev_pos (by omega) (ev_bind (one_ev _ (by omega)) (ev_pos (by rw [B_size, B_size, frame_length]; omega) ?_))
      rw [hfs, ft_succ i (by omega)]
      exact nx
    · refine ev_neg (by omega) (ev_bind (one_ev _ (by omega)) (ev_pos (by rw [B_size, B_size, frame_length]; omega) ?_))
      rw [hfs, ft_succ i (by omega)]
      have : (if W < i then fr ls W else 0) = (if W < i + 1 then fr ls W else 0) := by
        by_cases v : W < i
        · rw [if_pos v, if_pos (by omega)]
        · rw [if_neg v, if_neg (by omega)]
      rw [this]
      exact nx
end
theorem FrameTurns (l : List ByteArray) (x1 x2 x3 : Int) (x4 : Bool) : ∃ k, mailbaglaw05_FrameTurns.f k l x1 x2 x3 x4 = some true := by
  apply Ev.rounds
  unfold mailbaglaw05_FrameTurns.f
  have yes : Ev (fun k => mailbaglaw05_FrameTurns.j0 k l x1 x2 x3 x4 true) true := by
    refine Ev.step (fun k => by simp only [mailbaglaw05_FrameTurns.j0]; rfl) ?_
    exact ev_pos (by first | rfl | trivial) (Ev.now _)
  refine ev_bind head_ev (ev_pos rfl ?_)
  by_cases c : (l.length : Int) = 0
  · exact ev_pos c yes
  refine ev_neg c ?_
  by_cases c2 : (l.length : Int) > 10
  · exact ev_pos c2 yes
  refine ev_neg c2 ?_
  cases hx : (x3 == 0) with
  | true => exact yes
  | false =>
    refine Ev.step (fun k => by simp only [mailbaglaw05_FrameTurns.j0]; rfl) ?_
    refine ev_neg (by simp) (ev_neg c ?_)
    obtain ⟨m, em, hm⟩ := and_3ff x1
    obtain ⟨ls, rfl⟩ : ∃ ls : List (List UInt8), l = ls.map B := ⟨l.map fun s => s.data.toList, by
      rw [List.map_map]
      exact ((List.map_congr_left (fun s _ => (B_of s).symm)).trans (List.map_id l)).symm⟩
    have hl : (ls.map B).length = ls.length := List.length_map _
    have e : Int.tmod (m : Int) ((ls.map B).length : Int) = ((m % ls.length : Nat) : Int) := by rw [hl]; rfl
    rw [em, e]
    have hW : m % ls.length < ls.length := Nat.mod_lt _ (by omega)
    have st := ft_l0 ls (m % ls.length) hW x2 x3 (by omega) x4 ls.length 0 (by omega) (by simp)
    rw [if_neg (by omega)] at st
    exact st
end Go.Proofs.Ytcoollbcnpmlfaa.Pure
