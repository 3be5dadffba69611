/- A frame of which bits within 32 adjacent ones are turned is not recognized: plain. -/
import Derived.Test.YtcoollbcnpmlfaaFr
set_option linter.unusedVariables false
set_option linter.unusedSimpArgs false
namespace Go.Proofs.Ytcoollbcnpmlfaa.Turn
open Go.Proofs.Ytcoollbcnpmlfaa.Crc Go.Proofs.Ytcoollbcnpmlfaa.Fr

theorem xors_length (a b : List UInt8) (h : a.length = b.length) : (xors a b).length = a.length := by unfold xors; rw [List.length_zipWith, h, Nat.min_self]
theorem xors_seg (a b : List UInt8) (i m : Nat) : ((xors a b).drop i).take m = xors ((a.drop i).take m) ((b.drop i).take m) := by
  unfold xors; rw [List.drop_zipWith, List.take_zipWith]
theorem xors_cancel : ∀ (x e : List UInt8), x.length = e.length → xors (xors x e) x = e
  | [], [], _ => rfl
  | a :: x, b :: e, h => by
    have ih := xors_cancel x e (by simpa using h)
    simp only [xors, List.zipWith_cons_cons] at ih ⊢
    rw [ih]
    congr 1
    rw [UInt8.xor_comm a b, UInt8.xor_assoc, UInt8.xor_self, UInt8.xor_zero]
  | [], _ :: _, h => by simp at h
  | _ :: _, [], h => by simp at h
theorem bit_seg (l : List UInt8) (i m q : Nat) : bit ((l.drop i).take m) q = (decide (q < 8 * m) && bit l (8 * i + q)) := by
  unfold bit
  rw [show (8 * i + q) / 8 = i + q / 8 from by omega, show (8 * i + q) % 8 = q % 8 from by omega]
  by_cases h : q < 8 * m
  · rw [decide_eq_true h, Bool.true_and]
    congr 2
    simp only [List.getD_eq_getElem?_getD, List.getElem?_take, List.getElem?_drop]
    rw [if_pos (by omega)]
  · rw [decide_eq_false h, Bool.false_and]
    have : ((l.drop i).take m).getD (q / 8) 0 = 0 := by
      simp only [List.getD_eq_getElem?_getD, List.getElem?_take]
      rw [if_neg (by omega)]; rfl
    rw [this]
    simp
theorem byte_none (b : UInt8) (h : ∀ k, k < 8 → b.toBitVec.getLsbD k = false) : b = 0 := by
  apply UInt8.toBitVec_inj.1
  apply BitVec.eq_of_getLsbD_eq
  intro k hk
  rw [h k hk]
  simp
theorem none_noughts (l : List UInt8) (h : ∀ q, bit l q = false) : l = List.replicate l.length 0 := by
  apply List.ext_getElem?
  intro j
  rw [List.getElem?_replicate]
  by_cases c : j < l.length
  · rw [if_pos c, List.getElem?_eq_getElem c]
    congr 1
    refine byte_none _ fun k hk => ?_
    have := h (8 * j + k)
    unfold bit at this
    rw [show (8 * j + k) / 8 = j from by omega, show (8 * j + k) % 8 = k from by omega] at this
    rw [List.getD_eq_getElem?_getD, List.getElem?_eq_getElem c] at this
    exact this
  · rw [if_neg c, List.getElem?_eq_none (by omega)]
/-- Where nothing is turned, what was there is there. -/
theorem seg_same (u e : List UInt8) (i m : Nat) (hl : u.length = e.length) (h : ∀ q, 8 * i ≤ q → q < 8 * (i + m) → bit e q = false) : ((xors u e).drop i).take m = (u.drop i).take m := by
  rw [xors_seg]
  have e1 := none_noughts ((e.drop i).take m) (fun q => by
    rw [bit_seg]
    by_cases c : q < 8 * m
    · rw [h _ (by omega) (by omega), Bool.and_false]
    · rw [decide_eq_false c, Bool.false_and])
  have e2 : ((e.drop i).take m).length = ((u.drop i).take m).length := by simp [hl]
  rw [e1, e2, xors_zero]
theorem frame_segs (s r : List UInt8) : (frame s ++ r).take 4 = four s.length ∧ ((frame s ++ r).drop 4).take 4 = four (crcN (four s.length)) ∧ ((frame s ++ r).drop 8).take 4 = four (crcN s) ∧ ((frame s ++ r).drop 12).take s.length = s := by
  have e0 : frame s ++ r = four s.length ++ (four (crcN (four s.length)) ++ (four (crcN s) ++ (s ++ r))) := by simp [frame]
  have d4 : (frame s ++ r).drop 4 = four (crcN (four s.length)) ++ (four (crcN s) ++ (s ++ r)) := by rw [e0]; exact List.drop_left' rfl
  have d8 : (frame s ++ r).drop 8 = four (crcN s) ++ (s ++ r) := by
    rw [show 8 = 4 + 4 from rfl, ← List.drop_drop, d4]; exact List.drop_left' rfl
  have d12 : (frame s ++ r).drop 12 = s ++ r := by
    rw [show 12 = 8 + 4 from rfl, ← List.drop_drop, d8]; exact List.drop_left' rfl
  refine ⟨by rw [e0]; exact List.take_left' rfl, by rw [d4]; exact List.take_left' rfl, by rw [d8]; exact List.take_left' rfl, by rw [d12]; exact List.take_left' rfl⟩
theorem four_inj (m n : Nat) (hm : m < 4294967296) (hn : n < 4294967296) (h : four m = four n) : m = n := by
  have a := num_four m hm []
  rw [h, num_four n hn []] at a
  exact a.symm
theorem crcN_inj (a b : List UInt8) (h : crcN a = crcN b) : crc a = crc b := BitVec.eq_of_toNat_eq h
/-- the heart -/
theorem turned_none (s r e : List UInt8) (he : e.length = 12 + s.length + r.length) (hs : s.length ≤ 200) (a : Nat) (hb : ∀ q, bit e q = true → a ≤ q ∧ q < a + 32)
    (hz : (∀ q, bit e q = true → q < 32) ∨ (∀ q, bit e q = true → 96 ≤ q ∧ q < 96 + 8 * s.length)) (q0 : Nat) (h0 : bit e q0 = true) : gets (xors (frame s ++ r) e) = none := by
  have hu : (frame s ++ r).length = e.length := by rw [List.length_append, frame_length, he]
  have off : ∀ {q}, ¬ bit e q = true → bit e q = false := fun h => by simpa using h
  obtain ⟨u0, u4, u8, u12⟩ := frame_segs s r
  generalize frame s ++ r = u at hu u0 u4 u8 u12
  cases hg : gets (xors u e) with
  | none => rfl
  | some s' =>
    exfalso
    obtain ⟨ht, hl, hs'⟩ := gets_some _ _ hg
    have e1 : xors u e = frame s' ++ (xors u e).drop (12 + s'.length) := by rw [← ht, List.take_append_drop]
    obtain ⟨t0, t4, t8, t12⟩ := frame_segs s' ((xors u e).drop (12 + s'.length))
    rw [← e1] at t0 t4 t8 t12
    rcases hz with hz | hz
    · -- the first four bytes
      have h4 := seg_same u e 4 4 hu (fun q h1 h2 => off (fun h => by have := hz q h; omega))
      rw [t4, u4] at h4
      have hc := crcN_inj _ _ (four_inj _ _ (crcN_lt _) (crcN_lt _) h4)
      have hr := crc_eq (four s'.length) (four s.length) (by rw [four_length, four_length]) hc
      have hx := xors_seg u e 0 4
      rw [List.drop_zero, List.drop_zero, List.drop_zero, t0, u0] at hx
      have h44 : (e.take 4).length = 4 := by rw [List.length_take]; omega
      rw [hx, xors_cancel _ _ (by rw [h44]; rfl)] at hr
      have hbit : ∀ q, bit (e.take 4) q = (decide (q < 32) && bit e q) := fun q => by have := bit_seg e 0 4 q; rw [List.drop_zero] at this; rw [this]; simp
      have ha : a < 32 := by have := hb q0 h0; have := hz q0 h0; omega
      have hn := reg_burst (e.take 4) a (fun q hq => by rw [hbit, off (fun h => by have := hb q h; omega), Bool.and_false]) (fun q hq => by rw [hbit, off (fun h => by have := hb q h; omega), Bool.and_false]) (by rw [h44]; omega) hr q0
      rw [hbit, h0, decide_eq_true (hz q0 h0)] at hn
      cases hn
    · -- the text
      have h0' := seg_same u e 0 4 hu (fun q h1 h2 => off (fun h => by have := hz q h; omega))
      rw [List.drop_zero, List.drop_zero, t0, u0] at h0'
      have hlen := four_inj _ _ (by omega) (by omega) h0'
      have h8 := seg_same u e 8 4 hu (fun q h1 h2 => off (fun h => by have := hz q h; omega))
      rw [t8, u8] at h8
      have hc := crcN_inj _ _ (four_inj _ _ (crcN_lt _) (crcN_lt _) h8)
      have hr := crc_eq _ _ hlen hc
      have hx := xors_seg u e 12 s.length
      rw [u12] at hx
      rw [hlen] at t12
      rw [t12] at hx
      have hel : ((e.drop 12).take s.length).length = s.length := by rw [List.length_take, List.length_drop]; omega
      rw [hx, xors_cancel _ _ hel.symm] at hr
      have hn := reg_burst ((e.drop 12).take s.length) (a - 96) (fun q hq => by rw [bit_seg, off (fun h => by have := hb _ h; omega), Bool.and_false]) (fun q hq => by rw [bit_seg, off (fun h => by have := hb _ h; omega), Bool.and_false]) (by rw [hel]; have := hb q0 h0; have := hz q0 h0; omega) hr (q0 - 96)
      have := hz q0 h0
      rw [bit_seg, show 8 * 12 + (q0 - 96) = q0 from by omega, h0, decide_eq_true (by omega)] at hn
      cases hn
end Go.Proofs.Ytcoollbcnpmlfaa.Turn
