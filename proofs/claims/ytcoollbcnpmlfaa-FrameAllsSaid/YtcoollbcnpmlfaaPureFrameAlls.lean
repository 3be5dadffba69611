/- FrameAlls: frames one behind the other, cut anywhere, with whatever behind: all that are whole. Proved for every input; no condition. This text: the plain half. -/
import Derived.Test.YtcoollbcnpmlfaaPx5
import Derived.Test.YtcoollbcnpmlfaaFrAll
set_option linter.unusedVariables false
set_option linter.unusedSimpArgs false
set_option linter.unusedSectionVars false
namespace Go.Proofs.Ytcoollbcnpmlfaa.Pure
open Go.RowKit Go.Proofs.Ytcoollbcnpmlfaa.P Go.Proofs.YtcoollbcnpmlfaaW.PrintWords Go.Proofs.YtcoollbcnpmlfaaW.PrintLast
open Go.Proofs.Ytcoollbcnpmlfaa.Fr Go.Proofs.Ytcoollbcnpmlfaa.FrEv Go.Proofs.Ytcoollbcnpmlfaa.FrAll

theorem w64_succ (i : Nat) (h : i < 4611686018427387904) : wrap64 ((i : Int) + 1) = ((i + 1 : Nat) : Int) := by rw [w64 (by omega) (by omega)]; rfl
def endOf (ls : List (List UInt8)) (j : Nat) : Nat := (frames (ls.take j)).length
def ends (ls : List (List UInt8)) (i : Nat) : List Int := (List.range (i + 1)).map fun j => ((endOf ls j : Nat) : Int)
theorem ends_length (ls : List (List UInt8)) (i : Nat) : (ends ls i).length = i + 1 := by simp [ends]
theorem ends_zero (ls : List (List UInt8)) : ends ls 0 = [0] := by simp [ends, endOf, frames]
theorem ends_succ (ls : List (List UInt8)) (i : Nat) : ends ls (i + 1) = ends ls i ++ [((endOf ls (i + 1) : Nat) : Int)] := by
  simp [ends, List.range_succ]
theorem endOf_succ (ls : List (List UInt8)) (i : Nat) (h : i < ls.length) : endOf ls (i + 1) = endOf ls i + (12 + ls[i].length) := by
  unfold endOf
  rw [List.take_succ_eq_append_getElem h, frames_append, List.length_append, frames_cons, frames_nil, List.append_nil, frame_length]
theorem rd_ends (ls : List (List UInt8)) (n j : Nat) (h : j ≤ n) : rd (ends ls n) (j : Int) = ((endOf ls j : Nat) : Int) := by
  unfold rd ends
  simp [List.getD, show j < n + 1 from by omega]
theorem rdOf_B (ls : List (List UInt8)) (i : Nat) (h : i < ls.length) : rdOf ByteArray.empty (ls.map B) (i : Int) = B ls[i] := by
  unfold rdOf
  simp [List.getD, List.getElem?_eq_getElem h]
theorem find_end (E : Nat → Nat) (c : Nat) (h0 : E 0 ≤ c) : ∀ n, ∃ m, m ≤ n ∧ E m ≤ c ∧ (m = n ∨ c < E (m + 1))
  | 0 => ⟨0, Nat.le_refl _, h0, .inl rfl⟩
  | n + 1 => by
    obtain ⟨m, h1, h2, h3⟩ := find_end E c h0 n
    rcases h3 with rfl | h3
    · by_cases h : E (m + 1) ≤ c
      · exact ⟨m + 1, Nat.le_refl _, h, .inl rfl⟩
      · exact ⟨m, by omega, h2, .inr (by omega)⟩
    · exact ⟨m, by omega, h2, .inr h3⟩
theorem endOf_mono (ls : List (List UInt8)) : ∀ (d i : Nat), i + d ≤ ls.length → endOf ls i ≤ endOf ls (i + d)
  | 0, i, _ => Nat.le_refl _
  | d + 1, i, h => by
    have := endOf_mono ls d i (by omega)
    have := endOf_succ ls (i + d) (by omega)
    rw [show i + (d + 1) = i + d + 1 from rfl]
    omega
theorem endOf_all (ls : List (List UInt8)) : endOf ls ls.length = (frames ls).length := by unfold endOf; rw [List.take_length]
theorem endOf_bound (ls : List (List UInt8)) (h3 : ∀ s ∈ ls, s.length ≤ 300) : ∀ i, i ≤ ls.length → endOf ls i ≤ 312 * i
  | 0, _ => by simp [endOf, frames]
  | i + 1, h => by
    have := endOf_bound ls h3 i (by omega)
    have := endOf_succ ls i (by omega)
    have := h3 ls[i] (List.getElem_mem _)
    omega

theorem endOf_eq (ls : List (List UInt8)) (i : Nat) : endOf ls i = (frames (ls.take i)).length := rfl
theorem endOf_zero (ls : List (List UInt8)) : endOf ls 0 = 0 := by simp [endOf, frames]
attribute [local irreducible] endOf ends
section
variable (ls : List (List UInt8)) (more : List UInt8) (hn : ls.length ≤ 12) (hm : more.length ≤ 100)
include hn hm
theorem alls_tail (h3 : ∀ s ∈ ls, s.length ≤ 300) : ∃ bt : List ByteArray × Int, Ev (fun k => frame_All.f k (B (frames ls) ++ B more)) bt ∧ ((bt.1.length : Int) ≥ ((ls.map B).length : Int)) ∧ bt.2 ≥ ((frames ls).length : Int) := by
  have hb := endOf_bound ls h3 ls.length (Nat.le_refl _)
  rw [endOf_all] at hb
  have hl : (frames ls ++ more).length ≤ 4000 := by rw [List.length_append]; omega
  obtain ⟨out, n, h⟩ := all_any (frames ls ++ more) (by omega) more.length (frames ls).length (ls.map B) (by rw [List.length_append]) (by simp; omega)
  refine ⟨(ls.map B ++ out, (((frames ls).length + n : Nat) : Int)), ?_, ?_, ?_⟩
  · rw [B_append]
    refine Ev.congr (fun k => ?_) (all_steps (frames ls ++ more) more (by omega) _ ls [] 0 (by omega) rfl (fun s hs => by have := h3 s hs; omega) (by simp; omega) ?_)
    · rfl
    · simpa using h
  · simp
    omega
  · simp only
    omega
theorem alls_l2 (h3 : ∀ s ∈ ls, s.length ≤ 300) (cut : Nat) (m : Nat) (hmn : m ≤ ls.length) (hc : endOf ls m ≤ cut) (hx : m = ls.length ∨ cut < endOf ls (m + 1)) (got : List ByteArray) (hg : got.length = m) : ∀ (d i : Nat), i + d = m →
    Ev (fun k => mailbaglaw05_FrameAlls.l2 k (ls.map B) (cut : Int) (B more) (B (frames ls)) (ends ls ls.length) got ((endOf ls m : Nat) : Int) (i : Int)) true := by
  obtain ⟨bt, hbt, hb1, hb2⟩ := alls_tail ls more hn hm h3
  have hl := endOf_bound ls h3 ls.length (Nat.le_refl _)
  rw [endOf_all] at hl
  have tail : ∀ i : Nat, i = m → Ev (fun k => if (got.length : Int) = (i : Int) then (if 0 ≤ (i : Int) then (if (i : Int) < ((ends ls ls.length).length : Int) then (if ((endOf ls m : Nat) : Int) = rd (ends ls ls.length) (i : Int) then (if (B (frames ls)).size + (B more).size ≤ 9223372036854775807 then ((frame_All.f k (B (frames ls) ++ B more)).bind fun bt186 => (if (bt186.1.length : Int) ≥ ((ls.map B).length : Int) then (some (decide (bt186.2 ≥ ((B (frames ls)).size : Int)))) else (some false))) else (none)) else (some false)) else (none)) else (none)) else (some false)) true := by
    intro i hi
    subst hi
    refine ev_pos (by omega) (ev_pos (by omega) (ev_pos (by rw [ends_length]; omega) (ev_pos (by rw [rd_ends ls _ _ hmn]) (ev_pos (by simp only [B_size]; omega) (ev_bind hbt (ev_pos hb1 ?_))))))
    rw [B_size, decide_eq_true hb2]
    exact Ev.now _
  intro d
  induction d with
  | zero =>
    intro i h
    refine Ev.step (fun k => by simp only [mailbaglaw05_FrameAlls.l2]; rfl) ?_
    by_cases c : (i : Int) < ((ls.map B).length : Int)
    · have c' : i < ls.length := by simpa using c
      rw [w64_succ i (by omega)]
      refine ev_pos c (ev_pos (by omega) (ev_pos (by rw [ends_length]; omega) (ev_neg ?_ (tail i (by omega)))))
      rw [rd_ends ls _ _ (by omega)]
      rcases hx with hx | hx
      · omega
      · rw [show i + 1 = m + 1 from by omega]; omega
    · exact ev_neg c (tail i (by omega))
  | succ d ih =>
    intro i h
    refine Ev.step (fun k => by simp only [mailbaglaw05_FrameAlls.l2]; rfl) ?_
    have hmono := endOf_mono ls d (i + 1) (by omega)
    rw [show i + 1 + d = m from by omega] at hmono
    rw [w64_succ i (by omega)]
    refine ev_pos (by simp; omega) (ev_pos (by omega) (ev_pos (by rw [ends_length]; omega) (ev_pos ?_ (ih (i + 1) (by omega)))))
    rw [rd_ends ls _ _ (by omega)]
    omega
theorem alls_cut (h3 : ∀ s ∈ ls, s.length ≤ 300) (cut m : Nat) (hmn : m ≤ ls.length) (hcl : cut ≤ (frames ls).length) (hc : endOf ls m ≤ cut) (hx : m = ls.length ∨ cut < endOf ls (m + 1)) :
    Ev (fun k => frame_All.f k (B ((frames ls).take cut))) ((ls.take m).map B, ((endOf ls m : Nat) : Int)) := by
  have hl := endOf_bound ls h3 ls.length (Nat.le_refl _)
  rw [endOf_all] at hl
  have hsplit : frames ls = frames (ls.take m) ++ frames (ls.drop m) := by rw [← frames_append, List.take_append_drop]
  have hlen : ((frames ls).take cut).length = cut := by rw [List.length_take]; omega
  have hd : ((frames ls).take cut) = frames (ls.take m) ++ (frames (ls.drop m)).take (cut - endOf ls m) := by
    rw [hsplit, List.take_append, List.take_of_length_le (by rw [← endOf_eq]; exact hc), endOf_eq]
  have ht : gets ((frames (ls.drop m)).take (cut - endOf ls m)) = none := by
    rcases hx with hx | hx
    · subst hx
      rw [List.drop_length, frames_nil, List.take_nil]
      rfl
    · by_cases hme : m = ls.length
      · subst hme
        rw [List.drop_length, frames_nil, List.take_nil]
        rfl
      · have hml : m < ls.length := by omega
        have := endOf_succ ls m hml
        have h3m := h3 ls[m] (List.getElem_mem _)
        rw [List.drop_eq_getElem_cons hml, frames_cons, List.take_append_of_le_length (by rw [frame_length]; omega)]
        exact gets_cut _ _ (by omega) (by omega)
  refine Ev.congr (fun k => ?_) (all_steps ((frames ls).take cut) _ (by omega) _ (ls.take m) [] 0 (by omega) (by rw [List.drop_zero]; exact hd) (fun s hs => by have := h3 s (List.mem_of_mem_take hs); omega) (by simp; omega) ?_)
  · rfl
  · rw [List.nil_append, Nat.zero_add]
    have := all_stop ((frames ls).take cut) (by omega) ((ls.take m).map B) (endOf ls m) (by omega) (by rw [hd, List.drop_left' (endOf_eq ls m).symm]; exact ht)
    rw [← endOf_eq]
    exact this
theorem alls_l1 (h3 : ∀ s ∈ ls, s.length ≤ 300) (a1 : Int) : ∀ (d i : Nat), i + d = ls.length →
    Ev (fun k => mailbaglaw05_FrameAlls.l1 k (ls.map B) a1 (B more) (B (frames ls)) (ends ls ls.length) (ls.map B) ((ls.map B).length : Int) (i : Int)) true
  | 0, i, h => by
    have hl := endOf_bound ls h3 ls.length (Nat.le_refl _)
    rw [endOf_all] at hl
    refine Ev.step (fun k => by simp only [mailbaglaw05_FrameAlls.l1]; rfl) ?_
    have h0 : 0 ≤ Go.bits .and .i64 a1 65535 := by
      show 0 ≤ IntKind.i64.wrap ((BitVec.ofInt 64 a1 &&& BitVec.ofInt 64 65535).toNat : Int)
      have : (BitVec.ofInt 64 a1 &&& 65535#64).toNat ≤ 65535 := by rw [BitVec.toNat_and]; exact Nat.and_le_right
      rw [show BitVec.ofInt 64 65535 = 65535#64 from rfl, IntKind.wrap_i64]
      omega
    rw [B_size, w64_succ (frames ls).length (by omega)]
    generalize Go.bits .and .i64 a1 65535 = z at *
    obtain ⟨z, rfl⟩ := Int.eq_ofNat_of_zero_le h0
    have e2 : Int.tmod (z : Int) (((frames ls).length + 1 : Nat) : Int) = ((z % ((frames ls).length + 1) : Nat) : Int) := by
      rw [Int.tmod_eq_emod_of_nonneg (by omega)]; rfl
    rw [e2]
    clear e2
    have hlt := Nat.mod_lt z (show 0 < (frames ls).length + 1 by omega)
    generalize z % ((frames ls).length + 1) = cut at *
    obtain ⟨m, hm1, hm2, hm3⟩ := find_end (endOf ls) cut (by rw [endOf_zero]; omega) ls.length
    rw [show (cut : Int).toNat = cut from rfl, B_upto]
    refine ev_neg (by simp; omega) (ev_neg (by omega) (ev_pos (by omega) (ev_pos (by omega) (ev_bind (alls_cut ls more hn hm h3 cut m hm1 (by omega) hm2 hm3) ?_))))
    exact alls_l2 ls more hn hm h3 cut m hm1 hm2 hm3 _ (by simp; omega) m 0 (by omega)
  | d + 1, i, h => by
    refine Ev.step (fun k => by simp only [mailbaglaw05_FrameAlls.l1]; rfl) ?_
    rw [w64_succ i (by omega)]
    have hi : (i : Int) < ((ls.map B).length : Int) := by simp; omega
    refine ev_pos hi (ev_pos (by omega) (ev_pos hi (ev_pos hi (ev_pos trivial (alls_l1 h3 a1 d (i + 1) (by omega))))))
theorem alls_l0 (a1 : Int) : ∀ (d i : Nat), i + d = ls.length → (∀ s ∈ ls.take i, s.length ≤ 300) →
    Ev (fun k => mailbaglaw05_FrameAlls.l0 k (ls.map B) a1 (B more) (B (frames (ls.take i))) (ends ls i) (ls.map B) ((ls.map B).length : Int) (i : Int)) true
  | 0, i, h, h3 => by
    obtain rfl : i = ls.length := by omega
    rw [List.take_length] at h3 ⊢
    have hl := endOf_bound ls h3 ls.length (Nat.le_refl _)
    rw [endOf_all] at hl
    refine Ev.step (fun k => by simp only [mailbaglaw05_FrameAlls.l0]; rfl) ?_
    have hall : Ev (fun k => frame_All.f k (B (frames ls))) (ls.map B, ((frames ls).length : Int)) := by
      have := alls_cut ls more hn hm h3 (frames ls).length ls.length (Nat.le_refl _) (Nat.le_refl _) (by rw [endOf_all]; omega) (.inl rfl)
      rw [List.take_length, List.take_length, endOf_all] at this
      exact this
    refine ev_neg (by simp) (ev_bind hall (ev_pos (by rw [B_size]) ?_))
    refine Ev.step (fun k => by simp only [mailbaglaw05_FrameAlls.j2]; rfl) (ev_neg (by simp) ?_)
    exact alls_l1 ls more hn hm h3 a1 ls.length 0 (by omega)
  | d + 1, i, h, h3 => by
    have hi : i < ls.length := by omega
    refine Ev.step (fun k => by simp only [mailbaglaw05_FrameAlls.l0]; rfl) ?_
    rw [w64_succ i (by omega), rdOf_B ls i hi, B_size]
    have hil : (i : Int) < ((ls.map B).length : Int) := by simp; omega
    refine ev_pos hil (ev_pos (by omega) (ev_pos hil ?_))
    by_cases c : ls[i].length > 300
    · exact ev_pos (by omega) (Ev.now _)
    refine ev_neg (by omega) (ev_bind (put_ev _ (by omega)) (ev_pos rfl (ev_bind (one_ev _ (by omega)) (ev_pos rfl ?_))))
    have h3' : ∀ s ∈ ls.take (i + 1), s.length ≤ 300 := by
      intro s hs
      rw [List.take_succ_eq_append_getElem hi, List.mem_append] at hs
      rcases hs with hs | hs
      · exact h3 s hs
      · simp at hs; subst hs; omega
    have hb := endOf_bound (ls.take i) h3 (ls.take i).length (Nat.le_refl _)
    rw [endOf_all, List.length_take, Nat.min_eq_left (by omega)] at hb
    have ih := alls_l0 a1 d (i + 1) (by omega) h3'
    refine ev_pos (by simp only [B_size, frame_length]; omega) (ev_pos (by rw [ends_length]; omega) ?_)
    rw [List.take_succ_eq_append_getElem hi, frames_append, frames_cons, frames_nil, List.append_nil, ends_succ, endOf_succ ls i hi] at ih
    simp only [B_append, B_size, frame_length]
    rw [← endOf_eq, show ((endOf ls i : Nat) : Int) + ((12 + ls[i].length : Nat) : Int) = ((endOf ls i + (12 + ls[i].length) : Nat) : Int) from by omega]
    exact ih
end
theorem FrameAlls (l0 : List ByteArray) (a1 : Int) (a2 : ByteArray) : ∃ k, mailbaglaw05_FrameAlls.f k l0 a1 a2 = some true := by
  obtain ⟨ls, rfl⟩ : ∃ ls : List (List UInt8), l0 = ls.map B := ⟨l0.map (·.data.toList), by
    rw [List.map_map]
    exact (List.map_id l0).symm.trans (List.map_congr_left (fun s _ => B_of s))⟩
  rw [B_of a2]
  generalize a2.data.toList = more
  apply Ev.rounds
  unfold mailbaglaw05_FrameAlls.f
  refine ev_bind head_ev (ev_pos rfl ?_)
  by_cases c : ls.length > 12
  · refine ev_pos (by simp; omega) (Ev.step (f := fun _ => some true) (fun k => by simp only [mailbaglaw05_FrameAlls.j0]; rfl) (Ev.now _))
  refine ev_neg (by simp; omega) ?_
  rw [B_size]
  by_cases c2 : more.length > 100
  · rw [decide_eq_true (by omega)]
    exact Ev.step (f := fun _ => some true) (fun k => by simp only [mailbaglaw05_FrameAlls.j0]; rfl) (Ev.now _)
  rw [decide_eq_false (by omega)]
  refine Ev.step (fun k => by simp only [mailbaglaw05_FrameAlls.j0]; rfl) (ev_neg (by simp) ?_)
  have := alls_l0 ls more (by omega) (by omega) a1 ls.length 0 (by omega) (by simp)
  rw [ends_zero] at this
  exact this
theorem walk_FrameAlls (l0 : List ByteArray) (A0 : Option Addr) (c0 : Nat) (a1 : Int) (a2 : ByteArray) (w : World) (hC : Kd.C Kd.string w A0 l0.length l0) (hl : l0.length ≤ c0)
    (_ : l0.length ≤ maxLen ∧ l0.length * 16 ≤ 140737488351232 ∧ ∀ x ∈ l0, x.size ≤ 140737488351232) (_ : (Lit.int .i64 a1).wf = true) (_ : a2.size ≤ 140737488351232) :
    Calls Try.prog 8 #[.slice A0 l0.length c0, .int .i64 a1, .string a2] w fun e w' => e = .returned (.bool true) ∧ Below w.heap.size w w' := by
  obtain ⟨k, h⟩ := FrameAlls l0 a1 a2
  exact mailbaglaw05_FrameAlls.calls k A0 c0 l0 a1 a2 true w hC hl h
end Go.Proofs.Ytcoollbcnpmlfaa.Pure
