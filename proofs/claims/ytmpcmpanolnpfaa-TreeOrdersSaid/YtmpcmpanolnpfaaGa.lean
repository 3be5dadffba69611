/- Get on trees of ints. -/
import Derived.Test.YtmpcmpanolnpfaaPw2
import Derived.Test.YtmpcmpanolnpfaaMb
set_option linter.unusedVariables false
set_option linter.unusedSimpArgs false
namespace Go.Proofs.Ytmpcmpanolnpfaa.Tr
open Go.RowKit Go.Proofs.YtmpcmpanolnpfaaW.PrintWords Go.Proofs.YtmpcmpanolnpfaaW.PrintLast Go.Proofs.YtmpcmpanolnpfaaW.PrintMore

def valZ (Z : List Pair) (x : ByteArray) : Int := ((Z.find? fun a => decide (a.1 = x)).map (·.2)).getD 0
theorem valZ_of {Z : List Pair} (h : SrtZ Z) {a : Pair} (ha : a ∈ Z) : valZ Z a.1 = a.2 := by
  unfold valZ
  induction Z with
  | nil => cases ha
  | cons b Z ih =>
    rw [List.find?_cons]
    rcases List.mem_cons.1 ha with rfl | ha'
    · simp
    · have hlt := (List.pairwise_cons.1 h).1 a ha'
      have hne : ¬ b.1 = a.1 := fun e => by rw [e] at hlt; exact kl_irrefl _ hlt
      simp only [hne, decide_false]
      exact ih (List.pairwise_cons.1 h).2 ha'
theorem valZ_none {Z : List Pair} {x : ByteArray} (h : hasZ Z x = false) : valZ Z x = 0 := by
  unfold valZ
  rw [List.find?_eq_none.2]
  · rfl
  · intro a ha e
    unfold hasZ at h
    rw [List.any_eq_false] at h
    exact h a ha e
theorem get_int {F : Nat → Prop} {w : World} {g : Nat} {Z : List Pair} (h : TreeAt F w g (Z.map zi)) (hb : Z.length ≤ maxTree) (x : ByteArray) :
    Calls Try.prog 20 #[.pointer (some ⟨g, 0, none⟩), .string x] w fun e w' => e = .returned (.tuple #[.int .i64 (valZ Z x), .bool (hasZ Z x)]) ∧ Below w.heap.size w w' := by
  have hsrt := srtZ_of h.srt
  obtain ⟨S, M, hM, hT, hL⟩ := h
  have hs : Small M := small_of hT (by rw [hL, List.length_map]; exact hb)
  obtain ⟨A, c, e, hl⟩ := hM.leaves hs.pos
  have c0 := hM.c0
  rw [e] at c0
  refine (get_any g c A (tl M) x w (by have := hs.len; simp [tl]; omega) hs.lf hl c0).mono ?_
  rintro e w' ⟨rfl, hbl⟩
  refine ⟨?_, hbl⟩
  by_cases hne : tl M = []
  · rw [hne] at hL ⊢
    have hZ : Z = [] := by simpa using hL.symm
    subst hZ
    rfl
  · obtain ⟨h1, h2, _, _, h5, h6⟩ := findT_spec hT hne x
    have hhas : (findT (tl M) x).2.2 = hasZ Z x := by
      rw [Bool.eq_iff_iff, h5, hL, ← hasZ_map, has_iff]
    rw [hhas]
    cases hz : hasZ Z x with
    | false => rw [valZ_none hz]; rfl
    | true =>
      rw [hhas, hz] at h6
      obtain ⟨h7, h8⟩ := h6 rfl
      have hmem : itm (lf (tl M) (findT (tl M) x).1) (findT (tl M) x).2.1 ∈ Z.map zi := by
        rw [← hL]
        have e1 : lf (tl M) (findT (tl M) x).1 = (tl M)[(findT (tl M) x).1] := by simp [lf, List.getD, h1]
        rw [itm_eq h7]
        refine List.mem_flatten.2 ⟨_, ?_, List.getElem_mem _⟩
        rw [e1]
        exact List.getElem_mem _
      obtain ⟨a, ha, ea⟩ := List.mem_map.1 hmem
      rw [← ea] at h8
      rw [← ea]
      have h9 : a.1 = x := h8
      rw [← h9, valZ_of hsrt ha]
      rfl
theorem kl_nil (x : ByteArray) : ¬ kl x ⟨#[]⟩ := by
  unfold kl cmpS
  show ¬ Lib.compareBytes _ [] < 0
  cases x.data.toList with
  | nil => decide
  | cons a l => simp [Lib.compareBytes]
theorem fromL_all (Z : List Pair) : fromL Z ⟨#[]⟩ = Z := by
  unfold fromL
  refine List.filter_eq_self.2 (fun a _ => ?_)
  simp only [Bool.not_eq_true', decide_eq_false_iff_not]
  exact kl_nil a.1
end Go.Proofs.Ytmpcmpanolnpfaa.Tr
