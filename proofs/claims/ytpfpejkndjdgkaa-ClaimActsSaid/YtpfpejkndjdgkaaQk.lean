/- ClaimActs: the plain law, first part: the acts; a range that deletes. -/
import Derived.Test.YtpfpejkndjdgkaaQd
set_option linter.unusedVariables false
set_option linter.unusedSimpArgs false
namespace Go.Proofs.Ytpfpejkndjdgkaa.Q
open Go.RowKit Go.Maps Go.WideMaps

/-- an act: K, Who, Key -/
structure S30 where
  f0 : Int
  f1 : Int
  f2 : ByteArray
def kindU (k : Int) : Int := (k % 18446744073709551616) % 3
def stepC (C : List Pair) (a : S30) : List Pair := if kindU a.f0 = 2 then freeC C a.f1 else (takeC C a.f1 a.f2).2
def actsC (l : List S30) : List Pair := l.foldl stepC []
theorem actsC_take {l : List S30} {i : Nat} (h : i < l.length) : actsC (l.take (i + 1)) = stepC (actsC (l.take i)) l[i] := by
  unfold actsC
  rw [List.take_succ_eq_append_getElem h, List.foldl_append]
  rfl
/-- what the map holds while a range deletes those of who -/
def leftC (C : List Pair) (who : Int) (left : Lit → Bool) : List Pair := C.filter fun a => decide (¬ (a.2 = who ∧ left (lk a.1) = false))
/-- those of who that have come -/
def goneC (C : List Pair) (who : Int) (left : Lit → Bool) : List Pair := C.filter fun a => decide (a.2 = who ∧ left (lk a.1) = false)
theorem left_start {C : List Pair} {who : Int} {left : Lit → Bool} (h : ∀ a ∈ C, left (lk a.1) = true) : leftC C who left = C ∧ goneC C who left = [] := by
  unfold leftC goneC
  constructor
  · exact List.filter_eq_self.2 (fun a ha => by simp [h a ha])
  · exact List.filter_eq_nil_iff.2 (fun a ha => by simp [h a ha])
theorem left_end (C : List Pair) (who : Int) {left : Lit → Bool} (h : ∀ kl, left kl = false) : leftC C who left = freeC C who ∧ (goneC C who left).length = (ofC C who).length := by
  unfold leftC goneC freeC
  constructor
  · exact List.filter_congr (fun a _ => by simp [h])
  · rw [of_length]
    congr 1
    exact List.filter_congr (fun a _ => by simp [h])
theorem key_same {x y : ByteArray} : (lk x).sameKey (lk y) = decide (x = y) := by
  rw [Bool.eq_iff_iff, decide_eq_true_eq]
  constructor
  · intro h
    exact ext_data (by simpa [lk, Lit.sameKey] using h)
  · rintro rfl
    simp [lk, Lit.sameKey]
theorem left_skip {C : List Pair} (hn : NdC C) {who : Int} {left : Lit → Bool} {x : ByteArray} (hx : hasC C x = true) (hv : ¬ valC C x = who) :
    leftC C who (fun z => left z && !z.sameKey (lk x)) = leftC C who left ∧ goneC C who (fun z => left z && !z.sameKey (lk x)) = goneC C who left := by
  have key : ∀ a ∈ C, a.2 = who → ¬ a.1 = x := fun a ha h1 h2 => hv (by rw [← h2, valC_of hn ha]; exact h1)
  unfold leftC goneC
  constructor
  · refine List.filter_congr (fun a ha => ?_)
    by_cases h : a.2 = who
    · simp [h, key_same, key a ha h]
    · simp [h]
  · refine List.filter_congr (fun a ha => ?_)
    by_cases h : a.2 = who
    · simp [h, key_same, key a ha h]
    · simp [h]
theorem left_del {C : List Pair} (hn : NdC C) {who : Int} {left : Lit → Bool} {x : ByteArray} (hx : hasC C x = true) (hv : valC C x = who) (hl : left (lk x) = true) :
    leftC C who (fun z => left z && !z.sameKey (lk x)) = delC (leftC C who left) x ∧ (goneC C who (fun z => left z && !z.sameKey (lk x))).length = (goneC C who left).length + 1 := by
  unfold leftC goneC delC
  constructor
  · rw [List.filter_filter]
    refine List.filter_congr (fun a ha => ?_)
    by_cases h : a.1 = x
    · have h2 : a.2 = who := by rw [← hv, ← h, valC_of hn ha]
      simp [h, h2, key_same]
    · simp [h, key_same]
  · obtain ⟨e, he, rfl⟩ := hasC_iff.1 hx
    have hew : e.2 = who := by rw [← hv, valC_of hn he]
    clear hv hx
    induction C with
    | nil => cases he
    | cons a C ih =>
      obtain ⟨h1, h2⟩ := List.pairwise_cons.1 hn
      rcases List.mem_cons.1 he with rfl | he2
      · have hrest : (C.filter fun a => decide (a.2 = who ∧ (left (lk a.1) && !(lk a.1).sameKey (lk e.1)) = false)) = C.filter fun a => decide (a.2 = who ∧ left (lk a.1) = false) := by
          refine List.filter_congr (fun b hb => ?_)
          have : ¬ b.1 = e.1 := fun q => h1 b hb q.symm
          simp [key_same, this]
        rw [List.filter_cons_of_pos (by simp [hew, key_same]), List.filter_cons_of_neg (by simp [hl]), hrest]
        rfl
      · have hne : ¬ a.1 = e.1 := h1 e he2
        have i := ih h2 he2
        by_cases hc : a.2 = who ∧ left (lk a.1) = false
        · rw [List.filter_cons_of_pos (by simp [hc.1, hc.2]), List.filter_cons_of_pos (by simp [hc.1, hc.2])]
          rw [List.length_cons, List.length_cons, i]
        · rw [List.filter_cons_of_neg (by simpa [key_same, hne] using hc), List.filter_cons_of_neg (by simpa using hc)]
          exact i
/-- a map that reads as C, and another world in which it has lost a key -/
theorem MapC.lost {w w' : World} {b n : Nat} {C : List Pair} {D : DataW Unit} (h : MapC w b n C D) {x : ByteArray} (ho : w'.ownsMap Try.prog 9 (plainElem Try.prog 3) b n (D.del (lk x))) : MapC w' b n (delC C x) (D.del (lk x)) := by
  refine ⟨ho, fun z => ?_, fun z => ?_, ?_, ndC_del h.nd x⟩
  · rw [hasC_del]
    by_cases e : z = x
    · subst e
      rw [show Maps.has (D.del (lk z)) (lk z) = false from has_del_same]
      simp
    · rw [show Maps.has (D.del (lk x)) (lk z) = Maps.has D (lk z) from has_del_other (lk_ne e), h.hs z]
      simp [e]
  · by_cases e : z = x
    · subst e
      rw [valC_none (by rw [hasC_del]; simp)]
      exact atKey_del_same _
    · rw [valC_del h.nd e, ← h.at' z]
      exact atKey_del_other (lk_ne e) _
  · have h1 := size_del (k := lk x) (h.own.tidy keyed9)
    have h2 := delC_length h.nd x
    rw [show Maps.has D (lk x) = hasC C x from h.hs x, h.sz] at h1
    omega
end Go.Proofs.Ytpfpejkndjdgkaa.Q
