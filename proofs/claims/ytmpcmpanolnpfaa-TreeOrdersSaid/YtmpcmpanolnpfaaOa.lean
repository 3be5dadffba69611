/- TreeOrders: the plain law. -/
import Derived.Test.YtmpcmpanolnpfaaGa
set_option linter.unusedVariables false
set_option linter.unusedSimpArgs false
namespace Go.Proofs.Ytmpcmpanolnpfaa.Tr

theorem srtZ_iff {Z : List Pair} : SrtZ Z ↔ Srt (Z.map zi) := by
  unfold SrtZ Srt
  rw [List.pairwise_map]
  rfl
theorem srtZ_ins {Z : List Pair} (h : SrtZ Z) (x : ByteArray) (y : Int) : SrtZ (insZ Z x y) := by
  rw [srtZ_iff, ← insZ_map]
  exact srt_ins (srtZ_iff.1 h) x _
theorem srtZ_del {Z : List Pair} (h : SrtZ Z) (x : ByteArray) : SrtZ (delZ Z x) := by
  rw [srtZ_iff, ← delZ_map]
  exact srt_del (srtZ_iff.1 h) x
theorem hasZ_iff {Z : List Pair} {x : ByteArray} : hasZ Z x = true ↔ ∃ a ∈ Z, a.1 = x := by simp [hasZ]
theorem mem_insZ {Z : List Pair} {x : ByteArray} {y : Int} {a : Pair} : a ∈ insZ Z x y ↔ a = (x, y) ∨ (a ∈ Z ∧ a.1 ≠ x) := by
  unfold insZ belowZ aboveZ
  rw [List.mem_append, List.mem_append, List.mem_singleton, List.mem_filter, List.mem_filter, decide_eq_true_eq, decide_eq_true_eq]
  constructor
  · rintro ((⟨h1, h2⟩ | h) | ⟨h1, h2⟩)
    · exact .inr ⟨h1, fun e => kl_irrefl x (by rw [e] at h2; exact h2)⟩
    · exact .inl h
    · exact .inr ⟨h1, fun e => kl_irrefl x (by rw [e] at h2; exact h2)⟩
  · rintro (h | ⟨h1, h2⟩)
    · exact .inl (.inr h)
    · rcases kl_tri a.1 x with c | c | c
      · exact .inl (.inl ⟨h1, c⟩)
      · exact absurd c h2
      · exact .inr ⟨h1, c⟩
theorem mem_delZ {Z : List Pair} {x : ByteArray} {a : Pair} : a ∈ delZ Z x ↔ a ∈ Z ∧ a.1 ≠ x := by
  unfold delZ belowZ aboveZ
  rw [List.mem_append, List.mem_filter, List.mem_filter, decide_eq_true_eq, decide_eq_true_eq]
  constructor
  · rintro (⟨h1, h2⟩ | ⟨h1, h2⟩)
    · exact ⟨h1, fun e => kl_irrefl x (by rw [e] at h2; exact h2)⟩
    · exact ⟨h1, fun e => kl_irrefl x (by rw [e] at h2; exact h2)⟩
  · rintro ⟨h1, h2⟩
    rcases kl_tri a.1 x with c | c | c
    · exact .inl ⟨h1, c⟩
    · exact absurd c h2
    · exact .inr ⟨h1, c⟩
theorem has_ins {Z : List Pair} {x z : ByteArray} {y : Int} : hasZ (insZ Z x y) z = true ↔ z = x ∨ hasZ Z z = true := by
  rw [hasZ_iff, hasZ_iff]
  constructor
  · rintro ⟨a, ha, rfl⟩
    rcases mem_insZ.1 ha with rfl | ⟨h1, h2⟩
    · exact .inl rfl
    · exact .inr ⟨a, h1, rfl⟩
  · rintro (rfl | ⟨a, ha, rfl⟩)
    · exact ⟨(z, y), mem_insZ.2 (.inl rfl), rfl⟩
    · by_cases h : a.1 = x
      · exact ⟨(x, y), mem_insZ.2 (.inl rfl), h.symm⟩
      · exact ⟨a, mem_insZ.2 (.inr ⟨ha, h⟩), rfl⟩
theorem has_del {Z : List Pair} {x z : ByteArray} : hasZ (delZ Z x) z = true ↔ z ≠ x ∧ hasZ Z z = true := by
  rw [hasZ_iff, hasZ_iff]
  constructor
  · rintro ⟨a, ha, rfl⟩
    obtain ⟨h1, h2⟩ := mem_delZ.1 ha
    exact ⟨h2, a, h1, rfl⟩
  · rintro ⟨h, a, ha, rfl⟩
    exact ⟨a, mem_delZ.2 ⟨ha, h⟩, rfl⟩
theorem bool_eq {a b : Bool} (h : a = true ↔ b = true) : a = b := Bool.eq_iff_iff.2 h
theorem valZ_congr {A B : List Pair} (hA : SrtZ A) (hB : SrtZ B) {x : ByteArray} (h : ∀ a : Pair, a.1 = x → (a ∈ A ↔ a ∈ B)) : valZ A x = valZ B x := by
  by_cases hx : hasZ A x = true
  · obtain ⟨a, ha, rfl⟩ := hasZ_iff.1 hx
    rw [valZ_of hA ha, valZ_of hB ((h a rfl).1 ha)]
  · have hx2 : ¬ hasZ B x = true := fun hb => by
      obtain ⟨b, hb2, rfl⟩ := hasZ_iff.1 hb
      exact hx (hasZ_iff.2 ⟨b, (h b rfl).2 hb2, rfl⟩)
    rw [valZ_none (by simpa using hx), valZ_none (by simpa using hx2)]
theorem val_ins_same {Z : List Pair} (h : SrtZ Z) (x : ByteArray) (y : Int) : valZ (insZ Z x y) x = y :=
  valZ_of (srtZ_ins h x y) (a := (x, y)) (mem_insZ.2 (.inl rfl))
theorem val_ins_other {Z : List Pair} (h : SrtZ Z) {x z : ByteArray} (hz : z ≠ x) (y : Int) : valZ (insZ Z x y) z = valZ Z z := by
  refine valZ_congr (srtZ_ins h x y) h (fun a ha => ?_)
  rw [mem_insZ]
  constructor
  · rintro (rfl | h)
    · exact absurd ha.symm hz
    · exact h.1
  · exact fun h => .inr ⟨h, by rw [ha]; exact hz⟩
theorem val_del_other {Z : List Pair} (h : SrtZ Z) {x z : ByteArray} (hz : z ≠ x) : valZ (delZ Z x) z = valZ Z z := by
  refine valZ_congr (srtZ_del h x) h (fun a ha => ?_)
  rw [mem_delZ]
  exact ⟨fun h => h.1, fun h => ⟨h, by rw [ha]; exact hz⟩⟩
theorem srt_ext : ∀ {A B : List Pair}, SrtZ A → SrtZ B → (∀ a, a ∈ A ↔ a ∈ B) → A = B
  | [], [], _, _, _ => rfl
  | [], b :: B, _, _, h => absurd ((h b).2 (List.mem_cons_self ..)) (List.not_mem_nil)
  | a :: A, [], _, _, h => absurd ((h a).1 (List.mem_cons_self ..)) (List.not_mem_nil)
  | a :: A, b :: B, hA, hB, h => by
    obtain ⟨a1, a2⟩ := List.pairwise_cons.1 hA
    obtain ⟨b1, b2⟩ := List.pairwise_cons.1 hB
    have hab : a = b := by
      rcases List.mem_cons.1 ((h a).1 (List.mem_cons_self ..)) with e | e
      · exact e
      · rcases List.mem_cons.1 ((h b).2 (List.mem_cons_self ..)) with e2 | e2
        · exact e2.symm
        · exact absurd (a1 b e2) (kl_anti (b1 a e))
    subst hab
    have := srt_ext a2 b2 (fun c => by
      constructor
      · intro hc
        rcases List.mem_cons.1 ((h c).1 (List.mem_cons_of_mem _ hc)) with rfl | e
        · exact absurd (a1 c hc) (kl_irrefl _)
        · exact e
      · intro hc
        rcases List.mem_cons.1 ((h c).2 (List.mem_cons_of_mem _ hc)) with rfl | e
        · exact absurd (b1 c hc) (kl_irrefl _)
        · exact e)
    rw [this]
theorem srt_eq {A B : List Pair} (hA : SrtZ A) (hB : SrtZ B) (h1 : ∀ x, hasZ A x = true ↔ hasZ B x = true) (h2 : ∀ x, hasZ B x = true → valZ A x = valZ B x) : A = B := by
  refine srt_ext hA hB (fun a => ?_)
  constructor
  · intro ha
    have hb := (h1 a.1).1 (hasZ_iff.2 ⟨a, ha, rfl⟩)
    obtain ⟨b, hb', e⟩ := hasZ_iff.1 hb
    have e2 := h2 a.1 hb
    rw [valZ_of hA ha, ← e, valZ_of hB hb'] at e2
    have : a = b := Prod.ext e.symm e2
    rw [this]
    exact hb'
  · intro ha
    have hb := hasZ_iff.2 ⟨a, ha, rfl⟩
    obtain ⟨b, hb', e⟩ := hasZ_iff.1 ((h1 a.1).2 hb)
    have e2 := h2 a.1 hb
    rw [valZ_of hB ha, ← e, valZ_of hA hb'] at e2
    have : a = b := Prod.ext e.symm e2.symm
    rw [this]
    exact hb'
def kAt (ks : List ByteArray) (i : Nat) : ByteArray := ks.getD i ⟨#[]⟩
theorem kAt_eq {ks : List ByteArray} {i : Nat} (h : i < ks.length) : kAt ks i = ks[i] := by simp [kAt, List.getD, h]
/-- the first number of each key -/
def firstsZ (ks : List ByteArray) : Nat → List Pair
  | 0 => []
  | i + 1 => if hasZ (firstsZ ks i) (kAt ks i) = true then firstsZ ks i else insZ (firstsZ ks i) (kAt ks i) i
/-- keys put in one after the other -/
def putsZ (k : Nat → ByteArray) (v : ByteArray → Int) (Z : List Pair) : Nat → List Pair
  | 0 => Z
  | i + 1 => insZ (putsZ k v Z i) (k i) (v (k i))
/-- keys dropped that V has not -/
def dropsZ (V : List Pair) (k : Nat → ByteArray) (Z : List Pair) : Nat → List Pair
  | 0 => Z
  | i + 1 => if hasZ V (k i) = true then dropsZ V k Z i else delZ (dropsZ V k Z i) (k i)
theorem ex_succ {p : Nat → Prop} {i : Nat} : (∃ j, j < i + 1 ∧ p j) ↔ (∃ j, j < i ∧ p j) ∨ p i := by
  constructor
  · rintro ⟨j, hj, h⟩
    by_cases e : j = i
    · subst e; exact .inr h
    · exact .inl ⟨j, by omega, h⟩
  · rintro (⟨j, hj, h⟩ | h)
    · exact ⟨j, by omega, h⟩
    · exact ⟨i, by omega, h⟩
theorem firsts_spec (ks : List ByteArray) : ∀ i, SrtZ (firstsZ ks i) ∧ (firstsZ ks i).length ≤ i ∧ ∀ x, hasZ (firstsZ ks i) x = true ↔ ∃ j, j < i ∧ kAt ks j = x
  | 0 => ⟨List.Pairwise.nil, Nat.le_refl _, fun x => by simp [firstsZ, hasZ]⟩
  | i + 1 => by
    obtain ⟨h1, h2, h3⟩ := firsts_spec ks i
    unfold firstsZ
    by_cases h : hasZ (firstsZ ks i) (kAt ks i) = true
    · rw [if_pos h]
      refine ⟨h1, by omega, fun x => ?_⟩
      rw [ex_succ, ← h3 x]
      constructor
      · exact .inl
      · rintro (e | e)
        · exact e
        · rw [← e]; exact h
    · rw [if_neg h]
      refine ⟨srtZ_ins h1 _ _, Nat.le_trans (insZ_len _ _ _) (by omega), fun x => ?_⟩
      rw [has_ins, ex_succ, h3 x]
      constructor
      · rintro (e | e)
        · exact .inr e.symm
        · exact .inl e
      · rintro (e | e)
        · exact .inr e
        · exact .inl e.symm
theorem puts_spec {Z : List Pair} (hZ : SrtZ Z) (k : Nat → ByteArray) (v : ByteArray → Int) : ∀ i, SrtZ (putsZ k v Z i) ∧ (putsZ k v Z i).length ≤ Z.length + i ∧ (∀ x, hasZ (putsZ k v Z i) x = true ↔ hasZ Z x = true ∨ ∃ j, j < i ∧ k j = x) ∧ ∀ x, (∃ j, j < i ∧ k j = x) → valZ (putsZ k v Z i) x = v x
  | 0 => ⟨hZ, Nat.le_refl _, fun x => by simp [putsZ], fun x ⟨j, hj, _⟩ => absurd hj (Nat.not_lt_zero _)⟩
  | i + 1 => by
    obtain ⟨h1, h2, h3, h4⟩ := puts_spec hZ k v i
    unfold putsZ
    refine ⟨srtZ_ins h1 _ _, Nat.le_trans (insZ_len _ _ _) (by omega), fun x => ?_, fun x hx => ?_⟩
    · rw [has_ins, ex_succ, h3 x]
      constructor
      · rintro (e | e | e)
        · exact .inr (.inr e.symm)
        · exact .inl e
        · exact .inr (.inl e)
      · rintro (e | e | e)
        · exact .inr (.inl e)
        · exact .inr (.inr e)
        · exact .inl e.symm
    · by_cases e : x = k i
      · rw [e]; exact val_ins_same h1 _ _
      · rw [val_ins_other h1 e]
        rcases ex_succ.1 hx with h | h
        · exact h4 x h
        · exact absurd h.symm e
theorem drops_spec {Z : List Pair} (hZ : SrtZ Z) (V : List Pair) (k : Nat → ByteArray) : ∀ i, SrtZ (dropsZ V k Z i) ∧ (dropsZ V k Z i).length ≤ Z.length ∧ (∀ x, hasZ (dropsZ V k Z i) x = true ↔ hasZ Z x = true ∧ ¬ (hasZ V x = false ∧ ∃ j, j < i ∧ k j = x)) ∧ ∀ x, hasZ V x = true → valZ (dropsZ V k Z i) x = valZ Z x
  | 0 => ⟨hZ, Nat.le_refl _, fun x => by simp [dropsZ], fun x _ => rfl⟩
  | i + 1 => by
    obtain ⟨h1, h2, h3, h4⟩ := drops_spec hZ V k i
    unfold dropsZ
    by_cases h : hasZ V (k i) = true
    · rw [if_pos h]
      refine ⟨h1, h2, fun x => ?_, h4⟩
      rw [ex_succ, h3 x]
      constructor
      · rintro ⟨a, b⟩
        refine ⟨a, fun ⟨c, d⟩ => ?_⟩
        rcases d with d | d
        · exact b ⟨c, d⟩
        · rw [d] at h; rw [h] at c; cases c
      · rintro ⟨a, b⟩
        exact ⟨a, fun ⟨c, d⟩ => b ⟨c, .inl d⟩⟩
    · rw [if_neg h]
      refine ⟨srtZ_del h1 _, Nat.le_trans (delZ_len _ _) h2, fun x => ?_, fun x hx => ?_⟩
      · rw [has_del, ex_succ, h3 x]
        constructor
        · rintro ⟨e, a, b⟩
          refine ⟨a, fun ⟨c, d⟩ => ?_⟩
          rcases d with d | d
          · exact b ⟨c, d⟩
          · exact e d.symm
        · rintro ⟨a, b⟩
          refine ⟨fun e => b ⟨?_, .inr e.symm⟩, a, fun ⟨c, d⟩ => b ⟨c, .inl d⟩⟩
          rw [e]
          simpa using h
      · have e : x ≠ k i := fun e => h (by rw [← e]; exact hx)
        rw [val_del_other h1 e]
        exact h4 x hx
/-- all keys in, in this order: the tree's pairs are the map's -/
theorem orders_a (ks : List ByteArray) : putsZ (kAt ks) (valZ (firstsZ ks ks.length)) [] ks.length = firstsZ ks ks.length := by
  obtain ⟨v1, v2, v3⟩ := firsts_spec ks ks.length
  obtain ⟨p1, p2, p3, p4⟩ := puts_spec (Z := []) List.Pairwise.nil (kAt ks) (valZ (firstsZ ks ks.length)) ks.length
  refine srt_eq p1 v1 (fun x => ?_) (fun x hx => p4 x ((v3 x).1 hx))
  rw [p3 x, v3 x]
  constructor
  · rintro (h | h)
    · exact absurd h (by simp [hasZ])
    · exact h
  · exact .inr
/-- others in, all keys in turned, the others out: the same -/
theorem orders_b (ks os : List ByteArray) (t : Nat) (hn : 0 < ks.length) : dropsZ (firstsZ ks ks.length) (kAt os) (putsZ (fun j => kAt ks ((j + t) % ks.length)) (valZ (firstsZ ks ks.length)) (putsZ (kAt os) (fun _ => -1) [] os.length) ks.length) os.length = firstsZ ks ks.length := by
  obtain ⟨v1, v2, v3⟩ := firsts_spec ks ks.length
  generalize hV : firstsZ ks ks.length = V at *
  obtain ⟨o1, o2, o3, o4⟩ := puts_spec (Z := []) List.Pairwise.nil (kAt os) (fun _ => -1) os.length
  generalize putsZ (kAt os) (fun _ => -1) [] os.length = B3 at *
  obtain ⟨p1, p2, p3, p4⟩ := puts_spec o1 (fun j => kAt ks ((j + t) % ks.length)) (valZ V) ks.length
  generalize putsZ (fun j => kAt ks ((j + t) % ks.length)) (valZ V) B3 ks.length = B4 at *
  obtain ⟨d1, d2, d3, d4⟩ := drops_spec p1 V (kAt os) os.length
  have turn : ∀ x, (∃ j, j < ks.length ∧ kAt ks ((j + t) % ks.length) = x) ↔ ∃ j, j < ks.length ∧ kAt ks j = x := fun x => by
    constructor
    · rintro ⟨j, hj, e⟩
      exact ⟨_, Nat.mod_lt _ hn, e⟩
    · rintro ⟨j, hj, e⟩
      have h1 := Nat.mod_lt t hn
      have h2 : ∀ r, (r + t) % ks.length = (r + t % ks.length) % ks.length := fun r => by simp
      by_cases hc : t % ks.length ≤ j
      · refine ⟨j - t % ks.length, by omega, ?_⟩
        rw [h2, Nat.sub_add_cancel hc, Nat.mod_eq_of_lt hj]
        exact e
      · refine ⟨j + ks.length - t % ks.length, by omega, ?_⟩
        rw [h2, Nat.sub_add_cancel (by omega), Nat.add_mod_right, Nat.mod_eq_of_lt hj]
        exact e
  refine srt_eq d1 v1 (fun x => ?_) (fun x hx => ?_)
  · rw [d3 x, p3 x, turn x, ← v3 x, o3 x]
    constructor
    · rintro ⟨(h | h) | h, h2⟩
      · exact absurd h (by simp [hasZ])
      · cases hv : hasZ V x with
        | true => rfl
        | false => exact absurd ⟨hv, h⟩ h2
      · exact h
    · intro h
      exact ⟨.inr h, fun ⟨c, _⟩ => by rw [h] at c; cases c⟩
  · rw [d4 x hx]
    exact p4 x ((turn x).2 ((v3 x).1 hx))
theorem insZ_length {Z : List Pair} (h : SrtZ Z) (x : ByteArray) (y : Int) : (insZ Z x y).length = if hasZ Z x = true then Z.length else Z.length + 1 := by
  have := ins_length (srtZ_iff.1 h) x (.int .i64 y)
  rw [insZ_map, List.length_map, List.length_map, hasZ_map] at this
  exact this
end Go.Proofs.Ytmpcmpanolnpfaa.Tr
