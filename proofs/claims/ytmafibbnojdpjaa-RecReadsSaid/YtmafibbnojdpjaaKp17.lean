/- Lemmas that the proof needs, part 17. -/
import Derived.Test.YtmafibbnojdpjaaWWords
import Derived.SizedLaws
import Derived.OpenShut
import Derived.ChangeOld
section
set_option linter.unusedVariables false
set_option linter.unusedSimpArgs false
namespace Go.Proofs.Ytmafibbnojdpjaa.Rd
open Go.ChangeShapes Go.WideShapes Go.RowKit Go.Proofs.YtmafibbnojdpjaaW.PrintWords
/-- What reads at type t is of the kind d, and fits 'ok'. -/
def Rd (P : Program) (t : TypeId) {α : Type} (d : Kd α) (ok : α → Prop) : Prop :=
  ∀ (H : Type) (enc : TypeId × Value → H) (w : World) (base : Nat) (spare : Nat → Bool) (held : Bool) (fuel : Nat) (cs : List Value) (y : DataW H × List MemPlace),
    DataW.trod enc P w base spare held fuel t cs = some y → (∀ n ∈ y.1.weights P t, n ≤ reachBytes) → ∃ x, d.K w x cs ∧ ok x
theorem Rd.int {P : Program} {t : TypeId} {k : IntKind} (h : P.underlying t = some (.int k)) : Rd P t (Kd.int k) (fun n => (Lit.int k n).wf = true) := by
  intro H enc w base spare held fuel cs y hy _
  obtain ⟨n, rfl, _, hw⟩ := DataW.trod_int h hy
  exact ⟨n, rfl, hw⟩
theorem Rd.bool {P : Program} {t : TypeId} (h : P.underlying t = some .bool) : Rd P t Kd.bool (fun _ => True) := by
  intro H enc w base spare held fuel cs y hy _
  obtain ⟨n, rfl, _⟩ := DataW.trod_bool h hy
  exact ⟨n, rfl, trivial⟩
theorem Rd.string {P : Program} {t : TypeId} (h : P.underlying t = some .string) : Rd P t Kd.string (fun s => s.size ≤ 140737488351232) := by
  intro H enc w base spare held fuel cs y hy hw
  obtain ⟨s, rfl, rfl, _⟩ := DataW.trod_string h hy
  refine ⟨s, rfl, ?_⟩
  have := hw s.data.toList.length (by simp [DataW.weights])
  rw [Array.length_toList] at this
  exact this
theorem Rd.iso {P : Program} {t : TypeId} {α β : Type} {d : Kd α} {ok : α → Prop} (h : Rd P t d ok) (f : β → α) (g : α → β) (hg : ∀ a, f (g a) = a) : Rd P t (Kd.iso d f) (fun y => ok (f y)) := by
  intro H enc w base spare held fuel cs y hy hw
  obtain ⟨x, hx, ho⟩ := h H enc w base spare held fuel cs y hy hw
  exact ⟨g x, by show d.K w (f (g x)) cs; rw [hg]; exact hx, by show ok (f (g x)); rw [hg]; exact ho⟩
theorem weightsAll_mem {H : Type} {P : Program} {e : TypeId} : ∀ (l : List (DataW H)) (d : DataW H), d ∈ l → ∀ n ∈ d.weights P e, n ∈ DataW.weightsAll P e l
  | [], d, h, n, hn => by simp at h
  | c :: l, d, h, n, hn => by
    simp only [DataW.weightsAll, List.mem_append]
    rcases List.mem_cons.1 h with rfl | h
    · exact .inl hn
    · exact .inr (weightsAll_mem l d h n hn)
theorem choose_list {α : Type} (R : Nat → α → Prop) : ∀ n, (∀ i, i < n → ∃ x, R i x) → ∃ xs : List α, xs.length = n ∧ ∀ i x, xs[i]? = some x → R i x
  | 0, _ => ⟨[], rfl, fun i x h => by simp at h⟩
  | n + 1, h => by
    obtain ⟨xs, hl, hx⟩ := choose_list R n (fun i hi => h i (by omega))
    obtain ⟨x, hr⟩ := h n (by omega)
    refine ⟨xs ++ [x], by simp [hl], fun i z hz => ?_⟩
    by_cases c : i < n
    · rw [List.getElem?_append_left (by omega)] at hz
      exact hx i z hz
    · rw [List.getElem?_append_right (by omega)] at hz
      have : i - xs.length = 0 := by
        have := (List.getElem?_eq_some_iff.1 hz).1
        simp at this
        omega
      rw [this] at hz
      simp at hz
      subst hz
      rwa [show i = n from by omega]
theorem Rd.slice {P : Program} {t e : TypeId} {α : Type} {d : Kd α} {ok : α → Prop} {B : Nat} (h : P.underlying t = some (.slice e)) (he : Rd P e d ok) (hc : P.cellsOf e = d.sz) (hB : P.bytesOf e = B) :
    Rd P t (Kd.slice e d) (fun xs => xs.length ≤ maxLen ∧ xs.length * B ≤ 140737488351232 ∧ ∀ x ∈ xs, ok x) := by
  intro H enc w base spare held fuel cs y hy hw
  rcases DataW.trod_slice h hy with ⟨rfl, rfl⟩ | ⟨a, len, cap, elems, rest, n, _, rfl, rfl, hb, hl, hm, hlen, hel, hsp, hns⟩
  · exact ⟨[], ⟨none, 0, rfl, Nat.le_refl _, ⟨rfl, by simp, fun h => absurd h (by simp)⟩⟩, by simp, by simp, by simp⟩
  · have hwe : ∀ (i : Nat) (z : DataW H × List MemPlace), elems[i]? = some z → ∀ k ∈ z.1.weights P e, k ≤ reachBytes := by
      intro i z hz k hk
      refine hw k ?_
      simp only [DataW.weights, h, List.mem_cons, List.mem_append]
      exact .inr (.inl (weightsAll_mem _ z.1 (List.mem_map.2 ⟨z, List.mem_of_getElem? hz, rfl⟩) k hk))
    obtain ⟨xs, hxl, hxs⟩ := choose_list (fun i x => ok x ∧ ∃ c, c.length = d.sz ∧ d.K w x c ∧ ∀ j u, c[j]? = some u → w.cell? (a.add (i * d.sz + j)) = some u) len (fun i hi => by
      have hi' := hel i hi
      have hz : ∃ z, elems[i]? = some z := ⟨elems[i], List.getElem?_eq_getElem (by omega)⟩
      obtain ⟨z, hz⟩ := hz
      rw [hz, Option.bind_eq_some_iff] at hi'
      obtain ⟨c, hcs, hz2⟩ := hi'
      obtain ⟨x, hx, hox⟩ := he H enc w base spare held n c z hz2 (hwe i z hz)
      rw [hc] at hcs
      refine ⟨x, hox, c, d.K_len hx, hx, fun j u hu => ?_⟩
      have h3 := World.cells?_some hcs
      have hj : j < d.sz := by
        have := (List.getElem?_eq_some_iff.1 hu).1
        rwa [d.K_len hx] at this
      have := h3.2.2 j hj
      rw [← hu, ← this, show a.add (i * d.sz + j) = (a.add (i * d.sz)).add j from by
        by_cases c1 : i * d.sz = 0 <;> by_cases c2 : j = 0 <;> simp [Addr.add, c1, c2, Nat.add_assoc]])
    refine ⟨xs, ⟨some a, cap, by rw [hxl], by omega, ⟨rfl, by rw [hxl]; exact Nat.le_trans hl hm, fun _ => ⟨a, rfl, fun j p hp => ?_⟩⟩⟩, by rw [hxl]; exact Nat.le_trans hl hm, ?_, fun x hx => ?_⟩
    · obtain ⟨_, c, hcl, hk, hcc⟩ := hxs j p hp
      exact ⟨c, hcl, hk, hcc⟩
    · have := hw ((elems.length + rest.length) * B) (by simp [DataW.weights, h, hB])
      rw [hxl, ← hlen]
      exact Nat.le_trans (Nat.mul_le_mul_right _ (by omega)) this
    · obtain ⟨i, hi⟩ := List.getElem?_of_mem hx
      exact (hxs i x hi).1
theorem weights_of {H : Type} {P : Program} {ts : List TypeId} {ds : List (DataW H)} (h : (DataW.weightsEach P ts ds).all (· ≤ reachBytes) = true) : ∀ n ∈ DataW.weightsEach P ts ds, n ≤ reachBytes := by
  intro n hn
  have := List.all_eq_true.1 h n hn
  simpa using this
theorem weights_head {H : Type} {P : Program} {t : TypeId} {ts : List TypeId} {d : DataW H} {ds : List (DataW H)} (h : ∀ n ∈ DataW.weightsEach P (t :: ts) (d :: ds), n ≤ reachBytes) :
    (∀ n ∈ d.weights P t, n ≤ reachBytes) ∧ ∀ n ∈ DataW.weightsEach P ts ds, n ≤ reachBytes :=
  ⟨fun n hn => h n (by simp [DataW.weightsEach, hn]), fun n hn => h n (by simp only [DataW.weightsEach, List.mem_append]; exact .inr hn)⟩
end Go.Proofs.Ytmafibbnojdpjaa.Rd
end
