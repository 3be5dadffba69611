/- TreeActs: the walk, as the row asks for it. -/
import Derived.Test.YtmpcmpanolnpfaaGb2
import Derived.Test.YtmpcmpanolnpfaaRd
set_option linter.unusedVariables false
set_option linter.unusedSimpArgs false
namespace Go.Proofs.Ytmpcmpanolnpfaa.Tr
open Go.RowKit Go.Proofs.YtmpcmpanolnpfaaW.PrintWords
abbrev k81 : Kd S81 := Kd.iso (Kd.pair (Kd.int .i64) (Kd.pair (Kd.int .i64) Kd.string)) (fun x : S81 => (x.f0, x.f1, x.f2))
def okActs (l : List S81) : Prop := l.length ≤ maxLen ∧ l.length * 32 ≤ 140737488351232 ∧ ∀ x ∈ l, (Lit.int .i64 x.f0).wf = true ∧ (Lit.int .i64 x.f1).wf = true ∧ x.f2.size ≤ 140737488351232
theorem add_next (a : Addr) (i j : Nat) (hj : j ≠ 0) : a.add (i * 3 + j) = ⟨(a.add (i * 3)).block, (a.add (i * 3)).off + j, none⟩ := by
  by_cases c1 : i = 0
  · subst c1
    simp [Addr.add, hj]
  · have c2 : ¬ i * 3 = 0 := by omega
    have c3 : ¬ i * 3 + j = 0 := by omega
    simp [Addr.add, c2, c3, Nat.add_assoc]
theorem acts_cells {w : World} {A : Option Addr} {l : List S81} (h : k81.C w A l.length l) : ActsAt w A l := fun i hi => by
  obtain ⟨_, _, h⟩ := h
  obtain ⟨a, ea, h⟩ := h (by omega)
  obtain ⟨cs, _, ⟨c1, c2, e1, h1, ⟨c3, c4, e2, h2, h3⟩⟩, hc⟩ := h i (act l i) (by rw [act_eq hi]; exact List.getElem?_eq_getElem hi)
  change c1 = [_] at h1
  change c3 = [_] at h2
  change c4 = [_] at h3
  rw [h2, h3] at e2
  rw [h1, e2] at e1
  rw [e1] at hc
  refine ⟨a, ea, hc 0 _ rfl, ?_, ?_⟩
  · rw [← add_next a i 1 (by decide)]; exact hc 1 _ rfl
  · rw [← add_next a i 2 (by decide)]; exact hc 2 _ rfl
theorem acts_walk (l : List S81) (A : Option Addr) (c : Nat) (key : ByteArray) (w : World) (hC : k81.C w A l.length l) (hl : l.length ≤ c) (ho : okActs l) (hw : key.size ≤ 140737488351232) :
    Calls Try.prog 6 #[.slice A l.length c, .string key] w fun e w' => e = .returned (.bool true) ∧ Below w.heap.size w w' :=
  (callsIn_wide (n := 4)).1 (acts_in A c l key w (acts_cells hC) (by have := ho.2.1; omega) hl (fun a ha => (ho.2.2 a ha).2.2) hw)
end Go.Proofs.Ytmpcmpanolnpfaa.Tr
