/- ClaimActs: the acts as they come in. -/
import Derived.Test.YtpfpejkndjdgkaaQk
import Derived.Test.YtpfpejkndjdgkaaRd
set_option linter.unusedVariables false
set_option linter.unusedSimpArgs false
namespace Go.Proofs.Ytpfpejkndjdgkaa.Q
open Go.RowKit Go.Proofs.YtpfpejkndjdgkaaW.PrintWords
def a30 : S30 := ⟨0, 0, ⟨#[]⟩⟩
def actA (l : List S30) (i : Nat) : S30 := l.getD i a30
theorem actA_eq {l : List S30} {i : Nat} (h : i < l.length) : actA l i = l[i] := by simp [actA, List.getD, h]
def ActA (w : World) (A : Option Addr) (l : List S30) : Prop := ∀ i, i < l.length → ∃ ad, A = some ad ∧ w.cell? (ad.add (i * 3)) = some (.int .i64 (actA l i).f0) ∧ w.cell? ⟨(ad.add (i * 3)).block, (ad.add (i * 3)).off + 1, none⟩ = some (.int .i64 (actA l i).f1) ∧ w.cell? ⟨(ad.add (i * 3)).block, (ad.add (i * 3)).off + 2, none⟩ = some (.string (actA l i).f2)
theorem ActA.up {w w1 : World} (hb : Below w.heap.size w w1) {A : Option Addr} {l : List S30} (h : ActA w A l) : ActA w1 A l := fun i hi => by
  obtain ⟨ad, e, h0, h1, h2⟩ := h i hi
  exact ⟨ad, e, Q.up hb h0, Q.up hb h1, Q.up hb h2⟩
abbrev k30 : Kd S30 := Kd.iso (Kd.pair (Kd.int .i64) (Kd.pair (Kd.int .i64) Kd.string)) (fun x : S30 => (x.f0, x.f1, x.f2))
def okS30 (l : List S30) : Prop := l.length ≤ maxLen ∧ l.length * 32 ≤ 140737488351232 ∧ ∀ x ∈ l, (Lit.int .i64 x.f0).wf = true ∧ (Lit.int .i64 x.f1).wf = true ∧ x.f2.size ≤ 140737488351232
theorem add_next (a : Addr) (i j : Nat) (hj : j ≠ 0) : a.add (i * 3 + j) = ⟨(a.add (i * 3)).block, (a.add (i * 3)).off + j, none⟩ := by
  by_cases c1 : i = 0
  · subst c1
    simp [Addr.add, hj]
  · have c2 : ¬ i * 3 = 0 := by omega
    have c3 : ¬ i * 3 + j = 0 := by omega
    simp [Addr.add, c2, c3, Nat.add_assoc]
theorem acts_cells {w : World} {A : Option Addr} {l : List S30} (h : k30.C w A l.length l) : ActA w A l := fun i hi => by
  obtain ⟨_, _, h⟩ := h
  obtain ⟨a, ea, h⟩ := h (by omega)
  obtain ⟨cs, _, ⟨c1, c2, e1, h1, ⟨c3, c4, e2, h2, h3⟩⟩, hc⟩ := h i (actA l i) (by rw [actA_eq hi]; exact List.getElem?_eq_getElem hi)
  change c1 = [_] at h1
  change c3 = [_] at h2
  change c4 = [_] at h3
  rw [h2, h3] at e2
  rw [h1, e2] at e1
  rw [e1] at hc
  refine ⟨a, ea, hc 0 _ rfl, ?_, ?_⟩
  · rw [← add_next a i 1 (by decide)]; exact hc 1 _ rfl
  · rw [← add_next a i 2 (by decide)]; exact hc 2 _ rfl
end Go.Proofs.Ytpfpejkndjdgkaa.Q
