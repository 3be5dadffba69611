/- TreeVals: the walk, as the row asks for it. -/
import Derived.Test.YtmpcmpanolnpfaaSe
import Derived.Test.YtmpcmpanolnpfaaRd
set_option linter.unusedVariables false
set_option linter.unusedSimpArgs false
namespace Go.Proofs.Ytmpcmpanolnpfaa.Tr.Sr
open Go.RowKit Go.Proofs.YtmpcmpanolnpfaaW.PrintWords
def okStrV (l : List ByteArray) : Prop := l.length ≤ maxLen ∧ l.length * 16 ≤ 140737488351232 ∧ ∀ x ∈ l, x.size ≤ 140737488351232
theorem strV_cells {w : World} {A : Option Addr} {l : List ByteArray} (h : Kd.string.C w A l.length l) : StrA w A l := fun i hi => by
  obtain ⟨_, _, h⟩ := h
  obtain ⟨a, ea, h⟩ := h (by omega)
  obtain ⟨cs, _, h1, hc⟩ := h i (kA l i) (by rw [kA_eq hi]; exact List.getElem?_eq_getElem hi)
  change cs = [_] at h1
  rw [h1] at hc
  have := hc 0 _ rfl
  refine ⟨a, ea, ?_⟩
  have e : i * Kd.string.sz + 0 = i := by show i * 1 + 0 = i; omega
  rw [e] at this
  exact this
theorem vals_walk (l0 : List ByteArray) (A0 : Option Addr) (c0 : Nat) (l1 : List ByteArray) (A1 : Option Addr) (c1 : Nat) (w : World) (hC0 : Kd.string.C w A0 l0.length l0) (hl0 : l0.length ≤ c0) (ho0 : okStrV l0)
    (hC1 : Kd.string.C w A1 l1.length l1) (hl1 : l1.length ≤ c1) (ho1 : okStrV l1) :
    Calls Try.prog 5 #[.slice A0 l0.length c0, .slice A1 l1.length c1] w fun e w' => e = .returned (.bool true) ∧ Below w.heap.size w w' :=
  (callsIn_wide (n := 4)).1 (vals_in A0 A1 c0 c1 l0 l1 w (strV_cells hC0) (strV_cells hC1) (by have := ho0.2.1; omega) (by have := ho1.2.1; omega) hl0 hl1 ho0.2.2 ho1.2.2)
end Go.Proofs.Ytmpcmpanolnpfaa.Tr.Sr
