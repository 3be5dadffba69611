/- ClaimAlone: the walk, as the row asks for it. -/
import Derived.Test.YtpfpejkndjdgkaaQe
import Derived.Test.YtpfpejkndjdgkaaRd
set_option linter.unusedVariables false
set_option linter.unusedSimpArgs false
namespace Go.Proofs.Ytpfpejkndjdgkaa.Q
open Go.RowKit Go.Proofs.YtpfpejkndjdgkaaW.PrintWords
def okStrs (l : List ByteArray) : Prop := l.length ≤ maxLen ∧ l.length * 16 ≤ 140737488351232 ∧ ∀ x ∈ l, x.size ≤ 140737488351232
theorem strs_cells {w : World} {A : Option Addr} {l : List ByteArray} (h : Kd.string.C w A l.length l) : StrA w A l := fun i hi => by
  obtain ⟨_, _, h⟩ := h
  obtain ⟨a, ea, h⟩ := h (by omega)
  obtain ⟨cs, _, h1, hc⟩ := h i (kA l i) (by rw [show kA l i = l[i] by simp [kA, List.getD, hi]]; exact List.getElem?_eq_getElem hi)
  change cs = [_] at h1
  rw [h1] at hc
  have := hc 0 _ rfl
  refine ⟨a, ea, ?_⟩
  have e : i * Kd.string.sz + 0 = i := by show i * 1 + 0 = i; omega
  rw [e] at this
  exact this
theorem alone_walk (a b : Int) (l : List ByteArray) (A : Option Addr) (c : Nat) (w : World) (ha : (Lit.int .i64 a).wf = true) (hb : (Lit.int .i64 b).wf = true) (hC : Kd.string.C w A l.length l) (hl : l.length ≤ c) (ho : okStrs l) :
    Calls Try.prog 4 #[.int .i64 a, .int .i64 b, .slice A l.length c] w fun e w' => e = .returned (.bool true) ∧ Below w.heap.size w w' :=
  (callsIn_wide (n := 4)).1 (alone_in A c l a b w ha hb (strs_cells hC) (by have := ho.2.1; omega) hl)
end Go.Proofs.Ytpfpejkndjdgkaa.Q
