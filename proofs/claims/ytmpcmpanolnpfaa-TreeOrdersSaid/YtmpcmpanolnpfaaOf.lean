/- TreeOrders: the walk, as the row asks for it. -/
import Derived.Test.YtmpcmpanolnpfaaOd
import Derived.Test.YtmpcmpanolnpfaaRd
set_option linter.unusedVariables false
set_option linter.unusedSimpArgs false
namespace Go.Proofs.Ytmpcmpanolnpfaa.Tr
open Go.RowKit Go.Proofs.YtmpcmpanolnpfaaW.PrintWords
def okStrs (l : List ByteArray) : Prop := l.length ≤ maxLen ∧ l.length * 16 ≤ 140737488351232 ∧ ∀ x ∈ l, x.size ≤ 140737488351232
theorem strs_cells {w : World} {A : Option Addr} {l : List ByteArray} (h : Kd.string.C w A l.length l) : StrAt w A l := fun i hi => by
  obtain ⟨_, _, h⟩ := h
  obtain ⟨a, ea, h⟩ := h (by omega)
  obtain ⟨cs, _, h1, hc⟩ := h i (kAt l i) (by rw [kAt_eq hi]; exact List.getElem?_eq_getElem hi)
  change cs = [_] at h1
  rw [h1] at hc
  have := hc 0 _ rfl
  refine ⟨a, ea, ?_⟩
  have e : i * Kd.string.sz + 0 = i := by show i * 1 + 0 = i; omega
  rw [e] at this
  exact this
theorem orders_walk (l0 : List ByteArray) (A0 : Option Addr) (c0 : Nat) (turn : Int) (l2 : List ByteArray) (A2 : Option Addr) (c2 : Nat) (w : World) (hC0 : Kd.string.C w A0 l0.length l0) (hl0 : l0.length ≤ c0) (ho0 : okStrs l0) (_ : (Lit.int .i64 turn).wf = true)
    (hC2 : Kd.string.C w A2 l2.length l2) (hl2 : l2.length ≤ c2) (ho2 : okStrs l2) :
    Calls Try.prog 4 #[.slice A0 l0.length c0, .int .i64 turn, .slice A2 l2.length c2] w fun e w' => e = .returned (.bool true) ∧ Below w.heap.size w w' :=
  (callsIn_wide (n := 5)).1 (orders_in A0 A2 c0 c2 l0 l2 turn w (strs_cells hC0) (strs_cells hC2) (by have := ho0.2.1; omega) (by have := ho2.2.1; omega) hl0 hl2 ho0.2.2 ho2.2.2)
end Go.Proofs.Ytmpcmpanolnpfaa.Tr
