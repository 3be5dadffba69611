/- TreeEnds: the walk, as the row asks for it. -/
import Derived.Test.YtmpcmpanolnpfaaEa
import Derived.Test.YtmpcmpanolnpfaaGc
set_option linter.unusedVariables false
set_option linter.unusedSimpArgs false
namespace Go.Proofs.Ytmpcmpanolnpfaa.Tr
open Go.RowKit Go.Proofs.YtmpcmpanolnpfaaW.PrintWords
theorem ends_walk (l : List S81) (A : Option Addr) (c : Nat) (key : ByteArray) (w : World) (hC : k81.C w A l.length l) (hl : l.length ≤ c) (ho : okActs l) (hw : key.size ≤ 140737488351232) :
    Calls Try.prog 8 #[.slice A l.length c, .string key] w fun e w' => e = .returned (.bool true) ∧ Below w.heap.size w w' :=
  (callsIn_wide (n := 5)).1 (ends_in A c l key w (acts_cells hC) (by have := ho.2.1; omega) hl (fun a ha => (ho.2.2 a ha).2.2) hw)
end Go.Proofs.Ytmpcmpanolnpfaa.Tr
