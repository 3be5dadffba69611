/- TreeRanges: the walk, as the row asks for it. -/
import Derived.Test.YtmpcmpanolnpfaaNb
import Derived.Test.YtmpcmpanolnpfaaGc
set_option linter.unusedVariables false
set_option linter.unusedSimpArgs false
namespace Go.Proofs.Ytmpcmpanolnpfaa.Tr
open Go.RowKit Go.Proofs.YtmpcmpanolnpfaaW.PrintWords
theorem ranges_walk (l : List S81) (A : Option Addr) (c : Nat) (x y : ByteArray) (most : Int) (w : World) (hC : k81.C w A l.length l) (hl : l.length ≤ c) (ho : okActs l) (hx : x.size ≤ 140737488351232) (hy : y.size ≤ 140737488351232) (_ : (Lit.int .i64 most).wf = true) :
    Calls Try.prog 7 #[.slice A l.length c, .string x, .string y, .int .i64 most] w fun e w' => e = .returned (.bool true) ∧ Below w.heap.size w w' :=
  (callsIn_wide (n := 5)).1 (ranges_in A c l x y most w (acts_cells hC) (by have := ho.2.1; omega) hl (fun a ha => (ho.2.2 a ha).2.2) hx hy)
end Go.Proofs.Ytmpcmpanolnpfaa.Tr
