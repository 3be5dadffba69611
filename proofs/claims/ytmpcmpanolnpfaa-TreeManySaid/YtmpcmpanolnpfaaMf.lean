/- TreeMany: the walk, as the row asks for it. -/
import Derived.Test.YtmpcmpanolnpfaaMb
import Derived.Test.YtmpcmpanolnpfaaRd
namespace Go.Proofs.Ytmpcmpanolnpfaa.Tr
open Go.RowKit
theorem many_walk (n step drop : Int) (w : World) (_ : (Lit.int .i64 n).wf = true) (_ : (Lit.int .i64 step).wf = true) (_ : (Lit.int .i64 drop).wf = true) :
    Calls Try.prog 3 #[.int .i64 n, .int .i64 step, .int .i64 drop] w fun e w' => e = .returned (.bool true) ∧ Below w.heap.size w w' := (callsIn_wide (n := 4)).1 (many_in n step drop w)
end Go.Proofs.Ytmpcmpanolnpfaa.Tr
