/- ClaimMany: the walk, as the row asks for it. -/
import Derived.Test.YtpfpejkndjdgkaaQh
import Derived.Test.YtpfpejkndjdgkaaRd
set_option linter.unusedVariables false
namespace Go.Proofs.Ytpfpejkndjdgkaa.Q
open Go.RowKit
theorem many_walk (n k g : Int) (w : World) (_ : (Lit.int .i64 n).wf = true) (_ : (Lit.int .i64 k).wf = true) (_ : (Lit.int .i64 g).wf = true) :
    Calls Try.prog 5 #[.int .i64 n, .int .i64 k, .int .i64 g] w fun e w' => e = .returned (.bool true) ∧ Below w.heap.size w w' := many_any n k g w
end Go.Proofs.Ytpfpejkndjdgkaa.Q
