/- Lemmas that the proof needs, part 19. -/
import Derived.Test.YtmafibbnojdpjaaWKept
import Derived.Deep.RegionHeld3
import Derived.Test.YtmafibbnojdpjaaWWords
import Derived.Test.YtmafibbnojdpjaaWpo2
import Derived.Test.YtmafibbnojdpjaaWpo3
import Derived.Test.YtmafibbnojdpjaaWpo4
import Derived.Test.YtmafibbnojdpjaaWpo5
import Derived.Test.YtmafibbnojdpjaaWpo6
import Derived.Test.YtmafibbnojdpjaaWpo7
import Derived.Test.YtmafibbnojdpjaaWpo8
import Derived.Test.YtmafibbnojdpjaaWpo9
import Derived.Test.YtmafibbnojdpjaaWpo10
import Derived.Test.YtmafibbnojdpjaaWpo11
import Derived.Test.YtmafibbnojdpjaaWpo12
import Derived.Test.YtmafibbnojdpjaaWpo18
section
set_option linter.unusedVariables false
set_option maxRecDepth 100000
set_option linter.unusedSimpArgs false
namespace Go.Proofs.Ytmafibbnojdpjaa.St
open Go.Proofs.Ytmafibbnojdpjaa.Tr Go.RowKit Go.Proofs.YtmafibbnojdpjaaW.PrintWords Go.Proofs.YtmafibbnojdpjaaW.PrintLast Go.Proofs.YtmafibbnojdpjaaW.PrintMore Go.Proofs.Ytmafibbnojdpjaa.P Go.Proofs.Ytmafibbnojdpjaa.Mv
variable {w w' : World} {p b n : Nat} {C : List (Int × Int)} {nx : Int}
def mnI (x y : Int) : Int := if y < x then y else x
theorem run_min (ats : Array TypeId) (ty : TypeId) (x y : Int) (w : World) : (Builtin.min_ ats ty #[.int .i64 x, .int .i64 y]).run Try.prog w = .ok (.int .i64 (mnI x y)) w := by
  rw [min_two, min2_int]
  rfl
end Go.Proofs.Ytmafibbnojdpjaa.St
end
