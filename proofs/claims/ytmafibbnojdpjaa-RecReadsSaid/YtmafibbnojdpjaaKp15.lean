/- Lemmas that the proof needs, part 15. -/
import Derived.Deep.RegionLaw
import Derived.Deep.RegionHeld3
import Derived.RangeFuncNested
import Derived.RangeFuncBound
import Derived.RangeFuncCalls
import Derived.RangeFuncLeaves
import Derived.Shelf.Abstract
import Derived.Shelf.RegionOpen
import Derived.WalkKit
import Derived.OwnWalkIn
import Derived.TacticsInMore
import Derived.LoopNIn
import Derived.LoopIn
import Derived.Scope
import Derived.Maps.OwnIn
import Derived.RangeFuncFrom
import Derived.StringKeys
import Derived.RangeFuncBox
import Derived.Test.YtmafibbnojdpjaaKp1
import Derived.Test.YtmafibbnojdpjaaKp2
import Derived.Test.YtmafibbnojdpjaaKp3
import Derived.Test.YtmafibbnojdpjaaKp4
import Derived.Test.YtmafibbnojdpjaaKp5
import Derived.Test.YtmafibbnojdpjaaKp6
import Derived.Test.YtmafibbnojdpjaaKp7
import Derived.Test.YtmafibbnojdpjaaKp8
import Derived.Test.YtmafibbnojdpjaaKp9
import Derived.Test.YtmafibbnojdpjaaKp10
import Derived.Test.YtmafibbnojdpjaaKp11
import Derived.Test.YtmafibbnojdpjaaKp12
import Derived.Test.YtmafibbnojdpjaaKp13
import Derived.Test.YtmafibbnojdpjaaKp14
section
set_option linter.unusedVariables false
set_option maxRecDepth 100000
set_option linter.unusedSimpArgs false
namespace Go.Proofs.Ytmafibbnojdpjaa.St
open Go.Proofs.Ytmafibbnojdpjaa.Tr Go.RowKit Go.Proofs.YtmafibbnojdpjaaW.PrintWords Go.Proofs.YtmafibbnojdpjaaW.PrintLast Go.Proofs.YtmafibbnojdpjaaW.PrintMore Go.Proofs.Ytmafibbnojdpjaa.P
theorem ChOk.drop {t : Int} {c : List Ver} (h : ChOk t c) (n : Nat) : ChOk t (c.drop n) :=
  ⟨h.up.sublist (List.drop_sublist _ _), fun v hv => h.low v (List.mem_of_mem_drop hv), fun v hv => h.top v (List.mem_of_mem_drop hv)⟩
end Go.Proofs.Ytmafibbnojdpjaa.St
end
