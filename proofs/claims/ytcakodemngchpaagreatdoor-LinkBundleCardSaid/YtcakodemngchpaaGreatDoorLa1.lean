/- LinkApart: linked apart or together. -/
import Derived.Test.YtcakodemngchpaaGreatDoorBase
import Derived.Test.YtcakodemngchpaaGreatDoorRows
import Derived.IntWalk
import Derived.Outline
import Derived.Deep.LoopGhost
import Derived.Deep.RegionHeld3
import Derived.Deep.RegionLaw
import Derived.Test.YtcakodemngchpaaGreatDoorSure
import Derived.Test.YtcakodemngchpaaGreatDoorKb0
import Derived.Test.YtcakodemngchpaaGreatDoorLawA
import Derived.Test.YtcakodemngchpaaGreatDoorLink11
namespace Go.Proofs.YtcakodemngchpaaGreatDoor
open Go.RowKit
set_option linter.unusedSimpArgs false
set_option linter.unusedVariables false

end Go.Proofs.YtcakodemngchpaaGreatDoor
