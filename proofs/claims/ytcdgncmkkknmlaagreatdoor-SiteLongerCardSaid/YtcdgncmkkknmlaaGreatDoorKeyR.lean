/- The reference of layer 22. -/
import Derived.Test.YtcdgncmkkknmlaaGreatDoorKeyD
import Derived.Test.YtcdgncmkkknmlaaGreatDoorGrs
namespace Go.Proofs.YtcdgncmkkknmlaaGreatDoor
set_option linter.unusedVariables false
set_option linter.unusedSimpArgs false
set_option maxHeartbeats 4000000
set_option maxRecDepth 100000
open Go.RowKit
end Go.Proofs.YtcdgncmkkknmlaaGreatDoor
