/- right of the reference. -/
import Derived.Test.YtidffjlpldalpaaGreatDoorP14
import Derived.Test.YtidffjlpldalpaaGreatDoorP1
set_option linter.unusedVariables false
set_option linter.unusedSimpArgs false
namespace Go.Proofs.YtidffjlpldalpaaGreatDoor
open Go Go.RowKit

end Go.Proofs.YtidffjlpldalpaaGreatDoor
