/- Chapter 24: the reference's texts of memberships and SELECT queries. -/
import Derived.Test.YtaepmmmcipolbaaGreatDoorQSfTr
set_option linter.unusedVariables false
set_option linter.unusedSimpArgs false
set_option maxRecDepth 100000
namespace Go.Vm
open Go
end Go.Vm
