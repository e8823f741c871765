/- What chapter 19 takes from Go's library by its contract. -/
import Derived.Test.YtfgkhgkgaedcmaaGreatVmGJ
import Derived.Test.YtfgkhgkgaedcmaaGreatChecked
set_option linter.unusedVariables false
set_option maxRecDepth 100000
namespace Go.Vm
def extL (f : FuncId) : Option (List PV → Option PV) := if f = 45 then some joinX else none
end Go.Vm
