/- The machine over chapter 24's program: its code is served; the example of the chapter. -/
import Derived.Test.YtaepmmmcipolbaaGreatDoorSfA
import Derived.Test.YtaepmmmcipolbaaGreatDoorSfX
set_option linter.unusedVariables false
set_option linter.unusedSimpArgs false
set_option maxRecDepth 100000
namespace Go.Vm
open Go.Proofs Go.RowKit
theorem codes24 : codesB EE useL = true := by kernel_rfl
theorem codesOk24 : CodesOk EE := codes_of codes24 (fun f hf => by simpa [EE] using hf)
theorem awake24 : calL EE 11 [] [] = some (.ret (.bool true), []) := cal_run (n := 400) (by kernel_rfl)
end Go.Vm
