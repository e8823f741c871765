/- The machine over chapter 23's program: its code is served; the examples of the chapter. -/
import Derived.Test.YtpnlogofcecjeaaGreatDoorLxA
set_option linter.unusedVariables false
set_option linter.unusedSimpArgs false
set_option maxRecDepth 100000
namespace Go.Vm
open Go.Proofs Go.RowKit
theorem codes23 : codesB EE useL = true := by kernel_rfl
theorem codesOk23 : CodesOk EE := codes_of codes23 (fun f hf => by simpa [EE] using hf)
theorem awake23 : calL EE 8 [] [] = some (.ret (.bool true), []) := cal_run (n := 400) (by kernel_rfl)
theorem gok23 (W : World) : GOk EE (fixOf W) := fun g p h => by cases h
end Go.Vm
