/- Chapter 24: the law SqlformatParentheses. -/
import Derived.Test.YtaepmmmcipolbaaGreatDoorQSfW
set_option linter.unusedVariables false
set_option linter.unusedSimpArgs false
set_option maxRecDepth 100000
namespace Go.Vm
open Go
theorem few_cnt' {t:Tr} {m:Int} (h:0 ≤ nod t m) (h1:0 ≤ m) (h2:m ≤ 1000) (hv:vld t=true ∨ cal t=true):cnt t ≤ 1000:=by
 have hs:sm t:=hv.elim (vld_sm t) (cal_sm t)
 have:=(nod_cnt t m hs (by omega) (by omega) h1).2.2 h
 omega
end Go.Vm
