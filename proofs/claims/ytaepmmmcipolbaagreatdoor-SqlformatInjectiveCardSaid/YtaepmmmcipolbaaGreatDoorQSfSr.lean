/- Chapter 24: the size of a query, by the reference; sizes level by level. -/
import Derived.Test.YtaepmmmcipolbaaGreatDoorQSfSq
set_option linter.unusedVariables false
set_option linter.unusedSimpArgs false
set_option maxRecDepth 100000
namespace Go.Vm
open Go
def QN.sz:∀ n,QN n→Nat
 | 0,_=>1
 | n + 1,q=>szQP (QN.sz n) q
end Go.Vm
