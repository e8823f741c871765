/- Chapter 24: which queries are valid, by the reference. -/
import Derived.Test.YtaepmmmcipolbaaGreatDoorQSfVb
set_option linter.unusedVariables false
set_option linter.unusedSimpArgs false
set_option maxRecDepth 100000
namespace Go.Vm
open Go
def QN.vv:∀ n,(QN n→Bool) × (QN n→Bool)
 | 0=>(fun _=>false,fun _=>false)
 | n + 1=>(fun q=>vQry (QN.vv n).1 (QN.vv n).2 q,fun q=>vBody (QN.vv n).1 (QN.vv n).2 q)
theorem valQ_ok:∀ (n:Nat),(∀ a:QN n,QN.wf n a→calL EE 17 [.st (QN.row n a)] []=some (.ret (.bool ((QN.vv n).1 a)),[])) ∧ (∀ a:QN n,QN.wf n a→calL EE 59 [.st (QN.row n a)] []=some (.ret (.bool ((QN.vv n).2 a)),[]))
 | 0=>⟨fun _ _=>cal_run (n:=200) (by kernel_rfl),fun _ _=>cal_run (n:=200) (by kernel_rfl)⟩
 | n + 1=>⟨fun a h=>query_val (qn_len n) (equalQ_ok n) (qn_refl n) (valQ_ok n).1 (valQ_ok n).2 a h,fun a h=>body_val (qn_len n) (equalQ_ok n) (qn_refl n) (valQ_ok n).1 (valQ_ok n).2 a h⟩
end Go.Vm
