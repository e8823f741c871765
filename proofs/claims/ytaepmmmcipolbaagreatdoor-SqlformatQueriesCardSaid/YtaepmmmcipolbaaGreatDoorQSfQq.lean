/- Chapter 24: SqlformatQueries' walk. -/
import Derived.Test.YtaepmmmcipolbaaGreatDoorQSfTv
import Derived.Test.YtaepmmmcipolbaaGreatDoorQSfSr
set_option linter.unusedVariables false
set_option linter.unusedSimpArgs false
set_option maxRecDepth 100000
namespace Go.Vm
open Go
theorem run_trq {f:FuncId} {args:List PV} (h:∃ v H1 n1,runL EE f args (Ob.of []) 0=some (.ret v,H1,n1) ∧ v = .bool true):∃ H' n',runL EE f args (Ob.of []) 0=some (.ret (.bool true),H',n'):=by
 obtain ⟨v,H1,n1,h,rfl⟩:=h
 exact ⟨H1,n1,h⟩
theorem fewQ_ok (n:Nat) (a:QN n) (hw:QN.wf n a) (m:Int):calL EE 16 [.st (QN.row n a),.i64 m] []=some (.ret (.bool (decide (0 ≤ QN.nod n a m))),[]):=by
 have e1:=queries_ok n a m hw
 obtain ⟨t1,t2⟩:=qn_take n a
 refine fn_ok f16 (by simp) ?_
 unfold c16
 simp only [go_sem,reduceIte,Nat.reduceEqDiff,Nat.reduceAdd,Nat.reduceLeDiff,Nat.reduceLT,t1,t2]
 refine WC_p rfl (by rw [pure_st]; rfl) e1 ?_
 simp only [go_sem,reduceIte,Nat.reduceEqDiff,Nat.reduceAdd,Nat.reduceLeDiff,Nat.reduceLT]
theorem queries_law (n:Nat) (a:QN n) (hw:QN.wf n a):∃ H' n',runL EE 4 [.st (QN.row n a)] (Ob.of []) 0=some (.ret (.bool true),H',n'):=by
 refine run_trq ?_
 refine fn_run (R:=fun v _ _=>v = .bool true) f4 (by simp) ?_
 unfold c4
 obtain ⟨t1,t2⟩:=qn_take n a
 simp only [go_sem,reduceIte,Nat.reduceEqDiff,Nat.reduceAdd,Nat.reduceLeDiff,Nat.reduceLT,t1,t2]
 refine WC_p rfl (by rw [pure_st]; rfl) (fewQ_ok n a hw 120) ?_
 by_cases hf:0 ≤ QN.nod n a 120
 ·have d:decide (0 ≤ QN.nod n a 120)=true:=decide_eq_true hf
  have hc:=few_query hw (by decide) (by decide) hf
  have hn:QN.cnt n a ≤ 10000:=by omega
  have hb:((QN.vv n).1 a == (QN.vv n).1 a)=true:=by cases (QN.vv n).1 a <;> rfl
  simp only [go_sem,reduceIte,Nat.reduceEqDiff,Nat.reduceAdd,Nat.reduceLeDiff,Nat.reduceLT,d,t1,t2,Bool.not_true]
  refine WC_p rfl (by rw [pure_st]; rfl) ((valQ_ok n).1 a hw) ?_
  simp only [go_sem,reduceIte,Nat.reduceEqDiff,Nat.reduceAdd,Nat.reduceLeDiff,Nat.reduceLT,t1,t2]
  refine WC_p rfl (by rw [pure_st]; rfl) ((refValQ_ok n).1 a hw) ?_
  simp only [go_sem,reduceIte,Nat.reduceEqDiff,Nat.reduceAdd,Nat.reduceLeDiff,Nat.reduceLT,t1,t2,hb]
  refine WC_p rfl (by rw [pure_st]; rfl) (query_ok n a hw hn) ?_
  simp only [go_sem,reduceIte,Nat.reduceEqDiff,Nat.reduceAdd,Nat.reduceLeDiff,Nat.reduceLT,t1,t2,hb]
  refine WC_p rfl (by rw [pure_st]; rfl) (refQry_ok n a hw hn) ?_
  simp only [go_sem,reduceIte,Nat.reduceEqDiff,Nat.reduceAdd,Nat.reduceLeDiff,Nat.reduceLT,t1,t2,hb,decide_true]
  refine WC_p rfl (by rw [pure_st]; rfl) (sizeQ_ok n a hw hn) ?_
  simp only [go_sem,reduceIte,Nat.reduceEqDiff,Nat.reduceAdd,Nat.reduceLeDiff,Nat.reduceLT,t1,t2,hb,decide_true]
  refine WC_p rfl (by rw [pure_st]; rfl) (refSizeQ_ok n a hw hn) ?_
  simp only [go_sem,reduceIte,Nat.reduceEqDiff,Nat.reduceAdd,Nat.reduceLeDiff,Nat.reduceLT,t1,t2,hb,decide_true]
  refine WC_p rfl rfl awake24 ?_
  simp only [go_sem,reduceIte,Nat.reduceEqDiff,Nat.reduceAdd,Nat.reduceLeDiff,Nat.reduceLT,hb,decide_true]
 ·have d:decide (0 ≤ QN.nod n a 120)=false:=decide_eq_false hf
  simp only [go_sem,reduceIte,Nat.reduceEqDiff,Nat.reduceAdd,Nat.reduceLeDiff,Nat.reduceLT,d,Bool.not_false]
  refine WC_p rfl rfl awake24 ?_
  simp only [go_sem,reduceIte,Nat.reduceEqDiff,Nat.reduceAdd,Nat.reduceLeDiff,Nat.reduceLT]
end Go.Vm
