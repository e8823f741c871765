/- Chapter 24: the reference's texts of queries. -/
import Derived.Test.YtaepmmmcipolbaaGreatDoorQSfTu
set_option linter.unusedVariables false
set_option linter.unusedSimpArgs false
set_option maxRecDepth 100000
namespace Go.Vm
open Nat renaming reduceEqDiff→rE,reduceAdd→rF,reduceLeDiff→rG,reduceLT→rH
open Go
def qryV (n:Nat) (a:QN n):List UInt8:=if (QN.vv n).1 a=true then QN.txt n a else []
theorem qn_take (n:Nat) (a:QN n):List.take 10 (QN.row n a)=QN.row n a ∧ (QN.row n a).length=10:=⟨List.take_of_length_le (by rw [qn_len]; omega),qn_len n a⟩
theorem query_ok (n:Nat) (a:QN n) (hw:QN.wf n a) (hn:QN.cnt n a ≤ 10000):calL EE 19 [.st (QN.row n a)] []=some (.ret (.str (qryV n a)),[]):=by
 have e1:=(valQ_ok n).1 a hw
 obtain ⟨t1,t2⟩:=qn_take n a
 refine fn_ok f19 (by simp) ?_
 unfold c19 qryV
 simp only [go_sem,reduceIte,rE,rF,rG,rH,t1,t2]
 refine WC_p rfl (by rw [pure_st]; rfl) e1 ?_
 cases hv:(QN.vv n).1 a with
 | false=>simp only [go_sem,reduceIte,rE,rF,rG,rH,if_neg,Bool.false_eq_true]
 | true =>
  simp only [go_sem,reduceIte,rE,rF,rG,rH,t1,t2]
  refine WC_p rfl (by rw [pure_st]; rfl) (txtQ_ok n a hw (.inl hv) hn) ?_
  simp only [go_sem,reduceIte,rE,rF,rG,rH]
end Go.Vm
