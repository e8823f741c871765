/- Chapter 24: operations, valid or not. -/
import Derived.Test.YtaepmmmcipolbaaGreatDoorQSfQ
set_option linter.unusedVariables false
set_option linter.unusedSimpArgs false
set_option maxRecDepth 100000
namespace Go.Vm
open Nat renaming reduceEqDiff→rA,reduceAdd→rB,reduceLeDiff→rC,reduceLT→rD
open Go
set_option maxHeartbeats 400000 in
theorem valid2 (k:Int) (v:Val) (tb nm:List UInt8) (op fn:Int) (fl:Option Bool) (xs:List Tr) (hw:wf (.mk k v tb nm op fn fl xs)) (h0:¬ k=0) (h1:¬ k=1) (h2:k=2)
  (hf:calL EE 46 [.s ((mkS fl xs).sv Tr.row),.s (.func 12)] []=some (.ret (.bool (vldL xs)),[])):calL EE 12 [.st (Tr.mk k v tb nm op fn fl xs).row] []=some (.ret (.bool (vld (.mk k v tb nm op fn fl xs))),[]):=by
 have hw':=hw
 rw [wf] at hw
 refine fn_ok f12 (by simp) ?_
 unfold c12
 rw [row_mk,vld]
 have d0:decide (k=0)=false:=decide_eq_false h0
 have d1:decide (k=1)=false:=decide_eq_false h1
 have d2:decide (k=2)=true:=decide_eq_true h2
 have e:=vE k v tb nm 0 fn none [] ⟨hw.1,by simp,trivial⟩
 have hlen:(mkS fl xs).l.length=xs.length:=by rw [mkS_l]
 have ha:decide ((xs.length:Int)=((arI op:Nat):Int))=decide (xs.length=arI op):=decide_eq_decide.2 (by omega)
 simp only [go_sem,reduceIte,rA,rB,rC,rD,d0,d1,d2]
 refine WC_p rfl rfl (isOp_ok op) ?_
 unfold vldB
 rw [if_neg h0,if_neg h1,if_pos h2]
 cases hO:(decide (0 ≤ op) && decide (op ≤ 13)) with
 | false =>
  simp only [go_sem,reduceIte,rA,rB,rC,rD]
 | true =>
  simp only [go_sem,reduceIte,rA,rB,rC,rD,hlen]
  refine WC_p rfl rfl (arity_ok op) ?_
  cases hL:decide (xs.length=arI op) with
  | false =>
   have ha:=ha.trans hL
   simp only [go_sem,reduceIte,rA,rB,rC,rD,ha]
  | true =>
   have ha:=ha.trans hL
   simp only [go_sem,reduceIte,rA,rB,rC,rD,ha]
   refine WC_p rfl rfl hf ?_
   cases hV:vldL xs with
   | false=>simp only [go_sem,reduceIte,rA,rB,rC,rD,ha]
   | true =>
    simp only [go_sem,reduceIte,rA,rB,rC,rD,ha]
    refine WC_p rfl rfl e ?_
    simp only [go_sem,reduceIte,rA,rB,rC,rD,decide_true,List.length_nil]
theorem validX (k:Int) (v:Val) (tb nm:List UInt8) (op fn:Int) (fl:Option Bool) (xs:List Tr) (h0:¬ k=0) (h1:¬ k=1) (h2:¬ k=2):calL EE 12 [.st (Tr.mk k v tb nm op fn fl xs).row] []=some (.ret (.bool (vld (.mk k v tb nm op fn fl xs))),[]):=by
 refine fn_ok f12 (by simp) ?_
 unfold c12
 rw [row_mk,vld]
 have d0:decide (k=0)=false:=decide_eq_false h0
 have d1:decide (k=1)=false:=decide_eq_false h1
 have d2:decide (k=2)=false:=decide_eq_false h2
 unfold vldB
 rw [if_neg h0,if_neg h1,if_neg h2]
 simp only [go_sem,reduceIte,rA,rB,rC,rD,d0,d1,d2]
theorem valid_ok (n:Nat):∀ t:Tr,cnt t ≤ n→wf t→calL EE 12 [.st t.row] []=some (.ret (.bool (vld t)),[]):=by
 induction n with
 | zero=>intro t h _; have:=cnt_pos t; omega
 | succ n ih =>
  intro t h hw
  cases t with
  | mk k v tb nm op fn fl xs =>
   by_cases h0:k=0
   ·exact valid0 k v tb nm op fn fl xs hw h0
   by_cases h1:k=1
   ·exact valid1 k v tb nm op fn fl xs hw h0 h1
   by_cases h2:k=2
   ·have hw':=hw
    rw [wf] at hw'
    rw [cnt] at h
    have hf:=all_func tr_ags f46 (by decide) rfl f118 rfl f171 rfl f119 (by decide) (mkS fl xs) (by rw [mkS_l]; exact hw'.2.1) (g:=12) rfl vld (fun j hj=>by
     rw [mkS_l] at hj ⊢
     have hm:=getD_mem (l:=xs) default hj
     exact ih _ (by have:=cnt_mem hm; omega) (wfL_mem hw'.2.2 hm))
    rw [mkS_l,← vldL_all] at hf
    exact valid2 k v tb nm op fn fl xs hw h0 h1 h2 hf
   ·exact validX k v tb nm op fn fl xs h0 h1 h2
end Go.Vm
