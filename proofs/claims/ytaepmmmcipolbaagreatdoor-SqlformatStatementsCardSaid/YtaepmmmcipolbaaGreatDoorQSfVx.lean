/- Chapter 24: ValidStatement, the program and the reference. -/
import Derived.Test.YtaepmmmcipolbaaGreatDoorQSfVu
import Derived.Test.YtaepmmmcipolbaaGreatDoorQSfVw
set_option linter.unusedVariables false
set_option linter.unusedSimpArgs false
set_option maxRecDepth 100000
namespace Go.Vm
open Nat renaming reduceEqDiff→rA,reduceAdd→rB,reduceLeDiff→rC,reduceLT→rD
open Go
attribute [local go_sem] tailS held_eq hd3_ok pos_dec one_dec le1_dec decide_false decide_true and_self List.all_cons List.all_nil true_and
section
variable {Q:Type} [Inhabited Q] {f:Q→List SV} (hf:∀ x,(f x).length=10) {q:Q→Q→Bool} {w:Q→Prop} {vq:Q→Bool}
 (hE:∀ a b,w a→calL EE 24 [.st (f a),.st (f b)] []=some (.ret (.bool (q a b)),[]))
 (hS:∀ a b,w a→calL EE 32 [.st (f a),.st (f b)] []=some (.ret (.bool (q a b)),[]))
 (hV:∀ a,w a→calL EE 17 [.st (f a)] []=some (.ret (.bool (vq a)),[]))
 (rV:∀ a,w a→calL EE 18 [.st (f a)] []=some (.ret (.bool (vq a)),[]))
include hf
include hE hV in
set_option maxHeartbeats 4000000 in
theorem valStm_ok (a:StP Q) (ha:wfStP w a):calL EE 34 [.st (StP.row f a)] []=some (.ret (.bool (vStm q vq a)),[]):=by
 have hA:=vs_all hf hE (vq:=vq) a ha
 refine fn_ok f34 (by simp) ?_
 rw [vst_e]
 unfold c34
 unfold one row_st StP.row at *
 cases hd0:decide (a.qu.l.length=1) with
 | false =>
  rw [hd0] at hA
  simp only [go_sem,reduceIte,rA,rB,rC,rD,headS,one_dec,hd0]
  exact hA _ _ _ rfl rfl rfl rfl rfl
 | true =>
  have hl1:a.qu.l.length=1:=of_decide_eq_true hd0
  have hin:(0:Int) ≤ 0 ∧ (0:Int) < (a.qu.l.length:Int):=⟨by decide,by omega⟩
  have hq0:=q_at hf (l:=a.qu.l) (i:=0) (by omega)
  have e0:Int.toNat 0=0:=rfl
  have e9:=hV _ (ha.qu _ (getD_mem (l:=a.qu.l) (j:=0) default (by omega)))
  rw [hd0,Bool.true_and] at hA
  generalize vq (a.qu.l.getD 0 default)=rq at e9 hA
  simp only [go_sem,reduceIte,rA,rB,rC,rD,headS,one_dec,hd0,(q_ags hf).ia,hin,and_self,decide_true,e0,hq0]
  refine WC_p rfl (by rw [pure_st]; rfl) e9 ?_
  simp only [go_sem,reduceIte,rA,rB,rC,rD,headS,one_dec,hd0]
  exact hA _ _ _ rfl rfl rfl rfl rfl
include hS rV in
set_option maxHeartbeats 4000000 in
theorem refValStm_ok (a:StP Q) (ha:wfStP w a):calL EE 35 [.st (StP.row f a)] []=some (.ret (.bool (vStm q vq a)),[]):=by
 have hA:=rs_all hf hS rV a ha
 refine fn_ok f35 (by simp) ?_
 rw [rst_e]
 unfold c35
 unfold row_st StP.row at *
 simp only [go_sem,reduceIte,rA,rB,rC,rD,headS,one_dec]
 exact hA _ _ _ rfl rfl rfl rfl rfl
end
end Go.Vm
