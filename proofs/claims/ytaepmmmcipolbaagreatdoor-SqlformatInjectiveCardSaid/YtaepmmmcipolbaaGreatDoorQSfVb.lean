/- Chapter 24: which queries are valid: parts with queries in them, bodies, queries. -/
import Derived.Test.YtaepmmmcipolbaaGreatDoorQSfVa
set_option linter.unusedVariables false
set_option linter.unusedSimpArgs false
set_option maxRecDepth 100000
namespace Go.Vm
open Nat renaming reduceEqDiff→rA,reduceAdd→rB,reduceLeDiff→rC,reduceLT→rD
open Go
theorem eqF_nil {α:Type} {q:α→α→Bool} (l:List α):eqF q l []=decide (l.length=0):=by
 cases l with
 | nil=>rfl
 | cons a r=>rw [eqF]; rfl
theorem all_two {α:Type} [Inhabited α] {p:α→Bool} {l:List α} (h:l.length=2):l.all p=(p (l.getD 0 default) && p (l.getD 1 default)):=by
 match l,h with
 | [a,b],_=>rw [List.all_cons,List.all_cons,List.all_nil,Bool.and_true]; rfl
theorem eq_emp {Q:Type} {q:Q→Q→Bool} (hr:∀ a,q a a=true) (a:QP Q) (hw:a.wi.l.length=0):eqQP q a ⟨a.k,.nil,false,.nil,.nil,.nil,.nil,.nil,.nil,a.ar⟩=emp a:=by
 unfold eqQP emp
 show (decide (a.k=a.k) && (a.ds == false) && eqF (eqCm q) a.wi.l [] && eqF eqItm a.it.l [] && eqF (eqFr q) a.fr.l [] && eqF eqT a.wh.l [] && eqF (eqMb q) a.mb.l [] && eqF eqT a.gb.l [] && eqF eqHv a.hv.l [] && eqF q a.ar.l a.ar.l)=_
 rw [eqF_nil,eqF_nil,eqF_nil,eqF_nil,eqF_nil,eqF_nil,eqF_nil,eqF_refl hr,decide_eq_true hw,decide_eq_true rfl]
 cases a.ds <;> simp
theorem noW_wf {Q:Type} {w:Q→Prop} (a:QP Q) (ha:wfQP w a):wfQP w (noW a):=⟨by show (0:Nat) ≤ mxL; omega,nofun,ha.lit,ha.it,ha.lfr,ha.fr,ha.lwh,ha.wh,ha.lmb,ha.mb,ha.lgb,ha.gb,ha.lhv,ha.hv,ha.lar,ha.ar,nofun,ha.rit,ha.rfr,ha.rwh,ha.rmb,ha.rgb,ha.rhv,ha.rln⟩
section
variable {Q:Type} [Inhabited Q] {f:Q→List SV} (hf:∀ x,(f x).length=10) {q:Q→Q→Bool} {w:Q→Prop} {vq vb:Q→Bool}
 (hE:∀ a b,w a→calL EE 24 [.st (f a),.st (f b)] []=some (.ret (.bool (q a b)),[]))
 (hr:∀ a,q a a=true)
 (hV:∀ a,w a→calL EE 17 [.st (f a)] []=some (.ret (.bool (vq a)),[]))
 (hB:∀ a,w a→calL EE 59 [.st (f a)] []=some (.ret (.bool (vb a)),[]))
 (rV:∀ a,w a→calL EE 18 [.st (f a)] []=some (.ret (.bool (vq a)),[]))
 (rB:∀ a,w a→calL EE 61 [.st (f a)] []=some (.ret (.bool (vb a)),[]))
include hf
theorem q_at {l:List Q} {i:Nat} (h:i < l.length) (HH:Ob):loadM true 10 HH (.eptr (l.map f) i 0)=some (.st (f (l.getD i default))):=(q_ags hf).load h
include hV in
theorem from_val (x:FrP Q) (hw:wfFr w x):calL EE 130 [.st (FrP.row f x)] []=some (.ret (.bool (vFr vq x)),[]):=by
 obtain ⟨nm,al,qs⟩:=x
 have e1:=name_ok nm
 have e2:=opt_ok al
 have e3:=name_ok al
 refine fn_ok f130 (by simp) ?_
 unfold c130 vFr FrP.row
 show WP EE _ _ _ _ (Fin _ (.bool (if qs.l.length=0 then nameV nm && optV al else decide (nm=[]) && nameV al && decide (qs.l.length=1) && vq (qs.l.getD 0 default))))
 generalize nameV nm=r1 at e1
 generalize optV al=r2 at e2
 generalize nameV al=r3 at e3
 by_cases h0:qs.l.length=0
 ·rw [if_pos h0]
  have d0:decide (qs.l.length=0)=true:=decide_eq_true h0
  simp only [go_sem,reduceIte,rA,rB,rC,rD,zero_dec,d0]
  refine WC_p rfl rfl e1 ?_
  cases r1 with
  | false=>simp only [go_sem,reduceIte,rA,rB,rC,rD]
  | true =>
   simp only [go_sem,reduceIte,rA,rB,rC,rD]
   refine WC_p rfl rfl e2 ?_
   simp only [go_sem,reduceIte,rA,rB,rC,rD]
 ·rw [if_neg h0]
  have d0:decide (qs.l.length=0)=false:=decide_eq_false h0
  cases d1:decide (nm=[]) with
  | false=>simp only [go_sem,reduceIte,rA,rB,rC,rD,zero_dec,one_dec,d0,d1]
  | true =>
   simp only [go_sem,reduceIte,rA,rB,rC,rD,zero_dec,one_dec,d0,d1]
   refine WC_p rfl rfl e3 ?_
   cases r3 with
   | false=>simp only [go_sem,reduceIte,rA,rB,rC,rD,zero_dec,one_dec,d0,d1]
   | true =>
    cases d2:decide (qs.l.length=1) with
    | false=>simp only [go_sem,reduceIte,rA,rB,rC,rD,zero_dec,one_dec,d0,d1,d2]
    | true =>
     have h1:qs.l.length=1:=of_decide_eq_true d2
     have hin:(0:Int) ≤ 0 ∧ (0:Int) < (qs.l.length:Int):=⟨by decide,by omega⟩
     have e0:Int.toNat 0=0:=rfl
     have hld:=q_at hf (l:=qs.l) (i:=0) (by omega)
     simp only [go_sem,reduceIte,rA,rB,rC,rD,zero_dec,one_dec,d0,d1,d2,(q_ags hf).ia,hin,and_self,e0,hld]
     refine WC_p rfl (by rw [pure_st]; rfl) (hV _ (hw.2 _ (getD_mem (l:=qs.l) (j:=0) default (by omega)))) ?_
     simp only [go_sem,reduceIte,rA,rB,rC,rD,zero_dec,one_dec,d0,d1,d2]
omit [Inhabited Q] in
include hV in
theorem mem_val (x:MbP Q) (hw:wfMb w x):calL EE 132 [.st (MbP.row f x)] []=some (.ret (.bool (vMb vq x)),[]):=by
 obtain ⟨h1,h2,h3⟩:=hw
 have e1:=alls_ok x.ex h1 h2
 have e2:=hV _ h3
 have la:=hf x.q
 have t1:List.take 10 (f x.q)=f x.q:=List.take_of_length_le (by omega)
 refine fn_ok f132 (by simp) ?_
 unfold c132 vMb MbP.row
 generalize x.ex.l.all vld=r1 at e1
 generalize vq x.q=r2 at e2
 simp only [go_sem,reduceIte,rA,rB,rC,rD]
 refine WC_p rfl rfl e1 ?_
 cases r1 with
 | false=>simp only [go_sem,reduceIte,rA,rB,rC,rD]
 | true =>
  simp only [go_sem,reduceIte,rA,rB,rC,rD,List.drop_succ_cons,List.drop_zero,List.length_cons,la,t1]
  refine WC_p rfl (by rw [pure_st]; rfl) e2 ?_
  simp only [go_sem,reduceIte,rA,rB,rC,rD]
omit [Inhabited Q] in
include hB in
theorem com_val (x:CmP Q) (hw:wfCm w x):calL EE 58 [.st (CmP.row f x)] []=some (.ret (.bool (vCm vb x)),[]):=by
 obtain ⟨h1,h2,h3⟩:=hw
 have e1:=name_ok x.name
 have e2:=allN_ok x.cols h1
 have e3:=hB _ h2
 have e4:=hB _ h3
 obtain ⟨t1,t2,t3,t4,t5⟩:=two10 hf x.base x.step
 refine fn_ok f58 (by simp) ?_
 unfold c58 vCm CmP.row
 generalize nameV x.name=r1 at e1
 generalize x.cols.l.all nameV=r2 at e2
 generalize vb x.base=r3 at e3
 generalize vb x.step=r4 at e4
 simp only [go_sem,reduceIte,rA,rB,rC,rD,pos_dec]
 refine WC_p rfl rfl e1 ?_
 cases r1 with
 | false=>simp only [go_sem,reduceIte,rA,rB,rC,rD,pos_dec]
 | true =>
  cases d1:decide (0 < x.cols.l.length) with
  | false=>simp only [go_sem,reduceIte,rA,rB,rC,rD,pos_dec,d1]
  | true =>
   simp only [go_sem,reduceIte,rA,rB,rC,rD,pos_dec,d1]
   refine WC_p rfl rfl e2 ?_
   cases r2 with
   | false=>simp only [go_sem,reduceIte,rA,rB,rC,rD,pos_dec,d1]
   | true =>
    simp only [go_sem,reduceIte,rA,rB,rC,rD,pos_dec,d1,List.drop_succ_cons,List.drop_zero,List.length_cons,t1,t2,t3,t4,t5]
    refine WC_p rfl (by rw [pure_st]; rfl) e3 ?_
    cases r3 with
    | false=>simp only [go_sem,reduceIte,rA,rB,rC,rD,pos_dec,d1]
    | true =>
     simp only [go_sem,reduceIte,rA,rB,rC,rD,pos_dec,d1,List.drop_succ_cons,List.drop_zero,List.length_cons,t1,t2,t3,t4,t5]
     refine WC_p rfl (by rw [pure_st]; rfl) e4 ?_
     simp only [go_sem,reduceIte,rA,rB,rC,rD,pos_dec,d1]
include hV in
theorem allF_ok (x:Slc (FrP Q)) (hl:x.l.length ≤ mxL) (hw:∀ a ∈ x.l,wfFr w a):calL EE 129 [.s (x.sv (FrP.row f)),.s (.func 130)] []=some (.ret (.bool (x.l.all (vFr vq))),[]) :=
 all_func fr_ags f129 (by decide) rfl f181 rfl f217 rfl f182 (by decide) x hl (g:=130) rfl (vFr vq) fun j hj=>from_val hf hV _ (hw _ (getD_mem (l:=x.l) default hj))
include hV in
theorem allM_ok (x:Slc (MbP Q)) (hl:x.l.length ≤ mxL) (hw:∀ a ∈ x.l,wfMb w a):calL EE 131 [.s (x.sv (MbP.row f)),.s (.func 132)] []=some (.ret (.bool (x.l.all (vMb vq))),[]) :=
 all_func (mb_ags hf) f131 (by decide) rfl f183 rfl f218 rfl f184 (by decide) x hl (g:=132) rfl (vMb vq) fun j hj=>mem_val hf hV _ (hw _ (getD_mem (l:=x.l) default hj))
include hB in
theorem allC_ok (x:Slc (CmP Q)) (hl:x.l.length ≤ mxL) (hw:∀ a ∈ x.l,wfCm w a):calL EE 57 [.s (x.sv (CmP.row f)),.s (.func 58)] []=some (.ret (.bool (x.l.all (vCm vb))),[]) :=
 all_func (cm_ags hf) f57 (by decide) rfl f126 rfl f178 rfl f127 (by decide) x hl (g:=58) rfl (vCm vb) fun j hj=>com_val hf hB _ (hw _ (getD_mem (l:=x.l) default hj))
include hB in
theorem allQ_ok (x:Slc Q) (hl:x.l.length ≤ mxL) (hw:∀ a ∈ x.l,w a):calL EE 135 [.s (x.sv f),.s (.func 59)] []=some (.ret (.bool (x.l.all vb)),[]) :=
 all_func (q_ags hf) f135 (by decide) rfl f187 rfl f220 rfl f188 (by decide) x hl (g:=59) rfl vb fun j hj=>hB _ (hw _ (getD_mem (l:=x.l) default hj))
include hE hr hV hB in
set_option maxHeartbeats 4000000 in
theorem body_val (a:QP Q) (ha:wfQP w a):calL EE 59 [.st (QP.row f a)] []=some (.ret (.bool (vBody vq vb a)),[]):=by
 have e1:=items_ok a.it ha.lit ha.it
 have e2:=allF_ok hf hV a.fr ha.lfr ha.fr
 have e3:=alls_ok a.wh ha.lwh ha.wh
 have e4:=allM_ok hf hV a.mb ha.lmb ha.mb
 have e5:=alls_ok a.gb ha.lgb ha.gb
 have e6:=allH_ok a.hv ha.lhv (fun x hx=>(ha.hv x hx).1)
 have e7:=allQ_ok hf hB a.ar ha.lar ha.ar
 have e8:=query_eq hf hE a ⟨a.k,.nil,false,.nil,.nil,.nil,.nil,.nil,.nil,a.ar⟩ ha
 have h5:a.k < 0 ∨ 5 < a.k ∨ ¬ a.ar.l.length=2→vSet vb a=false:=by
  intro h
  unfold vSet
  rcases h with h | h | h
  ·rw [decide_eq_false (show ¬ 0 ≤ a.k by omega)]; simp
  ·rw [decide_eq_false (show ¬ a.k ≤ 5 by omega)]; simp
  ·rw [decide_eq_false h]; simp
 refine fn_ok f59 (by simp) ?_
 unfold c59
 unfold QP.row at *
 by_cases hW:¬ a.wi.l.length=0
 ·have d0:decide (0 < a.wi.l.length)=true:=decide_eq_true (by omega)
  have d1:decide (a.wi.l.length=0)=false:=decide_eq_false hW
  unfold vBody
  simp only [go_sem,reduceIte,rA,rB,rC,rD,one_dec,zero_dec,two_dec,le1_dec,pos_dec,d0,d1]
 replace hW:=Decidable.not_not.1 hW
 have w0:decide (0 < a.wi.l.length)=false:=decide_eq_false (by omega)
 have w1:decide (a.wi.l.length=0)=true:=decide_eq_true hW
 by_cases hk:a.k=0
 ·have k0:decide (a.k=0)=true:=decide_eq_true hk
  have hb:vBody vq vb a=vSel vq a:=by unfold vBody; rw [w1,if_pos hk,Bool.true_and]
  rw [hb]
  unfold vSel
  generalize vIts a.it.l=r1 at e1
  generalize a.fr.l.all (vFr vq)=r2 at e2
  generalize a.wh.l.all vld=r3 at e3
  generalize a.mb.l.all (vMb vq)=r4 at e4
  generalize a.gb.l.all vld=r5 at e5
  generalize a.hv.l.all vHv=r6 at e6
  cases d1:decide (a.ar.l.length=0) with
  | false=>simp only [go_sem,reduceIte,rA,rB,rC,rD,one_dec,zero_dec,two_dec,le1_dec,pos_dec,w0,k0,d1]
  | true =>
   simp only [go_sem,reduceIte,rA,rB,rC,rD,one_dec,zero_dec,two_dec,le1_dec,pos_dec,w0,k0,d1]
   refine WC_p rfl rfl e1 ?_
   cases r1 with
   | false=>simp only [go_sem,reduceIte,rA,rB,rC,rD,one_dec,zero_dec,two_dec,le1_dec,pos_dec,w0,k0,d1]
   | true =>
    cases d2:decide (0 < a.fr.l.length) with
    | false=>simp only [go_sem,reduceIte,rA,rB,rC,rD,one_dec,zero_dec,two_dec,le1_dec,pos_dec,w0,k0,d1,d2]
    | true =>
     simp only [go_sem,reduceIte,rA,rB,rC,rD,one_dec,zero_dec,two_dec,le1_dec,pos_dec,w0,k0,d1,d2]
     refine WC_p rfl rfl e2 ?_
     cases r2 with
     | false=>simp only [go_sem,reduceIte,rA,rB,rC,rD,one_dec,zero_dec,two_dec,le1_dec,pos_dec,w0,k0,d1,d2]
     | true =>
      cases d3:decide (a.wh.l.length ≤ 1) with
      | false=>simp only [go_sem,reduceIte,rA,rB,rC,rD,one_dec,zero_dec,two_dec,le1_dec,pos_dec,w0,k0,d1,d2,d3]
      | true =>
       simp only [go_sem,reduceIte,rA,rB,rC,rD,one_dec,zero_dec,two_dec,le1_dec,pos_dec,w0,k0,d1,d2,d3]
       refine WC_p rfl rfl e3 ?_
       cases r3 with
       | false=>simp only [go_sem,reduceIte,rA,rB,rC,rD,one_dec,zero_dec,two_dec,le1_dec,pos_dec,w0,k0,d1,d2,d3]
       | true =>
        simp only [go_sem,reduceIte,rA,rB,rC,rD,one_dec,zero_dec,two_dec,le1_dec,pos_dec,w0,k0,d1,d2,d3]
        refine WC_p rfl rfl e4 ?_
        cases r4 with
        | false=>simp only [go_sem,reduceIte,rA,rB,rC,rD,one_dec,zero_dec,two_dec,le1_dec,pos_dec,w0,k0,d1,d2,d3]
        | true =>
         simp only [go_sem,reduceIte,rA,rB,rC,rD,one_dec,zero_dec,two_dec,le1_dec,pos_dec,w0,k0,d1,d2,d3]
         refine WC_p rfl rfl e5 ?_
         cases r5 with
         | false=>simp only [go_sem,reduceIte,rA,rB,rC,rD,one_dec,zero_dec,two_dec,le1_dec,pos_dec,w0,k0,d1,d2,d3]
         | true =>
          simp only [go_sem,reduceIte,rA,rB,rC,rD,one_dec,zero_dec,two_dec,le1_dec,pos_dec,w0,k0,d1,d2,d3]
          refine WC_p rfl rfl e6 ?_
          simp only [go_sem,reduceIte,rA,rB,rC,rD,one_dec,zero_dec,two_dec,le1_dec,pos_dec,w0,k0,d1,d2,d3]
 ·have k0:decide (a.k=0)=false:=decide_eq_false hk
  have hb:vBody vq vb a=vSet vb a:=by unfold vBody; rw [w1,if_neg hk,Bool.true_and]
  rw [hb]
  by_cases hx:a.k < 0 ∨ 5 < a.k ∨ ¬ a.ar.l.length=2
  ·rw [h5 hx]
   have dx:(decide (a.k < 0) || decide (5 < a.k) || !decide (a.ar.l.length=2))=true:=by
    rcases hx with h | h | h
    ·rw [decide_eq_true h]; simp
    ·rw [decide_eq_true h]; simp
    ·rw [decide_eq_false h]; simp
   simp only [go_sem,reduceIte,rA,rB,rC,rD,one_dec,zero_dec,two_dec,le1_dec,pos_dec,w0,k0,dx]
  ·have x1:decide (a.k < 0)=false:=decide_eq_false (by omega)
   have x2:decide (5 < a.k)=false:=decide_eq_false (by omega)
   have hl2:a.ar.l.length=2:=by omega
   have x3:decide (a.ar.l.length=2)=true:=decide_eq_true hl2
   have hs:vSet vb a=(a.ar.l.all vb && emp a):=by
    unfold vSet
    rw [decide_eq_true (show 0 ≤ a.k by omega),decide_eq_true (show a.k ≤ 5 by omega),x3,all_two hl2]
    cases emp a <;> simp
   rw [eq_emp hr a hW] at e8
   rw [hs]
   generalize a.ar.l.all vb=r7 at e7
   generalize emp a=r8 at e8
   simp only [go_sem,reduceIte,rA,rB,rC,rD,one_dec,zero_dec,two_dec,le1_dec,pos_dec,w0,k0,x1,x2,x3]
   refine WC_p rfl rfl e7 ?_
   cases r7 with
   | false=>simp only [go_sem,reduceIte,rA,rB,rC,rD,one_dec,zero_dec,two_dec,le1_dec,pos_dec,w0,k0,x1,x2,x3]
   | true =>
    simp only [go_sem,reduceIte,rA,rB,rC,rD,one_dec,zero_dec,two_dec,le1_dec,pos_dec,w0,k0,x1,x2,x3]
    refine WC_p rfl rfl e8 ?_
    simp only [go_sem,reduceIte,rA,rB,rC,rD,one_dec,zero_dec,two_dec,le1_dec,pos_dec,w0,k0,x1,x2,x3]
include hE hr hV hB in
theorem query_val (a:QP Q) (ha:wfQP w a):calL EE 17 [.st (QP.row f a)] []=some (.ret (.bool (vQry vq vb a)),[]):=by
 have e1:=allC_ok hf hB a.wi ha.lwi ha.wi
 have e2:=body_val hf hE hr hV hB (noW a) (noW_wf a ha)
 refine fn_ok f17 (by simp) ?_
 unfold c17 vQry
 unfold noW QP.row at *
 generalize a.wi.l.all (vCm vb)=r1 at e1
 generalize vBody vq vb _=r2 at e2
 simp only [go_sem,reduceIte,rA,rB,rC,rD]
 refine WC_p rfl rfl e1 ?_
 cases r1 with
 | false=>simp only [go_sem,reduceIte,rA,rB,rC,rD]
 | true =>
  simp only [go_sem,reduceIte,rA,rB,rC,rD]
  refine WC_p rfl rfl e2 ?_
  simp only [go_sem,reduceIte,rA,rB,rC,rD]
end
end Go.Vm
