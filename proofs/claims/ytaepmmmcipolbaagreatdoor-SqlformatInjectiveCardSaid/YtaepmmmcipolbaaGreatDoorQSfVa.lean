/- Chapter 24: which queries are valid. -/
import Derived.Test.YtaepmmmcipolbaaGreatDoorQSfMb
import Derived.Test.YtaepmmmcipolbaaGreatDoorQSfAv
set_option linter.unusedVariables false
set_option linter.unusedSimpArgs false
set_option maxRecDepth 100000
namespace Go.Vm
open Nat renaming reduceEqDiff→rA,reduceAdd→rB,reduceLeDiff→rC,reduceLT→rD
open Go
def eT0:Tr := .mk 0 vz [] [] 0 0 none []
def vItm (x:Itm):Bool := !x.star && optV x.alias && (vld x.e || cal x.e)
def vIts (l:List Itm):Bool:=if l.length=1 ∧ (l.getD 0 default).star=true then eqT (l.getD 0 default).e eT0 && decide ((l.getD 0 default).alias=[]) else decide (0 < l.length) && l.all vItm
def vHv (x:Hv):Bool:=cal x.c && decide (5 ≤ x.op) && decide (x.op ≤ 10) && validV x.b
section
variable {Q:Type} [Inhabited Q] (vq vb:Q→Bool)
def vFr (x:FrP Q):Bool:=if x.q.l.length=0 then nameV x.name && optV x.alias else decide (x.name=[]) && nameV x.alias && decide (x.q.l.length=1) && vq (x.q.l.getD 0 default)
def vMb (x:MbP Q):Bool:=x.ex.l.all vld && vq x.q
def vCm (x:CmP Q):Bool:=nameV x.name && decide (0 < x.cols.l.length) && x.cols.l.all nameV && vb x.base && vb x.step
def vSel (q:QP Q):Bool:=decide (q.ar.l.length=0) && vIts q.it.l && decide (0 < q.fr.l.length) && q.fr.l.all (vFr vq) && decide (q.wh.l.length ≤ 1) && q.wh.l.all vld && q.mb.l.all (vMb vq) && q.gb.l.all vld && q.hv.l.all vHv
def emp (q:QP Q):Bool := !q.ds && decide (q.it.l.length=0) && decide (q.fr.l.length=0) && decide (q.wh.l.length=0) && decide (q.mb.l.length=0) && decide (q.gb.l.length=0) && decide (q.hv.l.length=0)
def vSet (q:QP Q):Bool:=decide (0 ≤ q.k) && decide (q.k ≤ 5) && decide (q.ar.l.length=2) && emp q && vb (q.ar.l.getD 0 default) && vb (q.ar.l.getD 1 default)
def vBody (q:QP Q):Bool:=decide (q.wi.l.length=0) && if q.k=0 then vSel vq q else vSet vb q
def noW (q:QP Q):QP Q:={ q with wi := .nil }
def vQry (q:QP Q):Bool:=q.wi.l.all (vCm vb) && vBody vq vb (noW q)
end
theorem alls_ok (x:Slc Tr) (hl:x.l.length ≤ mxL) (hw:∀ t ∈ x.l,wf t):calL EE 46 [.s (x.sv Tr.row),.s (.func 12)] []=some (.ret (.bool (x.l.all vld)),[]) :=
 all_func tr_ags f46 (by decide) rfl f118 rfl f171 rfl f119 (by decide) x hl (g:=12) rfl vld fun j hj=>valid_ok _ _ (Nat.le_refl _) (hw _ (getD_mem (l:=x.l) default hj))
theorem allN_ok (x:Slc (List UInt8)) (hx:x.l.length ≤ mxL):calL EE 94 [.s (x.sv txRow),.s (.func 42)] []=some (.ret (.bool (x.l.all nameV)),[]):=by
 refine fn_ok f94 (by simp) ?_
 unfold c94
 simp only [go_sem,reduceIte,rA,rB,rC,rD]
 have hels:Els false 1 txRow (fun s:List UInt8=>PV.str s):=⟨fun _=>rfl,by decide,fun _=>rfl⟩
 rw [box_s,WX_some]
 refine WC_cf (contains_func hels rfl f144 rfl f199 x hx (.func 145 [] [.ptr 0 0]) (fun y => !nameV y) _ _ (fun j hj H1 n1 hn hH=>⟨(145,[],[.ptr 0 0]),rfl,?_⟩)) ?_
 ·have hH0:H1 0 = .box 72 ([SV.func 42].map .s):=(hH 0 (by omega)).trans rfl
  show CF EE false 145 [.str (x.l.getD j default),.ptr 0 0] H1 n1 _
  refine fn_ref rfl f145 (by simp) ?_
  unfold c145
  simp only [go_sem,reduceIte,rA,rB,rC,rD,hH0]
  refine WV_s (WC_p rfl rfl (name_ok _) ?_)
  simp only [go_sem,reduceIte,rA,rB,rC,rD]
  omega
 ·intro H1 n1 hn hH
  simp only [go_sem,reduceIte,rA,rB,rC,rD,any_not]
theorem vItm_ok (x:Itm) (hw:wf x.e):calL EE 180 [.st x.row] []=some (.ret (.bool (vItm x)),[]):=by
 obtain ⟨s,⟨k,v,tb,nm,op,fn,fl,xs⟩,al⟩:=x
 have e1:=valid_ok _ (.mk k v tb nm op fn fl xs) (Nat.le_refl _) hw
 have e2:=isCall_ok (.mk k v tb nm op fn fl xs) hw
 have e3:=opt_ok al
 refine fn_ok f180 (by simp) ?_
 unfold c180
 show WP EE _ (enter [.st (.bool s :: ((Tr.mk k v tb nm op fn fl xs).row ++ [.str al]))]) _ _ (Fin _ (.bool (!s && optV al && (vld (.mk k v tb nm op fn fl xs) || cal (.mk k v tb nm op fn fl xs)))))
 rw [row_mk] at e1 e2 ⊢
 generalize vld _=r1 at e1
 generalize cal _=r2 at e2
 generalize optV al=r3 at e3
 simp only [go_sem,reduceIte,rA,rB,rC,rD,List.cons_append,List.nil_append]
 cases s with
 | true=>simp only [go_sem,reduceIte,rA,rB,rC,rD]
 | false =>
  simp only [go_sem,reduceIte,rA,rB,rC,rD]
  refine WC_p rfl rfl e3 ?_
  cases r3 with
  | false=>simp only [go_sem,reduceIte,rA,rB,rC,rD]
  | true =>
   simp only [go_sem,reduceIte,rA,rB,rC,rD]
   refine WC_p rfl rfl e1 ?_
   cases r1 with
   | true=>simp only [go_sem,reduceIte,rA,rB,rC,rD]
   | false =>
    simp only [go_sem,reduceIte,rA,rB,rC,rD]
    refine WC_p rfl rfl e2 ?_
    simp only [go_sem,reduceIte,rA,rB,rC,rD]
theorem allI_ok (x:Slc Itm) (hl:x.l.length ≤ mxL) (hw:∀ a ∈ x.l,wf a.e):calL EE 179 [.s (x.sv Itm.row),.s (.func 180)] []=some (.ret (.bool (x.l.all vItm)),[]) :=
 all_func itm_ags f179 (by decide) rfl f215 rfl f236 rfl f216 (by decide) x hl (g:=180) rfl vItm fun j hj=>vItm_ok _ (hw _ (getD_mem (l:=x.l) default hj))
theorem pos_dec (n:Nat):decide ((0:Int) < (n:Int))=decide (0 < n):=by rw [decide_eq_decide]; omega
theorem one_dec (n:Nat):decide ((n:Int)=1)=decide (n=1):=by rw [decide_eq_decide]; omega
theorem zero_dec (n:Nat):decide ((n:Int)=0)=decide (n=0):=by rw [decide_eq_decide]; omega
theorem two_dec (n:Nat):decide ((n:Int)=2)=decide (n=2):=by rw [decide_eq_decide]; omega
theorem le1_dec (n:Nat):decide ((n:Int) ≤ 1)=decide (n ≤ 1):=by rw [decide_eq_decide]; omega
set_option maxHeartbeats 1000000 in
theorem items_ok (x:Slc Itm) (hl:x.l.length ≤ mxL) (hw:∀ a ∈ x.l,wf a.e):calL EE 128 [.s (x.sv Itm.row)] []=some (.ret (.bool (vIts x.l)),[]):=by
 refine fn_ok f128 (by simp) ?_
 unfold c128 vIts
 have hE:¬ (x.l.length=1 ∧ (x.l.getD 0 default).star=true)→∀ T H n Z,WP EE Z T H n (Fin [.t 2] (.bool (decide (0 < x.l.length) && x.l.all vItm)))→WP EE Z T H n (Fin [.t 2] (.bool (if x.l.length=1 ∧ (x.l.getD 0 default).star=true then eqT (x.l.getD 0 default).e eT0 && decide ((x.l.getD 0 default).alias=[]) else decide (0 < x.l.length) && x.l.all vItm))):=by
  intro hn T H n Z h
  rw [if_neg hn]
  exact h
 by_cases h1:x.l.length=1
 ·have d1:decide (x.l.length=1)=true:=decide_eq_true h1
  have hx1:∀ agg sz off HH,loadM agg sz HH (.eptr (x.l.map Itm.row) 0 off)=loadS agg sz (Itm.row (x.l.getD 0 default)) off:=fun agg sz off HH=>by rw [load_eptr,if_pos (by omega)]
  have hin:(0:Int) ≤ 0 ∧ (0:Int) < (x.l.length:Int):=⟨by decide,by omega⟩
  have e0:Int.toNat 0=0:=rfl
  have hwX:=hw _ (getD_mem (l:=x.l) (j:=0) default (by omega))
  by_cases hs:(x.l.getD 0 default).star=true
  ·rw [if_pos ⟨h1,hs⟩]
   generalize x.l.getD 0 default=X at hx1 hwX hs
   obtain ⟨s,⟨k,v,tb,nm,op,fn,fl,xs⟩,al⟩:=X
   have hs:s=true:=hs
   subst hs
   have e:=equal_ok _ (Tr.mk k v tb nm op fn fl xs) eT0 (Nat.le_refl _) hwX
   have ez:eT0.row=[.int .i64 0,.int .i64 0,.int .i64 0,.str [],.str [],.str [],.int .i64 0,.int .i64 0,.nils]:=row_mk
   rw [row_mk,ez] at e
   show WP EE _ _ _ _ (Fin _ (.bool (eqT (.mk k v tb nm op fn fl xs) eT0 && decide (al=[]))))
   generalize eqT (.mk k v tb nm op fn fl xs) eT0=r at e
   simp only [go_sem,reduceIte,rA,rB,rC,rD,one_dec,d1,itm_ags.ia,hin,and_self,e0,hx1,Itm.row,row_mk,List.cons_append,List.nil_append]
   refine WC_p rfl rfl e ?_
   cases r with
   | false=>simp only [go_sem,reduceIte,rA,rB,rC,rD]
   | true=>simp only [go_sem,reduceIte,rA,rB,rC,rD,one_dec,d1,itm_ags.ia,hin,and_self,e0,hx1,Itm.row,row_mk,List.cons_append,List.nil_append]
  ·refine hE (fun h=>hs h.2) _ _ _ _ ?_
   have hs':(x.l.getD 0 default).star=false:=by cases h:(x.l.getD 0 default).star with | false=>rfl | true=>exact absurd h hs
   have hst:∀ HH,loadM false 1 HH (.eptr (x.l.map Itm.row) 0 0)=some (.s (.bool false)):=fun HH=>by
    rw [hx1]
    show some (PV.s (SV.bool (x.l.getD 0 default).star))=_
    rw [hs']
   simp only [go_sem,reduceIte,rA,rB,rC,rD,one_dec,d1,itm_ags.ia,hin,and_self,e0,hst,pos_dec]
   have hp:decide (0 < x.l.length)=true:=decide_eq_true (by omega)
   simp only [go_sem,reduceIte,rA,rB,rC,rD,hp,decide_true]
   refine WC_p rfl rfl (allI_ok x hl hw) ?_
   simp only [go_sem,reduceIte,rA,rB,rC,rD,hp,decide_true]
 ·have d1:decide (x.l.length=1)=false:=decide_eq_false h1
  refine hE (fun h=>h1 h.1) _ _ _ _ ?_
  simp only [go_sem,reduceIte,rA,rB,rC,rD,one_dec,d1,pos_dec]
  cases hp:decide (0 < x.l.length) with
  | false=>simp only [go_sem,reduceIte,rA,rB,rC,rD,hp]
  | true =>
   simp only [go_sem,reduceIte,rA,rB,rC,rD,hp]
   refine WC_p rfl rfl (allI_ok x hl hw) ?_
   simp only [go_sem,reduceIte,rA,rB,rC,rD,hp]
theorem hav_ok (x:Hv) (hw:wf x.c):calL EE 134 [.st x.row] []=some (.ret (.bool (vHv x)),[]):=by
 obtain ⟨⟨k,v,tb,nm,op,fn,fl,xs⟩,hop,b⟩:=x
 have e1:=isCall_ok (.mk k v tb nm op fn fl xs) hw
 have e2:=t15 b
 refine fn_ok f134 (by simp) ?_
 unfold c134
 show WP EE _ (enter [.st ((Tr.mk k v tb nm op fn fl xs).row ++ (.int .i64 hop :: b.row))]) _ _ (Fin _ (.bool (cal (.mk k v tb nm op fn fl xs) && decide (5 ≤ hop) && decide (hop ≤ 10) && validV b)))
 rw [row_mk] at e1 ⊢
 generalize cal _=r1 at e1
 generalize validV b=r2 at e2
 unfold Val.row at *
 simp only [go_sem,reduceIte,rA,rB,rC,rD,List.cons_append,List.nil_append]
 refine WC_p rfl rfl e1 ?_
 cases r1 with
 | false=>simp only [go_sem,reduceIte,rA,rB,rC,rD]
 | true =>
  cases d1:decide (5 ≤ hop) with
  | false=>simp only [go_sem,reduceIte,rA,rB,rC,rD,d1]
  | true =>
   cases d2:decide (hop ≤ 10) with
   | false=>simp only [go_sem,reduceIte,rA,rB,rC,rD,d1,d2]
   | true =>
    simp only [go_sem,reduceIte,rA,rB,rC,rD,d1,d2]
    refine WC_p rfl rfl e2 ?_
    simp only [go_sem,reduceIte,rA,rB,rC,rD,d1,d2]
theorem allH_ok (x:Slc Hv) (hl:x.l.length ≤ mxL) (hw:∀ a ∈ x.l,wf a.c):calL EE 133 [.s (x.sv Hv.row),.s (.func 134)] []=some (.ret (.bool (x.l.all vHv)),[]) :=
 all_func hv_ags f133 (by decide) rfl f185 rfl f219 rfl f186 (by decide) x hl (g:=134) rfl vHv fun j hj=>hav_ok _ (hw _ (getD_mem (l:=x.l) default hj))
end Go.Vm
