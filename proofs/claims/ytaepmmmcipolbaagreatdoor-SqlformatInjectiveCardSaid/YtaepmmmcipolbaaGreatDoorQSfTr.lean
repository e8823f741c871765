/- Chapter 24: the program's texts of queries. -/
import Derived.Test.YtaepmmmcipolbaaGreatDoorQSfTq
set_option linter.unusedVariables false
set_option linter.unusedSimpArgs false
set_option maxRecDepth 100000
namespace Go.Vm
open List renaming length_append→lA,length_cons→lB,length_nil→lC
open Nat renaming reduceEqDiff→rA,reduceAdd→rB,reduceLeDiff→rC,reduceLT→rD
open Go
theorem parts2q {sz:Nat} {dr:Bool} {H:Ob} {z x y:List SV} {T:Nat→PV} {i j:Nat} (hi:T i = .st x) (hj:T j = .st y) (lx:x.length=sz) (ly:y.length=sz):partsX sz dr H (List.replicate 2 z) (vpX T [(0,.t i),(1,.t j)])=some ([x,y],H):=by
 simp only [vpX_cons,vpX_nil,partsX_cons,partsX_nil,show valX T (.t i) = .st x from hi,show valX T (.t j) = .st y from hj,row1_st lx,row1_st ly,bnd_some]
 rfl
theorem op_load {H:Ob} {j:Nat}:loadM false 1 H (.eptr [[.str [],.str [85,78,73,79,78,32,65,76,76],.str [85,78,73,79,78],.str [69,88,67,69,80,84,32,65,76,76],.str [69,88,67,69,80,84],.str [73,78,84,69,82,83,69,67,84]]] 0 j)=if j < 6 then some (.s (.str (opsT.getD j []))) else none:=by
 rw [show ([[.str [],.str [85,78,73,79,78,32,65,76,76],.str [85,78,73,79,78],.str [69,88,67,69,80,84,32,65,76,76],.str [69,88,67,69,80,84],.str [73,78,84,69,82,83,69,67,84]]]:List (List SV))=[opsT.map .str] from rfl,tab_load,List.getElem?_map]
 by_cases h:j < 6
 ·rw [if_pos h,List.getElem?_eq_getElem (show j < opsT.length from h),List.getD_eq_getElem?_getD,List.getElem?_eq_getElem (show j < opsT.length from h)]
  rfl
 ·rw [if_neg h,List.getElem?_eq_none (show opsT.length ≤ j by show 6 ≤ j; omega)]
  rfl
section
variable {Q:Type} [Inhabited Q] {f:Q→List SV} (hf:∀ x,(f x).length=10) {tq:Q→List UInt8} {kd:Q→Int} {c:Q→Nat} {vq vb:Q→Bool} {w:Q→Prop}
 (hk:∀ a,∃ r,f a = .int .i64 (kd a) :: r)
 (hL:∀ a,w a→(vq a=true ∨ vb a=true)→(tq a).length + 100 ≤ 1000 * c a)
 (hT:∀ a,w a→(vq a=true ∨ vb a=true)→c a ≤ 10000→calL EE 62 [.st (f a)] []=some (.ret (.str (tq a)),[]))
omit [Inhabited Q] in
include hk in
theorem kind_at [Inhabited Q] {l:List Q} {i:Nat} (h:i < l.length) (HH:Ob):loadM false 1 HH (.eptr (l.map f) i 0)=some (.i64 (kd (l.getD i default))):=by
 rw [load_eptr,if_pos h]
 obtain ⟨r,hr⟩:=hk (l.getD i default)
 rw [hr]
 rfl
include hf hk hL hT
set_option maxHeartbeats 4000000 in
theorem body_txt (a:QP Q) (ha:wfQP w a) (h0:a.wi.l.length=0) (hv:vBody vq vb (noW a)=true) (hn:cntQP c a ≤ 10000):calL EE 62 [.st (QP.row f a)] []=some (.ret (.str (bodT tq kd a)),[]):=by
 have hv:(if a.k=0 then vSel vq a else vSet vb a)=true:=by
  unfold vBody at hv
  rw [Bool.and_eq_true] at hv
  exact hv.2
 have d0:decide (0 < a.wi.l.length)=false:=decide_eq_false (by omega)
 by_cases hk0:a.k=0
 ·rw [if_pos hk0] at hv
  have e:=select_txt hf hL hT a ha (sel_parts hv) hn
  have dk:decide (a.k=0)=true:=decide_eq_true hk0
  refine fn_ok f62 (by simp) ?_
  unfold c62 bodT
  unfold QP.row at *
  rw [if_pos hk0]
  simp only [go_sem,reduceIte,rA,rB,rC,rD,pos_dec,d0,dk]
  refine WC_p rfl rfl e ?_
  simp only [go_sem,reduceIte,rA,rB,rC,rD]
 ·rw [if_neg hk0] at hv
  unfold vSet at hv
  simp only [Bool.and_eq_true,decide_eq_true_eq] at hv
  obtain ⟨⟨⟨⟨⟨g1,g2⟩,g3⟩,g4⟩,g5⟩,g6⟩:=hv
  have m0:=getD_mem (l:=a.ar.l) (j:=0) default (by omega)
  have m1:=getD_mem (l:=a.ar.l) (j:=1) default (by omega)
  have s0:=sum_mem (g:=c) m0
  have s1:=sum_mem (g:=c) m1
  have hcs:(a.ar.l.map c).sum ≤ 10000:=by unfold cntQP at hn; omega
  have e0:=hT _ (ha.ar _ m0) (.inr g5) (by omega)
  have e1:=hT _ (ha.ar _ m1) (.inr g6) (by omega)
  have k0:=hL _ (ha.ar _ m0) (.inr g5)
  have k1:=hL _ (ha.ar _ m1) (.inr g6)
  have l0:=q_at hf (l:=a.ar.l) (i:=0) (by omega)
  have l1:=q_at hf (l:=a.ar.l) (i:=1) (by omega)
  have l2:=kind_at (f:=f) hk (l:=a.ar.l) (i:=1) (by omega)
  have hin0:(0:Int) ≤ 0 ∧ (0:Int) < (a.ar.l.length:Int):=⟨by decide,by omega⟩
  have hin1:(0:Int) ≤ 1 ∧ (1:Int) < (a.ar.l.length:Int):=⟨by decide,by omega⟩
  have z0:Int.toNat 0=0:=rfl
  have z1:Int.toNat 1=1:=rfl
  have dk:decide (a.k=0)=false:=decide_eq_false hk0
  have i1:(0 ≤ a.k ∧ a.k < ((6:Nat):Int))=True:=eq_true ⟨g1,by omega⟩
  have i2:(a.k.toNat < 6)=True:=eq_true (by omega)
  have ho:=ops_len a.k.toNat
  have k0':(tq (a.ar.l.getD 0 default)).length ≤ 10000000:=by omega
  have k1':(tq (a.ar.l.getD 1 default)).length ≤ 10000000:=by omega
  refine fn_ok f62 (by simp) ?_
  unfold c62 bodT setT rgT par
  unfold QP.row at *
  rw [if_neg hk0]
  clear k0 k1 s0 s1
  generalize tq (a.ar.l.getD 0 default)=A at e0 k0'
  generalize tq (a.ar.l.getD 1 default)=B at e1 k1'
  by_cases hz:kd (a.ar.l.getD 1 default)=0
  ·have dz:decide (kd (a.ar.l.getD 1 default)=0)=true:=decide_eq_true hz
   rw [if_pos hz]
   simp only [go_sem,reduceIte,rA,rB,rC,rD,pos_dec,d0,dk,(q_ags hf).ia,hin1,and_self,z1,l1]
   refine WC_p rfl (by rw [pure_st]; rfl) e1 ?_
   simp only [go_sem,reduceIte,rA,rB,rC,rD,dz,(q_ags hf).ia,hin0,hin1,and_self,z0,z1,l0,l2]
   refine WC_p rfl (by rw [pure_st]; rfl) e0 ?_
   simp only [go_sem,reduceIte,rA,rB,rC,rD,tab_ia,i1,op_load,i2,lA,lB,lC]
   omega
  ·have dz:decide (kd (a.ar.l.getD 1 default)=0)=false:=decide_eq_false hz
   rw [if_neg hz]
   simp only [go_sem,reduceIte,rA,rB,rC,rD,pos_dec,d0,dk,(q_ags hf).ia,hin1,and_self,z1,l1]
   refine WC_p rfl (by rw [pure_st]; rfl) e1 ?_
   simp only [go_sem,reduceIte,rA,rB,rC,rD,dz,(q_ags hf).ia,hin0,hin1,and_self,z0,z1,l0,l2,lA,lB,lC]
   refine ⟨by omega,WC_p rfl (by rw [pure_st]; rfl) e0 ?_⟩
   simp only [go_sem,reduceIte,rA,rB,rC,rD,tab_ia,i1,op_load,i2,lA,lB,lC]
   exact ⟨by omega,rfl⟩
set_option maxHeartbeats 4000000 in
theorem common_txt (x:CmP Q) (hx:wfCm w x) (hv:vCm vb x=true) (hn:cntCm c x ≤ 10000):calL EE 141 [.st (CmP.row f x)] []=some (.ret (.str (cmT tq kd x)),[]):=by
 obtain ⟨nm,co,bs,st⟩:=x
 obtain ⟨h1,h2,h3⟩:=hx
 have h1:co.l.length ≤ mxL:=h1
 have h2:w bs:=h2
 have h3:w st:=h3
 unfold vCm at hv
 simp only [Bool.and_eq_true] at hv
 obtain ⟨⟨⟨⟨g1,g2⟩,g3⟩,g4⟩,g5⟩:=hv
 have g1:nameV nm=true:=g1
 have g3:co.l.all nameV=true:=g3
 have g4:vb bs=true:=g4
 have g5:vb st=true:=g5
 have hn:1 + co.l.length + c bs + c st ≤ 10000:=hn
 have k1:=name_len g1
 have k3:(Lib.join co.l cmW).length ≤ 33 * co.l.length:=by
  have:=join_le (t:=fun s:List UInt8=>s) (c:=fun _=>1) (K:=33) (sep:=cmW) (l:=co.l) fun s hs=>by
   have:=name_len (List.all_eq_true.1 g3 s hs)
   show s.length + 2 ≤ 33 * 1
   omega
  have e:(co.l.map fun _=>1).sum=co.l.length:=by
   generalize co.l=l
   induction l with
   | nil=>rfl
   | cons a r ih=>rw [List.map_cons,List.sum_cons,ih,List.length_cons]; omega
  rw [e,List.map_id'] at this
  exact this
 have ej:=join_cal co cmW (by omega) (by omega)
 have hu:wfQP w (⟨2,.nil,false,.nil,.nil,.nil,.nil,.nil,.nil,.mk [bs,st] true⟩:QP Q):=by
  refine ⟨by show (0:Nat) ≤ mxL; omega,nofun,by show (0:Nat) ≤ mxL; omega,nofun,by show (0:Nat) ≤ mxL; omega,nofun,by show (0:Nat) ≤ mxL; omega,nofun,by show (0:Nat) ≤ mxL; omega,nofun,by show (0:Nat) ≤ mxL; omega,nofun,by show (0:Nat) ≤ mxL; omega,nofun,by show (2:Nat) ≤ mxL; decide,?_,nofun,nofun,nofun,nofun,nofun,nofun,nofun,by show (0:Nat) ≤ RB ∧ (0:Nat) ≤ RB ∧ (0:Nat) ≤ RB ∧ (0:Nat) ≤ RB ∧ (0:Nat) ≤ RB ∧ (0:Nat) ≤ RB; omega⟩
  intro y hy
  have hy:y=bs ∨ y=st:=by simpa using (show y ∈ [bs,st] from hy)
  rcases hy with rfl | rfl
  ·exact h2
  ·exact h3
 have hvu:vBody vq vb (noW (⟨2,.nil,false,.nil,.nil,.nil,.nil,.nil,.nil,.mk [bs,st] true⟩:QP Q))=true:=by
  show (true && (true && true && true && (true && true && true && true && true && true && true) && vb bs && vb st))=true
  rw [g4,g5]
  rfl
 have hcu:cntQP c (⟨2,.nil,false,.nil,.nil,.nil,.nil,.nil,.nil,.mk [bs,st] true⟩:QP Q)=1 + (c bs + c st):=by
  show 1 + (0 + 0 + 0 + 0 + 0 + 0 + 0 + (c bs + (c st + 0)))=_
  omega
 have eu:=body_txt hf hk hL hT _ hu rfl hvu (by rw [hcu]; omega)
 have tu:bodT tq kd (⟨2,.nil,false,.nil,.nil,.nil,.nil,.nil,.nil,.mk [bs,st] true⟩:QP Q)=setT tq kd 2 bs st:=rfl
 have ru:QP.row f (⟨2,.nil,false,.nil,.nil,.nil,.nil,.nil,.nil,.mk [bs,st] true⟩:QP Q)=[.int .i64 2,.nils,.bool false,.nils,.nils,.nils,.nils,.nils,.nils,.slice [f bs,f st] true]:=rfl
 rw [tu,ru] at eu
 have ku:=set_tlen (kd:=kd) (vq:=vq) hL (k:=2) h2 h3 g4 g5
 have ku2:(setT tq kd 2 bs st).length ≤ 100000000:=by omega
 clear ku
 have kj2:(Lib.join co.l cmW).length ≤ 100000000:=by omega
 obtain ⟨t1,t2,t3,t4,t5⟩:=two10 hf bs st
 have lb:=hf bs
 have ls:=hf st
 refine fn_ok f141 (by simp) ?_
 unfold c141
 show WP EE _ (enter [.st (.str nm :: co.sv txRow :: (f bs ++ f st))]) _ _ (Fin _ (.str (nm ++ [32,40] ++ Lib.join co.l cmW ++ asP ++ setT tq kd 2 bs st ++ [41])))
 generalize setT tq kd 2 bs st=U at eu ku2
 generalize Lib.join co.l cmW=J at ej kj2
 unfold asP
 simp only [go_sem,reduceIte,rA,rB,rC,rD,List.drop_succ_cons,List.drop_zero,List.length_cons,t1,t2,t3,t4,t5]
 rw [rowsN,parts2q (sz:=10) (x:=f bs) (y:=f st) rfl rfl lb ls,WX_some]
 simp only [go_sem,reduceIte,rA,rB,rC,rD,List.drop_succ_cons,List.drop_zero,lA,lB,lC,t1,t2,t3,t4,t5]
 refine ⟨by omega,?_⟩
 refine WC_p rfl rfl ej ?_
 simp only [go_sem,reduceIte,rA,rB,rC,rD,lA,lB,lC]
 refine ⟨by omega,?_⟩
 refine WC_p rfl (by rw [pure_st]; rfl) eu ?_
 simp only [go_sem,reduceIte,rA,rB,rC,rD,lA,lB,lC]
 omega
set_option maxHeartbeats 4000000 in
theorem query_txt (a:QP Q) (ha:wfQP w a) (hv:vQry vq vb a=true ∨ vBody vq vb a=true) (hn:cntQP c a ≤ 10000):calL EE 62 [.st (QP.row f a)] []=some (.ret (.str (qryT tq kd a)),[]):=by
 have hnw:vBody vq vb (noW a)=true:=by
  rcases hv with h | h
  ·unfold vQry at h
   rw [Bool.and_eq_true] at h
   exact h.2
  ·unfold vBody at h
   rw [Bool.and_eq_true] at h
   unfold vBody
   rw [Bool.and_eq_true]
   exact ⟨rfl,h.2⟩
 have hcw:=cnt_noW (c:=c) a
 by_cases h0:a.wi.l.length=0
 ·have e:=body_txt hf hk hL hT a ha h0 hnw hn
  unfold qryT
  rw [if_pos h0]
  exact e
 ·have hwi:a.wi.l.all (vCm vb)=true:=by
   rcases hv with h | h
   ·unfold vQry at h
    rw [Bool.and_eq_true] at h
    exact h.1
   ·unfold vBody at h
    rw [Bool.and_eq_true,decide_eq_true_eq] at h
    exact absurd h.1 h0
  have e:=body_txt hf hk hL hT (noW a) (noW_wf a ha) rfl hnw (by omega)
  have kb:=bod_tlen (kd:=kd) hL (noW_wf a ha) hnw
  rw [bod_noW] at e kb
  have lw:=len_sum (c:=cntCm c) (l:=a.wi.l) fun x _=>by unfold cntCm; omega
  have jw:=join_le (t:=cmT tq kd) (c:=cntCm c) (K:=1000) (sep:=cmW) (l:=a.wi.l) fun x hx=>cm_tlen hL (ha.wi x hx) (List.all_eq_true.1 hwi x hx)
  have el:=list_func (cm_ags hf) (z := .str [] :: .nils :: (qzRow ++ qzRow)) rfl f140 (g:=141) a.wi (by omega) cmW rfl (cmT tq kd) (by omega) fun x hx=>by
   have:=sum_mem (g:=cntCm c) hx
   exact common_txt hf hk hL hT x (ha.wi x hx) (List.all_eq_true.1 hwi x hx) (by omega)
  have d0:decide (0 < a.wi.l.length)=true:=decide_eq_true (by omega)
  have kb2:(bodT tq kd a).length ≤ 100000000:=by omega
  have jw2:(Lib.join (a.wi.l.map (cmT tq kd)) cmW).length ≤ 100000000:=by omega
  clear kb jw
  refine fn_ok f62 (by simp) ?_
  unfold c62 qryT wiW
  rw [if_neg h0]
  unfold noW QP.row at *
  generalize bodT tq kd a=U at e kb2
  generalize Lib.join (a.wi.l.map (cmT tq kd)) cmW=J at el jw2
  simp only [go_sem,reduceIte,rA,rB,rC,rD,pos_dec,d0]
  refine WC_p rfl rfl el ?_
  simp only [go_sem,reduceIte,rA,rB,rC,rD,lA,lB,lC]
  refine ⟨by omega,?_⟩
  refine WC_p rfl rfl e ?_
  simp only [go_sem,reduceIte,rA,rB,rC,rD,lA,lB,lC]
  omega
end
def QN.kd:∀ n,QN n→Int
 | 0,_=>0
 | _ + 1,q=>q.k
def QN.txt:∀ n,QN n→List UInt8
 | 0,_=>[]
 | n + 1,q=>qryT (QN.txt n) (QN.kd n) q
theorem qn_kd:∀ (n:Nat) (a:QN n),∃ r,QN.row n a = .int .i64 (QN.kd n a) :: r
 | 0,_=>⟨_,rfl⟩
 | _ + 1,_=>⟨_,rfl⟩
theorem qn_tlen:∀ (n:Nat) (a:QN n),QN.wf n a→((QN.vv n).1 a=true ∨ (QN.vv n).2 a=true)→(QN.txt n a).length + 100 ≤ 1000 * QN.cnt n a
 | 0,_,_,h=>by rcases h with h | h <;> cases h
 | n + 1,a,hw,h=>qry_tlen (qn_tlen n) hw h
theorem txtQ_ok:∀ (n:Nat) (a:QN n),QN.wf n a→((QN.vv n).1 a=true ∨ (QN.vv n).2 a=true)→QN.cnt n a ≤ 10000→calL EE 62 [.st (QN.row n a)] []=some (.ret (.str (QN.txt n a)),[])
 | 0,_,_,h,_=>by rcases h with h | h <;> cases h
 | n + 1,a,hw,h,hn=>query_txt (qn_len n) (qn_kd n) (qn_tlen n) (txtQ_ok n) a hw h hn
end Go.Vm
