/- Chapter 24: the reference's texts of queries. -/
import Derived.Test.YtaepmmmcipolbaaGreatDoorQSfTu
set_option linter.unusedVariables false
set_option linter.unusedSimpArgs false
set_option maxRecDepth 100000
namespace Go.Vm
open List renaming length_append→lA,length_cons→lB,length_nil→lC
open Nat renaming reduceEqDiff→rE,reduceAdd→rF,reduceLeDiff→rG,reduceLT→rH
open Go
theorem parts6 {dr:Bool} {H:Ob} {T:Nat→PV}:partsX 1 dr H (List.replicate 6 [SV.str []]) (vpX T [(0,.c (.s (.str []))),(1,.c (.s (.str [85,78,73,79,78,32,65,76,76]))),(2,.c (.s (.str [85,78,73,79,78]))),(3,.c (.s (.str [69,88,67,69,80,84,32,65,76,76]))),(4,.c (.s (.str [69,88,67,69,80,84]))),(5,.c (.s (.str [73,78,84,69,82,83,69,67,84])))])=some (opsT.map txRow,H):=by
 simp only [vpX_cons,vpX_nil,partsX_cons,partsX_nil,valX,row1_s,bnd_some]
 rfl
theorem opsl_load {j:Nat} {H:Ob} (hj:j < 6):loadM false 1 H (.eptr (opsT.map txRow) j 0)=some (.s (.str (opsT.getD j []))):=tx_load (l:=opsT) hj
section
variable {Q:Type} [Inhabited Q] {f:Q→List SV} (hf:∀ x,(f x).length=10) {tq:Q→List UInt8} {kd:Q→Int} {c:Q→Nat} {vq vb:Q→Bool} {w:Q→Prop}
 (hk:∀ a,∃ r,f a = .int .i64 (kd a) :: r)
 (hL:∀ a,w a→(vq a=true ∨ vb a=true)→(tq a).length + 100 ≤ 1000 * c a)
 (hT:∀ a,w a→(vq a=true ∨ vb a=true)→c a ≤ 10000→calL EE 63 [.st (f a)] []=some (.ret (.str (tq a)),[]))
include hf hk hL hT
set_option maxHeartbeats 4000000 in
theorem refBody_txt (a:QP Q) (ha:wfQP w a) (h0:a.wi.l.length=0) (hv:vBody vq vb (noW a)=true) (hn:cntQP c a ≤ 10000):calL EE 63 [.st (QP.row f a)] []=some (.ret (.str (bodT tq kd a)),[]):=by
 have hv:(if a.k=0 then vSel vq a else vSet vb a)=true:=by
  unfold vBody at hv
  rw [Bool.and_eq_true] at hv
  exact hv.2
 have d0:decide (0 < a.wi.l.length)=false:=decide_eq_false (by omega)
 by_cases hk0:a.k=0
 ·rw [if_pos hk0] at hv
  have e:=refSelect_txt hf hL hT a ha (sel_parts hv) hn
  have dk:decide (a.k=0)=true:=decide_eq_true hk0
  refine fn_ok f63 (by simp) ?_
  unfold c63 bodT
  unfold QP.row at *
  rw [if_pos hk0]
  simp only [go_sem,reduceIte,rE,rF,rG,rH,pos_dec,d0,dk]
  refine WC_p rfl rfl e ?_
  simp only [go_sem,reduceIte,rE,rF,rG,rH]
 ·rw [if_neg hk0] at hv
  unfold vSet at hv
  simp only [Bool.and_eq_true,decide_eq_true_eq] at hv
  obtain ⟨⟨⟨⟨⟨g1,g2⟩,g3⟩,g4⟩,g5⟩,g6⟩:=hv
  have m0:=getD_mem (l:=a.ar.l) (j:=0) default (by omega)
  have m1:=getD_mem (l:=a.ar.l) (j:=1) default (by omega)
  have s0:=sum_mem (g:=c) m0
  have s1:=sum_mem (g:=c) m1
  have hcs:(a.ar.l.map c).sum ≤ 10000:=by unfold cntQP at hn; omega
  have e0:=hT _ (ha.ar _ m0) (.inr g5) (by omega)
  have e1:=hT _ (ha.ar _ m1) (.inr g6) (by omega)
  have k0:=hL _ (ha.ar _ m0) (.inr g5)
  have k1:=hL _ (ha.ar _ m1) (.inr g6)
  have l0:=q_at hf (l:=a.ar.l) (i:=0) (by omega)
  have l1:=q_at hf (l:=a.ar.l) (i:=1) (by omega)
  have l2:=kind_at (f:=f) hk (l:=a.ar.l) (i:=1) (by omega)
  have hin0:(0:Int) ≤ 0 ∧ (0:Int) < (a.ar.l.length:Int):=⟨by decide,by omega⟩
  have hin1:(0:Int) ≤ 1 ∧ (1:Int) < (a.ar.l.length:Int):=⟨by decide,by omega⟩
  have z0:Int.toNat 0=0:=rfl
  have z1:Int.toNat 1=1:=rfl
  have dk:decide (a.k=0)=false:=decide_eq_false hk0
  have i1:(0 ≤ a.k ∧ a.k < ((opsT.length:Nat):Int))=True:=eq_true ⟨g1,by show a.k < 6; omega⟩
  have i2:=fun HH=>opsl_load (H:=HH) (j:=a.k.toNat) (by omega)
  have ho:=ops_len a.k.toNat
  have k0':(tq (a.ar.l.getD 0 default)).length ≤ 10000000:=by omega
  have k1':(tq (a.ar.l.getD 1 default)).length ≤ 10000000:=by omega
  refine fn_ok f63 (by simp) ?_
  unfold c63 bodT setT rgT par
  unfold QP.row at *
  rw [if_neg hk0]
  clear k0 k1 s0 s1
  generalize tq (a.ar.l.getD 0 default)=A at e0 k0'
  generalize tq (a.ar.l.getD 1 default)=B at e1 k1'
  by_cases hz:kd (a.ar.l.getD 1 default)=0
  ·have dz:decide (kd (a.ar.l.getD 1 default)=0)=true:=decide_eq_true hz
   rw [if_pos hz]
   simp only [go_sem,reduceIte,rE,rF,rG,rH,pos_dec,d0,dk,(q_ags hf).ia,hin1,and_self,z1,l1]
   refine WC_p rfl (by rw [pure_st]; rfl) e1 ?_
   simp only [go_sem,reduceIte,rE,rF,rG,rH,dz,(q_ags hf).ia,hin0,hin1,and_self,z0,z1,l0,l2]
   refine WC_p rfl (by rw [pure_st]; rfl) e0 ?_
   simp only [go_sem,reduceIte,rE,rF,rG,rH,lA,lB,lC]
   refine ⟨by omega,?_⟩
   rw [rowsN,parts6,WX_some]
   simp only [go_sem,reduceIte,rE,rF,rG,rH,ia_txl,i1,i2,lA,lB,lC]
   omega
  ·have dz:decide (kd (a.ar.l.getD 1 default)=0)=false:=decide_eq_false hz
   rw [if_neg hz]
   simp only [go_sem,reduceIte,rE,rF,rG,rH,pos_dec,d0,dk,(q_ags hf).ia,hin1,and_self,z1,l1]
   refine WC_p rfl (by rw [pure_st]; rfl) e1 ?_
   simp only [go_sem,reduceIte,rE,rF,rG,rH,dz,(q_ags hf).ia,hin0,hin1,and_self,z0,z1,l0,l2,lA,lB,lC]
   refine ⟨by omega,WC_p rfl (by rw [pure_st]; rfl) e0 ?_⟩
   simp only [go_sem,reduceIte,rE,rF,rG,rH,lA,lB,lC]
   refine ⟨by omega,?_⟩
   rw [rowsN,parts6,WX_some]
   simp only [go_sem,reduceIte,rE,rF,rG,rH,ia_txl,i1,i2,lA,lB,lC]
   exact ⟨by omega,rfl⟩
set_option maxHeartbeats 4000000 in
theorem refQuery_txt (a:QP Q) (ha:wfQP w a) (hv:vQry vq vb a=true ∨ vBody vq vb a=true) (hn:cntQP c a ≤ 10000):calL EE 63 [.st (QP.row f a)] []=some (.ret (.str (qryT tq kd a)),[]):=by
 have hnw:vBody vq vb (noW a)=true:=by
  rcases hv with h | h
  ·unfold vQry at h
   rw [Bool.and_eq_true] at h
   exact h.2
  ·unfold vBody at h
   rw [Bool.and_eq_true] at h
   unfold vBody
   rw [Bool.and_eq_true]
   exact ⟨rfl,h.2⟩
 have hcw:=cnt_noW (c:=c) a
 by_cases h0:a.wi.l.length=0
 ·have e:=refBody_txt hf hk hL hT a ha h0 hnw hn
  unfold qryT
  rw [if_pos h0]
  exact e
 ·have hwi:a.wi.l.all (vCm vb)=true:=by
   rcases hv with h | h
   ·unfold vQry at h
    rw [Bool.and_eq_true] at h
    exact h.1
   ·unfold vBody at h
    rw [Bool.and_eq_true,decide_eq_true_eq] at h
    exact absurd h.1 h0
  have e:=refBody_txt hf hk hL hT (noW a) (noW_wf a ha) rfl hnw (by omega)
  have kb:=bod_tlen (kd:=kd) hL (noW_wf a ha) hnw
  rw [bod_noW] at e kb
  have lw:=len_sum (c:=cntCm c) (l:=a.wi.l) fun x _=>by unfold cntCm; omega
  have jw:=join_le (t:=cmT tq kd) (c:=cntCm c) (K:=1000) (sep:=cmW) (l:=a.wi.l) fun x hx=>cm_tlen hL (ha.wi x hx) (List.all_eq_true.1 hwi x hx)
  have sw:=sum_le (g:=fun x=>(cmT tq kd x).length + cmW.length) (c:=cntCm c) (K:=1000) (l:=a.wi.l) fun x hx=>cm_tlen hL (ha.wi x hx) (List.all_eq_true.1 hwi x hx)
  have d0:decide (0 < a.wi.l.length)=true:=decide_eq_true (by omega)
  have kb2:(bodT tq kd a).length ≤ 100000000:=by omega
  have jw2:(Lib.join (a.wi.l.map (cmT tq kd)) cmW).length ≤ 100000000:=by omega
  refine fn_ok f63 (by simp) ?_
  unfold c63 qryT wiW
  rw [if_neg h0]
  unfold noW QP.row at *
  generalize bodT tq kd a=U at e kb2
  simp only [go_sem,reduceIte,rE,rF,rG,rH,pos_dec,d0]
  refine WP_scan rfl 4 a.wi.l.length (fun _=>True) (fun j T H n=>1 ≤ n ∧ H 0 = .box 38 ((QP.row f a).map .s) ∧ Own 1 9 1 H n (T 3) (((a.wi.l.take j).map (cmT tq kd)).map txRow)) rfl ⟨by decide,rfl,.lit⟩ ?_ ?_
  ·rintro j T' H' n' hlt hf' hi ⟨hn',hH',ho'⟩ _
   have g1:T' 1 = .ptr 0 0:=(hf' 1 rfl).trans rfl
   clear hf'
   have hji:(j:Int) < a.wi.l.length:=by omega
   have hj0:(0:Int) ≤ j:=by omega
   have hwj:=wrap_suc (j:=j) (by omega)
   have hnx:((a.wi.l.take (j + 1)).map (cmT tq kd)).map txRow=((a.wi.l.take j).map (cmT tq kd)).map txRow ++ [txRow (cmT tq kd (a.wi.l.getD j default))]:=by
    rw [take_step default hlt]; simp
   rw [hnx]
   have hle:(((a.wi.l.take j).map (cmT tq kd)).map txRow).length ≤ 1000000:=by rw [List.length_map,List.length_map,List.length_take]; omega
   generalize ((a.wi.l.take j).map (cmT tq kd)).map txRow=rows at ho' hle ⊢
   have hm:=getD_mem (l:=a.wi.l) (j:=j) default hlt
   have hcs:=sum_mem (g:=cntCm c) hm
   have hld:=fun HH=>(cm_ags hf).load (l:=a.wi.l) (j:=j) (H:=HH) hlt
   have hia:=fun (s:Slc (CmP Q)) (HH:Ob) (kk:IntKind) (ii:Int)=>(cm_ags hf).ia (s:=s) (H:=HH) (k:=kk) (i:=ii)
   have hwX:=ha.wi _ hm
   have hvX:=List.all_eq_true.1 hwi _ hm
   have lx:=cm_len hf (a.wi.l.getD j default)
   generalize a.wi.l.getD j default=X at hld hcs hwX hvX lx ⊢
   obtain ⟨nm,co,bs,st⟩:=X
   obtain ⟨w1,w2,w3⟩:=hwX
   have w1:co.l.length ≤ mxL:=w1
   have w2:w bs:=w2
   have w3:w st:=w3
   unfold vCm at hvX
   simp only [Bool.and_eq_true] at hvX
   obtain ⟨⟨⟨⟨q1,q2⟩,q3⟩,q4⟩,q5⟩:=hvX
   have q1:nameV nm=true:=q1
   have q3:co.l.all nameV=true:=q3
   have q4:vb bs=true:=q4
   have q5:vb st=true:=q5
   have hcs:1 + co.l.length + c bs + c st ≤ _:=hcs
   have k1:=name_len q1
   have ks:(co.l.map fun s=>s.length + cmW.length).sum ≤ 33 * (co.l.map fun _=>1).sum:=sum_le fun s hs=>by
    have:=name_len (List.all_eq_true.1 q3 s hs)
    show s.length + 2 ≤ 33 * 1
    omega
   have e1s:(co.l.map fun _=>1).sum=co.l.length:=by
    generalize co.l=l
    induction l with
    | nil=>rfl
    | cons a r ih=>rw [List.map_cons,List.sum_cons,ih,List.length_cons]; omega
   have k3:=jn_sum (sep:=cmW) co.l
   have ej:=refJoin_ok co cmW (by omega) (by omega) (by decide)
   have hu:wfQP w (⟨2,.nil,false,.nil,.nil,.nil,.nil,.nil,.nil,.mk [bs,st] true⟩:QP Q):=by
    refine ⟨by show (0:Nat) ≤ mxL; omega,nofun,by show (0:Nat) ≤ mxL; omega,nofun,by show (0:Nat) ≤ mxL; omega,nofun,by show (0:Nat) ≤ mxL; omega,nofun,by show (0:Nat) ≤ mxL; omega,nofun,by show (0:Nat) ≤ mxL; omega,nofun,by show (0:Nat) ≤ mxL; omega,nofun,by show (2:Nat) ≤ mxL; decide,?_,nofun,nofun,nofun,nofun,nofun,nofun,nofun,by show (0:Nat) ≤ RB ∧ (0:Nat) ≤ RB ∧ (0:Nat) ≤ RB ∧ (0:Nat) ≤ RB ∧ (0:Nat) ≤ RB ∧ (0:Nat) ≤ RB; omega⟩
    intro y hy
    have hy:y=bs ∨ y=st:=by simpa using (show y ∈ [bs,st] from hy)
    rcases hy with rfl | rfl
    ·exact w2
    ·exact w3
   have hvu:vBody vq vb (noW (⟨2,.nil,false,.nil,.nil,.nil,.nil,.nil,.nil,.mk [bs,st] true⟩:QP Q))=true:=by
    show (true && (true && true && true && (true && true && true && true && true && true && true) && vb bs && vb st))=true
    rw [q4,q5]
    rfl
   have hcu:cntQP c (⟨2,.nil,false,.nil,.nil,.nil,.nil,.nil,.nil,.mk [bs,st] true⟩:QP Q)=1 + (c bs + c st):=by
    show 1 + (0 + 0 + 0 + 0 + 0 + 0 + 0 + (c bs + (c st + 0)))=_
    omega
   have eu:=refBody_txt hf hk hL hT _ hu rfl hvu (by rw [hcu]; omega)
   have tu:bodT tq kd (⟨2,.nil,false,.nil,.nil,.nil,.nil,.nil,.nil,.mk [bs,st] true⟩:QP Q)=setT tq kd 2 bs st:=rfl
   have ru:QP.row f (⟨2,.nil,false,.nil,.nil,.nil,.nil,.nil,.nil,.mk [bs,st] true⟩:QP Q)=[.int .i64 2,.nils,.bool false,.nils,.nils,.nils,.nils,.nils,.nils,.slice [f bs,f st] true]:=rfl
   rw [tu,ru] at eu
   have ku:=set_tlen (kd:=kd) (vq:=vq) hL (k:=2) w2 w3 q4 q5
   have ku2:(setT tq kd 2 bs st).length ≤ 100000000:=by omega
   have kj2:(Lib.join co.l cmW).length ≤ 100000000:=by omega
   obtain ⟨t1,t2,t3,t4,t5⟩:=two10 hf bs st
   have lb:=hf bs
   have ls:=hf st
   have hct:cmT tq kd ⟨nm,co,bs,st⟩=nm ++ [32,40] ++ Lib.join co.l cmW ++ asP ++ setT tq kd 2 bs st ++ [41]:=rfl
   rw [hct]
   clear ku k3 ks
   generalize setT tq kd 2 bs st=U2 at eu ku2 ⊢
   generalize Lib.join co.l cmW=J at ej kj2 ⊢
   have hrow:CmP.row f ⟨nm,co,bs,st⟩ = .str nm :: co.sv txRow :: (f bs ++ f st):=rfl
   have hsa:=setCells_all (show (row_cm).length=(CmP.row f ⟨nm,co,bs,st⟩).length by rw [lx]; rfl)
   rw [hrow] at hsa hld lx
   have hsc:setCells [.str nm,co.sv txRow,.int .i64 0,.nils,.bool false,.nils,.nils,.nils,.nils,.nils,.nils,.nils,.int .i64 0,.nils,.bool false,.nils,.nils,.nils,.nils,.nils,.nils,.nils] 2 (f bs ++ f st) = .str nm :: co.sv txRow :: (f bs ++ f st):=hsa
   simp only [go_sem,reduceIte,rE,rF,rG,rH,QP.row,g1,hi,hH',hji,hj0,and_self,decide_true,hia,Int.toNat_natCast,hld]
   refine ⟨t4,?_⟩
   unfold asP
   simp only [go_sem,reduceIte,rE,rF,rG,rH,hsc,List.drop_succ_cons,List.drop_zero,lA,lB,lC,t1,t2,t3,t4,t5]
   refine ⟨by omega,?_⟩
   refine WC_p rfl rfl ej ?_
   simp only [go_sem,reduceIte,rE,rF,rG,rH,hsc,List.drop_succ_cons,List.drop_zero,lA,lB,lC,t1,t2,t3,t4,t5]
   refine ⟨by omega,?_⟩
   rw [rowsN,parts2q (sz:=10) (x:=f bs) (y:=f st) rfl rfl lb ls,WX_some]
   simp only [go_sem,reduceIte,rE,rF,rG,rH]
   refine WC_p rfl (by rw [pure_st]; rfl) eu ?_
   simp only [go_sem,reduceIte,rE,rF,rG,rH,lA,lB,lC]
   refine ⟨by omega,?_⟩
   have ho1:∀ zz,Own 1 9 1 (H'.set (n' + 5 + 5) zz) n' (T' 3) rows:=fun zz=>ho'.kept (Nat.le_refl _) (fun j _ hj=>by unfold Ob.set; rw [if_neg (by omega)])
   refine WX_app (ho1 _) rows_slice (by simp) (by simp; omega) (by omega) (by omega) ?_
   intro p1 H2 ho2 hfr2 hof2
   have hH2:=(hfr2 0 (by omega) (ho'.off (.inl (by omega)))).trans ((show (H'.set (n' + 5 + 5) _) 0=H' 0 by unfold Ob.set; rw [if_neg (by omega)]).trans hH')
   simp only [go_sem,reduceIte,rE,rF,rG,rH,hi,hwj]
   exact ⟨hH2,ho2.kept (by omega) (fun _ _ _=>rfl)⟩
  ·rintro T' H' n' hf' hi ⟨hn',hH',ho'⟩ _
   have g1:T' 1 = .ptr 0 0:=(hf' 1 rfl).trans rfl
   clear hf'
   rw [List.take_length] at ho'
   unfold QP.row at hH'
   simp only [go_sem,reduceIte,rE,rF,rG,rH,g1,hi,hH',Int.lt_irrefl,decide_false]
   have hs0:∀ X:HObj,(H'.set 0 X) 0=X:=fun X=>by unfold Ob.set; rw [if_pos rfl]
   have hoS:∀ X:HObj,Own 1 9 1 (H'.set 0 X) n' (T' 3) ((a.wi.l.map (cmT tq kd)).map txRow):=fun X=>ho'.kept (Nat.le_refl _) (fun j h1 _=>by unfold Ob.set; rw [if_neg (by omega)])
   have hoff:=ho'.off (j:=0) (.inl (by omega))
   generalize hXX:HObj.box _ _=X
   obtain ⟨o3,hof,hz⟩:=(hoS X).frz
   obtain ⟨sl,hl,hsl⟩:=o3.lendF hz
   have hF0:=(hof 0 hoff).trans (hs0 X)
   have ej:=refJoin_ok sl cmW (by rw [hsl,List.length_map]; omega) (by rw [hsl,sums_map]; omega) (by decide)
   rw [hsl] at ej
   generalize Lib.join (a.wi.l.map (cmT tq kd)) cmW=J at ej jw2 ⊢
   refine WC_lend rfl (a:=[.s (sl.sv txRow),.str cmW]) (H1:=frz1 (H'.set 0 X) (T' 3)) ?_ rfl (fun _ => ?_) ej ?_
   ·rw [lendL_cons,hl,bnd_some]
    rfl
   ·rw [List.all_cons,hz]
    rfl
   ·subst hXX
    simp only [go_sem,reduceIte,rE,rF,rG,rH,g1,hF0,lA,lB,lC]
    refine ⟨by omega,?_⟩
    refine WC_p rfl rfl e ?_
    simp only [go_sem,reduceIte,rE,rF,rG,rH,List.all_nil,lA,lB,lC]
    omega
end
theorem refTxtQ_ok:∀ (n:Nat) (a:QN n),QN.wf n a→((QN.vv n).1 a=true ∨ (QN.vv n).2 a=true)→QN.cnt n a ≤ 10000→calL EE 63 [.st (QN.row n a)] []=some (.ret (.str (QN.txt n a)),[])
 | 0,_,_,h,_=>by rcases h with h | h <;> cases h
 | n + 1,a,hw,h,hn=>refQuery_txt (qn_len n) (qn_kd n) (qn_tlen n) (refTxtQ_ok n) a hw h hn
end Go.Vm
