/- Chapter 24: the size of a query, by the reference; sizes level by level. -/
import Derived.Test.YtaepmmmcipolbaaGreatDoorQSfSq
set_option linter.unusedVariables false
set_option linter.unusedSimpArgs false
set_option maxRecDepth 100000
namespace Go.Vm
open Go
section
variable {Q:Type} [Inhabited Q] {f:Q→List SV} (hf:∀ x,(f x).length=10) {z c:Q→Nat} {w:Q→Prop}
 (hz:∀ a,z a ≤ c a)
 (hZ:∀ a,w a→c a ≤ 10000→calL EE 22 [.st (f a)] []=some (.ret (.i64 (z a:Nat)),[]))
include hf hz hZ in
set_option maxHeartbeats 8000000 in
theorem refSize_qp (a:QP Q) (ha:wfQP w a) (hn:cntQP c a ≤ 10000) (hc1:∀ a,w a→1 ≤ c a):calL EE 22 [.st (QP.row f a)] []=some (.ret (.i64 (szQP z a:Nat)),[]):=by
 have hsz:=sz_le hz a
 have g1:cntL a.wh.l ≤ 10000:=by unfold cntQP at hn; rw [cntL_sum]; omega
 have g2:cntL a.gb.l ≤ 10000:=by unfold cntQP at hn; rw [cntL_sum]; omega
 have b0:1 + (cntL a.wh.l + cntL a.gb.l + (a.wi.l.map (szCm z)).sum + (a.it.l.map szIt).sum + (a.fr.l.map (szFr z)).sum + (a.mb.l.map (szMb z)).sum + (a.hv.l.map fun x=>cnt x.c).sum + (a.ar.l.map z).sum) ≤ 10000:=Nat.le_trans hsz hn
 have c1:(a.it.l.map fun x:Itm=>cnt x.e).sum ≤ 10000:=by unfold cntQP at hn; omega
 have c2:(a.hv.l.map fun x:Hv=>1 + cnt x.c).sum ≤ 10000:=by unfold cntQP at hn; omega
 have c3:(a.wi.l.map (cntCm c)).sum ≤ 10000:=by unfold cntQP at hn; omega
 have c4:(a.fr.l.map (cntFr c)).sum ≤ 10000:=by unfold cntQP at hn; omega
 have c5:(a.mb.l.map (cntMb c)).sum ≤ 10000:=by unfold cntQP at hn; omega
 have c6:(a.ar.l.map c).sum ≤ 10000:=by unfold cntQP at hn; omega
 have l1:=len_sum' (c:=fun x:Itm=>cnt x.e) (l:=a.it.l) fun x _=>cnt_pos x.e
 have l2:=len_sum' (c:=fun x:Hv=>1 + cnt x.c) (l:=a.hv.l) fun x _=>by omega
 have l3:=len_sum' (c:=cntCm c) (l:=a.wi.l) fun x _=>by unfold cntCm; omega
 have l4:=len_sum' (c:=cntFr c) (l:=a.fr.l) fun x _=>by unfold cntFr; omega
 have l5:=len_sum' (c:=cntMb c) (l:=a.mb.l) fun x hx=>by have:=hc1 _ (ha.mb x hx).2.2; unfold cntMb; omega
 have l6:=len_sum' (c:=c) (l:=a.ar.l) fun x hx=>hc1 _ (ha.ar x hx)
 have e1:=refSizes_ok _ a.wh (Nat.le_refl _) g1
 have e2:=refSizes_ok _ a.gb (Nat.le_refl _) g2
 refine fn_ok f22 (by simp) ?_
 unfold c22
 unfold QP.row at *
 have w1:IntKind.i64.wrap (1 + ((cntL a.wh.l:Nat):Int))=((1 + cntL a.wh.l:Nat):Int):=by rw [wrap_in (by omega) (by omega)]; omega
 have w2:=i64_add (a:=1 + cntL a.wh.l) (b:=cntL a.gb.l) (by omega)
 simp only [go_sem,reduceIte,Nat.reduceEqDiff,Nat.reduceAdd,Nat.reduceLeDiff,Nat.reduceLT]
 refine WC_p rfl rfl e1 ?_
 simp only [go_sem,reduceIte,Nat.reduceEqDiff,Nat.reduceAdd,Nat.reduceLeDiff,Nat.reduceLT,w1]
 refine WC_p rfl rfl e2 ?_
 simp only [go_sem,reduceIte,Nat.reduceEqDiff,Nat.reduceAdd,Nat.reduceLeDiff,Nat.reduceLT,w1,w2]
 refine WP_scan rfl 4 a.wi.l.length (fun _=>True) (fun j T H n=>H 0 = .box 38 ((QP.row f a).map .s) ∧ T 3 = .i64 (1 + cntL a.wh.l + cntL a.gb.l + ((a.wi.l.take j).map (szCm z)).sum:Nat)) rfl ⟨rfl,rfl⟩ ?_ ?_
 ·rintro j T' H' n' hlt hf' hi ⟨hH',h3'⟩ _
  have g1:T' 1 = .ptr 0 0:=(hf' 1 rfl).trans rfl
  clear hf'
  have hji:(j:Int) < a.wi.l.length:=by omega
  have hj0:(0:Int) ≤ j:=by omega
  have hwj:=wrap_suc (j:=j) (by omega)
  have hm:=getD_mem (l:=a.wi.l) (j:=j) default hlt
  have hx1:∀ agg sz off HH,loadM agg sz HH (.eptr (a.wi.l.map (CmP.row f)) j off)=loadS agg sz (CmP.row f (a.wi.l.getD j default)) off:=fun agg sz off HH=>by rw [load_eptr,if_pos hlt]
  have hia:=fun (s:Slc (CmP Q)) (HH:Ob) (kk:IntKind) (ii:Int)=>(cm_ags hf).ia (s:=s) (H:=HH) (k:=kk) (i:=ii)
  have hst:=sum_step (g:=(szCm z)) hlt
  have hp:=sum_pre (g:=(szCm z)) a.wi.l (j + 1)
  rw [hst] at hp
  rw [hst]
  generalize hPP:((a.wi.l.take j).map (szCm z)).sum=PP at h3' hp ⊢
  unfold QP.row at hH'
  have hwX:=ha.wi _ hm
  have hcs:=sum_le1 (g:=cntCm c) hm
  generalize a.wi.l.getD j default=X at hx1 hwX hp hcs ⊢
  obtain ⟨nm,co,bs,st⟩:=X
  have hp:PP + (z bs + z st) ≤ _:=hp
  have hcs:1 + co.l.length + c bs + c st ≤ _:=hcs
  have w2':w bs:=hwX.2.1
  have w3':w st:=hwX.2.2
  have e3:=hZ bs w2' (by omega)
  have e4:=hZ st w3' (by omega)
  obtain ⟨t1,t2,t3,t4,t5⟩:=two10 hf bs st
  simp only [go_sem,reduceIte,Nat.reduceEqDiff,Nat.reduceAdd,Nat.reduceLeDiff,Nat.reduceLT,QP.row,g1,hi,h3',hH',hji,hj0,and_self,decide_true,hia,Int.toNat_natCast,hx1,CmP.row,List.drop_succ_cons,List.drop_zero,List.length_cons,t1,t2,t3,t4,t5]
  refine WC_p rfl (by rw [pure_st]; rfl) e3 ?_
  simp only [go_sem,reduceIte,Nat.reduceEqDiff,Nat.reduceAdd,Nat.reduceLeDiff,Nat.reduceLT,QP.row,g1,hi,h3',hH',hji,hj0,and_self,decide_true,hia,Int.toNat_natCast,hx1,CmP.row,List.drop_succ_cons,List.drop_zero,List.length_cons,t1,t2,t3,t4,t5]
  refine WC_p rfl (by rw [pure_st]; rfl) e4 ?_
  have w4:=i64_add (a:=z bs) (b:=z st) (by omega)
  have w5:=i64_add (a:=1 + cntL a.wh.l + cntL a.gb.l + PP) (b:=z bs + z st) (by omega)
  simp only [go_sem,reduceIte,Nat.reduceEqDiff,Nat.reduceAdd,Nat.reduceLeDiff,Nat.reduceLT,h3',w4,w5,hi,hwj,hH']
  show PV.i64 _=PV.i64 (_ + (PP + (z bs + z st)):Nat)
  exact congrArg (fun k:Nat=>PV.i64 (k:Int)) (by omega)
 ·rintro T' H' n' hf' hi ⟨hH',h3'⟩ _
  have g1:T' 1 = .ptr 0 0:=(hf' 1 rfl).trans rfl
  clear hf'
  rw [List.take_length] at h3'
  unfold QP.row at hH'
  simp only [go_sem,reduceIte,Nat.reduceEqDiff,Nat.reduceAdd,Nat.reduceLeDiff,Nat.reduceLT,QP.row,g1,h3',hi,hH',Int.lt_irrefl,decide_false]
  refine WP_scan rfl 5 a.it.l.length (fun _=>True) (fun j T H n=>H 0 = .box 38 ((QP.row f a).map .s) ∧ T 3 = .i64 (1 + cntL a.wh.l + cntL a.gb.l + (a.wi.l.map (szCm z)).sum + ((a.it.l.take j).map szIt).sum:Nat)) rfl ⟨hH',h3'⟩ ?_ ?_
  ·rintro j T' H' n' hlt hf' hi ⟨hH',h3'⟩ _
   have g1:T' 1 = .ptr 0 0:=(hf' 1 rfl).trans g1
   clear hf'
   have hji:(j:Int) < a.it.l.length:=by omega
   have hj0:(0:Int) ≤ j:=by omega
   have hwj:=wrap_suc (j:=j) (by omega)
   have hm:=getD_mem (l:=a.it.l) (j:=j) default hlt
   have hx1:∀ agg sz off HH,loadM agg sz HH (.eptr (a.it.l.map (Itm.row)) j off)=loadS agg sz (Itm.row (a.it.l.getD j default)) off:=fun agg sz off HH=>by rw [load_eptr,if_pos hlt]
   have hia:=fun (s:Slc Itm) (HH:Ob) (kk:IntKind) (ii:Int)=>(itm_ags).ia (s:=s) (H:=HH) (k:=kk) (i:=ii)
   have hst:=sum_step (g:=szIt) hlt
   have hp:=sum_pre (g:=szIt) a.it.l (j + 1)
   rw [hst] at hp
   rw [hst]
   generalize hPP:((a.it.l.take j).map szIt).sum=PP at h3' hp ⊢
   unfold QP.row at hH'
   generalize a.it.l.getD j default=X at hx1 hp ⊢
   obtain ⟨st,⟨k,v,tb,nm,op,fn,fl,xs⟩,al⟩:=X
   have hr:Itm.row ⟨st,.mk k v tb nm op fn fl xs,al⟩=[.bool st,.int .i64 k,.int .i64 v.kind,.int .i64 v.n,.str v.text,.str tb,.str nm,.int .i64 op,.int .i64 fn,(mkS fl xs).sv Tr.row,.str al]:=by unfold Itm.row; rw [row_mk]; rfl
   rw [hr] at hx1
   cases st with
   | true =>
    have hs0:szIt ⟨true,.mk k v tb nm op fn fl xs,al⟩=0:=rfl
    simp only [go_sem,reduceIte,Nat.reduceEqDiff,Nat.reduceAdd,Nat.reduceLeDiff,Nat.reduceLT,QP.row,g1,hi,h3',hH',hji,hj0,and_self,decide_true,hia,Int.toNat_natCast,hx1,hwj,Bool.not_true,hs0,Nat.add_zero]
   | false =>
    have hs0:szIt ⟨false,.mk k v tb nm op fn fl xs,al⟩=cnt (.mk k v tb nm op fn fl xs):=rfl
    rw [hs0] at hp ⊢
    have e3:=refSizes_ok _ (.mk [.mk k v tb nm op fn fl xs] true) (Nat.le_refl _) (by show cntL [_] ≤ _; rw [cntL,cntL]; omega)
    have e3':cntL (Slc.mk [Tr.mk k v tb nm op fn fl xs] true).l=cnt (.mk k v tb nm op fn fl xs):=by show cntL [_]=_; rw [cntL,cntL]; omega
    rw [e3'] at e3
    have e3r:(Slc.mk [Tr.mk k v tb nm op fn fl xs] true).sv Tr.row = .slice [[.int .i64 k,.int .i64 v.kind,.int .i64 v.n,.str v.text,.str tb,.str nm,.int .i64 op,.int .i64 fn,(mkS fl xs).sv Tr.row]] true:=by show SV.slice [(Tr.mk k v tb nm op fn fl xs).row] true=_; rw [row_mk]
    rw [e3r] at e3
    generalize cnt (.mk k v tb nm op fn fl xs)=C at e3 hp ⊢
    simp only [go_sem,reduceIte,Nat.reduceEqDiff,Nat.reduceAdd,Nat.reduceLeDiff,Nat.reduceLT,QP.row,g1,hi,h3',hH',hji,hj0,and_self,decide_true,hia,Int.toNat_natCast,hx1,Bool.not_false]
    rw [row1_st (by rfl),WX_some]
    simp only [go_sem,reduceIte,Nat.reduceEqDiff,Nat.reduceAdd,Nat.reduceLeDiff,Nat.reduceLT]
    refine WC_p rfl rfl e3 ?_
    have w4:=i64_add (a:=1 + cntL a.wh.l + cntL a.gb.l + (a.wi.l.map (szCm z)).sum + PP) (b:=C) (by omega)
    simp only [go_sem,reduceIte,Nat.reduceEqDiff,Nat.reduceAdd,Nat.reduceLeDiff,Nat.reduceLT,h3',w4,hi,hwj,hH']
    exact congrArg (fun k:Nat=>PV.i64 (k:Int)) (by omega)
  ·rintro T' H' n' hf' hi ⟨hH',h3'⟩ _
   have g1:T' 1 = .ptr 0 0:=(hf' 1 rfl).trans g1
   clear hf'
   rw [List.take_length] at h3'
   unfold QP.row at hH'
   simp only [go_sem,reduceIte,Nat.reduceEqDiff,Nat.reduceAdd,Nat.reduceLeDiff,Nat.reduceLT,QP.row,g1,h3',hi,hH',Int.lt_irrefl,decide_false]
   refine WP_scan rfl 6 a.fr.l.length (fun _=>True) (fun j T H n=>H 0 = .box 38 ((QP.row f a).map .s) ∧ T 3 = .i64 (1 + cntL a.wh.l + cntL a.gb.l + (a.wi.l.map (szCm z)).sum + (a.it.l.map szIt).sum + ((a.fr.l.take j).map (szFr z)).sum:Nat)) rfl ⟨hH',h3'⟩ ?_ ?_
   ·rintro j T' H' n' hlt hf' hi ⟨hH',h3'⟩ _
    have g1:T' 1 = .ptr 0 0:=(hf' 1 rfl).trans g1
    clear hf'
    have hji:(j:Int) < a.fr.l.length:=by omega
    have hj0:(0:Int) ≤ j:=by omega
    have hwj:=wrap_suc (j:=j) (by omega)
    have hm:=getD_mem (l:=a.fr.l) (j:=j) default hlt
    have hx1:∀ agg sz off HH,loadM agg sz HH (.eptr (a.fr.l.map (FrP.row f)) j off)=loadS agg sz (FrP.row f (a.fr.l.getD j default)) off:=fun agg sz off HH=>by rw [load_eptr,if_pos hlt]
    have hia:=fun (s:Slc (FrP Q)) (HH:Ob) (kk:IntKind) (ii:Int)=>(fr_ags (f:=f)).ia (s:=s) (H:=HH) (k:=kk) (i:=ii)
    have hst:=sum_step (g:=(szFr z)) hlt
    have hp:=sum_pre (g:=(szFr z)) a.fr.l (j + 1)
    rw [hst] at hp
    rw [hst]
    generalize hPP:((a.fr.l.take j).map (szFr z)).sum=PP at h3' hp ⊢
    unfold QP.row at hH'
    have hwX:=ha.fr _ hm
    have hcs:=sum_le1 (g:=cntFr c) hm
    generalize a.fr.l.getD j default=X at hx1 hwX hp hcs ⊢
    obtain ⟨nm,al,qs⟩:=X
    have hp:PP + (qs.l.map z).sum ≤ _:=hp
    have hcs:1 + (qs.l.map c).sum ≤ _:=hcs
    have hwq:∀ y ∈ qs.l,w y:=hwX.2
    have lq:=len_sum' (c:=c) (l:=qs.l) fun y hy=>hc1 y (hwq y hy)
    simp only [go_sem,reduceIte,Nat.reduceEqDiff,Nat.reduceAdd,Nat.reduceLeDiff,Nat.reduceLT,QP.row,g1,hi,h3',hH',hji,hj0,and_self,decide_true,hia,Int.toNat_natCast,hx1,FrP.row]
    refine WP_scan rfl 7 qs.l.length (fun _=>True) (fun i T H n=>H 0 = .box 38 ((QP.row f a).map .s) ∧ T 3 = .i64 (1 + cntL a.wh.l + cntL a.gb.l + (a.wi.l.map (szCm z)).sum + (a.it.l.map szIt).sum + PP + ((qs.l.take i).map z).sum:Nat)) rfl ⟨hH',h3'⟩ ?_ ?_
    ·rintro i T2 H2 n2 ilt if' ii ⟨iH,i3⟩ _
     have u1:T2 1 = .ptr 0 0:=(if' 1 rfl).trans g1
     have u6:T2 6 = .i64 j:=(if' 6 rfl).trans hi
     clear if'
     have iji:(i:Int) < qs.l.length:=by omega
     have ij0:(0:Int) ≤ i:=by omega
     have iwj:=wrap_suc (j:=i) (by omega)
     have im:=getD_mem (l:=qs.l) (j:=i) default ilt
     have ild:=fun HH=>(q_ags hf).load (l:=qs.l) (j:=i) (H:=HH) ilt
     have ist:=sum_step (g:=z) ilt
     have ip:=sum_pre (g:=z) qs.l (i + 1)
     rw [ist] at ip
     rw [ist]
     have ics:=sum_le1 (g:=c) im
     have e3:=hZ _ (hwq _ im) (by omega)
     generalize qs.l.getD i default=Y at ild ip e3 ⊢
     unfold QP.row at iH
     simp only [go_sem,reduceIte,Nat.reduceEqDiff,Nat.reduceAdd,Nat.reduceLeDiff,Nat.reduceLT,QP.row,u1,u6,ii,i3,iH,iji,ij0,hji,hj0,and_self,decide_true,hia,Int.toNat_natCast,hx1,FrP.row,(q_ags hf).ia,ild]
     refine WC_p rfl (by rw [pure_st]; rfl) e3 ?_
     have w4:=i64_add (a:=1 + cntL a.wh.l + cntL a.gb.l + (a.wi.l.map (szCm z)).sum + (a.it.l.map szIt).sum + PP + ((qs.l.take i).map z).sum) (b:=z Y) (by omega)
     simp only [go_sem,reduceIte,Nat.reduceEqDiff,Nat.reduceAdd,Nat.reduceLeDiff,Nat.reduceLT,i3,w4,ii,iwj,iH]
     exact congrArg (fun k:Nat=>PV.i64 (k:Int)) (by omega)
    ·rintro T2 H2 n2 if' ii ⟨iH,i3⟩ _
     have u1:T2 1 = .ptr 0 0:=(if' 1 rfl).trans g1
     have u6:T2 6 = .i64 j:=(if' 6 rfl).trans hi
     clear if'
     rw [List.take_length] at i3
     unfold QP.row at iH
     simp only [go_sem,reduceIte,Nat.reduceEqDiff,Nat.reduceAdd,Nat.reduceLeDiff,Nat.reduceLT,QP.row,u1,u6,ii,i3,iH,hji,hj0,hwj,and_self,decide_true,hia,Int.toNat_natCast,hx1,FrP.row,Int.lt_irrefl,decide_false]
     show PV.i64 _=PV.i64 (1 + cntL a.wh.l + cntL a.gb.l + (a.wi.l.map (szCm z)).sum + (a.it.l.map szIt).sum + (PP + (qs.l.map z).sum):Nat)
     exact congrArg (fun k:Nat=>PV.i64 (k:Int)) (by omega)
   ·rintro T' H' n' hf' hi ⟨hH',h3'⟩ _
    have g1:T' 1 = .ptr 0 0:=(hf' 1 rfl).trans g1
    clear hf'
    rw [List.take_length] at h3'
    unfold QP.row at hH'
    simp only [go_sem,reduceIte,Nat.reduceEqDiff,Nat.reduceAdd,Nat.reduceLeDiff,Nat.reduceLT,QP.row,g1,h3',hi,hH',Int.lt_irrefl,decide_false]
    refine WP_scan rfl 8 a.mb.l.length (fun _=>True) (fun j T H n=>H 0 = .box 38 ((QP.row f a).map .s) ∧ T 3 = .i64 (1 + cntL a.wh.l + cntL a.gb.l + (a.wi.l.map (szCm z)).sum + (a.it.l.map szIt).sum + (a.fr.l.map (szFr z)).sum + ((a.mb.l.take j).map (szMb z)).sum:Nat)) rfl ⟨hH',h3'⟩ ?_ ?_
    ·rintro j T' H' n' hlt hf' hi ⟨hH',h3'⟩ _
     have g1:T' 1 = .ptr 0 0:=(hf' 1 rfl).trans g1
     clear hf'
     have hji:(j:Int) < a.mb.l.length:=by omega
     have hj0:(0:Int) ≤ j:=by omega
     have hwj:=wrap_suc (j:=j) (by omega)
     have hm:=getD_mem (l:=a.mb.l) (j:=j) default hlt
     have hx1:∀ agg sz off HH,loadM agg sz HH (.eptr (a.mb.l.map (MbP.row f)) j off)=loadS agg sz (MbP.row f (a.mb.l.getD j default)) off:=fun agg sz off HH=>by rw [load_eptr,if_pos hlt]
     have hia:=fun (s:Slc (MbP Q)) (HH:Ob) (kk:IntKind) (ii:Int)=>(mb_ags hf).ia (s:=s) (H:=HH) (k:=kk) (i:=ii)
     have hst:=sum_step (g:=(szMb z)) hlt
     have hp:=sum_pre (g:=(szMb z)) a.mb.l (j + 1)
     rw [hst] at hp
     rw [hst]
     generalize hPP:((a.mb.l.take j).map (szMb z)).sum=PP at h3' hp ⊢
     unfold QP.row at hH'
     have hwX:=ha.mb _ hm
     have hcs:=sum_le1 (g:=cntMb c) hm
     generalize a.mb.l.getD j default=X at hx1 hwX hp hcs ⊢
     obtain ⟨no,ex,mq⟩:=X
     have hp:PP + (cntL ex.l + z mq) ≤ _:=hp
     have hcs:(ex.l.map cnt).sum + c mq ≤ _:=hcs
     have e3:=refSizes_ok _ ex (Nat.le_refl _) (by omega)
     have e4:=hZ mq hwX.2.2 (by omega)
     have t1:=hf mq
     have t3:List.take 10 (f mq)=f mq:=List.take_of_length_le (by omega)
     simp only [go_sem,reduceIte,Nat.reduceEqDiff,Nat.reduceAdd,Nat.reduceLeDiff,Nat.reduceLT,QP.row,g1,hi,h3',hH',hji,hj0,and_self,decide_true,hia,Int.toNat_natCast,hx1,MbP.row,List.drop_succ_cons,List.drop_zero,List.length_cons,t1,t3]
     refine WC_p rfl rfl e3 ?_
     simp only [go_sem,reduceIte,Nat.reduceEqDiff,Nat.reduceAdd,Nat.reduceLeDiff,Nat.reduceLT,QP.row,g1,hi,h3',hH',hji,hj0,and_self,decide_true,hia,Int.toNat_natCast,hx1,MbP.row,List.drop_succ_cons,List.drop_zero,List.length_cons,t1,t3]
     refine WC_p rfl (by rw [pure_st]; rfl) e4 ?_
     have w4:=i64_add (a:=cntL ex.l) (b:=z mq) (by omega)
     have w5:=i64_add (a:=1 + cntL a.wh.l + cntL a.gb.l + (a.wi.l.map (szCm z)).sum + (a.it.l.map szIt).sum + (a.fr.l.map (szFr z)).sum + PP) (b:=cntL ex.l + z mq) (by omega)
     simp only [go_sem,reduceIte,Nat.reduceEqDiff,Nat.reduceAdd,Nat.reduceLeDiff,Nat.reduceLT,h3',w4,w5,hi,hwj,hH']
     show PV.i64 _=PV.i64 (_ + (PP + (cntL ex.l + z mq)):Nat)
     exact congrArg (fun k:Nat=>PV.i64 (k:Int)) (by omega)
    ·rintro T' H' n' hf' hi ⟨hH',h3'⟩ _
     have g1:T' 1 = .ptr 0 0:=(hf' 1 rfl).trans g1
     clear hf'
     rw [List.take_length] at h3'
     unfold QP.row at hH'
     simp only [go_sem,reduceIte,Nat.reduceEqDiff,Nat.reduceAdd,Nat.reduceLeDiff,Nat.reduceLT,QP.row,g1,h3',hi,hH',Int.lt_irrefl,decide_false]
     refine WP_scan rfl 9 a.hv.l.length (fun _=>True) (fun j T H n=>H 0 = .box 38 ((QP.row f a).map .s) ∧ T 3 = .i64 (1 + cntL a.wh.l + cntL a.gb.l + (a.wi.l.map (szCm z)).sum + (a.it.l.map szIt).sum + (a.fr.l.map (szFr z)).sum + (a.mb.l.map (szMb z)).sum + ((a.hv.l.take j).map (fun x:Hv=>cnt x.c)).sum:Nat)) rfl ⟨hH',h3'⟩ ?_ ?_
     ·rintro j T' H' n' hlt hf' hi ⟨hH',h3'⟩ _
      have g1:T' 1 = .ptr 0 0:=(hf' 1 rfl).trans g1
      clear hf'
      have hji:(j:Int) < a.hv.l.length:=by omega
      have hj0:(0:Int) ≤ j:=by omega
      have hwj:=wrap_suc (j:=j) (by omega)
      have hm:=getD_mem (l:=a.hv.l) (j:=j) default hlt
      have hx1:∀ agg sz off HH,loadM agg sz HH (.eptr (a.hv.l.map (Hv.row)) j off)=loadS agg sz (Hv.row (a.hv.l.getD j default)) off:=fun agg sz off HH=>by rw [load_eptr,if_pos hlt]
      have hia:=fun (s:Slc Hv) (HH:Ob) (kk:IntKind) (ii:Int)=>(hv_ags).ia (s:=s) (H:=HH) (k:=kk) (i:=ii)
      have hst:=sum_step (g:=(fun x:Hv=>cnt x.c)) hlt
      have hp:=sum_pre (g:=(fun x:Hv=>cnt x.c)) a.hv.l (j + 1)
      rw [hst] at hp
      rw [hst]
      generalize hPP:((a.hv.l.take j).map (fun x:Hv=>cnt x.c)).sum=PP at h3' hp ⊢
      unfold QP.row at hH'
      generalize a.hv.l.getD j default=X at hx1 hp ⊢
      obtain ⟨⟨k,v,tb,nm,op,fn,fl,xs⟩,hop,b⟩:=X
      have hr:Hv.row ⟨.mk k v tb nm op fn fl xs,hop,b⟩=[.int .i64 k,.int .i64 v.kind,.int .i64 v.n,.str v.text,.str tb,.str nm,.int .i64 op,.int .i64 fn,(mkS fl xs).sv Tr.row,.int .i64 hop,.int .i64 b.kind,.int .i64 b.n,.str b.text]:=by unfold Hv.row; rw [row_mk]; rfl
      rw [hr] at hx1
      have hp:PP + cnt (.mk k v tb nm op fn fl xs) ≤ _:=hp
      show WP EE _ _ _ _ (contQ _ _ _ (fun T H n=>H 0 = .box 38 ((QP.row f a).map .s) ∧ T 3 = .i64 (1 + cntL a.wh.l + cntL a.gb.l + (a.wi.l.map (szCm z)).sum + (a.it.l.map szIt).sum + (a.fr.l.map (szFr z)).sum + (a.mb.l.map (szMb z)).sum + (PP + cnt (.mk k v tb nm op fn fl xs)):Nat)) _)
      have e3:=refSizes_ok _ (.mk [.mk k v tb nm op fn fl xs] true) (Nat.le_refl _) (by show cntL [_] ≤ _; rw [cntL,cntL]; omega)
      have e3':cntL (Slc.mk [Tr.mk k v tb nm op fn fl xs] true).l=cnt (.mk k v tb nm op fn fl xs):=by show cntL [_]=_; rw [cntL,cntL]; omega
      rw [e3'] at e3
      have e3r:(Slc.mk [Tr.mk k v tb nm op fn fl xs] true).sv Tr.row = .slice [[.int .i64 k,.int .i64 v.kind,.int .i64 v.n,.str v.text,.str tb,.str nm,.int .i64 op,.int .i64 fn,(mkS fl xs).sv Tr.row]] true:=by show SV.slice [(Tr.mk k v tb nm op fn fl xs).row] true=_; rw [row_mk]
      rw [e3r] at e3
      generalize cnt (.mk k v tb nm op fn fl xs)=C at e3 hp ⊢
      simp only [go_sem,reduceIte,Nat.reduceEqDiff,Nat.reduceAdd,Nat.reduceLeDiff,Nat.reduceLT,QP.row,g1,hi,h3',hH',hji,hj0,and_self,decide_true,hia,Int.toNat_natCast,hx1]
      rw [row1_st (by rfl),WX_some]
      simp only [go_sem,reduceIte,Nat.reduceEqDiff,Nat.reduceAdd,Nat.reduceLeDiff,Nat.reduceLT]
      refine WC_p rfl rfl e3 ?_
      have w4:=i64_add (a:=1 + cntL a.wh.l + cntL a.gb.l + (a.wi.l.map (szCm z)).sum + (a.it.l.map szIt).sum + (a.fr.l.map (szFr z)).sum + (a.mb.l.map (szMb z)).sum + PP) (b:=C) (by omega)
      simp only [go_sem,reduceIte,Nat.reduceEqDiff,Nat.reduceAdd,Nat.reduceLeDiff,Nat.reduceLT,h3',w4,hi,hwj,hH']
      exact congrArg (fun k:Nat=>PV.i64 (k:Int)) (by omega)
     ·rintro T' H' n' hf' hi ⟨hH',h3'⟩ _
      have g1:T' 1 = .ptr 0 0:=(hf' 1 rfl).trans g1
      clear hf'
      rw [List.take_length] at h3'
      unfold QP.row at hH'
      simp only [go_sem,reduceIte,Nat.reduceEqDiff,Nat.reduceAdd,Nat.reduceLeDiff,Nat.reduceLT,QP.row,g1,h3',hi,hH',Int.lt_irrefl,decide_false]
      refine WP_scan rfl 10 a.ar.l.length (fun _=>True) (fun j T H n=>H 0 = .box 38 ((QP.row f a).map .s) ∧ T 3 = .i64 (1 + cntL a.wh.l + cntL a.gb.l + (a.wi.l.map (szCm z)).sum + (a.it.l.map szIt).sum + (a.fr.l.map (szFr z)).sum + (a.mb.l.map (szMb z)).sum + (a.hv.l.map (fun x:Hv=>cnt x.c)).sum + ((a.ar.l.take j).map z).sum:Nat)) rfl ⟨hH',h3'⟩ ?_ ?_
      ·rintro j T' H' n' hlt hf' hi ⟨hH',h3'⟩ _
       have g1:T' 1 = .ptr 0 0:=(hf' 1 rfl).trans g1
       clear hf'
       have hji:(j:Int) < a.ar.l.length:=by omega
       have hj0:(0:Int) ≤ j:=by omega
       have hwj:=wrap_suc (j:=j) (by omega)
       have hm:=getD_mem (l:=a.ar.l) (j:=j) default hlt
       have hx1:∀ agg sz off HH,loadM agg sz HH (.eptr (a.ar.l.map (f)) j off)=loadS agg sz (f (a.ar.l.getD j default)) off:=fun agg sz off HH=>by rw [load_eptr,if_pos hlt]
       have hia:=fun (s:Slc Q) (HH:Ob) (kk:IntKind) (ii:Int)=>(q_ags hf).ia (s:=s) (H:=HH) (k:=kk) (i:=ii)
       have hst:=sum_step (g:=z) hlt
       have hp:=sum_pre (g:=z) a.ar.l (j + 1)
       rw [hst] at hp
       rw [hst]
       generalize hPP:((a.ar.l.take j).map z).sum=PP at h3' hp ⊢
       unfold QP.row at hH'
       have hcs:=sum_le1 (g:=c) hm
       have e3:=hZ _ (ha.ar _ hm) (by omega)
       have hld:=fun HH=>(q_ags hf).load (l:=a.ar.l) (j:=j) (H:=HH) hlt
       generalize a.ar.l.getD j default=X at hld hp e3 ⊢
       simp only [go_sem,reduceIte,Nat.reduceEqDiff,Nat.reduceAdd,Nat.reduceLeDiff,Nat.reduceLT,QP.row,g1,hi,h3',hH',hji,hj0,and_self,decide_true,hia,Int.toNat_natCast,hld]
       refine WC_p rfl (by rw [pure_st]; rfl) e3 ?_
       have w4:=i64_add (a:=1 + cntL a.wh.l + cntL a.gb.l + (a.wi.l.map (szCm z)).sum + (a.it.l.map szIt).sum + (a.fr.l.map (szFr z)).sum + (a.mb.l.map (szMb z)).sum + (a.hv.l.map (fun x:Hv=>cnt x.c)).sum + PP) (b:=z X) (by omega)
       simp only [go_sem,reduceIte,Nat.reduceEqDiff,Nat.reduceAdd,Nat.reduceLeDiff,Nat.reduceLT,h3',w4,hi,hwj,hH']
       exact congrArg (fun k:Nat=>PV.i64 (k:Int)) (by omega)
      ·rintro T' H' n' hf' hi ⟨hH',h3'⟩ _
       have g1:T' 1 = .ptr 0 0:=(hf' 1 rfl).trans g1
       clear hf'
       rw [List.take_length] at h3'
       unfold QP.row at hH'
       simp only [go_sem,reduceIte,Nat.reduceEqDiff,Nat.reduceAdd,Nat.reduceLeDiff,Nat.reduceLT,QP.row,g1,h3',hi,hH',Int.lt_irrefl,decide_false]
       exact congrArg (fun k:Nat=>some (PV.i64 (k:Int))) (by unfold szQP; omega)
end
def QN.sz:∀ n,QN n→Nat
 | 0,_=>1
 | n + 1,q=>szQP (QN.sz n) q
theorem qn_sz:∀ (n:Nat) (a:QN n),QN.sz n a ≤ QN.cnt n a
 | 0,_=>Nat.le_refl _
 | n + 1,a=>sz_le (qn_sz n) a
theorem qn_c1:∀ (n:Nat) (a:QN n),1 ≤ QN.cnt n a
 | 0,_=>Nat.le_refl _
 | n + 1,a=>by show 1 ≤ cntQP _ _; unfold cntQP; omega
theorem sizeQ_ok:∀ (n:Nat) (a:QN n),QN.wf n a→QN.cnt n a ≤ 10000→calL EE 21 [.st (QN.row n a)] []=some (.ret (.i64 (QN.sz n a:Nat)),[])
 | 0,_,_,_=>cal_run (n:=200) (by kernel_rfl)
 | n + 1,a,hw,hn=>size_qp (qn_len n) (qn_sz n) (sizeQ_ok n) a hw hn fun a _=>qn_c1 n a
theorem refSizeQ_ok:∀ (n:Nat) (a:QN n),QN.wf n a→QN.cnt n a ≤ 10000→calL EE 22 [.st (QN.row n a)] []=some (.ret (.i64 (QN.sz n a:Nat)),[])
 | 0,_,_,_=>cal_run (n:=200) (by kernel_rfl)
 | n + 1,a,hw,hn=>refSize_qp (qn_len n) (qn_sz n) (refSizeQ_ok n) a hw hn fun a _=>qn_c1 n a
end Go.Vm
