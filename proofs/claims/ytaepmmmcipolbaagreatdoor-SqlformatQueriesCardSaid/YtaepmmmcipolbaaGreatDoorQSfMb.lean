/- Chapter 24: budgets of nodes of queries and statements. -/
import Derived.Test.YtaepmmmcipolbaaGreatDoorQSfMs
set_option linter.unusedVariables false
set_option linter.unusedSimpArgs false
set_option maxRecDepth 100000
namespace Go.Vm
open Go
def fB {α:Type} (g:α→Int→Int):List α→Int→Int
 | [],b=>b
 | a :: r,b=>if b < 0 then b else fB g r (g a b)
theorem nodL_fB:∀ (l:List Tr) (b:Int),nodL l b=fB nod l b
 | [],b=>by rw [nodL,fB]
 | a :: r,b=>by rw [nodL,fB,nodL_fB r]
theorem fB_neg {α:Type} {g:α→Int→Int} {l:List α} {b:Int} (h:b < 0):fB g l b=b:=by
 cases l with
 | nil=>rw [fB]
 | cons a r=>rw [fB,if_pos h]
theorem drop_at {α:Type} [Inhabited α] {xs:List α} {i:Nat} (h:i < xs.length):xs.drop i=xs.getD i default :: xs.drop (i + 1):=by
 rw [List.drop_eq_getElem_cons h,List.getD_eq_getElem?_getD,List.getElem?_eq_getElem h]; rfl
theorem fB_step {α:Type} [Inhabited α] {g:α→Int→Int} {l:List α} {i:Nat} {c B:Int} (hd:(decide ((i:Int) < (l.length:Int)) && decide ((0:Int) ≤ c))=true) (h:fB g (l.drop i) c=B):i < l.length ∧ fB g (l.drop (i + 1)) (g (l.getD i default) c)=B:=by
 rw [Bool.and_eq_true,decide_eq_true_eq,decide_eq_true_eq] at hd
 have hi:i < l.length:=by omega
 rw [drop_at hi,fB,if_neg (by omega)] at h
 exact ⟨hi,h⟩
theorem fB_end {α:Type} [Inhabited α] {g:α→Int→Int} {l:List α} {i:Nat} {c B:Int} (hd:(decide ((i:Int) < (l.length:Int)) && decide ((0:Int) ≤ c))=false) (h:fB g (l.drop i) c=B):c=B:=by
 rw [Bool.and_eq_false_iff,decide_eq_false_iff_not,decide_eq_false_iff_not] at hd
 rcases hd with hd | hd
 ·rwa [List.drop_of_length_le (by omega),fB] at h
 ·rwa [fB_neg (by omega)] at h
section
variable {Q:Type} (n:Q→Int→Int)
def nodCm (x:CmP Q) (b:Int):Int:=n x.step (n x.base (IntKind.i64.wrap (IntKind.i64.wrap (IntKind.i64.wrap (b - 1) - x.cols.l.length) - IntKind.i64.wrap ((x.name.length:Int).tdiv 40))))
def nodItm (x:Itm) (b:Int):Int:=nod x.e (IntKind.i64.wrap (b - IntKind.i64.wrap ((x.alias.length:Int).tdiv 40)))
def nodFr (x:FrP Q) (b:Int):Int:=fB n x.q.l (IntKind.i64.wrap (b - IntKind.i64.wrap (1 + IntKind.i64.wrap ((x.name.length:Int).tdiv 40))))
def nodMb (x:MbP Q) (b:Int):Int:=n x.q (fB nod x.ex.l b)
def nodHv (x:Hv) (b:Int):Int:=nod x.c (IntKind.i64.wrap (b - 1))
def nodQP (q:QP Q) (b:Int):Int:=fB n q.ar.l (fB nodHv q.hv.l (fB (nodMb n) q.mb.l (fB nod q.gb.l (fB nod q.wh.l (fB (nodFr n) q.fr.l (fB nodItm q.it.l (fB (nodCm n) q.wi.l (IntKind.i64.wrap (b - 1)))))))))
end
theorem h40:((40:Int) ≠ 0)=True:=by simp
theorem exprs_nod (x:Slc Tr) (b0:Int) (hx:x.l.length ≤ mxL) (hw:∀ t ∈ x.l,wf t):calL EE 79 [.s (x.sv Tr.row),.i64 b0] []=some (.ret (.i64 (fB nod x.l b0)),[]):=by
 refine fn_ok f79 (by simp) ?_
 unfold c79
 simp only [go_sem,reduceIte,Nat.reduceEqDiff,Nat.reduceAdd,Nat.reduceLeDiff,Nat.reduceLT]
 generalize hB:fB nod x.l b0=B
 refine WP_loop rfl (fun k' T H m=>∃ (i:Nat) (c:Int),i + k'=x.l.length ∧ T 5 = .i64 i ∧ T 1 = .i64 c ∧ fB nod (x.l.drop i) c=B) (k0:=x.l.length) ⟨0,b0,by omega,rfl,rfl,hB⟩ ?_
 rintro k' T' H' n' hf ⟨i,c,hik,h5,h1,hnd⟩
 have h0:T' 0 = .s (x.sv Tr.row):=hf 0 rfl
 clear hf
 have hwi:=fun h=>wrap_suc (j:=i) h
 cases hd:(decide ((i:Int) < (x.l.length:Int)) && decide ((0:Int) ≤ c)) with
 | true =>
  obtain ⟨hi,hst⟩:=fB_step hd hnd
  obtain ⟨d1,d2⟩:=Bool.and_eq_true_iff.1 hd
  have hcall:=nodes_ok _ (x.l.getD i default) c (Nat.le_refl _) (hw _ (getD_mem (l:=x.l) default hi))
  have hld:=fun HH=>tr_ags.load (l:=x.l) (j:=i) (H:=HH) hi
  have hin:(0:Int) ≤ i ∧ (i:Int) < x.l.length:=⟨by omega,by omega⟩
  have hmx:mxL=9223372036854775807:=rfl
  simp only [go_sem,reduceIte,Nat.reduceEqDiff,Nat.reduceAdd,Nat.reduceLeDiff,Nat.reduceLT,h0,h1,h5,d1,d2,tr_ags.ia,hin,Int.toNat_natCast,hld,and_self,decide_true]
  refine WC_p rfl (by rw [pure_st]; rfl) hcall ?_
  simp only [go_sem,reduceIte,Nat.reduceEqDiff,Nat.reduceAdd,Nat.reduceLeDiff,Nat.reduceLT,h5,hwi (by omega)]
  exact ⟨k' - 1,by omega,i + 1,_,by omega,rfl,rfl,hst⟩
 | false =>
  have hc:=fB_end hd hnd
  subst hc
  simp only [go_sem,reduceIte,Nat.reduceEqDiff,Nat.reduceAdd,Nat.reduceLeDiff,Nat.reduceLT,h0,h1,h5,hd]
section
variable {Q:Type} [Inhabited Q] {f:Q→List SV} (hf:∀ x,(f x).length=10) {w:Q→Prop} {nq:Q→Int→Int}
 (hN:∀ a b,w a→calL EE 56 [.st (f a),.i64 b] []=some (.ret (.i64 (nq a b)),[]))
include hf hN
set_option maxHeartbeats 16000000 in
theorem query_nod (a:QP Q) (b0:Int) (hw:wfQP w a):calL EE 56 [.st (QP.row f a),.i64 b0] []=some (.ret (.i64 (nodQP nq a b0)),[]):=by
 have e5:=fun b=>exprs_nod a.wh b hw.lwh hw.wh
 have e7:=fun b=>exprs_nod a.gb b hw.lgb hw.gb
 refine fn_ok f56 (by simp) ?_
 unfold c56 nodQP
 simp only [go_sem,reduceIte,Nat.reduceEqDiff,Nat.reduceAdd,Nat.reduceLeDiff,Nat.reduceLT,QP.row]
 generalize IntKind.i64.wrap (b0 - 1)=b1
 generalize hB0:fB (nodCm nq) a.wi.l b1=B0
 refine WP_loop rfl (fun k' T H m=>∃ (i:Nat) (c:Int),i + k'=a.wi.l.length ∧ T 5 = .i64 i ∧ T 1 = .i64 c ∧ fB (nodCm nq) (a.wi.l.drop i) c=B0 ∧ H 0 = .box 38 ((QP.row f a).map .s)) (k0:=a.wi.l.length) ⟨0,_,by omega,rfl,rfl,hB0,rfl⟩ ?_
 rintro k' T' H' n' hf' ⟨i,c,hik,hi5,h1,hnd,hH⟩
 have h2:T' 2 = .ptr 0 0:=(hf' 2 rfl).trans rfl
 clear hf'
 have hwi:=fun h=>wrap_suc (j:=i) h
 cases hd:(decide ((i:Int) < (a.wi.l.length:Int)) && decide ((0:Int) ≤ c)) with
 | true =>
  obtain ⟨hi,hst⟩:=fB_step hd hnd
  obtain ⟨d1,d2⟩:=Bool.and_eq_true_iff.1 hd
  have hin:(0:Int) ≤ i ∧ (i:Int) < a.wi.l.length:=⟨by omega,by omega⟩
  have hmx:mxL=9223372036854775807:=rfl
  have hml:=hw.lwi
  have hwX:=hw.wi _ (getD_mem (l:=a.wi.l) default hi)
  have hx1:∀ agg sz off HH,loadM agg sz HH (.eptr (a.wi.l.map (CmP.row f)) i off)=loadS agg sz (CmP.row f (a.wi.l.getD i default)) off:=fun agg sz off HH=>by rw [load_eptr,if_pos hi]
  have hia:=fun (s:Slc (CmP Q)) (HH:Ob) (kk:IntKind) (ii:Int)=>(cm_ags hf).ia (s:=s) (H:=HH) (k:=kk) (i:=ii)
  generalize a.wi.l.getD i default=X at hst hwX hx1
  obtain ⟨nm,co,bs,st⟩:=X
  obtain ⟨t1,t2,t3,t4,t5⟩:=two10 hf bs st
  simp only [go_sem,reduceIte,Nat.reduceEqDiff,Nat.reduceAdd,Nat.reduceLeDiff,Nat.reduceLT,QP.row,h1,h2,hi5,hH,d1,d2,hin,hia,hx1,h40,and_self,decide_true,Int.toNat_natCast,CmP.row,List.drop_succ_cons,List.drop_zero,List.length_cons,t1,t2,t3,t4,t5]
  refine WC_p rfl (by rw [pure_st]; rfl) (hN bs _ hwX.2.1) ?_
  simp only [go_sem,reduceIte,Nat.reduceEqDiff,Nat.reduceAdd,Nat.reduceLeDiff,Nat.reduceLT,QP.row,h1,h2,hi5,hH,d1,d2,hin,hia,hx1,h40,and_self,decide_true,Int.toNat_natCast,CmP.row,List.drop_succ_cons,List.drop_zero,List.length_cons,t1,t2,t3,t4,t5]
  refine WC_p rfl (by rw [pure_st]; rfl) (hN st _ hwX.2.2) ?_
  simp only [go_sem,reduceIte,Nat.reduceEqDiff,Nat.reduceAdd,Nat.reduceLeDiff,Nat.reduceLT,hi5,hwi (by omega)]
  exact ⟨k' - 1,by omega,i + 1,_,by omega,rfl,rfl,hst,hH⟩
 | false =>
  have hc:=fB_end hd hnd
  subst hc
  simp only [go_sem,reduceIte,Nat.reduceEqDiff,Nat.reduceAdd,Nat.reduceLeDiff,Nat.reduceLT,QP.row,h1,h2,hi5,hH,hd]
  generalize hB1:fB nodItm a.it.l _=B1
  refine WP_loop rfl (fun k' T H m=>∃ (i:Nat) (c:Int),i + k'=a.it.l.length ∧ T 6 = .i64 i ∧ T 1 = .i64 c ∧ fB nodItm (a.it.l.drop i) c=B1 ∧ H 0 = .box 38 ((QP.row f a).map .s)) (k0:=a.it.l.length) ⟨0,_,by omega,rfl,h1,hB1,hH⟩ ?_
  rintro k' T' H' n' hf' ⟨i,c,hik,hi5,h1,hnd,hH⟩
  have h2:T' 2 = .ptr 0 0:=(hf' 2 rfl).trans h2
  clear hf'
  have hwi:=fun h=>wrap_suc (j:=i) h
  cases hd:(decide ((i:Int) < (a.it.l.length:Int)) && decide ((0:Int) ≤ c)) with
  | true =>
   obtain ⟨hi,hst⟩:=fB_step hd hnd
   obtain ⟨d1,d2⟩:=Bool.and_eq_true_iff.1 hd
   have hin:(0:Int) ≤ i ∧ (i:Int) < a.it.l.length:=⟨by omega,by omega⟩
   have hmx:mxL=9223372036854775807:=rfl
   have hml:=hw.lit
   have hwX:=hw.it _ (getD_mem (l:=a.it.l) default hi)
   have hx1:∀ agg sz off HH,loadM agg sz HH (.eptr (a.it.l.map (Itm.row)) i off)=loadS agg sz (Itm.row (a.it.l.getD i default)) off:=fun agg sz off HH=>by rw [load_eptr,if_pos hi]
   have hia:=fun (s:Slc Itm) (HH:Ob) (kk:IntKind) (ii:Int)=>(itm_ags).ia (s:=s) (H:=HH) (k:=kk) (i:=ii)
   generalize a.it.l.getD i default=X at hst hwX hx1
   obtain ⟨s,⟨k,v,tb,nm,op,fn,fl,xs⟩,al⟩:=X
   have hcall:=fun b=>nodes_ok _ (Tr.mk k v tb nm op fn fl xs) b (Nat.le_refl _) hwX
   simp only [row_mk] at hcall
   simp only [go_sem,reduceIte,Nat.reduceEqDiff,Nat.reduceAdd,Nat.reduceLeDiff,Nat.reduceLT,QP.row,h1,h2,hi5,hH,d1,d2,hin,hia,hx1,h40,and_self,decide_true,Int.toNat_natCast,Itm.row,row_mk,List.cons_append,List.nil_append]
   refine WC_p rfl rfl (hcall _) ?_
   simp only [go_sem,reduceIte,Nat.reduceEqDiff,Nat.reduceAdd,Nat.reduceLeDiff,Nat.reduceLT,hi5,hwi (by omega)]
   exact ⟨k' - 1,by omega,i + 1,_,by omega,rfl,rfl,hst,hH⟩
  | false =>
   have hc:=fB_end hd hnd
   subst hc
   simp only [go_sem,reduceIte,Nat.reduceEqDiff,Nat.reduceAdd,Nat.reduceLeDiff,Nat.reduceLT,QP.row,h1,h2,hi5,hH,hd]
   generalize hB2:fB (nodFr nq) a.fr.l _=B2
   refine WP_loop rfl (fun k' T H m=>∃ (i:Nat) (c:Int),i + k'=a.fr.l.length ∧ T 7 = .i64 i ∧ T 1 = .i64 c ∧ fB (nodFr nq) (a.fr.l.drop i) c=B2 ∧ H 0 = .box 38 ((QP.row f a).map .s)) (k0:=a.fr.l.length) ⟨0,_,by omega,rfl,h1,hB2,hH⟩ ?_
   rintro k' T' H' n' hf' ⟨i,c,hik,hi5,h1,hnd,hH⟩
   have h2:T' 2 = .ptr 0 0:=(hf' 2 rfl).trans h2
   clear hf'
   have hwi:=fun h=>wrap_suc (j:=i) h
   cases hd:(decide ((i:Int) < (a.fr.l.length:Int)) && decide ((0:Int) ≤ c)) with
   | true =>
    obtain ⟨hi,hst⟩:=fB_step hd hnd
    obtain ⟨d1,d2⟩:=Bool.and_eq_true_iff.1 hd
    have hin:(0:Int) ≤ i ∧ (i:Int) < a.fr.l.length:=⟨by omega,by omega⟩
    have hmx:mxL=9223372036854775807:=rfl
    have hml:=hw.lfr
    have hwX:=hw.fr _ (getD_mem (l:=a.fr.l) default hi)
    have hx1:∀ agg sz off HH,loadM agg sz HH (.eptr (a.fr.l.map (FrP.row f)) i off)=loadS agg sz (FrP.row f (a.fr.l.getD i default)) off:=fun agg sz off HH=>by rw [load_eptr,if_pos hi]
    have hia:=fun (s:Slc (FrP Q)) (HH:Ob) (kk:IntKind) (ii:Int)=>(fr_ags (f:=f)).ia (s:=s) (H:=HH) (k:=kk) (i:=ii)
    generalize a.fr.l.getD i default=X at hst hwX hx1
    obtain ⟨nm,al,qs⟩:=X
    simp only [go_sem,reduceIte,Nat.reduceEqDiff,Nat.reduceAdd,Nat.reduceLeDiff,Nat.reduceLT,QP.row,h1,h2,hi5,hH,d1,d2,hin,hia,hx1,h40,and_self,decide_true,Int.toNat_natCast,FrP.row]
    have hst':fB (nodFr nq) (a.fr.l.drop (i + 1)) (fB nq qs.l (IntKind.i64.wrap (c - IntKind.i64.wrap (1 + IntKind.i64.wrap ((nm.length:Int).tdiv 40)))))=B2:=hst
    generalize hC:fB nq qs.l (IntKind.i64.wrap (c - IntKind.i64.wrap (1 + IntKind.i64.wrap ((nm.length:Int).tdiv 40))))=C at hst'
    refine WP_loop rfl (fun k2 T H m=>∃ (i2:Nat) (c2:Int),i2 + k2=qs.l.length ∧ T 8 = .i64 i2 ∧ T 1 = .i64 c2 ∧ fB nq (qs.l.drop i2) c2=C ∧ H 0 = .box 38 ((QP.row f a).map .s)) (k0:=qs.l.length) ⟨0,_,by omega,rfl,rfl,hC,hH⟩ ?_
    rintro k2 T2 H2 n2 hf2 ⟨j,c2,hjk,hj8,g1,hne,gH⟩
    have g2:T2 2 = .ptr 0 0:=(hf2 2 rfl).trans h2
    have g7:T2 7 = .i64 i:=(hf2 7 rfl).trans hi5
    clear hf2
    have hwj:=fun h=>wrap_suc (j:=j) h
    cases he:(decide ((j:Int) < (qs.l.length:Int)) && decide ((0:Int) ≤ c2)) with
    | true =>
     obtain ⟨hj,hsu⟩:=fB_step he hne
     obtain ⟨d3,d4⟩:=Bool.and_eq_true_iff.1 he
     have hjn:(0:Int) ≤ j ∧ (j:Int) < qs.l.length:=⟨by omega,by omega⟩
     have hld:=fun HH=>(q_ags hf).load (l:=qs.l) (j:=j) (H:=HH) hj
     have hlq:qs.l.length ≤ mxL:=hwX.1
     simp only [go_sem,reduceIte,Nat.reduceEqDiff,Nat.reduceAdd,Nat.reduceLeDiff,Nat.reduceLT,QP.row,FrP.row,g1,g2,g7,hj8,gH,d3,d4,hin,hia,hx1,(q_ags hf).ia,hjn,hld,and_self,decide_true,Int.toNat_natCast]
     refine WC_p rfl (by rw [pure_st]; rfl) (hN _ _ (hwX.2 _ (getD_mem (l:=qs.l) default hj))) ?_
     simp only [go_sem,reduceIte,Nat.reduceEqDiff,Nat.reduceAdd,Nat.reduceLeDiff,Nat.reduceLT,hj8,hwj (by omega)]
     exact ⟨k2 - 1,by omega,j + 1,_,by omega,rfl,rfl,hsu,gH⟩
    | false =>
     have hc2:=fB_end he hne
     subst hc2
     simp only [go_sem,reduceIte,Nat.reduceEqDiff,Nat.reduceAdd,Nat.reduceLeDiff,Nat.reduceLT,QP.row,FrP.row,g1,g2,g7,hj8,gH,he,hin,hia,hx1,and_self,decide_true,Int.toNat_natCast,hwi (show i < 9223372036854775807 by omega)]
     exact ⟨k' - 1,by omega,i + 1,_,by omega,rfl,rfl,hst'⟩
   | false =>
    have hc:=fB_end hd hnd
    subst hc
    simp only [go_sem,reduceIte,Nat.reduceEqDiff,Nat.reduceAdd,Nat.reduceLeDiff,Nat.reduceLT,QP.row,h1,h2,hi5,hH,hd]
    refine WC_p rfl rfl (e5 _) ?_
    simp only [go_sem,reduceIte,Nat.reduceEqDiff,Nat.reduceAdd,Nat.reduceLeDiff,Nat.reduceLT,QP.row,h2,hH]
    refine WC_p rfl rfl (e7 _) ?_
    simp only [go_sem,reduceIte,Nat.reduceEqDiff,Nat.reduceAdd,Nat.reduceLeDiff,Nat.reduceLT,QP.row,h2,hH]
    generalize hB3:fB (nodMb nq) a.mb.l _=B3
    refine WP_loop rfl (fun k' T H m=>∃ (i:Nat) (c:Int),i + k'=a.mb.l.length ∧ T 9 = .i64 i ∧ T 1 = .i64 c ∧ fB (nodMb nq) (a.mb.l.drop i) c=B3 ∧ H 0 = .box 38 ((QP.row f a).map .s)) (k0:=a.mb.l.length) ⟨0,_,by omega,rfl,rfl,hB3,hH⟩ ?_
    rintro k' T' H' n' hf' ⟨i,c,hik,hi5,h1,hnd,hH⟩
    have h2:T' 2 = .ptr 0 0:=(hf' 2 rfl).trans h2
    clear hf'
    have hwi:=fun h=>wrap_suc (j:=i) h
    cases hd:(decide ((i:Int) < (a.mb.l.length:Int)) && decide ((0:Int) ≤ c)) with
    | true =>
     obtain ⟨hi,hst⟩:=fB_step hd hnd
     obtain ⟨d1,d2⟩:=Bool.and_eq_true_iff.1 hd
     have hin:(0:Int) ≤ i ∧ (i:Int) < a.mb.l.length:=⟨by omega,by omega⟩
     have hmx:mxL=9223372036854775807:=rfl
     have hml:=hw.lmb
     have hwX:=hw.mb _ (getD_mem (l:=a.mb.l) default hi)
     have hx1:∀ agg sz off HH,loadM agg sz HH (.eptr (a.mb.l.map (MbP.row f)) i off)=loadS agg sz (MbP.row f (a.mb.l.getD i default)) off:=fun agg sz off HH=>by rw [load_eptr,if_pos hi]
     have hia:=fun (s:Slc (MbP Q)) (HH:Ob) (kk:IntKind) (ii:Int)=>(mb_ags hf).ia (s:=s) (H:=HH) (k:=kk) (i:=ii)
     generalize a.mb.l.getD i default=X at hst hwX hx1
     obtain ⟨no,ex,mq⟩:=X
     have t1:=hf mq
     have t3:List.take 10 (f mq)=f mq:=List.take_of_length_le (by omega)
     simp only [go_sem,reduceIte,Nat.reduceEqDiff,Nat.reduceAdd,Nat.reduceLeDiff,Nat.reduceLT,QP.row,h1,h2,hi5,hH,d1,d2,hin,hia,hx1,h40,and_self,decide_true,Int.toNat_natCast,MbP.row,List.drop_succ_cons,List.drop_zero,List.length_cons,t1,t3]
     refine WC_p rfl rfl (exprs_nod ex _ hwX.1 hwX.2.1) ?_
     simp only [go_sem,reduceIte,Nat.reduceEqDiff,Nat.reduceAdd,Nat.reduceLeDiff,Nat.reduceLT,QP.row,h1,h2,hi5,hH,d1,d2,hin,hia,hx1,h40,and_self,decide_true,Int.toNat_natCast,MbP.row,List.drop_succ_cons,List.drop_zero,List.length_cons,t1,t3]
     refine WC_p rfl (by rw [pure_st]; rfl) (hN mq _ hwX.2.2) ?_
     simp only [go_sem,reduceIte,Nat.reduceEqDiff,Nat.reduceAdd,Nat.reduceLeDiff,Nat.reduceLT,hi5,hwi (by omega)]
     exact ⟨k' - 1,by omega,i + 1,_,by omega,rfl,rfl,hst,hH⟩
    | false =>
     have hc:=fB_end hd hnd
     subst hc
     simp only [go_sem,reduceIte,Nat.reduceEqDiff,Nat.reduceAdd,Nat.reduceLeDiff,Nat.reduceLT,QP.row,h1,h2,hi5,hH,hd]
     generalize hB4:fB nodHv a.hv.l _=B4
     refine WP_loop rfl (fun k' T H m=>∃ (i:Nat) (c:Int),i + k'=a.hv.l.length ∧ T 10 = .i64 i ∧ T 1 = .i64 c ∧ fB nodHv (a.hv.l.drop i) c=B4 ∧ H 0 = .box 38 ((QP.row f a).map .s)) (k0:=a.hv.l.length) ⟨0,_,by omega,rfl,h1,hB4,hH⟩ ?_
     rintro k' T' H' n' hf' ⟨i,c,hik,hi5,h1,hnd,hH⟩
     have h2:T' 2 = .ptr 0 0:=(hf' 2 rfl).trans h2
     clear hf'
     have hwi:=fun h=>wrap_suc (j:=i) h
     cases hd:(decide ((i:Int) < (a.hv.l.length:Int)) && decide ((0:Int) ≤ c)) with
     | true =>
      obtain ⟨hi,hst⟩:=fB_step hd hnd
      obtain ⟨d1,d2⟩:=Bool.and_eq_true_iff.1 hd
      have hin:(0:Int) ≤ i ∧ (i:Int) < a.hv.l.length:=⟨by omega,by omega⟩
      have hmx:mxL=9223372036854775807:=rfl
      have hml:=hw.lhv
      have hwX:=hw.hv _ (getD_mem (l:=a.hv.l) default hi)
      have hx1:∀ agg sz off HH,loadM agg sz HH (.eptr (a.hv.l.map (Hv.row)) i off)=loadS agg sz (Hv.row (a.hv.l.getD i default)) off:=fun agg sz off HH=>by rw [load_eptr,if_pos hi]
      have hia:=fun (s:Slc Hv) (HH:Ob) (kk:IntKind) (ii:Int)=>(hv_ags).ia (s:=s) (H:=HH) (k:=kk) (i:=ii)
      generalize a.hv.l.getD i default=X at hst hwX hx1
      obtain ⟨⟨k,v,tb,nm,op,fn,fl,xs⟩,hop,hb⟩:=X
      have hcall:=fun b=>nodes_ok _ (Tr.mk k v tb nm op fn fl xs) b (Nat.le_refl _) hwX.1
      simp only [row_mk] at hcall
      simp only [go_sem,reduceIte,Nat.reduceEqDiff,Nat.reduceAdd,Nat.reduceLeDiff,Nat.reduceLT,QP.row,h1,h2,hi5,hH,d1,d2,hin,hia,hx1,h40,and_self,decide_true,Int.toNat_natCast,Hv.row,Val.row,row_mk,List.cons_append,List.nil_append]
      refine WC_p rfl rfl (hcall _) ?_
      simp only [go_sem,reduceIte,Nat.reduceEqDiff,Nat.reduceAdd,Nat.reduceLeDiff,Nat.reduceLT,hi5,hwi (by omega)]
      exact ⟨k' - 1,by omega,i + 1,_,by omega,rfl,rfl,hst,hH⟩
     | false =>
      have hc:=fB_end hd hnd
      subst hc
      simp only [go_sem,reduceIte,Nat.reduceEqDiff,Nat.reduceAdd,Nat.reduceLeDiff,Nat.reduceLT,QP.row,h1,h2,hi5,hH,hd]
      generalize hB5:fB nq a.ar.l _=B5
      refine WP_loop rfl (fun k' T H m=>∃ (i:Nat) (c:Int),i + k'=a.ar.l.length ∧ T 11 = .i64 i ∧ T 1 = .i64 c ∧ fB nq (a.ar.l.drop i) c=B5 ∧ H 0 = .box 38 ((QP.row f a).map .s)) (k0:=a.ar.l.length) ⟨0,_,by omega,rfl,h1,hB5,hH⟩ ?_
      rintro k' T' H' n' hf' ⟨i,c,hik,hi5,h1,hnd,hH⟩
      have h2:T' 2 = .ptr 0 0:=(hf' 2 rfl).trans h2
      clear hf'
      have hwi:=fun h=>wrap_suc (j:=i) h
      cases hd:(decide ((i:Int) < (a.ar.l.length:Int)) && decide ((0:Int) ≤ c)) with
      | true =>
       obtain ⟨hi,hst⟩:=fB_step hd hnd
       obtain ⟨d1,d2⟩:=Bool.and_eq_true_iff.1 hd
       have hin:(0:Int) ≤ i ∧ (i:Int) < a.ar.l.length:=⟨by omega,by omega⟩
       have hmx:mxL=9223372036854775807:=rfl
       have hml:=hw.lar
       have hwX:=hw.ar _ (getD_mem (l:=a.ar.l) default hi)
       have hx1:∀ agg sz off HH,loadM agg sz HH (.eptr (a.ar.l.map (f)) i off)=loadS agg sz (f (a.ar.l.getD i default)) off:=fun agg sz off HH=>by rw [load_eptr,if_pos hi]
       have hia:=fun (s:Slc Q) (HH:Ob) (kk:IntKind) (ii:Int)=>(q_ags hf).ia (s:=s) (H:=HH) (k:=kk) (i:=ii)
       generalize a.ar.l.getD i default=X at hst hwX hx1
       have t1:=hf X
       have t3:List.take 10 (f X)=f X:=List.take_of_length_le (by omega)
       simp only [go_sem,reduceIte,Nat.reduceEqDiff,Nat.reduceAdd,Nat.reduceLeDiff,Nat.reduceLT,QP.row,h1,h2,hi5,hH,d1,d2,hin,hia,hx1,h40,and_self,decide_true,Int.toNat_natCast,List.drop_succ_cons,List.drop_zero,List.length_cons,t1,t3]
       refine WC_p rfl (by rw [pure_st]; rfl) (hN X _ hwX) ?_
       simp only [go_sem,reduceIte,Nat.reduceEqDiff,Nat.reduceAdd,Nat.reduceLeDiff,Nat.reduceLT,hi5,hwi (by omega)]
       exact ⟨k' - 1,by omega,i + 1,_,by omega,rfl,rfl,hst,hH⟩
      | false =>
       have hc:=fB_end hd hnd
       subst hc
       simp only [go_sem,reduceIte,Nat.reduceEqDiff,Nat.reduceAdd,Nat.reduceLeDiff,Nat.reduceLT,QP.row,h1,h2,hi5,hH,hd]
end
def QN.nod:∀ n,QN n→Int→Int
 | 0,_,b=>IntKind.i64.wrap (b - 1)
 | n + 1,q,b=>nodQP (QN.nod n) q b
theorem wf_zero:wfQP (fun _:Unit=>False) (⟨0,.nil,false,.nil,.nil,.nil,.nil,.nil,.nil,.nil⟩:QP Unit):=⟨by decide,nofun,by decide,nofun,by decide,nofun,by decide,nofun,by decide,nofun,by decide,nofun,by decide,nofun,by decide,nofun,nofun,nofun,nofun,nofun,nofun,nofun,nofun,by decide⟩
theorem queries_ok:∀ (n:Nat) (a:QN n) (b:Int),QN.wf n a→calL EE 56 [.st (QN.row n a),.i64 b] []=some (.ret (.i64 (QN.nod n a b)),[])
 | 0,_,b,_=>query_nod (Q:=Unit) (f:=fun _=>qzRow) (w:=fun _=>False) (nq:=fun _ x=>x) (fun _=>rfl) (fun _ _ h=>h.elim) ⟨0,.nil,false,.nil,.nil,.nil,.nil,.nil,.nil,.nil⟩ b wf_zero
 | n + 1,a,b,h=>query_nod (qn_len n) (queries_ok n) a b h
end Go.Vm
