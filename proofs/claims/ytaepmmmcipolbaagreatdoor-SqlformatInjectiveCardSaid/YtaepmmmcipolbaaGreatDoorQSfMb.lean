/- Chapter 24: budgets of nodes of queries and statements. -/
import Derived.Test.YtaepmmmcipolbaaGreatDoorQSfMs
section
set_option linter.unusedVariables false
set_option linter.unusedSimpArgs false
set_option maxRecDepth 100000
namespace Go.Vm
open Nat renaming reduceEqDiff→rA,reduceAdd→rB,reduceLeDiff→rC,reduceLT→rD
open Go
def fB {α:Type} (g:α→Int→Int):List α→Int→Int
 | [],b=>b
 | a :: r,b=>if b < 0 then b else fB g r (g a b)
theorem nodL_fB:∀ (l:List Tr) (b:Int),nodL l b=fB nod l b
 | [],b=>by rw [nodL,fB]
 | a :: r,b=>by rw [nodL,fB,nodL_fB r]
theorem fB_neg {α:Type} {g:α→Int→Int} {l:List α} {b:Int} (h:b < 0):fB g l b=b:=by
 cases l with
 | nil=>rw [fB]
 | cons a r=>rw [fB,if_pos h]
theorem drop_at {α:Type} [Inhabited α] {xs:List α} {i:Nat} (h:i < xs.length):xs.drop i=xs.getD i default :: xs.drop (i + 1):=by
 rw [List.drop_eq_getElem_cons h,List.getD_eq_getElem?_getD,List.getElem?_eq_getElem h]; rfl
theorem fB_step {α:Type} [Inhabited α] {g:α→Int→Int} {l:List α} {i:Nat} {c B:Int} (hd:(decide ((i:Int) < (l.length:Int)) && decide ((0:Int) ≤ c))=true) (h:fB g (l.drop i) c=B):i < l.length ∧ fB g (l.drop (i + 1)) (g (l.getD i default) c)=B:=by
 rw [Bool.and_eq_true,decide_eq_true_eq,decide_eq_true_eq] at hd
 have hi:i < l.length:=by omega
 rw [drop_at hi,fB,if_neg (by omega)] at h
 exact ⟨hi,h⟩
theorem fB_end {α:Type} [Inhabited α] {g:α→Int→Int} {l:List α} {i:Nat} {c B:Int} (hd:(decide ((i:Int) < (l.length:Int)) && decide ((0:Int) ≤ c))=false) (h:fB g (l.drop i) c=B):c=B:=by
 rw [Bool.and_eq_false_iff,decide_eq_false_iff_not,decide_eq_false_iff_not] at hd
 rcases hd with hd | hd
 ·rwa [List.drop_of_length_le (by omega),fB] at h
 ·rwa [fB_neg (by omega)] at h
section
variable {Q:Type} (n:Q→Int→Int)
def nodCm (x:CmP Q) (b:Int):Int:=n x.step (n x.base (IntKind.i64.wrap (IntKind.i64.wrap (IntKind.i64.wrap (b - 1) - x.cols.l.length) - IntKind.i64.wrap ((x.name.length:Int).tdiv 40))))
def nodItm (x:Itm) (b:Int):Int:=nod x.e (IntKind.i64.wrap (b - IntKind.i64.wrap ((x.alias.length:Int).tdiv 40)))
def nodFr (x:FrP Q) (b:Int):Int:=fB n x.q.l (IntKind.i64.wrap (b - IntKind.i64.wrap (1 + IntKind.i64.wrap ((x.name.length:Int).tdiv 40))))
def nodMb (x:MbP Q) (b:Int):Int:=n x.q (fB nod x.ex.l b)
def nodHv (x:Hv) (b:Int):Int:=nod x.c (IntKind.i64.wrap (b - 1))
def nodQP (q:QP Q) (b:Int):Int:=fB n q.ar.l (fB nodHv q.hv.l (fB (nodMb n) q.mb.l (fB nod q.gb.l (fB nod q.wh.l (fB (nodFr n) q.fr.l (fB nodItm q.it.l (fB (nodCm n) q.wi.l (IntKind.i64.wrap (b - 1)))))))))
end
theorem h40:((40:Int) ≠ 0)=True:=by simp
theorem exprs_nod (x:Slc Tr) (b0:Int) (hx:x.l.length ≤ mxL) (hw:∀ t ∈ x.l,wf t):calL EE 79 [.s (x.sv Tr.row),.i64 b0] []=some (.ret (.i64 (fB nod x.l b0)),[]):=by
 refine fn_ok f79 (by simp) ?_
 unfold c79
 simp only [go_sem,reduceIte,rA,rB,rC,rD]
 generalize hB:fB nod x.l b0=B
 refine WP_loop rfl (fun k' T H m=>∃ (i:Nat) (c:Int),i + k'=x.l.length ∧ T 5 = .i64 i ∧ T 1 = .i64 c ∧ fB nod (x.l.drop i) c=B) (k0:=x.l.length) ⟨0,b0,by omega,rfl,rfl,hB⟩ ?_
 rintro k' T' H' n' hf ⟨i,c,hik,h5,h1,hnd⟩
 have h0:T' 0 = .s (x.sv Tr.row):=hf 0 rfl
 clear hf
 have hwi:=fun h=>wrap_suc (j:=i) h
 cases hd:(decide ((i:Int) < (x.l.length:Int)) && decide ((0:Int) ≤ c)) with
 | true =>
  obtain ⟨hi,hst⟩:=fB_step hd hnd
  obtain ⟨d1,d2⟩:=Bool.and_eq_true_iff.1 hd
  have hcall:=nodes_ok _ (x.l.getD i default) c (Nat.le_refl _) (hw _ (getD_mem (l:=x.l) default hi))
  have hld:=fun HH=>tr_ags.load (l:=x.l) (j:=i) (H:=HH) hi
  have hin:(0:Int) ≤ i ∧ (i:Int) < x.l.length:=⟨by omega,by omega⟩
  have hmx:mxL=9223372036854775807:=rfl
  simp only [go_sem,reduceIte,rA,rB,rC,rD,h0,h1,h5,d1,d2,tr_ags.ia,hin,Int.toNat_natCast,hld,and_self,decide_true]
  refine WC_p rfl (by rw [pure_st]; rfl) hcall ?_
  simp only [go_sem,reduceIte,rA,rB,rC,rD,h5,hwi (by omega)]
  exact ⟨k' - 1,by omega,i + 1,_,by omega,rfl,rfl,hst⟩
 | false =>
  have hc:=fB_end hd hnd
  subst hc
  simp only [go_sem,reduceIte,rA,rB,rC,rD,h0,h1,h5,hd]
section
variable {Q:Type} [Inhabited Q] {f:Q→List SV} (hf:∀ x,(f x).length=10) {w:Q→Prop} {nq:Q→Int→Int}
 (hN:∀ a b,w a→calL EE 56 [.st (f a),.i64 b] []=some (.ret (.i64 (nq a b)),[]))
include hf hN
set_option maxHeartbeats 16000000 in
theorem query_nod (a:QP Q) (b0:Int) (hw:wfQP w a):calL EE 56 [.st (QP.row f a),.i64 b0] []=some (.ret (.i64 (nodQP nq a b0)),[]):=by
 have e5:=fun b=>exprs_nod a.wh b hw.lwh hw.wh
 have e7:=fun b=>exprs_nod a.gb b hw.lgb hw.gb
 refine fn_ok f56 (by simp) ?_
 unfold c56 nodQP
 simp only [go_sem,reduceIte,rA,rB,rC,rD,QP.row]
 generalize IntKind.i64.wrap (b0 - 1)=b1
 generalize hB0:fB (nodCm nq) a.wi.l b1=B0
 refine WP_loop rfl (fun k' T H m=>∃ (i:Nat) (c:Int),i + k'=a.wi.l.length ∧ T 5 = .i64 i ∧ T 1 = .i64 c ∧ fB (nodCm nq) (a.wi.l.drop i) c=B0 ∧ H 0 = .box 38 ((QP.row f a).map .s)) (k0:=a.wi.l.length) ⟨0,_,by omega,rfl,rfl,hB0,rfl⟩ ?_
 rintro k' T' H' n' hf' ⟨i,c,hik,hi5,h1,hnd,hH⟩
 have h2:T' 2 = .ptr 0 0:=(hf' 2 rfl).trans rfl
 clear hf'
 have hwi:=fun h=>wrap_suc (j:=i) h
 cases hd:(decide ((i:Int) < (a.wi.l.length:Int)) && decide ((0:Int) ≤ c)) with
 | true =>
  obtain ⟨hi,hst⟩:=fB_step hd hnd
  obtain ⟨d1,d2⟩:=Bool.and_eq_true_iff.1 hd
  have hin:(0:Int) ≤ i ∧ (i:Int) < a.wi.l.length:=⟨by omega,by omega⟩
  have hmx:mxL=9223372036854775807:=rfl
  have hml:=hw.lwi
  have hwX:=hw.wi _ (getD_mem (l:=a.wi.l) default hi)
  have hx1:∀ agg sz off HH,loadM agg sz HH (.eptr (a.wi.l.map (CmP.row f)) i off)=loadS agg sz (CmP.row f (a.wi.l.getD i default)) off:=fun agg sz off HH=>by rw [load_eptr,if_pos hi]
  have hia:=fun (s:Slc (CmP Q)) (HH:Ob) (kk:IntKind) (ii:Int)=>(cm_ags hf).ia (s:=s) (H:=HH) (k:=kk) (i:=ii)
  generalize a.wi.l.getD i default=X at hst hwX hx1
  obtain ⟨nm,co,bs,st⟩:=X
  obtain ⟨t1,t2,t3,t4,t5⟩:=two10 hf bs st
  simp only [go_sem,reduceIte,rA,rB,rC,rD,QP.row,h1,h2,hi5,hH,d1,d2,hin,hia,hx1,h40,and_self,decide_true,Int.toNat_natCast,CmP.row,List.drop_succ_cons,List.drop_zero,List.length_cons,t1,t2,t3,t4,t5]
  refine WC_p rfl (by rw [pure_st]; rfl) (hN bs _ hwX.2.1) ?_
  simp only [go_sem,reduceIte,rA,rB,rC,rD,QP.row,h1,h2,hi5,hH,d1,d2,hin,hia,hx1,h40,and_self,decide_true,Int.toNat_natCast,CmP.row,List.drop_succ_cons,List.drop_zero,List.length_cons,t1,t2,t3,t4,t5]
  refine WC_p rfl (by rw [pure_st]; rfl) (hN st _ hwX.2.2) ?_
  simp only [go_sem,reduceIte,rA,rB,rC,rD,hi5,hwi (by omega)]
  exact ⟨k' - 1,by omega,i + 1,_,by omega,rfl,rfl,hst,hH⟩
 | false =>
  have hc:=fB_end hd hnd
  subst hc
  simp only [go_sem,reduceIte,rA,rB,rC,rD,QP.row,h1,h2,hi5,hH,hd]
  generalize hB1:fB nodItm a.it.l _=B1
  refine WP_loop rfl (fun k' T H m=>∃ (i:Nat) (c:Int),i + k'=a.it.l.length ∧ T 6 = .i64 i ∧ T 1 = .i64 c ∧ fB nodItm (a.it.l.drop i) c=B1 ∧ H 0 = .box 38 ((QP.row f a).map .s)) (k0:=a.it.l.length) ⟨0,_,by omega,rfl,h1,hB1,hH⟩ ?_
  rintro k' T' H' n' hf' ⟨i,c,hik,hi5,h1,hnd,hH⟩
  have h2:T' 2 = .ptr 0 0:=(hf' 2 rfl).trans h2
  clear hf'
  have hwi:=fun h=>wrap_suc (j:=i) h
  cases hd:(decide ((i:Int) < (a.it.l.length:Int)) && decide ((0:Int) ≤ c)) with
  | true =>
   obtain ⟨hi,hst⟩:=fB_step hd hnd
   obtain ⟨d1,d2⟩:=Bool.and_eq_true_iff.1 hd
   have hin:(0:Int) ≤ i ∧ (i:Int) < a.it.l.length:=⟨by omega,by omega⟩
   have hmx:mxL=9223372036854775807:=rfl
   have hml:=hw.lit
   have hwX:=hw.it _ (getD_mem (l:=a.it.l) default hi)
   have hx1:∀ agg sz off HH,loadM agg sz HH (.eptr (a.it.l.map (Itm.row)) i off)=loadS agg sz (Itm.row (a.it.l.getD i default)) off:=fun agg sz off HH=>by rw [load_eptr,if_pos hi]
   have hia:=fun (s:Slc Itm) (HH:Ob) (kk:IntKind) (ii:Int)=>(itm_ags).ia (s:=s) (H:=HH) (k:=kk) (i:=ii)
   generalize a.it.l.getD i default=X at hst hwX hx1
   obtain ⟨s,⟨k,v,tb,nm,op,fn,fl,xs⟩,al⟩:=X
   have hcall:=fun b=>nodes_ok _ (Tr.mk k v tb nm op fn fl xs) b (Nat.le_refl _) hwX
   simp only [row_mk] at hcall
   simp only [go_sem,reduceIte,rA,rB,rC,rD,QP.row,h1,h2,hi5,hH,d1,d2,hin,hia,hx1,h40,and_self,decide_true,Int.toNat_natCast,Itm.row,row_mk,List.cons_append,List.nil_append]
   refine WC_p rfl rfl (hcall _) ?_
   simp only [go_sem,reduceIte,rA,rB,rC,rD,hi5,hwi (by omega)]
   exact ⟨k' - 1,by omega,i + 1,_,by omega,rfl,rfl,hst,hH⟩
  | false =>
   have hc:=fB_end hd hnd
   subst hc
   simp only [go_sem,reduceIte,rA,rB,rC,rD,QP.row,h1,h2,hi5,hH,hd]
   generalize hB2:fB (nodFr nq) a.fr.l _=B2
   refine WP_loop rfl (fun k' T H m=>∃ (i:Nat) (c:Int),i + k'=a.fr.l.length ∧ T 7 = .i64 i ∧ T 1 = .i64 c ∧ fB (nodFr nq) (a.fr.l.drop i) c=B2 ∧ H 0 = .box 38 ((QP.row f a).map .s)) (k0:=a.fr.l.length) ⟨0,_,by omega,rfl,h1,hB2,hH⟩ ?_
   rintro k' T' H' n' hf' ⟨i,c,hik,hi5,h1,hnd,hH⟩
   have h2:T' 2 = .ptr 0 0:=(hf' 2 rfl).trans h2
   clear hf'
   have hwi:=fun h=>wrap_suc (j:=i) h
   cases hd:(decide ((i:Int) < (a.fr.l.length:Int)) && decide ((0:Int) ≤ c)) with
   | true =>
    obtain ⟨hi,hst⟩:=fB_step hd hnd
    obtain ⟨d1,d2⟩:=Bool.and_eq_true_iff.1 hd
    have hin:(0:Int) ≤ i ∧ (i:Int) < a.fr.l.length:=⟨by omega,by omega⟩
    have hmx:mxL=9223372036854775807:=rfl
    have hml:=hw.lfr
    have hwX:=hw.fr _ (getD_mem (l:=a.fr.l) default hi)
    have hx1:∀ agg sz off HH,loadM agg sz HH (.eptr (a.fr.l.map (FrP.row f)) i off)=loadS agg sz (FrP.row f (a.fr.l.getD i default)) off:=fun agg sz off HH=>by rw [load_eptr,if_pos hi]
    have hia:=fun (s:Slc (FrP Q)) (HH:Ob) (kk:IntKind) (ii:Int)=>(fr_ags (f:=f)).ia (s:=s) (H:=HH) (k:=kk) (i:=ii)
    generalize a.fr.l.getD i default=X at hst hwX hx1
    obtain ⟨nm,al,qs⟩:=X
    simp only [go_sem,reduceIte,rA,rB,rC,rD,QP.row,h1,h2,hi5,hH,d1,d2,hin,hia,hx1,h40,and_self,decide_true,Int.toNat_natCast,FrP.row]
    have hst':fB (nodFr nq) (a.fr.l.drop (i + 1)) (fB nq qs.l (IntKind.i64.wrap (c - IntKind.i64.wrap (1 + IntKind.i64.wrap ((nm.length:Int).tdiv 40)))))=B2:=hst
    generalize hC:fB nq qs.l (IntKind.i64.wrap (c - IntKind.i64.wrap (1 + IntKind.i64.wrap ((nm.length:Int).tdiv 40))))=C at hst'
    refine WP_loop rfl (fun k2 T H m=>∃ (i2:Nat) (c2:Int),i2 + k2=qs.l.length ∧ T 8 = .i64 i2 ∧ T 1 = .i64 c2 ∧ fB nq (qs.l.drop i2) c2=C ∧ H 0 = .box 38 ((QP.row f a).map .s)) (k0:=qs.l.length) ⟨0,_,by omega,rfl,rfl,hC,hH⟩ ?_
    rintro k2 T2 H2 n2 hf2 ⟨j,c2,hjk,hj8,g1,hne,gH⟩
    have g2:T2 2 = .ptr 0 0:=(hf2 2 rfl).trans h2
    have g7:T2 7 = .i64 i:=(hf2 7 rfl).trans hi5
    clear hf2
    have hwj:=fun h=>wrap_suc (j:=j) h
    cases he:(decide ((j:Int) < (qs.l.length:Int)) && decide ((0:Int) ≤ c2)) with
    | true =>
     obtain ⟨hj,hsu⟩:=fB_step he hne
     obtain ⟨d3,d4⟩:=Bool.and_eq_true_iff.1 he
     have hjn:(0:Int) ≤ j ∧ (j:Int) < qs.l.length:=⟨by omega,by omega⟩
     have hld:=fun HH=>(q_ags hf).load (l:=qs.l) (j:=j) (H:=HH) hj
     have hlq:qs.l.length ≤ mxL:=hwX.1
     simp only [go_sem,reduceIte,rA,rB,rC,rD,QP.row,FrP.row,g1,g2,g7,hj8,gH,d3,d4,hin,hia,hx1,(q_ags hf).ia,hjn,hld,and_self,decide_true,Int.toNat_natCast]
     refine WC_p rfl (by rw [pure_st]; rfl) (hN _ _ (hwX.2 _ (getD_mem (l:=qs.l) default hj))) ?_
     simp only [go_sem,reduceIte,rA,rB,rC,rD,hj8,hwj (by omega)]
     exact ⟨k2 - 1,by omega,j + 1,_,by omega,rfl,rfl,hsu,gH⟩
    | false =>
     have hc2:=fB_end he hne
     subst hc2
     simp only [go_sem,reduceIte,rA,rB,rC,rD,QP.row,FrP.row,g1,g2,g7,hj8,gH,he,hin,hia,hx1,and_self,decide_true,Int.toNat_natCast,hwi (show i < 9223372036854775807 by omega)]
     exact ⟨k' - 1,by omega,i + 1,_,by omega,rfl,rfl,hst'⟩
   | false =>
    have hc:=fB_end hd hnd
    subst hc
    simp only [go_sem,reduceIte,rA,rB,rC,rD,QP.row,h1,h2,hi5,hH,hd]
    refine WC_p rfl rfl (e5 _) ?_
    simp only [go_sem,reduceIte,rA,rB,rC,rD,QP.row,h2,hH]
    refine WC_p rfl rfl (e7 _) ?_
    simp only [go_sem,reduceIte,rA,rB,rC,rD,QP.row,h2,hH]
    generalize hB3:fB (nodMb nq) a.mb.l _=B3
    refine WP_loop rfl (fun k' T H m=>∃ (i:Nat) (c:Int),i + k'=a.mb.l.length ∧ T 9 = .i64 i ∧ T 1 = .i64 c ∧ fB (nodMb nq) (a.mb.l.drop i) c=B3 ∧ H 0 = .box 38 ((QP.row f a).map .s)) (k0:=a.mb.l.length) ⟨0,_,by omega,rfl,rfl,hB3,hH⟩ ?_
    rintro k' T' H' n' hf' ⟨i,c,hik,hi5,h1,hnd,hH⟩
    have h2:T' 2 = .ptr 0 0:=(hf' 2 rfl).trans h2
    clear hf'
    have hwi:=fun h=>wrap_suc (j:=i) h
    cases hd:(decide ((i:Int) < (a.mb.l.length:Int)) && decide ((0:Int) ≤ c)) with
    | true =>
     obtain ⟨hi,hst⟩:=fB_step hd hnd
     obtain ⟨d1,d2⟩:=Bool.and_eq_true_iff.1 hd
     have hin:(0:Int) ≤ i ∧ (i:Int) < a.mb.l.length:=⟨by omega,by omega⟩
     have hmx:mxL=9223372036854775807:=rfl
     have hml:=hw.lmb
     have hwX:=hw.mb _ (getD_mem (l:=a.mb.l) default hi)
     have hx1:∀ agg sz off HH,loadM agg sz HH (.eptr (a.mb.l.map (MbP.row f)) i off)=loadS agg sz (MbP.row f (a.mb.l.getD i default)) off:=fun agg sz off HH=>by rw [load_eptr,if_pos hi]
     have hia:=fun (s:Slc (MbP Q)) (HH:Ob) (kk:IntKind) (ii:Int)=>(mb_ags hf).ia (s:=s) (H:=HH) (k:=kk) (i:=ii)
     generalize a.mb.l.getD i default=X at hst hwX hx1
     obtain ⟨no,ex,mq⟩:=X
     have t1:=hf mq
     have t3:List.take 10 (f mq)=f mq:=List.take_of_length_le (by omega)
     simp only [go_sem,reduceIte,rA,rB,rC,rD,QP.row,h1,h2,hi5,hH,d1,d2,hin,hia,hx1,h40,and_self,decide_true,Int.toNat_natCast,MbP.row,List.drop_succ_cons,List.drop_zero,List.length_cons,t1,t3]
     refine WC_p rfl rfl (exprs_nod ex _ hwX.1 hwX.2.1) ?_
     simp only [go_sem,reduceIte,rA,rB,rC,rD,QP.row,h1,h2,hi5,hH,d1,d2,hin,hia,hx1,h40,and_self,decide_true,Int.toNat_natCast,MbP.row,List.drop_succ_cons,List.drop_zero,List.length_cons,t1,t3]
     refine WC_p rfl (by rw [pure_st]; rfl) (hN mq _ hwX.2.2) ?_
     simp only [go_sem,reduceIte,rA,rB,rC,rD,hi5,hwi (by omega)]
     exact ⟨k' - 1,by omega,i + 1,_,by omega,rfl,rfl,hst,hH⟩
    | false =>
     have hc:=fB_end hd hnd
     subst hc
     simp only [go_sem,reduceIte,rA,rB,rC,rD,QP.row,h1,h2,hi5,hH,hd]
     generalize hB4:fB nodHv a.hv.l _=B4
     refine WP_loop rfl (fun k' T H m=>∃ (i:Nat) (c:Int),i + k'=a.hv.l.length ∧ T 10 = .i64 i ∧ T 1 = .i64 c ∧ fB nodHv (a.hv.l.drop i) c=B4 ∧ H 0 = .box 38 ((QP.row f a).map .s)) (k0:=a.hv.l.length) ⟨0,_,by omega,rfl,h1,hB4,hH⟩ ?_
     rintro k' T' H' n' hf' ⟨i,c,hik,hi5,h1,hnd,hH⟩
     have h2:T' 2 = .ptr 0 0:=(hf' 2 rfl).trans h2
     clear hf'
     have hwi:=fun h=>wrap_suc (j:=i) h
     cases hd:(decide ((i:Int) < (a.hv.l.length:Int)) && decide ((0:Int) ≤ c)) with
     | true =>
      obtain ⟨hi,hst⟩:=fB_step hd hnd
      obtain ⟨d1,d2⟩:=Bool.and_eq_true_iff.1 hd
      have hin:(0:Int) ≤ i ∧ (i:Int) < a.hv.l.length:=⟨by omega,by omega⟩
      have hmx:mxL=9223372036854775807:=rfl
      have hml:=hw.lhv
      have hwX:=hw.hv _ (getD_mem (l:=a.hv.l) default hi)
      have hx1:∀ agg sz off HH,loadM agg sz HH (.eptr (a.hv.l.map (Hv.row)) i off)=loadS agg sz (Hv.row (a.hv.l.getD i default)) off:=fun agg sz off HH=>by rw [load_eptr,if_pos hi]
      have hia:=fun (s:Slc Hv) (HH:Ob) (kk:IntKind) (ii:Int)=>(hv_ags).ia (s:=s) (H:=HH) (k:=kk) (i:=ii)
      generalize a.hv.l.getD i default=X at hst hwX hx1
      obtain ⟨⟨k,v,tb,nm,op,fn,fl,xs⟩,hop,hb⟩:=X
      have hcall:=fun b=>nodes_ok _ (Tr.mk k v tb nm op fn fl xs) b (Nat.le_refl _) hwX.1
      simp only [row_mk] at hcall
      simp only [go_sem,reduceIte,rA,rB,rC,rD,QP.row,h1,h2,hi5,hH,d1,d2,hin,hia,hx1,h40,and_self,decide_true,Int.toNat_natCast,Hv.row,Val.row,row_mk,List.cons_append,List.nil_append]
      refine WC_p rfl rfl (hcall _) ?_
      simp only [go_sem,reduceIte,rA,rB,rC,rD,hi5,hwi (by omega)]
      exact ⟨k' - 1,by omega,i + 1,_,by omega,rfl,rfl,hst,hH⟩
     | false =>
      have hc:=fB_end hd hnd
      subst hc
      simp only [go_sem,reduceIte,rA,rB,rC,rD,QP.row,h1,h2,hi5,hH,hd]
      generalize hB5:fB nq a.ar.l _=B5
      refine WP_loop rfl (fun k' T H m=>∃ (i:Nat) (c:Int),i + k'=a.ar.l.length ∧ T 11 = .i64 i ∧ T 1 = .i64 c ∧ fB nq (a.ar.l.drop i) c=B5 ∧ H 0 = .box 38 ((QP.row f a).map .s)) (k0:=a.ar.l.length) ⟨0,_,by omega,rfl,h1,hB5,hH⟩ ?_
      rintro k' T' H' n' hf' ⟨i,c,hik,hi5,h1,hnd,hH⟩
      have h2:T' 2 = .ptr 0 0:=(hf' 2 rfl).trans h2
      clear hf'
      have hwi:=fun h=>wrap_suc (j:=i) h
      cases hd:(decide ((i:Int) < (a.ar.l.length:Int)) && decide ((0:Int) ≤ c)) with
      | true =>
       obtain ⟨hi,hst⟩:=fB_step hd hnd
       obtain ⟨d1,d2⟩:=Bool.and_eq_true_iff.1 hd
       have hin:(0:Int) ≤ i ∧ (i:Int) < a.ar.l.length:=⟨by omega,by omega⟩
       have hmx:mxL=9223372036854775807:=rfl
       have hml:=hw.lar
       have hwX:=hw.ar _ (getD_mem (l:=a.ar.l) default hi)
       have hx1:∀ agg sz off HH,loadM agg sz HH (.eptr (a.ar.l.map (f)) i off)=loadS agg sz (f (a.ar.l.getD i default)) off:=fun agg sz off HH=>by rw [load_eptr,if_pos hi]
       have hia:=fun (s:Slc Q) (HH:Ob) (kk:IntKind) (ii:Int)=>(q_ags hf).ia (s:=s) (H:=HH) (k:=kk) (i:=ii)
       generalize a.ar.l.getD i default=X at hst hwX hx1
       have t1:=hf X
       have t3:List.take 10 (f X)=f X:=List.take_of_length_le (by omega)
       simp only [go_sem,reduceIte,rA,rB,rC,rD,QP.row,h1,h2,hi5,hH,d1,d2,hin,hia,hx1,h40,and_self,decide_true,Int.toNat_natCast,List.drop_succ_cons,List.drop_zero,List.length_cons,t1,t3]
       refine WC_p rfl (by rw [pure_st]; rfl) (hN X _ hwX) ?_
       simp only [go_sem,reduceIte,rA,rB,rC,rD,hi5,hwi (by omega)]
       exact ⟨k' - 1,by omega,i + 1,_,by omega,rfl,rfl,hst,hH⟩
      | false =>
       have hc:=fB_end hd hnd
       subst hc
       simp only [go_sem,reduceIte,rA,rB,rC,rD,QP.row,h1,h2,hi5,hH,hd]
end
def QN.nod:∀ n,QN n→Int→Int
 | 0,_,b=>IntKind.i64.wrap (b - 1)
 | n + 1,q,b=>nodQP (QN.nod n) q b
theorem wf_zero:wfQP (fun _:Unit=>False) (⟨0,.nil,false,.nil,.nil,.nil,.nil,.nil,.nil,.nil⟩:QP Unit):=⟨by decide,nofun,by decide,nofun,by decide,nofun,by decide,nofun,by decide,nofun,by decide,nofun,by decide,nofun,by decide,nofun,nofun,nofun,nofun,nofun,nofun,nofun,nofun,by decide⟩
theorem queries_ok:∀ (n:Nat) (a:QN n) (b:Int),QN.wf n a→calL EE 56 [.st (QN.row n a),.i64 b] []=some (.ret (.i64 (QN.nod n a b)),[])
 | 0,_,b,_=>query_nod (Q:=Unit) (f:=fun _=>qzRow) (w:=fun _=>False) (nq:=fun _ x=>x) (fun _=>rfl) (fun _ _ h=>h.elim) ⟨0,.nil,false,.nil,.nil,.nil,.nil,.nil,.nil,.nil⟩ b wf_zero
 | n + 1,a,b,h=>query_nod (qn_len n) (queries_ok n) a b h
end Go.Vm
end
section
set_option linter.unusedVariables false
set_option linter.unusedSimpArgs false
set_option maxRecDepth 100000
namespace Go.Vm
open Go
theorem cntL_sum:∀ l:List Tr,cntL l=(l.map cnt).sum
 | []=>by rw [cntL]; rfl
 | a :: r=>by rw [cntL,cntL_sum r]; rfl
def Stp {α:Type} (g:α→Int→Int) (c:α→Nat) (x:α):Prop:=∀ b,0 ≤ b→b ≤ 1000000 → -1000000000000000 - b ≤ g x b ∧ g x b ≤ b ∧ (0 ≤ g x b→(c x:Int) + g x b ≤ b)
def Chn (F:Int→Int) (s:Nat):Prop:=∀ b,b ≤ 1000000→(b < 0→F b=b) ∧ (0 ≤ b → -1000000000000000 - b ≤ F b ∧ F b ≤ b ∧ (0 ≤ F b→(s:Int) + F b ≤ b))
theorem fB_chn {α:Type} {g:α→Int→Int} {c:α→Nat}:∀ {l:List α},(∀ x ∈ l,Stp g c x)→Chn (fB g l) (l.map c).sum
 | [],_=>fun b hb=>⟨fun _=>rfl,fun h=>⟨by show _ ≤ b; omega,Int.le_refl _,fun _=>by show ((0:Nat):Int) + b ≤ b; omega⟩⟩
 | a :: r,h=>fun b hb=>⟨fun hn=>fB_neg hn,fun h0=>by
   obtain ⟨k1,k2,k3⟩:=h a (List.mem_cons_self ..) b h0 hb
   obtain ⟨m1,m2⟩:=fB_chn (l:=r) (fun x hx=>h x (List.mem_cons_of_mem _ hx)) (g a b) (by omega)
   rw [fB,if_neg (by omega),List.map_cons,List.sum_cons]
   by_cases hn:g a b < 0
   ·rw [m1 hn]
    exact ⟨k1,k2,fun h=>by omega⟩
   ·obtain ⟨n1,n2,n3⟩:=m2 (by omega)
    exact ⟨by omega,by omega,fun h=>by have:=n3 h; have:=k3 (by omega); omega⟩⟩
theorem chn_comp {F G:Int→Int} {s t:Nat} (hF:Chn F s) (hG:Chn G t):Chn (fun b=>G (F b)) (s + t):=fun b hb=>by
 obtain ⟨f1,f2⟩:=hF b hb
 refine ⟨fun hn => ?_,fun h0 => ?_⟩
 ·show G (F b)=b
  rw [f1 hn]
  exact (hG b hb).1 hn
 ·obtain ⟨k1,k2,k3⟩:=f2 h0
  obtain ⟨g1,g2⟩:=hG (F b) (by omega)
  show _ ≤ G (F b) ∧ G (F b) ≤ b ∧ (0 ≤ G (F b)→((s + t:Nat):Int) + G (F b) ≤ b)
  by_cases hn:F b < 0
  ·rw [g1 hn]
   exact ⟨k1,k2,fun h=>by omega⟩
  ·obtain ⟨n1,n2,n3⟩:=g2 (by omega)
   exact ⟨by omega,by omega,fun h=>by have:=n3 h; have:=k3 (by omega); omega⟩
theorem quo_rb {n:Nat} (h:n ≤ RB):IntKind.i64.wrap ((n:Int).tdiv 40)=((n / 40:Nat):Int) ∧ ((n / 40:Nat):Int) ≤ 4000000000000:=by
 have hRB:RB=140737488351232:=rfl
 rw [Int.tdiv_eq_ediv_of_nonneg (by omega)]
 have e:(n:Int) / 40=((n / 40:Nat):Int):=by omega
 rw [e,wrap_in (by omega) (by omega)]
 exact ⟨rfl,by omega⟩
theorem nod_stp {t:Tr} (h:rc t):Stp nod cnt t:=fun b h0 h1=>by
 obtain ⟨k1,k2,k3⟩:=nod_rc t h b (by omega) h1
 exact ⟨by omega,by omega,k3⟩
section
variable {Q:Type} (c:Q→Nat)
def cntCm (x:CmP Q):Nat:=1 + x.cols.l.length + c x.base + c x.step
def cntFr (x:FrP Q):Nat:=1 + (x.q.l.map c).sum
def cntMb (x:MbP Q):Nat:=(x.ex.l.map cnt).sum + c x.q
def cntQP (q:QP Q):Nat:=1 + ((q.wi.l.map (cntCm c)).sum + (q.it.l.map fun x=>cnt x.e).sum + (q.fr.l.map (cntFr c)).sum + (q.wh.l.map cnt).sum + (q.gb.l.map cnt).sum + (q.mb.l.map (cntMb c)).sum + (q.hv.l.map fun x=>1 + cnt x.c).sum + (q.ar.l.map c).sum)
end
def CQ {Q:Type} (n:Q→Int→Int) (c:Q→Nat) (x:Q):Prop:=Stp n c x ∧ ∀ b,-2000000000000000 ≤ b→b < 0→n x b=b - 1
section
variable {Q:Type} {n:Q→Int→Int} {c:Q→Nat} {w:Q→Prop} (hC:∀ x,w x→CQ n c x)
include hC
theorem cm_stp {x:CmP Q} (hw:wfCm w x) (h1:x.name.length ≤ RB) (h2:x.cols.l.length ≤ RB):Stp (nodCm n) (cntCm c) x:=fun b h0 hb=>by
 obtain ⟨q1,q2⟩:=quo_rb h1
 have hRB:RB=140737488351232:=rfl
 obtain ⟨s1,s2⟩:=hC _ hw.2.1
 obtain ⟨t1,t2⟩:=hC _ hw.2.2
 unfold nodCm cntCm
 rw [q1,wrap_in (x:=b - 1) (by omega) (by omega),wrap_in (x:=b - 1 - (x.cols.l.length:Int)) (by omega) (by omega),wrap_in (by omega) (by omega)]
 have hq0:(0:Int) ≤ ((x.name.length / 40:Nat):Int):=Int.natCast_nonneg _
 generalize ((x.name.length / 40:Nat):Int)=u at q2 hq0
 by_cases hn:b - 1 - (x.cols.l.length:Int) - u < 0
 ·rw [s2 _ (by omega) hn,t2 _ (by omega) (by omega)]
  exact ⟨by omega,by omega,fun h=>by omega⟩
 ·obtain ⟨k1,k2,k3⟩:=s1 (b - 1 - (x.cols.l.length:Int) - u) (by omega) (by omega)
  generalize n x.base (b - 1 - (x.cols.l.length:Int) - u)=r at k1 k2 k3
  by_cases hr:r < 0
  ·rw [t2 _ (by omega) hr]
   exact ⟨by omega,by omega,fun h=>by omega⟩
  ·obtain ⟨m1,m2,m3⟩:=t1 r (by omega) (by omega)
   exact ⟨by omega,by omega,fun h=>by have:=m3 h; have:=k3 (by omega); omega⟩
theorem fr_stp {x:FrP Q} (hw:wfFr w x) (h1:x.name.length ≤ RB):Stp (nodFr n) (cntFr c) x:=fun b h0 hb=>by
 obtain ⟨q1,q2⟩:=quo_rb h1
 unfold nodFr cntFr
 have hq0:(0:Int) ≤ ((x.name.length / 40:Nat):Int):=Int.natCast_nonneg _
 rw [q1]
 generalize ((x.name.length / 40:Nat):Int)=u at q2 hq0
 rw [wrap_in (x:=1 + u) (by omega) (by omega),wrap_in (by omega) (by omega)]
 have hch:=fB_chn (g:=n) (c:=c) (l:=x.q.l) (fun y hy=>(hC y (hw.2 y hy)).1) (b - (1 + u)) (by omega)
 by_cases hn:b - (1 + u) < 0
 ·rw [hch.1 hn]
  exact ⟨by omega,by omega,fun h=>by omega⟩
 ·obtain ⟨k1,k2,k3⟩:=hch.2 (by omega)
  exact ⟨by omega,by omega,fun h=>by have:=k3 h; omega⟩
theorem mb_stp {x:MbP Q} (hw:wfMb w x) (h1:∀ t ∈ x.ex.l,rc t):Stp (nodMb n) (cntMb c) x:=fun b h0 hb=>by
 unfold nodMb cntMb
 rw [← nodL_fB,← cntL_sum]
 obtain ⟨k1,k2,k3⟩:=nodL_rc x.ex.l (rcL_of h1) b (by omega) hb
 obtain ⟨t1,t2⟩:=hC _ hw.2.2
 generalize nodL x.ex.l b=r at k1 k2 k3
 by_cases hr:r < 0
 ·rw [t2 _ (by omega) hr]
  exact ⟨by omega,by omega,fun h=>by omega⟩
 ·obtain ⟨m1,m2,m3⟩:=t1 r (by omega) (by omega)
  exact ⟨by omega,by omega,fun h=>by have:=m3 h; have:=k3 (by omega); omega⟩
omit hC in
theorem it_stp {x:Itm} (h1:rc x.e) (h2:x.alias.length ≤ RB):Stp nodItm (fun x:Itm=>cnt x.e) x:=fun b h0 hb=>by
 obtain ⟨q1,q2⟩:=quo_rb h2
 unfold nodItm
 have hq0:(0:Int) ≤ ((x.alias.length / 40:Nat):Int):=Int.natCast_nonneg _
 rw [q1]
 generalize ((x.alias.length / 40:Nat):Int)=u at q2 hq0
 rw [wrap_in (by omega) (by omega)]
 obtain ⟨k1,k2,k3⟩:=nod_rc x.e h1 (b - u) (by omega) (by omega)
 exact ⟨by omega,by omega,fun h=>by have:=k3 h; show (cnt x.e:Int) + _ ≤ _; omega⟩
omit hC in
theorem hv_stp {x:Hv} (h1:rc x.c):Stp nodHv (fun x:Hv=>1 + cnt x.c) x:=fun b h0 hb=>by
 unfold nodHv
 rw [wrap_in (by omega) (by omega)]
 obtain ⟨k1,k2,k3⟩:=nod_rc x.c h1 (b - 1) (by omega) (by omega)
 exact ⟨by omega,by omega,fun h=>by have:=k3 h; show ((1 + cnt x.c:Nat):Int) + _ ≤ _; omega⟩
theorem qp_cq {q:QP Q} (hw:wfQP w q):CQ (nodQP n) (cntQP c) q:=by
 have h:=chn_comp (chn_comp (chn_comp (chn_comp (chn_comp (chn_comp (chn_comp
  (fB_chn (g:=nodCm n) (c:=cntCm c) (l:=q.wi.l) fun x hx=>cm_stp hC (hw.wi x hx) (hw.rwi x hx).1 (hw.rwi x hx).2)
  (fB_chn (g:=nodItm) (c:=fun x:Itm=>cnt x.e) (l:=q.it.l) fun x hx=>it_stp (hw.rit x hx).1 (hw.rit x hx).2))
  (fB_chn (g:=nodFr n) (c:=cntFr c) (l:=q.fr.l) fun x hx=>fr_stp hC (hw.fr x hx) (hw.rfr x hx)))
  (fB_chn (g:=nod) (c:=cnt) (l:=q.wh.l) fun x hx=>nod_stp (hw.rwh x hx)))
  (fB_chn (g:=nod) (c:=cnt) (l:=q.gb.l) fun x hx=>nod_stp (hw.rgb x hx)))
  (fB_chn (g:=nodMb n) (c:=cntMb c) (l:=q.mb.l) fun x hx=>mb_stp hC (hw.mb x hx) (hw.rmb x hx)))
  (fB_chn (g:=nodHv) (c:=fun x:Hv=>1 + cnt x.c) (l:=q.hv.l) fun x hx=>hv_stp (hw.rhv x hx)))
  (fB_chn (g:=n) (c:=c) (l:=q.ar.l) fun x hx=>(hC x (hw.ar x hx)).1)
 refine ⟨fun b h0 hb => ?_,fun b h0 hn => ?_⟩
 ·obtain ⟨k1,k2⟩:=h (b - 1) (by omega)
  unfold nodQP cntQP
  rw [wrap_in (x:=b - 1) (by omega) (by omega)]
  by_cases hb0:b - 1 < 0
  ·have e:=k1 hb0
   simp only at e
   rw [e]
   exact ⟨by omega,by omega,fun h=>by omega⟩
  ·obtain ⟨m1,m2,m3⟩:=k2 (by omega)
   simp only at m1 m2 m3
   exact ⟨by omega,by omega,fun h=>by have:=m3 h; omega⟩
 ·obtain ⟨k1,_⟩:=h (b - 1) (by omega)
  have e:=k1 (by omega)
  simp only at e
  unfold nodQP
  rw [wrap_in (x:=b - 1) (by omega) (by omega),e]
end
def QN.cnt:∀ n,QN n→Nat
 | 0,_=>1
 | n + 1,q=>cntQP (QN.cnt n) q
theorem qn_cq:∀ (n:Nat) (a:QN n),QN.wf n a→CQ (QN.nod n) (QN.cnt n) a
 | 0,_,_=>⟨fun b h0 hb=>by
   show _ ≤ IntKind.i64.wrap (b - 1) ∧ IntKind.i64.wrap (b - 1) ≤ b ∧ (0 ≤ IntKind.i64.wrap (b - 1)→((1:Nat):Int) + IntKind.i64.wrap (b - 1) ≤ b)
   rw [wrap_in (x:=b - 1) (by omega) (by omega)]
   exact ⟨by omega,by omega,fun _=>by omega⟩,fun b h0 hn=>by
   show IntKind.i64.wrap (b - 1)=b - 1
   exact wrap_in (by omega) (by omega)⟩
 | n + 1,a,h=>qp_cq (qn_cq n) h
theorem few_query {n:Nat} {a:QN n} (hw:QN.wf n a) {m:Int} (h0:0 ≤ m) (h1:m ≤ 1000000) (h:0 ≤ QN.nod n a m):(QN.cnt n a:Int) ≤ m:=by
 obtain ⟨_,_,k3⟩:=(qn_cq n a hw).1 m h0 h1
 have:=k3 h
 omega
end Go.Vm
end
