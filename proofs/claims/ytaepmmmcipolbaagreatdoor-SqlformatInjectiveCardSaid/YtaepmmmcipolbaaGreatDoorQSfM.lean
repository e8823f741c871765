/- Chapter 24: queries are compared. -/
import Derived.Test.YtaepmmmcipolbaaGreatDoorQSfL
import Derived.Test.YtaepmmmcipolbaaGreatDoorQSfAe
set_option linter.unusedVariables false
set_option linter.unusedSimpArgs false
set_option maxRecDepth 100000
namespace Go.Vm
open Nat renaming reduceEqDiff→rA,reduceAdd→rB,reduceLeDiff→rC,reduceLT→rD
open Go
theorem item_ok (a b:Itm) (ha:wf a.e):calL EE 71 [.st a.row,.st b.row] []=some (.ret (.bool (eqItm a b)),[]):=by
 obtain ⟨s,⟨k,v,tb,nm,op,fn,fl,xs⟩,al⟩:=a
 obtain ⟨s',⟨k',v',tb',nm',op',fn',fl',xs'⟩,al'⟩:=b
 have e:=equal_ok _ _ (.mk k' v' tb' nm' op' fn' fl' xs') (Nat.le_refl _) ha
 refine fn_ok f71 (by simp) ?_
 unfold c71
 show WP EE _ (enter [.st (.bool s :: ((Tr.mk k v tb nm op fn fl xs).row ++ [.str al])),.st (.bool s' :: ((Tr.mk k' v' tb' nm' op' fn' fl' xs').row ++ [.str al']))]) _ _ (Fin _ (.bool ((s == s') && decide (al=al') && eqT (.mk k v tb nm op fn fl xs) (.mk k' v' tb' nm' op' fn' fl' xs'))))
 rw [row_mk,row_mk] at e ⊢
 simp only [go_sem,reduceIte,rA,rB,rC,rD,List.cons_append,List.nil_append]
 generalize eqT _ _=r at e
 generalize ((s == s') && decide (al=al'))=F
 cases F with
 | true =>
  simp only [go_sem,reduceIte,rA,rB,rC,rD]
  refine WC_p rfl rfl e ?_
  simp only [go_sem,reduceIte,rA,rB,rC,rD]
 | false=>simp only [go_sem,reduceIte,rA,rB,rC,rD]
theorem having_ok (a b:Hv) (ha:wf a.c):calL EE 77 [.st a.row,.st b.row] []=some (.ret (.bool (eqHv a b)),[]):=by
 obtain ⟨⟨k,v,tb,nm,op,fn,fl,xs⟩,o,w⟩:=a
 obtain ⟨⟨k',v',tb',nm',op',fn',fl',xs'⟩,o',w'⟩:=b
 have e:=equal_ok _ _ (.mk k' v' tb' nm' op' fn' fl' xs') (Nat.le_refl _) ha
 refine fn_ok f77 (by simp) ?_
 unfold c77
 show WP EE _ (enter [.st ((Tr.mk k v tb nm op fn fl xs).row ++ (.int .i64 o :: w.row)),.st ((Tr.mk k' v' tb' nm' op' fn' fl' xs').row ++ (.int .i64 o' :: w'.row))]) _ _ (Fin _ (.bool (decide (o=o') && decide (w=w') && eqT (.mk k v tb nm op fn fl xs) (.mk k' v' tb' nm' op' fn' fl' xs'))))
 rw [row_mk,row_mk] at e ⊢
 simp only [go_sem,reduceIte,rA,rB,rC,rD,List.cons_append,List.nil_append,Val.row,flat_eql,svEqs_int,svEqs_str,svEqs_nil,bnd_some,val_dec]
 generalize eqT _ _=r at e
 generalize (decide (o=o') && decide (w=w'))=F
 cases F with
 | true =>
  simp only [go_sem,reduceIte,rA,rB,rC,rD]
  refine WC_p rfl rfl e ?_
  simp only [go_sem,reduceIte,rA,rB,rC,rD]
 | false=>simp only [go_sem,reduceIte,rA,rB,rC,rD]
theorem exprs_eq (x y:Slc Tr) (hx:x.l.length ≤ mxL) (hw:∀ t ∈ x.l,wf t):calL EE 67 [.s (x.sv Tr.row),.s (y.sv Tr.row),.s (.func 23)] []=some (.ret (.bool (eqF eqT x.l y.l)),[]) :=
 eq_func tr_ags (z:=[.int .i64 0,.int .i64 0,.int .i64 0,.str [],.str [],.str [],.int .i64 0,.int .i64 0,.nils]) rfl f67 (by decide) x y hx 23 rfl eqT fun j hj _=>equal_ok _ _ _ (Nat.le_refl _) (hw _ (getD_mem (l:=x.l) default hj))
theorem tx_load {l:List (List UInt8)} {j:Nat} {H:Ob} (hj:j < l.length):loadM false 1 H (.eptr (l.map txRow) j 0)=some (.s (.str (l.getD j []))):=by
 rw [load_eptr (agg:=false),if_pos hj]
 rfl
theorem names_eq (x y:Slc (List UInt8)) (hx:x.l.length ≤ mxL):calL EE 81 [.s (x.sv txRow),.s (y.sv txRow)] []=some (.ret (.bool (eqF eqN x.l y.l)),[]):=by
 refine fn_ok f81 (by simp) ?_
 unfold c81
 by_cases hl:x.l.length=y.l.length
 ·have hd:decide ((x.l.length:Int)=(y.l.length:Int))=true:=decide_eq_true (by omega)
  simp only [go_sem,reduceIte,rA,rB,rC,rD,hd]
  refine WP_scan rfl 13 x.l.length (fun j=>eqN (x.l.getD j default) (y.l.getD j default)=true) (fun _ _ _ _=>True) rfl trivial ?_ ?_
  ·rintro j T' H' n' hlt hf hi _ _
   have h0:T' 0 = .s (x.sv txRow):=hf 0 rfl
   have h1:T' 1 = .s (y.sv txRow):=hf 1 rfl
   have h12:T' 12 = .i64 x.l.length:=hf 12 rfl
   clear hf
   have hly:j < y.l.length:=by omega
   have hji:(j:Int) < x.l.length:=by omega
   have hjy:(j:Int) < y.l.length:=by omega
   have hj0:(0:Int) ≤ j:=by omega
   have hwj:=wrap_suc (j:=j) (by have:mxL=9223372036854775807:=rfl; omega)
   have hx1:=fun HH=>tx_load (H:=HH) hlt
   have hy1:=fun HH=>tx_load (H:=HH) hly
   simp only [go_sem,reduceIte,rA,rB,rC,rD,h0,h1,h12,hi,hji,hjy,hj0,and_self,decide_true,ia_tx,Int.toNat_natCast,hx1,hy1]
   cases hb:eqN (x.l.getD j default) (y.l.getD j default) with
   | true =>
    have hb':decide (x.l.getD j []=y.l.getD j [])=true:=hb
    simp only [go_sem,reduceIte,rA,rB,rC,rD,hi,hwj,hb,hb']
   | false =>
    have hb':decide (x.l.getD j []=y.l.getD j [])=false:=hb
    simp only [go_sem,reduceIte,rA,rB,rC,rD,hi,hwj,hb,hb',eqF_bad hl hlt hb]
  ·rintro T' H' n' hf hi _ hp
   have h12:T' 12 = .i64 x.l.length:=hf 12 rfl
   clear hf
   simp only [go_sem,reduceIte,rA,rB,rC,rD,h12,hi,Int.lt_irrefl,decide_false,eqF_good hl hp]
 ·have hd:decide ((x.l.length:Int)=(y.l.length:Int))=false:=decide_eq_false (by omega)
  simp only [go_sem,reduceIte,rA,rB,rC,rD,hd,eqF_no hl]
section
variable {Q:Type} [Inhabited Q] {f:Q→List SV} (hf:∀ x,(f x).length=10) {q:Q→Q→Bool} {w:Q→Prop}
 (hE:∀ a b,w a→calL EE 24 [.st (f a),.st (f b)] []=some (.ret (.bool (q a b)),[]))
 (hS:∀ a b,w a→calL EE 32 [.st (f a),.st (f b)] []=some (.ret (.bool (q a b)),[]))
include hf
omit [Inhabited Q] in
theorem two10 (a b:Q):List.take 10 (f a ++ f b)=f a ∧ List.drop 10 (f a ++ f b)=f b ∧ List.take 10 (f b)=f b ∧ (f a ++ f b).length=20 ∧ List.take 10 (f a)=f a:=by
 have ha:=hf a
 have hb:=hf b
 exact ⟨List.take_left' ha,List.drop_left' ha,List.take_of_length_le (by omega),by rw [List.length_append]; omega,List.take_of_length_le (by omega)⟩
omit [Inhabited Q] in
include hE in
theorem common_ok (a b:CmP Q) (ha:wfCm w a):calL EE 69 [.st (CmP.row f a),.st (CmP.row f b)] []=some (.ret (.bool (eqCm q a b)),[]):=by
 obtain ⟨h1,h2,h3⟩:=ha
 have e1:=names_eq a.cols b.cols h1
 have e2:=hE _ b.base h2
 have e3:=hE _ b.step h3
 obtain ⟨t1,t2,t3,t4,t5⟩:=two10 hf a.base a.step
 obtain ⟨s1,s2,s3,s4,s5⟩:=two10 hf b.base b.step
 refine fn_ok f69 (by simp) ?_
 unfold c69 eqCm CmP.row
 generalize eqF eqN a.cols.l b.cols.l=r1 at e1
 generalize q a.base b.base=r2 at e2
 generalize q a.step b.step=r3 at e3
 simp only [go_sem,reduceIte,rA,rB,rC,rD]
 cases hF:decide (a.name=b.name) with
 | false=>simp only [go_sem,reduceIte,rA,rB,rC,rD,hF]
 | true =>
  simp only [go_sem,reduceIte,rA,rB,rC,rD,hF]
  refine WC_p rfl rfl e1 ?_
  cases r1 with
  | false=>simp only [go_sem,reduceIte,rA,rB,rC,rD,hF]
  | true =>
   simp only [go_sem,reduceIte,rA,rB,rC,rD,hF,List.drop_succ_cons,List.drop_zero,List.length_cons,t1,t2,t3,t4,t5,s1,s2,s3,s4,s5]
   refine WC_p rfl (by rw [pure_st,pure_st]; rfl) e2 ?_
   cases r2 with
   | false=>simp only [go_sem,reduceIte,rA,rB,rC,rD,hF]
   | true =>
    simp only [go_sem,reduceIte,rA,rB,rC,rD,hF,List.drop_succ_cons,List.drop_zero,List.length_cons,t1,t2,t3,t4,t5,s1,s2,s3,s4,s5]
    refine WC_p rfl (by rw [pure_st,pure_st]; rfl) e3 ?_
    simp only [go_sem,reduceIte,rA,rB,rC,rD,hF]
include hE in
theorem from_ok (a b:FrP Q) (ha:wfFr w a):calL EE 73 [.st (FrP.row f a),.st (FrP.row f b)] []=some (.ret (.bool (eqFr q a b)),[]):=by
 have e1:=eq_func (q_ags hf) (z:=qzRow) rfl f78 (by decide) a.q b.q ha.1 24 rfl q fun j hj _=>hE _ _ (ha.2 _ (getD_mem (l:=a.q.l) default hj))
 refine fn_ok f73 (by simp) ?_
 unfold c73 eqFr FrP.row
 simp only [go_sem,reduceIte,rA,rB,rC,rD]
 generalize eqF q a.q.l b.q.l=r at e1
 generalize (decide (a.name=b.name) && decide (a.alias=b.alias))=F
 cases F with
 | true =>
  simp only [go_sem,reduceIte,rA,rB,rC,rD]
  refine WC_p rfl rfl e1 ?_
  simp only [go_sem,reduceIte,rA,rB,rC,rD]
 | false=>simp only [go_sem,reduceIte,rA,rB,rC,rD]
omit [Inhabited Q] in
include hE in
theorem member_ok (a b:MbP Q) (ha:wfMb w a):calL EE 75 [.st (MbP.row f a),.st (MbP.row f b)] []=some (.ret (.bool (eqMb q a b)),[]):=by
 obtain ⟨h1,h2,h3⟩:=ha
 have e1:=exprs_eq a.ex b.ex h1 h2
 have e2:=hE _ b.q h3
 have la:=hf a.q
 have lb:=hf b.q
 have t1:List.take 10 (f a.q)=f a.q:=List.take_of_length_le (by omega)
 have s1:List.take 10 (f b.q)=f b.q:=List.take_of_length_le (by omega)
 refine fn_ok f75 (by simp) ?_
 unfold c75 eqMb MbP.row
 generalize eqF eqT a.ex.l b.ex.l=r1 at e1
 generalize q a.q b.q=r2 at e2
 simp only [go_sem,reduceIte,rA,rB,rC,rD]
 cases hF:(a.no == b.no) with
 | false=>simp only [go_sem,reduceIte,rA,rB,rC,rD,hF]
 | true =>
  simp only [go_sem,reduceIte,rA,rB,rC,rD,hF]
  refine WC_p rfl rfl e1 ?_
  cases r1 with
  | false=>simp only [go_sem,reduceIte,rA,rB,rC,rD,hF]
  | true =>
   simp only [go_sem,reduceIte,rA,rB,rC,rD,hF,List.drop_succ_cons,List.drop_zero,List.length_cons,la,lb,t1,s1]
   refine WC_p rfl (by rw [pure_st,pure_st]; rfl) e2 ?_
   simp only [go_sem,reduceIte,rA,rB,rC,rD,hF]
include hE in
set_option maxHeartbeats 4000000 in
theorem query_eq (a b:QP Q) (ha:wfQP w a):calL EE 24 [.st (QP.row f a),.st (QP.row f b)] []=some (.ret (.bool (eqQP q a b)),[]):=by
 have e1:=eq_func (cm_ags hf) (z := .str [] :: .nils :: (qzRow ++ qzRow)) rfl f68 (by decide) a.wi b.wi ha.lwi 69 rfl (eqCm q) fun j hj _=>common_ok hf hE _ _ (ha.wi _ (getD_mem (l:=a.wi.l) default hj))
 have e2:=eq_func itm_ags (z := .bool false :: ([.int .i64 0,.int .i64 0,.int .i64 0,.str [],.str [],.str [],.int .i64 0,.int .i64 0,.nils] ++ [.str []])) rfl f70 (by decide) a.it b.it ha.lit 71 rfl eqItm fun j hj _=>item_ok _ _ (ha.it _ (getD_mem (l:=a.it.l) default hj))
 have e3:=eq_func fr_ags (z:=[.str [],.str [],.nils]) rfl f72 (by decide) a.fr b.fr ha.lfr 73 rfl (eqFr q) fun j hj _=>from_ok hf hE _ _ (ha.fr _ (getD_mem (l:=a.fr.l) default hj))
 have e4:=exprs_eq a.wh b.wh ha.lwh ha.wh
 have e5:=eq_func (mb_ags hf) (z := .bool false :: .nils :: qzRow) rfl f74 (by decide) a.mb b.mb ha.lmb 75 rfl (eqMb q) fun j hj _=>member_ok hf hE _ _ (ha.mb _ (getD_mem (l:=a.mb.l) default hj))
 have e6:=exprs_eq a.gb b.gb ha.lgb ha.gb
 have e7:=eq_func hv_ags (z:=[.int .i64 0,.int .i64 0,.int .i64 0,.str [],.str [],.str [],.int .i64 0,.int .i64 0,.nils,.int .i64 0,.int .i64 0,.int .i64 0,.str []]) rfl f76 (by decide) a.hv b.hv ha.lhv 77 rfl eqHv fun j hj _=>having_ok _ _ (ha.hv _ (getD_mem (l:=a.hv.l) default hj)).1
 have e8:=eq_func (q_ags hf) (z:=qzRow) rfl f78 (by decide) a.ar b.ar ha.lar 24 rfl q fun j hj _=>hE _ _ (ha.ar _ (getD_mem (l:=a.ar.l) default hj))
 refine fn_ok f24 (by simp) ?_
 unfold c24 eqQP QP.row
 generalize eqF (eqCm q) a.wi.l b.wi.l=r1 at e1
 generalize eqF eqItm a.it.l b.it.l=r2 at e2
 generalize eqF (eqFr q) a.fr.l b.fr.l=r3 at e3
 generalize eqF eqT a.wh.l b.wh.l=r4 at e4
 generalize eqF (eqMb q) a.mb.l b.mb.l=r5 at e5
 generalize eqF eqT a.gb.l b.gb.l=r6 at e6
 generalize eqF eqHv a.hv.l b.hv.l=r7 at e7
 generalize eqF q a.ar.l b.ar.l=r8 at e8
 simp only [go_sem,reduceIte,rA,rB,rC,rD]
 generalize (decide (a.k=b.k) && (a.ds == b.ds))=F
 cases F with
 | false=>simp only [go_sem,reduceIte,rA,rB,rC,rD]
 | true =>
  simp only [go_sem,reduceIte,rA,rB,rC,rD]
  refine WC_p rfl rfl e1 ?_
  cases r1 with
  | false=>simp only [go_sem,reduceIte,rA,rB,rC,rD]
  | true =>
   simp only [go_sem,reduceIte,rA,rB,rC,rD]
   refine WC_p rfl rfl e2 ?_
   cases r2 with
   | false=>simp only [go_sem,reduceIte,rA,rB,rC,rD]
   | true =>
    simp only [go_sem,reduceIte,rA,rB,rC,rD]
    refine WC_p rfl rfl e3 ?_
    cases r3 with
    | false=>simp only [go_sem,reduceIte,rA,rB,rC,rD]
    | true =>
     simp only [go_sem,reduceIte,rA,rB,rC,rD]
     refine WC_p rfl rfl e4 ?_
     cases r4 with
     | false=>simp only [go_sem,reduceIte,rA,rB,rC,rD]
     | true =>
      simp only [go_sem,reduceIte,rA,rB,rC,rD]
      refine WC_p rfl rfl e5 ?_
      cases r5 with
      | false=>simp only [go_sem,reduceIte,rA,rB,rC,rD]
      | true =>
       simp only [go_sem,reduceIte,rA,rB,rC,rD]
       refine WC_p rfl rfl e6 ?_
       cases r6 with
       | false=>simp only [go_sem,reduceIte,rA,rB,rC,rD]
       | true =>
        simp only [go_sem,reduceIte,rA,rB,rC,rD]
        refine WC_p rfl rfl e7 ?_
        cases r7 with
        | false=>simp only [go_sem,reduceIte,rA,rB,rC,rD]
        | true =>
         simp only [go_sem,reduceIte,rA,rB,rC,rD]
         refine WC_p rfl rfl e8 ?_
         simp only [go_sem,reduceIte,rA,rB,rC,rD]
end
theorem equalQ_ok:∀ (n:Nat) (a b:QN n),QN.wf n a→calL EE 24 [.st (QN.row n a),.st (QN.row n b)] []=some (.ret (.bool (QN.eq n a b)),[])
 | 0,_,_,_=>cal_run (n:=100) (by kernel_rfl)
 | n + 1,a,b,h=>query_eq (qn_len n) (equalQ_ok n) a b h
end Go.Vm
