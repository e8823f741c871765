/- Chapter 24: the program's texts of queries: parts. -/
import Derived.Test.YtaepmmmcipolbaaGreatDoorQSfTd
set_option linter.unusedVariables false
set_option linter.unusedSimpArgs false
set_option maxRecDepth 100000
namespace Go.Vm
open List renaming length_append→lA,length_cons→lB,length_nil→lC
open Nat renaming reduceEqDiff→rA,reduceAdd→rB,reduceLeDiff→rC,reduceLT→rD
open Go
theorem item_txt (x:Itm) (hw:wf x.e) (h:x.star=true ∨ vItm x=true) (hn:cnt x.e ≤ 10000):calL EE 191 [.st x.row] []=some (.ret (.str (itT x)),[]):=by
 obtain ⟨s,⟨k,v,tb,nm,op,fn,fl,xs⟩,al⟩:=x
 refine fn_ok f191 (by simp) ?_
 unfold c191
 cases s with
 | true =>
  show WP EE _ (enter [.st (.bool true :: ((Tr.mk k v tb nm op fn fl xs).row ++ [.str al]))]) _ _ (Fin _ (.str [42]))
  rw [row_mk]
  simp only [go_sem,reduceIte,rA,rB,rC,rD,List.cons_append,List.nil_append]
 | false =>
  have h:vItm ⟨false,.mk k v tb nm op fn fl xs,al⟩=true:=h.resolve_left (by simp)
  unfold vItm at h
  simp only [Bool.and_eq_true,Bool.or_eq_true] at h
  have e1:=text_ok _ (.mk k v tb nm op fn fl xs) (Nat.le_refl _) hn hw h.2
  have hl:=txt_len2 hw h.2
  have ha:=opt_len h.1.2
  have hn:cnt (.mk k v tb nm op fn fl xs) ≤ 10000:=hn
  have hl:(txt (.mk k v tb nm op fn fl xs)).length ≤ 600 * cnt (.mk k v tb nm op fn fl xs):=hl
  have ha:al.length ≤ 31:=ha
  have e2:=aliased_ok (txt (.mk k v tb nm op fn fl xs)) al (by omega) (by omega)
  show WP EE _ (enter [.st (.bool false :: ((Tr.mk k v tb nm op fn fl xs).row ++ [.str al]))]) _ _ (Fin _ (.str (txt (.mk k v tb nm op fn fl xs) ++ asT al)))
  rw [row_mk] at e1 ⊢
  generalize txt (.mk k v tb nm op fn fl xs)=T at e1 e2
  simp only [go_sem,reduceIte,rA,rB,rC,rD,List.cons_append,List.nil_append]
  refine WC_p rfl rfl e1 ?_
  simp only [go_sem,reduceIte,rA,rB,rC,rD]
  refine WC_p rfl rfl e2 ?_
  simp only [go_sem,reduceIte,rA,rB,rC,rD]
theorem having_txt (x:Hv) (hw:wf x.c ∧ bigV x.b) (h:vHv x=true) (hn:cnt x.c ≤ 10000):calL EE 196 [.st x.row] []=some (.ret (.str (hvT x)),[]):=by
 obtain ⟨⟨k,v,tb,nm,op,fn,fl,xs⟩,hop,b⟩:=x
 unfold vHv at h
 simp only [Bool.and_eq_true,decide_eq_true_eq] at h
 obtain ⟨⟨⟨h1,h2⟩,h3⟩,h4⟩:=h
 have hn:cnt (.mk k v tb nm op fn fl xs) ≤ 10000:=hn
 have h2:5 ≤ hop:=h2
 have h3:hop ≤ 10:=h3
 have e1:=text_ok _ (.mk k v tb nm op fn fl xs) (Nat.le_refl _) hn hw.1 (.inr h1)
 have hl:(txt (.mk k v tb nm op fn fl xs)).length ≤ 600 * cnt (.mk k v tb nm op fn fl xs):=txt_len2 hw.1 (.inr h1)
 have hv:b.text.length ≤ 255:=val_len h4
 have e2:=t13 b hw.2 (by omega)
 have hf:(fmtV b).length ≤ 520:=fmt_len hw.2 h4
 have i1:(0 ≤ hop ∧ hop < ((14:Nat):Int))=True:=eq_true ⟨by omega,by omega⟩
 have i2:(hop.toNat < 14)=True:=eq_true (by omega)
 have hsy:=sym_le hop.toNat
 refine fn_ok f196 (by simp) ?_
 unfold c196
 show WP EE _ (enter [.st ((Tr.mk k v tb nm op fn fl xs).row ++ (.int .i64 hop :: b.row))]) _ _ (Fin _ (.str (txt (.mk k v tb nm op fn fl xs) ++ [32] ++ symT.getD hop.toNat [] ++ [32] ++ fmtV b)))
 rw [row_mk] at e1 ⊢
 generalize txt (.mk k v tb nm op fn fl xs)=T at e1 hl
 unfold Val.row at *
 simp only [go_sem,reduceIte,rA,rB,rC,rD,List.cons_append,List.nil_append]
 refine WC_p rfl rfl e1 ?_
 simp only [go_sem,reduceIte,rA,rB,rC,rD,tab_ia,i1,sym_load,i2,lA,lB,lC]
 refine ⟨by omega,?_⟩
 refine WC_p rfl rfl e2 ?_
 simp only [go_sem,reduceIte,rA,rB,rC,rD,tab_ia,i1,sym_load,i2,lA,lB,lC]
 omega
theorem list_e (x:Slc Tr) (hw:∀ t ∈ x.l,wf t) (hv:∀ t ∈ x.l,vld t=true) (hs:(x.l.map cnt).sum ≤ 10000):calL EE 160 [.s (x.sv Tr.row),.str cmW,.s (.func 53)] []=some (.ret (.str (Lib.join (x.l.map txt) cmW)),[]):=by
 have hl:=len_sum (c:=cnt) (l:=x.l) fun t _=>cnt_pos t
 have hj:=join_le (t:=txt) (c:=cnt) (K:=1000) (sep:=cmW) (l:=x.l) fun e he=>ex_tlen (hw e he) (hv e he)
 exact list_func tr_ags (z:=[.int .i64 0,.int .i64 0,.int .i64 0,.str [],.str [],.str [],.int .i64 0,.int .i64 0,.nils]) rfl f160 x (by omega) cmW rfl txt (by omega) fun a ha=>by
  have:=sum_mem (g:=cnt) ha
  exact text_ok _ a (Nat.le_refl _) (by omega) (hw a ha) (.inl (hv a ha))
section
variable {Q:Type} [Inhabited Q] {f:Q→List SV} (hf:∀ x,(f x).length=10) {tq:Q→List UInt8} {kd:Q→Int} {c:Q→Nat} {vq vb:Q→Bool} {w:Q→Prop}
 (hL:∀ a,w a→(vq a=true ∨ vb a=true)→(tq a).length + 100 ≤ 1000 * c a)
 (hT:∀ a,w a→(vq a=true ∨ vb a=true)→c a ≤ 10000→calL EE 62 [.st (f a)] []=some (.ret (.str (tq a)),[]))
include hf hL hT
theorem from_txt (x:FrP Q) (hw:wfFr w x) (h:vFr vq x=true) (hn:cntFr c x ≤ 10000):calL EE 193 [.st (FrP.row f x)] []=some (.ret (.str (frT tq x)),[]):=by
 obtain ⟨nm,al,qs⟩:=x
 unfold vFr at h
 unfold cntFr at hn
 have hn:1 + (qs.l.map c).sum ≤ 10000:=hn
 refine fn_ok f193 (by simp) ?_
 unfold c193 frT FrP.row
 show WP EE _ _ _ _ (Fin _ (.str (if qs.l.length=0 then nm ++ asT al else par (tq (qs.l.getD 0 default)) ++ asT al)))
 by_cases h0:qs.l.length=0
 ·have h:(nameV nm && optV al)=true:=by rw [if_pos h0] at h; exact h
  simp only [Bool.and_eq_true] at h
  have k1:=name_len h.1
  have k2:=opt_len h.2
  rw [if_pos h0]
  have d0:decide (0 < qs.l.length)=false:=decide_eq_false (by omega)
  simp only [go_sem,reduceIte,rA,rB,rC,rD,pos_dec,d0]
  refine WC_p rfl rfl (aliased_ok nm al (by omega) (by omega)) ?_
  simp only [go_sem,reduceIte,rA,rB,rC,rD]
 ·have h:(decide (nm=[]) && nameV al && decide (qs.l.length=1) && vq (qs.l.getD 0 default))=true:=by rw [if_neg h0] at h; exact h
  simp only [Bool.and_eq_true] at h
  have k2:=name_len h.1.1.2
  rw [if_neg h0]
  have d0:decide (0 < qs.l.length)=true:=decide_eq_true (by omega)
  have hm:=getD_mem (l:=qs.l) (j:=0) default (by omega)
  have hc:=sum_mem (g:=c) hm
  have hin:(0:Int) ≤ 0 ∧ (0:Int) < (qs.l.length:Int):=⟨by decide,by omega⟩
  have e0:Int.toNat 0=0:=rfl
  have hld:=q_at hf (l:=qs.l) (i:=0) (by omega)
  have e1:=hT _ (hw.2 _ hm) (.inl h.2) (by omega)
  have kl:=hL _ (hw.2 _ hm) (.inl h.2)
  generalize tq (qs.l.getD 0 default)=T at e1 kl
  simp only [go_sem,reduceIte,rA,rB,rC,rD,pos_dec,d0,(q_ags hf).ia,hin,and_self,e0,hld]
  refine WC_p rfl (by rw [pure_st]; rfl) e1 ?_
  have e2:=aliased_ok (par T) al (by rw [par_len]; omega) (by omega)
  unfold par at e2
  simp only [go_sem,reduceIte,rA,rB,rC,rD,lA,lB,lC,List.cons_append,List.nil_append]
  refine ⟨by omega,?_⟩
  refine WC_p rfl rfl e2 ?_
  simp only [go_sem,reduceIte,rA,rB,rC,rD]
  rfl
omit [Inhabited Q] in
set_option maxHeartbeats 1000000 in
theorem member_txt (x:MbP Q) (hw:wfMb w x) (h:vMb vq x=true) (hn:cntMb c x ≤ 10000):calL EE 194 [.st (MbP.row f x)] []=some (.ret (.str (mbT tq x)),[]):=by
 obtain ⟨no,ex,mq⟩:=x
 obtain ⟨w1,w2,w3⟩:=hw
 unfold vMb at h
 simp only [Bool.and_eq_true] at h
 unfold cntMb at hn
 have hn:(ex.l.map cnt).sum + c mq ≤ 10000:=hn
 have e1:=hT mq w3 (.inl h.2) (by omega)
 have kl:=hL mq w3 (.inl h.2)
 have kj:=join_le (t:=txt) (c:=cnt) (K:=1000) (sep:=cmW) (l:=ex.l) fun e he=>ex_tlen (w2 e he) (List.all_eq_true.1 h.1 e he)
 have e3:=list_e ex w2 (List.all_eq_true.1 h.1) (by omega)
 have t1:=hf mq
 have t3:List.take 10 (f mq)=f mq:=List.take_of_length_le (by omega)
 refine fn_ok f194 (by simp) ?_
 unfold c194 mbT MbP.row
 show WP EE _ _ _ _ (Fin _ (.str (if ex.l.length=0 then ntT no ++ exW ++ par (tq mq) else if ex.l.length=1 then atP (lvl (ex.l.getD 0 default),txt (ex.l.getD 0 default)) 5 ++ [32] ++ ntT no ++ inW ++ par (tq mq) else par (Lib.join (ex.l.map txt) cmW) ++ [32] ++ ntT no ++ inW ++ par (tq mq))))
 have kl2:(tq mq).length ≤ 10000000:=by omega
 have kj2:(Lib.join (ex.l.map txt) cmW).length ≤ 10000000:=by omega
 clear kl kj
 generalize tq mq=T at e1 kl2
 unfold par ntT notT exW inW
 simp only [go_sem,reduceIte,rA,rB,rC,rD,List.drop_succ_cons,List.drop_zero,List.length_cons,t1,t3]
 refine WC_p rfl (by rw [pure_st]; rfl) e1 ?_
 by_cases h0:ex.l.length=0
 ·have d0:decide (ex.l.length=0)=true:=decide_eq_true h0
  rw [if_pos h0]
  cases no with
  | true =>
   simp only [go_sem,reduceIte,rA,rB,rC,rD,zero_dec,d0,lA,lB,lC,List.cons_append,List.nil_append]
   omega
  | false =>
   simp only [go_sem,reduceIte,rA,rB,rC,rD,zero_dec,d0,lA,lB,lC,List.cons_append,List.nil_append]
   omega
 ·have d0:decide (ex.l.length=0)=false:=decide_eq_false h0
  rw [if_neg h0]
  by_cases h1:ex.l.length=1
  ·have d1:decide (ex.l.length=1)=true:=decide_eq_true h1
   rw [if_pos h1]
   have hm:=getD_mem (l:=ex.l) (j:=0) default (by omega)
   have hc:=sum_mem (g:=cnt) hm
   have hin:(0:Int) ≤ 0 ∧ (0:Int) < (ex.l.length:Int):=⟨by decide,by omega⟩
   have z0:Int.toNat 0=0:=rfl
   have hld:=fun HH=>tr_ags.load (l:=ex.l) (j:=0) (H:=HH) (by omega)
   have e4:=at_ok (ex.l.getD 0 default) 5 (by omega) (w2 _ hm) (List.all_eq_true.1 h.1 _ hm)
   have k4:=ex_tlen (w2 _ hm) (List.all_eq_true.1 h.1 _ hm)
   have k5:=at_len2 (ex.l.getD 0 default) 5
   have k6:(atP (lvl (ex.l.getD 0 default),txt (ex.l.getD 0 default)) 5).length ≤ 100000000:=by omega
   clear k4 k5 hc
   generalize atP (lvl (ex.l.getD 0 default),txt (ex.l.getD 0 default)) 5=A at e4 k6
   cases no with
   | true =>
    simp only [go_sem,reduceIte,rA,rB,rC,rD,zero_dec,one_dec,d0,d1,tr_ags.ia,hin,and_self,z0,hld,lA,lB,lC,List.cons_append,List.nil_append]
    refine ⟨by omega,?_⟩
    refine WC_p rfl (by rw [pure_st]; rfl) e4 ?_
    simp only [go_sem,reduceIte,rA,rB,rC,rD,lA,lB,lC,List.cons_append,List.nil_append,List.append_assoc]
    omega
   | false =>
    simp only [go_sem,reduceIte,rA,rB,rC,rD,zero_dec,one_dec,d0,d1,tr_ags.ia,hin,and_self,z0,hld,lA,lB,lC,List.cons_append,List.nil_append]
    refine ⟨by omega,?_⟩
    refine WC_p rfl (by rw [pure_st]; rfl) e4 ?_
    simp only [go_sem,reduceIte,rA,rB,rC,rD,lA,lB,lC,List.cons_append,List.nil_append,List.append_assoc]
    omega
  ·have d1:decide (ex.l.length=1)=false:=decide_eq_false h1
   rw [if_neg h1]
   generalize Lib.join (ex.l.map txt) cmW=J at e3 kj2
   cases no with
   | true =>
    simp only [go_sem,reduceIte,rA,rB,rC,rD,zero_dec,one_dec,d0,d1,lA,lB,lC,List.cons_append,List.nil_append]
    refine ⟨by omega,?_⟩
    refine WC_p rfl rfl e3 ?_
    simp only [go_sem,reduceIte,rA,rB,rC,rD,lA,lB,lC,List.cons_append,List.nil_append,List.append_assoc]
    omega
   | false =>
    simp only [go_sem,reduceIte,rA,rB,rC,rD,zero_dec,one_dec,d0,d1,lA,lB,lC,List.cons_append,List.nil_append]
    refine ⟨by omega,?_⟩
    refine WC_p rfl rfl e3 ?_
    simp only [go_sem,reduceIte,rA,rB,rC,rD,lA,lB,lC,List.cons_append,List.nil_append,List.append_assoc]
    omega
end
end Go.Vm
