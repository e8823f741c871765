/- Chapter 24: the reference's texts of memberships and SELECT queries. -/
import Derived.Test.YtaepmmmcipolbaaGreatDoorQSfTr
set_option linter.unusedVariables false
set_option linter.unusedSimpArgs false
set_option maxRecDepth 100000
namespace Go.Vm
open List renaming length_append→lA,length_cons→lB,length_nil→lC
open Nat renaming reduceEqDiff→rE,reduceAdd→rF,reduceLeDiff→rG,reduceLT→rH
open Go
def rsel (k:Nat):SC:=tailS k c143
def rsel3:SC:=rsel 3
def rsel6:SC:=rsel 6
def rsel9:SC:=rsel 9
def rsel12:SC:=rsel 12
def rsel13:SC:=rsel 13
def rsel14:SC:=rsel 14
def rsel16:SC:=rsel 16
abbrev rC:SC:=c143
theorem rs_e0:c143 = .seq (headS 0 rC) (.seq (headS 1 rC) (.seq (headS 2 rC) rsel3)):=rfl
theorem rs_e3:rsel3 = .seq (headS 3 rC) (.seq (headS 4 rC) (.seq (headS 5 rC) rsel6)):=rfl
theorem rs_e6:rsel6 = .seq (headS 6 rC) (.seq (headS 7 rC) (.seq (headS 8 rC) rsel9)):=rfl
theorem rs_e9:rsel9 = .seq (headS 9 rC) (.seq (headS 10 rC) (.seq (headS 11 rC) rsel12)):=rfl
theorem rs_e12:rsel12 = .seq (headS 12 rC) rsel13:=rfl
theorem rs_e13:rsel13 = .seq (headS 13 rC) rsel14:=rfl
theorem rs_e14:rsel14 = .seq (headS 14 rC) (.seq (headS 15 rC) rsel16):=rfl
theorem texts_ok (x:Slc Tr) (hw:∀ t ∈ x.l,wf t) (hv:∀ t ∈ x.l,vld t=true) (hs:(x.l.map cnt).sum ≤ 10000):∃ v,calL EE 114 [.s (x.sv Tr.row)] []=some (.ret v,[]) ∧ ∃ s:Slc (List UInt8),v = .s (s.sv txRow) ∧ s.l=x.l.map txt:=by
 have hl:=len_sum (c:=cnt) (l:=x.l) fun t _=>cnt_pos t
 exact refTexts_ok x (by omega) fun a ha=>by
  have:=sum_mem (g:=cnt) ha
  exact refText_ok _ a (Nat.le_refl _) (by omega) (hw a ha) (.inl (hv a ha))
theorem sums_map {α:Type} {t:α→List UInt8} {sep:List UInt8} (l:List α):(l.map t).map (fun a=>a.length + sep.length)=l.map fun x=>(t x).length + sep.length:=by
 rw [List.map_map]
 rfl
section
variable {Q:Type} [Inhabited Q] {f:Q→List SV} (hf:∀ x,(f x).length=10) {tq:Q→List UInt8} {kd:Q→Int} {c:Q→Nat} {vq vb:Q→Bool} {w:Q→Prop}
 (hL:∀ a,w a→(vq a=true ∨ vb a=true)→(tq a).length + 100 ≤ 1000 * c a)
 (hT:∀ a,w a→(vq a=true ∨ vb a=true)→c a ≤ 10000→calL EE 63 [.st (f a)] []=some (.ret (.str (tq a)),[]))
include hf hL hT in
omit [Inhabited Q] in
set_option maxHeartbeats 1000000 in
theorem refMember_txt (x:MbP Q) (hw:wfMb w x) (h:vMb vq x=true) (hn:cntMb c x ≤ 10000):calL EE 198 [.st (MbP.row f x)] []=some (.ret (.str (mbT tq x)),[]):=by
 obtain ⟨no,ex,mq⟩:=x
 obtain ⟨w1,w2,w3⟩:=hw
 unfold vMb at h
 simp only [Bool.and_eq_true] at h
 unfold cntMb at hn
 have hn:(ex.l.map cnt).sum + c mq ≤ 10000:=hn
 have e1:=hT mq w3 (.inl h.2) (by omega)
 have kl:=hL mq w3 (.inl h.2)
 have kj:=join_le (t:=txt) (c:=cnt) (K:=1000) (sep:=cmW) (l:=ex.l) fun e he=>ex_tlen (w2 e he) (List.all_eq_true.1 h.1 e he)
 have ks:=sum_le (g:=fun e=>(txt e).length + cmW.length) (c:=cnt) (K:=1000) (l:=ex.l) fun e he=>ex_tlen (w2 e he) (List.all_eq_true.1 h.1 e he)
 have lx:=len_sum (c:=cnt) (l:=ex.l) fun t _=>cnt_pos t
 obtain ⟨tv,e3,ts,rfl,hts⟩:=texts_ok ex w2 (List.all_eq_true.1 h.1) (by omega)
 have e5:=refJoin_ok ts cmW (by rw [hts,List.length_map]; omega) (by rw [hts,sums_map]; omega) (by decide)
 rw [hts] at e5
 have t1:=hf mq
 have t3:List.take 10 (f mq)=f mq:=List.take_of_length_le (by omega)
 have kl2:(tq mq).length ≤ 10000000:=by omega
 have kj2:(Lib.join (ex.l.map txt) cmW).length ≤ 10000000:=by omega
 refine fn_ok f198 (by simp) ?_
 unfold c198 mbT MbP.row
 show WP EE _ _ _ _ (Fin _ (.str (if ex.l.length=0 then ntT no ++ exW ++ par (tq mq) else if ex.l.length=1 then atP (lvl (ex.l.getD 0 default),txt (ex.l.getD 0 default)) 5 ++ [32] ++ ntT no ++ inW ++ par (tq mq) else par (Lib.join (ex.l.map txt) cmW) ++ [32] ++ ntT no ++ inW ++ par (tq mq))))
 clear kl kj
 generalize tq mq=T at e1 kl2
 unfold par ntT notT exW inW
 by_cases hno:no=true
 ·have hno':no=true:=hno
  subst hno'
  simp only [go_sem,reduceIte,rE,rF,rG,rH,List.drop_succ_cons,List.drop_zero,List.length_cons,t1,t3]
  refine WC_p rfl (by rw [pure_st]; rfl) e1 ?_
  by_cases h0:ex.l.length=0
  ·have d0:decide (ex.l.length=0)=true:=decide_eq_true h0
   rw [if_pos h0]
   simp only [go_sem,reduceIte,rE,rF,rG,rH,zero_dec,d0,lA,lB,lC,List.cons_append,List.nil_append]
   omega
  ·have d0:decide (ex.l.length=0)=false:=decide_eq_false h0
   rw [if_neg h0]
   simp only [go_sem,reduceIte,rE,rF,rG,rH,zero_dec,d0,lA,lB,lC,List.cons_append,List.nil_append]
   refine ⟨by omega,?_⟩
   refine WC_p rfl rfl e3 ?_
   simp only [go_sem,reduceIte,rE,rF,rG,rH]
   refine WC_p rfl rfl e5 ?_
   by_cases h1:ex.l.length=1
   ·have d1:decide (ex.l.length=1)=true:=decide_eq_true h1
    rw [if_pos h1]
    have hm:=getD_mem (l:=ex.l) (j:=0) default (by omega)
    have hc:=sum_mem (g:=cnt) hm
    have hin:(0:Int) ≤ 0 ∧ (0:Int) < (ex.l.length:Int):=⟨by decide,by omega⟩
    have z0:Int.toNat 0=0:=rfl
    have hld:=fun HH=>tr_ags.load (l:=ex.l) (j:=0) (H:=HH) (by omega)
    have e4:=refAt_ok (ex.l.getD 0 default) 5 (by omega) (w2 _ hm) (List.all_eq_true.1 h.1 _ hm)
    have k4:=ex_tlen (w2 _ hm) (List.all_eq_true.1 h.1 _ hm)
    have k5:=at_len2 (ex.l.getD 0 default) 5
    have k6:(atP (lvl (ex.l.getD 0 default),txt (ex.l.getD 0 default)) 5).length ≤ 100000000:=by omega
    clear k4 k5 hc
    generalize atP (lvl (ex.l.getD 0 default),txt (ex.l.getD 0 default)) 5=A at e4 k6
    generalize Lib.join (ex.l.map txt) cmW=J at e5 kj2
    simp only [go_sem,reduceIte,rE,rF,rG,rH,one_dec,d0,d1,tr_ags.ia,hin,and_self,z0,hld,lA,lB,lC,List.cons_append,List.nil_append]
    refine ⟨by omega,?_⟩
    refine WC_p rfl (by rw [pure_st]; rfl) e4 ?_
    simp only [go_sem,reduceIte,rE,rF,rG,rH,lA,lB,lC,List.cons_append,List.nil_append,List.append_assoc]
    omega
   ·have d1:decide (ex.l.length=1)=false:=decide_eq_false h1
    rw [if_neg h1]
    generalize Lib.join (ex.l.map txt) cmW=J at e5 kj2
    simp only [go_sem,reduceIte,rE,rF,rG,rH,one_dec,d0,d1,lA,lB,lC,List.cons_append,List.nil_append,List.append_assoc]
    omega
 ·have hno':no=false:=by cases no with | false=>rfl | true=>exact absurd rfl hno
  subst hno'
  simp only [go_sem,reduceIte,rE,rF,rG,rH,List.drop_succ_cons,List.drop_zero,List.length_cons,t1,t3]
  refine WC_p rfl (by rw [pure_st]; rfl) e1 ?_
  by_cases h0:ex.l.length=0
  ·have d0:decide (ex.l.length=0)=true:=decide_eq_true h0
   rw [if_pos h0]
   simp only [go_sem,reduceIte,rE,rF,rG,rH,zero_dec,d0,lA,lB,lC,List.cons_append,List.nil_append]
   omega
  ·have d0:decide (ex.l.length=0)=false:=decide_eq_false h0
   rw [if_neg h0]
   simp only [go_sem,reduceIte,rE,rF,rG,rH,zero_dec,d0,lA,lB,lC,List.cons_append,List.nil_append]
   refine ⟨by omega,?_⟩
   refine WC_p rfl rfl e3 ?_
   simp only [go_sem,reduceIte,rE,rF,rG,rH]
   refine WC_p rfl rfl e5 ?_
   by_cases h1:ex.l.length=1
   ·have d1:decide (ex.l.length=1)=true:=decide_eq_true h1
    rw [if_pos h1]
    have hm:=getD_mem (l:=ex.l) (j:=0) default (by omega)
    have hc:=sum_mem (g:=cnt) hm
    have hin:(0:Int) ≤ 0 ∧ (0:Int) < (ex.l.length:Int):=⟨by decide,by omega⟩
    have z0:Int.toNat 0=0:=rfl
    have hld:=fun HH=>tr_ags.load (l:=ex.l) (j:=0) (H:=HH) (by omega)
    have e4:=refAt_ok (ex.l.getD 0 default) 5 (by omega) (w2 _ hm) (List.all_eq_true.1 h.1 _ hm)
    have k4:=ex_tlen (w2 _ hm) (List.all_eq_true.1 h.1 _ hm)
    have k5:=at_len2 (ex.l.getD 0 default) 5
    have k6:(atP (lvl (ex.l.getD 0 default),txt (ex.l.getD 0 default)) 5).length ≤ 100000000:=by omega
    clear k4 k5 hc
    generalize atP (lvl (ex.l.getD 0 default),txt (ex.l.getD 0 default)) 5=A at e4 k6
    generalize Lib.join (ex.l.map txt) cmW=J at e5 kj2
    simp only [go_sem,reduceIte,rE,rF,rG,rH,one_dec,d0,d1,tr_ags.ia,hin,and_self,z0,hld,lA,lB,lC,List.cons_append,List.nil_append]
    refine ⟨by omega,?_⟩
    refine WC_p rfl (by rw [pure_st]; rfl) e4 ?_
    simp only [go_sem,reduceIte,rE,rF,rG,rH,lA,lB,lC,List.cons_append,List.nil_append,List.append_assoc]
    omega
   ·have d1:decide (ex.l.length=1)=false:=decide_eq_false h1
    rw [if_neg h1]
    generalize Lib.join (ex.l.map txt) cmW=J at e5 kj2
    simp only [go_sem,reduceIte,rE,rF,rG,rH,one_dec,d0,d1,lA,lB,lC,List.cons_append,List.nil_append,List.append_assoc]
    omega
omit [Inhabited Q] in
theorem rsel16_ok (a:QP Q) (s:List UInt8) (hs:s.length ≤ 100000000) (T:Nat→PV) (H:Ob) (n:Nat) (h3:T 3 = .str s) (ho:Own 1 9 1 H n (T 4) ((a.hv.l.map hvT).map txRow)) (hl:a.hv.l.length ≤ 10000)
  (hb:(a.hv.l.map fun x=>(hvT x).length + anW.length).sum ≤ 100000000):WP EE rsel16 T H n (Fin [.t 2] (.str (s ++ selD a))):=by
 have k2:=jn_sum (sep:=anW) (a.hv.l.map hvT)
 rw [sums_map] at k2
 unfold rsel16 rsel c143 selD
 have hlen:=fun k=>ho.len (k:=k)
 rw [List.length_map,List.length_map] at hlen
 by_cases h0:a.hv.l.length=0
 ·have d:decide (0 < a.hv.l.length)=false:=decide_eq_false (by omega)
  rw [if_pos h0,List.append_nil]
  simp only [go_sem,reduceIte,rE,rF,rG,rH,tailS,h3,hlen,pos_dec,d]
 ·have d:decide (0 < a.hv.l.length)=true:=decide_eq_true (by omega)
  rw [if_neg h0]
  simp only [go_sem,reduceIte,rE,rF,rG,rH,tailS,h3,hlen,pos_dec,d]
  refine WC_own1m (v := .str (Lib.join (a.hv.l.map hvT) anW)) [] [.s (.str anW)] ho rfl rfl rfl (fun s hs => ?_) ?_
  ·have:=refJoin_ok s anW (by rw [hs,List.length_map]; omega) (by rw [hs,sums_map]; exact hb) (by decide)
   rw [hs] at this
   exact this
  ·intro H2 ho2 hof
   have hj2:(Lib.join (a.hv.l.map hvT) anW).length ≤ 100000000:=by omega
   generalize Lib.join (a.hv.l.map hvT) anW=J at hj2
   simp only [go_sem,reduceIte,rE,rF,rG,rH,h3,lA,lB,lC]
   exact ⟨by omega,by omega,rfl⟩
theorem rsel14_ok (a:QP Q) (ha:wfQP w a) (h:SelOk vq a) (hn:cntQP c a ≤ 10000) (s:List UInt8) (hs:s.length ≤ 100000000) (T:Nat→PV) (H:Ob) (n:Nat) (hn1:1 ≤ n) (h3:T 3 = .str s) (h1:T 1 = .ptr 0 0) (hH:H 0 = .box 38 ((QP.row f a).map .s)) :
  WP EE rsel14 T H n (Fin [.t 2] (.str (s ++ selD a))):=by
 have hc:(a.hv.l.map fun x:Hv=>1 + cnt x.c).sum ≤ 10000:=by unfold cntQP at hn; omega
 have hl:=len_sum (c:=fun x:Hv=>1 + cnt x.c) (l:=a.hv.l) fun x _=>by omega
 have hb:=sum_le (g:=fun x=>(hvT x).length + anW.length) (c:=fun x:Hv=>1 + cnt x.c) (K:=1000) (l:=a.hv.l) fun x hx=>hv_tlen (ha.hv x hx) (h.hv x hx)
 have hD:=fun T H n h3 ho=>rsel16_ok a s hs T H n h3 ho (by omega) (by omega)
 rw [rs_e14]
 unfold rC c143
 unfold QP.row at hH
 simp only [go_sem,reduceIte,rE,rF,rG,rH,headS,h1,h3,hH]
 refine WP_scan rfl 10 a.hv.l.length (fun _=>True) (fun j T H n=>1 ≤ n ∧ H 0 = .box 38 ((QP.row f a).map .s) ∧ Own 1 9 1 H n (T 4) (((a.hv.l.take j).map hvT).map txRow)) rfl ⟨by omega,hH,.lit⟩ ?_ ?_
 ·rintro j T' H' n' hlt hf' hi ⟨hn',hH',ho'⟩ _
  have g1:T' 1 = .ptr 0 0:=(hf' 1 rfl).trans h1
  clear hf'
  have hji:(j:Int) < a.hv.l.length:=by omega
  have hj0:(0:Int) ≤ j:=by omega
  have hwj:=wrap_suc (j:=j) (by omega)
  have hnx:((a.hv.l.take (j + 1)).map hvT).map txRow=((a.hv.l.take j).map hvT).map txRow ++ [txRow (hvT (a.hv.l.getD j default))]:=by
   rw [take_step default hlt]; simp
  rw [hnx]
  have hle:(((a.hv.l.take j).map hvT).map txRow).length ≤ 1000000:=by rw [List.length_map,List.length_map,List.length_take]; omega
  generalize ((a.hv.l.take j).map hvT).map txRow=rows at ho' hle ⊢
  have hm:=getD_mem (l:=a.hv.l) (j:=j) default hlt
  have hx1:∀ agg sz off HH,loadM agg sz HH (.eptr (a.hv.l.map (Hv.row)) j off)=loadS agg sz (Hv.row (a.hv.l.getD j default)) off:=fun agg sz off HH=>by rw [load_eptr,if_pos hlt]
  have hia:=fun (s:Slc Hv) (HH:Ob) (kk:IntKind) (ii:Int)=>(hv_ags).ia (s:=s) (H:=HH) (k:=kk) (i:=ii)
  have hcs:=sum_mem (g:=fun x:Hv=>1 + cnt x.c) hm
  have hwX:=ha.hv _ hm
  have hvX:=h.hv _ hm
  generalize a.hv.l.getD j default=X at hx1 hcs hwX hvX ⊢
  obtain ⟨⟨k,v,tb,nm,op,fn,fl,xs⟩,hop,b⟩:=X
  unfold vHv at hvX
  simp only [Bool.and_eq_true,decide_eq_true_eq] at hvX
  obtain ⟨⟨⟨q1,q2⟩,q3⟩,q4⟩:=hvX
  have q2:5 ≤ hop:=q2
  have q3:hop ≤ 10:=q3
  have hcs:1 + cnt (.mk k v tb nm op fn fl xs) ≤ _:=hcs
  have e1:=refText_ok _ (.mk k v tb nm op fn fl xs) (Nat.le_refl _) (by omega) hwX.1 (.inr q1)
  have hl1:(txt (.mk k v tb nm op fn fl xs)).length ≤ 600 * cnt (.mk k v tb nm op fn fl xs):=txt_len2 hwX.1 (.inr q1)
  have hvl:b.text.length ≤ 255:=val_len q4
  have e2:=t14 b hwX.2 (by omega)
  have hfl:(fmtV b).length ≤ 520:=fmt_len hwX.2 q4
  have e3:=refSym_ok hop (by omega) (by omega)
  have hsy:=sym_le hop.toNat
  have hr:Hv.row ⟨.mk k v tb nm op fn fl xs,hop,b⟩=[.int .i64 k,.int .i64 v.kind,.int .i64 v.n,.str v.text,.str tb,.str nm,.int .i64 op,.int .i64 fn,(mkS fl xs).sv Tr.row,.int .i64 hop,.int .i64 b.kind,.int .i64 b.n,.str b.text]:=by unfold Hv.row; rw [row_mk]; rfl
  rw [hr] at hx1
  rw [row_mk] at e1
  unfold Val.row at e2
  have ht:hvT ⟨.mk k v tb nm op fn fl xs,hop,b⟩=txt (.mk k v tb nm op fn fl xs) ++ [32] ++ symT.getD hop.toNat [] ++ [32] ++ fmtV b:=rfl
  rw [ht]
  have hl2:(txt (.mk k v tb nm op fn fl xs)).length ≤ 10000000:=by omega
  clear hl1 hcs
  generalize txt (.mk k v tb nm op fn fl xs)=A at e1 hl2 ⊢
  generalize symT.getD hop.toNat []=B at e3 hsy ⊢
  generalize fmtV b=C at e2 hfl ⊢
  simp only [go_sem,reduceIte,rE,rF,rG,rH,QP.row,g1,hi,hH',hji,hj0,and_self,decide_true,hia,Int.toNat_natCast,hx1]
  refine WC_p rfl rfl e1 ?_
  simp only [go_sem,reduceIte,rE,rF,rG,rH,QP.row,g1,hi,hH',hji,hj0,and_self,decide_true,hia,Int.toNat_natCast,hx1,lA,lB,lC]
  refine ⟨by omega,?_⟩
  refine WC_p rfl rfl e3 ?_
  simp only [go_sem,reduceIte,rE,rF,rG,rH,QP.row,g1,hi,hH',hji,hj0,and_self,decide_true,hia,Int.toNat_natCast,hx1,lA,lB,lC]
  refine ⟨by omega,?_⟩
  refine WC_p rfl rfl e2 ?_
  simp only [go_sem,reduceIte,rE,rF,rG,rH,lA,lB,lC]
  refine ⟨by omega,?_⟩
  refine WX_app ho' rows_slice (by simp) (by simp; omega) (by omega) (by omega) ?_
  intro p1 H2 ho2 hfr2 hof2
  have hH2:=(hfr2 0 (by omega) (ho'.off (.inl (by omega)))).trans hH'
  simp only [go_sem,reduceIte,rE,rF,rG,rH,hi,hwj]
  exact ⟨hH2,ho2.kept (by omega) (fun _ _ _=>rfl)⟩
 ·rintro T' H' n' hf' hi ⟨hn',hH',ho'⟩ _
  have g3:T' 3 = .str _:=(hf' 3 rfl).trans h3
  have g1:T' 1 = .ptr 0 0:=(hf' 1 rfl).trans h1
  clear hf'
  rw [List.take_length] at ho'
  unfold QP.row at hH'
  simp only [go_sem,reduceIte,rE,rF,rG,rH,g1,g3,hi,hH',Int.lt_irrefl,decide_false]
  exact hD _ _ _ g3 (ho'.kept (by omega) (fun _ _ _=>rfl))
theorem rsel13_ok (a:QP Q) (ha:wfQP w a) (h:SelOk vq a) (hn:cntQP c a ≤ 10000) (s:List UInt8) (hs:s.length ≤ 50000000) (T:Nat→PV) (H:Ob) (n:Nat) (hn1:1 ≤ n) (h3:T 3 = .str s) (h1:T 1 = .ptr 0 0) (hH:H 0 = .box 38 ((QP.row f a).map .s)) :
  WP EE rsel13 T H n (Fin [.t 2] (.str (s ++ selC a ++ selD a))):=by
 have hc:(a.gb.l.map cnt).sum ≤ 10000:=by unfold cntQP at hn; omega
 have hl:=len_sum (c:=cnt) (l:=a.gb.l) fun x _=>cnt_pos x
 have hj:=join_le (t:=txt) (c:=cnt) (K:=1000) (sep:=cmW) (l:=a.gb.l) fun x hx=>ex_tlen (ha.gb x hx) (h.gb x hx)
 have ks:=sum_le (g:=fun e=>(txt e).length + cmW.length) (c:=cnt) (K:=1000) (l:=a.gb.l) fun e he=>ex_tlen (ha.gb e he) (h.gb e he)
 obtain ⟨tv,e3,ts,rfl,hts⟩:=texts_ok a.gb ha.gb h.gb hc
 have e5:=refJoin_ok ts cmW (by rw [hts,List.length_map]; omega) (by rw [hts,sums_map]; omega) (by decide)
 rw [hts] at e5
 have hD:=fun S hS T H n hn1 h3 h1 hH=>rsel14_ok (f:=f) a ha h hn S hS T H n hn1 h3 h1 hH
 rw [rs_e13]
 unfold rC c143 selC
 unfold QP.row at *
 by_cases h0:a.gb.l.length=0
 ·have d:decide (0 < a.gb.l.length)=false:=decide_eq_false (by omega)
  rw [if_pos h0,List.append_nil]
  simp only [go_sem,reduceIte,rE,rF,rG,rH,headS,h1,h3,hH,pos_dec,d]
  exact hD s (by omega) _ _ _ (by omega) h3 h1 hH
 ·have d:decide (0 < a.gb.l.length)=true:=decide_eq_true (by omega)
  rw [if_neg h0]
  have hj2:(Lib.join (a.gb.l.map txt) cmW).length ≤ 20000000:=by omega
  generalize Lib.join (a.gb.l.map txt) cmW=J at e5 hj2
  simp only [go_sem,reduceIte,rE,rF,rG,rH,headS,h1,h3,hH,pos_dec,d]
  refine WC_p rfl rfl e3 ?_
  simp only [go_sem,reduceIte,rE,rF,rG,rH]
  refine WC_p rfl rfl e5 ?_
  simp only [go_sem,reduceIte,rE,rF,rG,rH,h3,lA,lB,lC]
  refine ⟨by omega,by omega,?_⟩
  have e10:grW.length=10:=rfl
  refine hD (s ++ (grW ++ J)) (by rw [List.length_append,List.length_append]; omega) _ _ _ (by omega) rfl ?_ hH
  exact h1
include hL in
theorem rsel12_ok (a:QP Q) (ha:wfQP w a) (h:SelOk vq a) (hn:cntQP c a ≤ 10000) (s:List UInt8) (hs:s.length ≤ 30000000) (T:Nat→PV) (H:Ob) (n:Nat) (hn1:1 ≤ n) (h3:T 3 = .str s) (h1:T 1 = .ptr 0 0) (hH:H 0 = .box 38 ((QP.row f a).map .s))
  (ho:Own 1 9 1 H n (T 4) ((cnds tq a).map txRow)):WP EE rsel12 T H n (Fin [.t 2] (.str (s ++ selB tq a ++ selC a ++ selD a))):=by
 have k1:=cnds_len hL ha h
 have k2:=jn_sum (sep:=anW) (cnds tq a)
 have k5:=cnds_few hL a ha h
 have k6:(cnds tq a).length=a.wh.l.length + a.mb.l.length:=by unfold cnds; rw [List.length_append,List.length_map,List.length_map]
 have k4:((a.wh.l.map cnt).sum + (a.mb.l.map (cntMb c)).sum) ≤ 10000:=by unfold cntQP at hn; omega
 have hC:=fun S hS T H n hn1 h3 h1 hH=>rsel13_ok (f:=f) a ha h hn S hS T H n hn1 h3 h1 hH
 rw [rs_e12]
 unfold rC c143 selB
 unfold QP.row at *
 have hlen:=fun k=>ho.len (k:=k)
 rw [List.length_map] at hlen
 by_cases h0:(cnds tq a).length=0
 ·have d:decide (0 < (cnds tq a).length)=false:=decide_eq_false (by omega)
  rw [if_pos h0,List.append_nil]
  simp only [go_sem,reduceIte,rE,rF,rG,rH,headS,h1,h3,hH,hlen,pos_dec,d]
  exact hC s (by omega) _ _ _ (by omega) h3 h1 hH
 ·have d:decide (0 < (cnds tq a).length)=true:=decide_eq_true (by omega)
  rw [if_neg h0]
  simp only [go_sem,reduceIte,rE,rF,rG,rH,headS,h1,h3,hH,hlen,pos_dec,d]
  refine WC_own1m (v := .str (Lib.join (cnds tq a) anW)) [] [.s (.str anW)] ho rfl rfl rfl (fun s hs => ?_) ?_
  ·have:=refJoin_ok s anW (by rw [hs]; omega) (by rw [hs]; omega) (by decide)
   rw [hs] at this
   exact this
  ·intro H2 ho2 hof
   have hH2:=(hof 0 (ho.off (.inl (by omega)))).trans hH
   have hj2:(Lib.join (cnds tq a) anW).length ≤ 10000000:=by omega
   generalize Lib.join (cnds tq a) anW=J at hj2
   simp only [go_sem,reduceIte,rE,rF,rG,rH,h3,lA,lB,lC]
   refine ⟨by omega,by omega,?_⟩
   have e10:whW.length=7:=rfl
   refine hC (s ++ (whW ++ J)) (by rw [List.length_append,List.length_append]; omega) _ _ _ (by omega) rfl ?_ hH2
   exact h1
include hf hL hT in
set_option maxHeartbeats 1000000 in
theorem rsel9_ok (a:QP Q) (ha:wfQP w a) (h:SelOk vq a) (hn:cntQP c a ≤ 10000) (s:List UInt8) (hs:s.length ≤ 30000000) (T:Nat→PV) (H:Ob) (n:Nat) (hn1:1 ≤ n) (h3:T 3 = .str s) (h1:T 1 = .ptr 0 0) (hH:H 0 = .box 38 ((QP.row f a).map .s)) :
  WP EE rsel9 T H n (Fin [.t 2] (.str (s ++ selB tq a ++ selC a ++ selD a))):=by
 have hc3:(a.wh.l.map cnt).sum ≤ 10000:=by unfold cntQP at hn; omega
 have hc4:(a.mb.l.map (cntMb c)).sum ≤ 10000:=by unfold cntQP at hn; omega
 obtain ⟨l3,l4⟩:=cnds_few hL a ha h
 have hB:=fun T H n hn1 h3 h1 hH ho=>rsel12_ok (f:=f) hL a ha h hn s hs T H n hn1 h3 h1 hH ho
 rw [rs_e9]
 unfold rC c143
 unfold QP.row at *
 simp only [go_sem,reduceIte,rE,rF,rG,rH,headS,h1,h3,hH]
 refine WP_scan rfl 8 a.wh.l.length (fun _=>True) (fun j T H n=>1 ≤ n ∧ H 0 = .box 38 ((QP.row f a).map .s) ∧ Own 1 9 1 H n (T 4) (((a.wh.l.take j).map whT).map txRow)) rfl ⟨by omega,hH,.lit⟩ ?_ ?_
 ·rintro j T' H' n' hlt hf' hi ⟨hn',hH',ho'⟩ _
  have g1:T' 1 = .ptr 0 0:=(hf' 1 rfl).trans h1
  clear hf'
  have hji:(j:Int) < a.wh.l.length:=by omega
  have hj0:(0:Int) ≤ j:=by omega
  have hwj:=wrap_suc (j:=j) (by omega)
  have hnx:((a.wh.l.take (j + 1)).map whT).map txRow=((a.wh.l.take j).map whT).map txRow ++ [txRow (whT (a.wh.l.getD j default))]:=by
   rw [take_step default hlt]; simp
  rw [hnx]
  have hle:(((a.wh.l.take j).map whT).map txRow).length ≤ 1000000:=by rw [List.length_map,List.length_map,List.length_take]; omega
  generalize ((a.wh.l.take j).map whT).map txRow=rows at ho' hle ⊢
  have hm:=getD_mem (l:=a.wh.l) (j:=j) default hlt
  have hx1:∀ agg sz off HH,loadM agg sz HH (.eptr (a.wh.l.map (Tr.row)) j off)=loadS agg sz (Tr.row (a.wh.l.getD j default)) off:=fun agg sz off HH=>by rw [load_eptr,if_pos hlt]
  have hia:=fun (s:Slc Tr) (HH:Ob) (kk:IntKind) (ii:Int)=>(tr_ags).ia (s:=s) (H:=HH) (k:=kk) (i:=ii)
  have hcs:=sum_mem (g:=cnt) hm
  have hcall:calL EE 125 [.st (a.wh.l.getD j default).row,.i64 2] []=some (.ret (.str (whT (a.wh.l.getD j default))),[]):=refAt_ok (a.wh.l.getD j default) 2 (by omega) (ha.wh _ hm) (h.wh _ hm)
  have hld:=fun HH=>tr_ags.load (l:=a.wh.l) (j:=j) (H:=HH) hlt
  generalize a.wh.l.getD j default=X at hld hcall ⊢
  simp only [go_sem,reduceIte,rE,rF,rG,rH,QP.row,g1,hi,hH',hji,hj0,and_self,decide_true,hia,Int.toNat_natCast,hld]
  refine WC_p rfl (by rw [pure_st]; rfl) hcall ?_
  simp only [go_sem,reduceIte,rE,rF,rG,rH]
  refine WX_app ho' rows_slice (by simp) (by simp; omega) (by omega) (by omega) ?_
  intro p1 H2 ho2 hfr2 hof2
  have hH2:=(hfr2 0 (by omega) (ho'.off (.inl (by omega)))).trans hH'
  simp only [go_sem,reduceIte,rE,rF,rG,rH,hi,hwj]
  exact ⟨hH2,ho2.kept (by omega) (fun _ _ _=>rfl)⟩
 ·rintro T' H' n' hf' hi ⟨hn',hH',ho'⟩ _
  have g3:T' 3 = .str _:=(hf' 3 rfl).trans h3
  have g1:T' 1 = .ptr 0 0:=(hf' 1 rfl).trans h1
  clear hf'
  rw [List.take_length] at ho'
  unfold QP.row at hH'
  simp only [go_sem,reduceIte,rE,rF,rG,rH,g1,g3,hi,hH',Int.lt_irrefl,decide_false]
  refine WP_scan rfl 9 a.mb.l.length (fun _=>True) (fun j T H n=>1 ≤ n ∧ H 0 = .box 38 ((QP.row f a).map .s) ∧ Own 1 9 1 H n (T 4) ((a.wh.l.map whT ++ (a.mb.l.take j).map (mbT tq)).map txRow)) rfl ⟨by omega,hH',by rw [List.take_zero,List.map_nil,List.append_nil]; exact ho'.kept (by omega) (fun _ _ _=>rfl)⟩ ?_ ?_
  ·rintro j T' H' n' hlt hf' hi ⟨hn',hH',ho'⟩ _
   have g1:T' 1 = .ptr 0 0:=(hf' 1 rfl).trans g1
   clear hf'
   have hji:(j:Int) < a.mb.l.length:=by omega
   have hj0:(0:Int) ≤ j:=by omega
   have hwj:=wrap_suc (j:=j) (by omega)
   have hnx:(a.wh.l.map whT ++ (a.mb.l.take (j + 1)).map (mbT tq)).map txRow=(a.wh.l.map whT ++ (a.mb.l.take j).map (mbT tq)).map txRow ++ [txRow ((mbT tq) (a.mb.l.getD j default))]:=by
    rw [take_step default hlt]; simp
   rw [hnx]
   have hle:((a.wh.l.map whT ++ (a.mb.l.take j).map (mbT tq)).map txRow).length ≤ 1000000:=by rw [List.length_map,List.length_append,List.length_map,List.length_map,List.length_take]; omega
   generalize (a.wh.l.map whT ++ (a.mb.l.take j).map (mbT tq)).map txRow=rows at ho' hle ⊢
   have hm:=getD_mem (l:=a.mb.l) (j:=j) default hlt
   have hx1:∀ agg sz off HH,loadM agg sz HH (.eptr (a.mb.l.map (MbP.row f)) j off)=loadS agg sz (MbP.row f (a.mb.l.getD j default)) off:=fun agg sz off HH=>by rw [load_eptr,if_pos hlt]
   have hia:=fun (s:Slc (MbP Q)) (HH:Ob) (kk:IntKind) (ii:Int)=>(mb_ags hf).ia (s:=s) (H:=HH) (k:=kk) (i:=ii)
   have hcs:=sum_mem (g:=cntMb c) hm
   have hcall:=refMember_txt hf hL hT (a.mb.l.getD j default) (ha.mb _ hm) (h.mb _ hm) (by omega)
   have hld:=fun HH=>(mb_ags hf).load (l:=a.mb.l) (j:=j) (H:=HH) hlt
   generalize MbP.row f (a.mb.l.getD j default)=R at hld hcall
   generalize mbT tq (a.mb.l.getD j default)=SS at hcall ⊢
   simp only [go_sem,reduceIte,rE,rF,rG,rH,QP.row,g1,hi,hH',hji,hj0,and_self,decide_true,hia,Int.toNat_natCast,hld]
   refine WC_p rfl (by rw [pure_st]; rfl) hcall ?_
   simp only [go_sem,reduceIte,rE,rF,rG,rH]
   refine WX_app ho' rows_slice (by simp) (by simp; omega) (by omega) (by omega) ?_
   intro p1 H2 ho2 hfr2 hof2
   have hH2:=(hfr2 0 (by omega) (ho'.off (.inl (by omega)))).trans hH'
   simp only [go_sem,reduceIte,rE,rF,rG,rH,hi,hwj]
   exact ⟨hH2,ho2.kept (by omega) (fun _ _ _=>rfl)⟩
  ·rintro T' H' n' hf' hi ⟨hn',hH',ho'⟩ _
   have g3:T' 3 = .str _:=(hf' 3 rfl).trans g3
   have g1:T' 1 = .ptr 0 0:=(hf' 1 rfl).trans g1
   clear hf'
   rw [List.take_length] at ho'
   unfold QP.row at hH'
   simp only [go_sem,reduceIte,rE,rF,rG,rH,g1,g3,hi,hH',Int.lt_irrefl,decide_false]
   exact hB _ _ _ (by omega) g3 g1 hH' (ho'.kept (by omega) (fun _ _ _=>rfl))
include hf hL hT in
set_option maxHeartbeats 1000000 in
theorem rsel6_ok (a:QP Q) (ha:wfQP w a) (h:SelOk vq a) (hn:cntQP c a ≤ 10000) (s J:List UInt8) (hs:s.length ≤ 15000000) (hJ:J.length ≤ 15000000) (T:Nat→PV) (H:Ob) (n:Nat) (hn1:1 ≤ n) (h3:T 3 = .str s) (h52:T 52 = .str J) (h1:T 1 = .ptr 0 0) (hH:H 0 = .box 38 ((QP.row f a).map .s)) :
  WP EE rsel6 T H n (Fin [.t 2] (.str (s ++ Lib.join (a.fr.l.map (frT tq)) cmW ++ selB tq a ++ selC a ++ selD a))):=by
 have hc2:(a.fr.l.map (cntFr c)).sum ≤ 10000:=by unfold cntQP at hn; omega
 have l2:=len_sum (c:=cntFr c) (l:=a.fr.l) fun x _=>by unfold cntFr; omega
 have j2:=join_le (t:=frT tq) (c:=cntFr c) (K:=1000) (sep:=cmW) (l:=a.fr.l) fun x hx=>fr_tlen hL (ha.fr x hx) (h.fr x hx)
 have ks:=sum_le (g:=fun x=>(frT tq x).length + cmW.length) (c:=cntFr c) (K:=1000) (l:=a.fr.l) fun x hx=>fr_tlen hL (ha.fr x hx) (h.fr x hx)
 have hB:=fun S hS T H n hn1 h3 h1 hH=>rsel9_ok (f:=f) hf hL hT a ha h hn S hS T H n hn1 h3 h1 hH
 rw [rs_e6]
 unfold rC c143
 unfold QP.row at *
 simp only [go_sem,reduceIte,rE,rF,rG,rH,headS,h1,h3,h52,hH,lA,lB,lC]
 refine ⟨by omega,?_⟩
 refine WP_scan rfl 6 a.fr.l.length (fun _=>True) (fun j T H n=>1 ≤ n ∧ H 0 = .box 38 ((QP.row f a).map .s) ∧ Own 1 9 1 H n (T 4) (((a.fr.l.take j).map (frT tq)).map txRow)) rfl ⟨by omega,hH,.lit⟩ ?_ ?_
 ·rintro j T' H' n' hlt hf' hi ⟨hn',hH',ho'⟩ _
  have g1:T' 1 = .ptr 0 0:=(hf' 1 rfl).trans h1
  clear hf'
  have hji:(j:Int) < a.fr.l.length:=by omega
  have hj0:(0:Int) ≤ j:=by omega
  have hwj:=wrap_suc (j:=j) (by omega)
  have hnx:((a.fr.l.take (j + 1)).map (frT tq)).map txRow=((a.fr.l.take j).map (frT tq)).map txRow ++ [txRow ((frT tq) (a.fr.l.getD j default))]:=by
   rw [take_step default hlt]; simp
  rw [hnx]
  have hle:(((a.fr.l.take j).map (frT tq)).map txRow).length ≤ 1000000:=by rw [List.length_map,List.length_map,List.length_take]; omega
  generalize ((a.fr.l.take j).map (frT tq)).map txRow=rows at ho' hle ⊢
  have hm:=getD_mem (l:=a.fr.l) (j:=j) default hlt
  have hx1:∀ agg sz off HH,loadM agg sz HH (.eptr (a.fr.l.map (FrP.row f)) j off)=loadS agg sz (FrP.row f (a.fr.l.getD j default)) off:=fun agg sz off HH=>by rw [load_eptr,if_pos hlt]
  have hia:=fun (s:Slc (FrP Q)) (HH:Ob) (kk:IntKind) (ii:Int)=>(fr_ags (f:=f)).ia (s:=s) (H:=HH) (k:=kk) (i:=ii)
  have hcs:=sum_mem (g:=cntFr c) hm
  have hwX:=ha.fr _ hm
  have hvX:=h.fr _ hm
  have hld:=fun HH=>(fr_ags (f:=f)).load (l:=a.fr.l) (j:=j) (H:=HH) hlt
  generalize a.fr.l.getD j default=X at hld hcs hwX hvX ⊢
  obtain ⟨nm,al,qs⟩:=X
  have hsc:setCells [SV.str [],SV.str [],SV.nils] 0 [.str nm,.str al,qs.sv f]=[.str nm,.str al,qs.sv f]:=rfl
  have hrow:FrP.row f ⟨nm,al,qs⟩=[.str nm,.str al,qs.sv f]:=rfl
  rw [hrow] at hld
  have hcs:1 + (qs.l.map c).sum ≤ _:=hcs
  unfold vFr at hvX
  have hft:frT tq ⟨nm,al,qs⟩=if qs.l.length=0 then nm ++ asT al else par (tq (qs.l.getD 0 default)) ++ asT al:=rfl
  rw [hft]
  by_cases h0:qs.l.length=0
  ·have hvX:(nameV nm && optV al)=true:=by rw [if_pos h0] at hvX; exact hvX
   simp only [Bool.and_eq_true] at hvX
   have q1:=name_len hvX.1
   have q2:=opt_len hvX.2
   have q3:=as_len hvX.2
   have d0:decide (0 < qs.l.length)=false:=decide_eq_false (by omega)
   have e1:=as_ok al (by omega)
   rw [if_pos h0]
   generalize asT al=A at e1 q3 ⊢
   simp only [go_sem,reduceIte,rE,rF,rG,rH,QP.row,g1,hi,hH',hji,hj0,and_self,decide_true,hia,Int.toNat_natCast,hld,hsc,pos_dec,d0]
   refine WC_p rfl rfl e1 ?_
   simp only [go_sem,reduceIte,rE,rF,rG,rH,lA,lB,lC]
   refine ⟨by omega,?_⟩
   have ho1:∀ zz,Own 1 9 1 (H'.set (n' + 5 + 5) zz) n' (T' 4) rows:=fun zz=>ho'.kept (Nat.le_refl _) (fun j _ hj=>by unfold Ob.set; rw [if_neg (by omega)])
   refine WX_app (ho1 _) rows_slice (by simp) (by simp; omega) (by omega) (by omega) ?_
   intro p1 H2 ho2 hfr2 hof2
   have hH2:=(hfr2 0 (by omega) (ho'.off (.inl (by omega)))).trans ((show (H'.set (n' + 5 + 5) _) 0=H' 0 by unfold Ob.set; rw [if_neg (by omega)]).trans hH')
   simp only [go_sem,reduceIte,rE,rF,rG,rH,hi,hwj]
   exact ⟨hH2,ho2.kept (by omega) (fun _ _ _=>rfl)⟩
  ·have hvX:(decide (nm=[]) && nameV al && decide (qs.l.length=1) && vq (qs.l.getD 0 default))=true:=by rw [if_neg h0] at hvX; exact hvX
   simp only [Bool.and_eq_true] at hvX
   have q2:=name_len hvX.1.1.2
   have q3:=as_len (show optV al=true by unfold optV; rw [hvX.1.1.2]; simp)
   have d0:decide (0 < qs.l.length)=true:=decide_eq_true (by omega)
   have hm0:=getD_mem (l:=qs.l) (j:=0) default (by omega)
   have hc0:=sum_mem (g:=c) hm0
   have hin:(0:Int) ≤ 0 ∧ (0:Int) < (qs.l.length:Int):=⟨by decide,by omega⟩
   have e0:Int.toNat 0=0:=rfl
   have hq0:=q_at hf (l:=qs.l) (i:=0) (by omega)
   have e2:=hT _ (hwX.2 _ hm0) (.inl hvX.2) (by omega)
   have kl:=hL _ (hwX.2 _ hm0) (.inl hvX.2)
   have kl2:(tq (qs.l.getD 0 default)).length ≤ 10000000:=by omega
   have e1:=as_ok al (by omega)
   rw [if_neg h0]
   clear kl hc0
   generalize asT al=A at e1 q3 ⊢
   generalize tq (qs.l.getD 0 default)=B at e2 kl2 ⊢
   simp only [go_sem,reduceIte,rE,rF,rG,rH,QP.row,g1,hi,hH',hji,hj0,and_self,decide_true,hia,Int.toNat_natCast,hld,hsc,pos_dec,d0,(q_ags hf).ia,hin,e0,hq0]
   refine WC_p rfl (by rw [pure_st]; rfl) e2 ?_
   simp only [go_sem,reduceIte,rE,rF,rG,rH,lA,lB,lC]
   refine ⟨by omega,?_⟩
   refine WC_p rfl rfl e1 ?_
   simp only [go_sem,reduceIte,rE,rF,rG,rH,lA,lB,lC]
   refine ⟨by omega,?_⟩
   have ho1:∀ zz,Own 1 9 1 (H'.set (n' + 5 + 5) zz) n' (T' 4) rows:=fun zz=>ho'.kept (Nat.le_refl _) (fun j _ hj=>by unfold Ob.set; rw [if_neg (by omega)])
   refine WX_app (ho1 _) rows_slice (by simp) (by simp; omega) (by omega) (by omega) ?_
   intro p1 H2 ho2 hfr2 hof2
   have hH2:=(hfr2 0 (by omega) (ho'.off (.inl (by omega)))).trans ((show (H'.set (n' + 5 + 5) _) 0=H' 0 by unfold Ob.set; rw [if_neg (by omega)]).trans hH')
   simp only [go_sem,reduceIte,rE,rF,rG,rH,hi,hwj]
   exact ⟨hH2,ho2.kept (by omega) (fun _ _ _=>rfl)⟩
 ·rintro T' H' n' hf' hi ⟨hn',hH',ho'⟩ _
  have g3:T' 3 = .str _:=(hf' 3 rfl).trans h3
  have g1:T' 1 = .ptr 0 0:=(hf' 1 rfl).trans h1
  clear hf'
  rw [List.take_length] at ho'
  unfold QP.row at hH'
  simp only [go_sem,reduceIte,rE,rF,rG,rH,g1,g3,hi,hH',Int.lt_irrefl,decide_false]
  refine WC_own1m (v := .str (Lib.join (a.fr.l.map (frT tq)) cmW)) [] [.s (.str cmW)] ho' rfl rfl rfl (fun s hs => ?_) ?_
  ·have:=refJoin_ok s cmW (by rw [hs,List.length_map]; omega) (by rw [hs,sums_map]; omega) (by decide)
   rw [hs] at this
   exact this
  ·intro H2 ho2 hof
   have hH2:=(hof 0 (ho'.off (.inl (by omega)))).trans hH'
   have hj2:(Lib.join (a.fr.l.map (frT tq)) cmW).length ≤ 10000000:=by omega
   generalize Lib.join (a.fr.l.map (frT tq)) cmW=J2 at hj2 ⊢
   simp only [go_sem,reduceIte,rE,rF,rG,rH,g3,lA,lB,lC]
   refine ⟨by omega,?_⟩
   refine hB (s ++ J2) (by rw [List.length_append]; omega) _ _ _ (by omega) rfl ?_ hH2
   exact g1
include hf hL hT in
set_option maxHeartbeats 1000000 in
theorem rsel3_ok (a:QP Q) (ha:wfQP w a) (h:SelOk vq a) (hn:cntQP c a ≤ 10000) (s:List UInt8) (hs:s.length ≤ 1000) (T:Nat→PV) (H:Ob) (n:Nat) (hn1:1 ≤ n) (h3:T 3 = .str s) (h1:T 1 = .ptr 0 0) (hH:H 0 = .box 38 ((QP.row f a).map .s)) :
  WP EE rsel3 T H n (Fin [.t 2] (.str (s ++ Lib.join (a.it.l.map itT) cmW ++ frW ++ Lib.join (a.fr.l.map (frT tq)) cmW ++ selB tq a ++ selC a ++ selD a))):=by
 have hc1:(a.it.l.map fun x:Itm=>cnt x.e).sum ≤ 10000:=by unfold cntQP at hn; omega
 have l1:=len_sum (c:=fun x:Itm=>cnt x.e) (l:=a.it.l) fun x _=>cnt_pos x.e
 have j1:=join_le (t:=itT) (c:=fun x:Itm=>cnt x.e) (K:=1000) (sep:=cmW) (l:=a.it.l) fun x hx=>it_tlen (ha.it x hx) (h.it x hx)
 have ks:=sum_le (g:=fun x=>(itT x).length + cmW.length) (c:=fun x:Itm=>cnt x.e) (K:=1000) (l:=a.it.l) fun x hx=>it_tlen (ha.it x hx) (h.it x hx)
 have hB:=fun S J hS hJ T H n hn1 h3 h52 h1 hH=>rsel6_ok (f:=f) hf hL hT a ha h hn S J hS hJ T H n hn1 h3 h52 h1 hH
 rw [rs_e3]
 unfold rC c143
 unfold QP.row at *
 simp only [go_sem,reduceIte,rE,rF,rG,rH,headS,h1,h3,hH]
 refine WP_scan rfl 5 a.it.l.length (fun _=>True) (fun j T H n=>1 ≤ n ∧ H 0 = .box 38 ((QP.row f a).map .s) ∧ Own 1 9 1 H n (T 4) (((a.it.l.take j).map itT).map txRow)) rfl ⟨by omega,hH,.lit⟩ ?_ ?_
 ·rintro j T' H' n' hlt hf' hi ⟨hn',hH',ho'⟩ _
  have g1:T' 1 = .ptr 0 0:=(hf' 1 rfl).trans h1
  clear hf'
  have hji:(j:Int) < a.it.l.length:=by omega
  have hj0:(0:Int) ≤ j:=by omega
  have hwj:=wrap_suc (j:=j) (by omega)
  have hnx:((a.it.l.take (j + 1)).map itT).map txRow=((a.it.l.take j).map itT).map txRow ++ [txRow (itT (a.it.l.getD j default))]:=by
   rw [take_step default hlt]; simp
  rw [hnx]
  have hle:(((a.it.l.take j).map itT).map txRow).length ≤ 1000000:=by rw [List.length_map,List.length_map,List.length_take]; omega
  generalize ((a.it.l.take j).map itT).map txRow=rows at ho' hle ⊢
  have hm:=getD_mem (l:=a.it.l) (j:=j) default hlt
  have hx1:∀ agg sz off HH,loadM agg sz HH (.eptr (a.it.l.map (Itm.row)) j off)=loadS agg sz (Itm.row (a.it.l.getD j default)) off:=fun agg sz off HH=>by rw [load_eptr,if_pos hlt]
  have hia:=fun (s:Slc Itm) (HH:Ob) (kk:IntKind) (ii:Int)=>(itm_ags).ia (s:=s) (H:=HH) (k:=kk) (i:=ii)
  have hcs:=sum_mem (g:=fun x:Itm=>cnt x.e) hm
  have hwX:=ha.it _ hm
  have hvX:=h.it _ hm
  generalize a.it.l.getD j default=X at hx1 hcs hwX hvX ⊢
  obtain ⟨st,⟨k,v,tb,nm,op,fn,fl,xs⟩,al⟩:=X
  have hr:Itm.row ⟨st,.mk k v tb nm op fn fl xs,al⟩=[.bool st,.int .i64 k,.int .i64 v.kind,.int .i64 v.n,.str v.text,.str tb,.str nm,.int .i64 op,.int .i64 fn,(mkS fl xs).sv Tr.row,.str al]:=by unfold Itm.row; rw [row_mk]; rfl
  rw [hr] at hx1
  cases st with
  | true =>
   have ht:itT ⟨true,.mk k v tb nm op fn fl xs,al⟩=[42]:=rfl
   rw [ht]
   simp only [go_sem,reduceIte,rE,rF,rG,rH,QP.row,g1,hi,hH',hji,hj0,and_self,decide_true,hia,Int.toNat_natCast,hx1]
   refine WX_app ho' rows_slice (by simp) (by simp; omega) (by omega) (by omega) ?_
   intro p1 H2 ho2 hfr2 hof2
   have hH2:=(hfr2 0 (by omega) (ho'.off (.inl (by omega)))).trans hH'
   simp only [go_sem,reduceIte,rE,rF,rG,rH,hi,hwj]
   exact ⟨hH2,ho2.kept (by omega) (fun _ _ _=>rfl)⟩
  | false =>
   have hvX:vItm ⟨false,.mk k v tb nm op fn fl xs,al⟩=true:=hvX.resolve_left (by simp)
   unfold vItm at hvX
   simp only [Bool.and_eq_true,Bool.or_eq_true] at hvX
   have hcs:cnt (.mk k v tb nm op fn fl xs) ≤ _:=hcs
   have e1:=refText_ok _ (.mk k v tb nm op fn fl xs) (Nat.le_refl _) (by omega) hwX hvX.2
   have hl1:(txt (.mk k v tb nm op fn fl xs)).length ≤ 600 * cnt (.mk k v tb nm op fn fl xs):=txt_len2 hwX hvX.2
   have ha1:al.length ≤ 31:=opt_len hvX.1.2
   have q3:(asT al).length ≤ 35:=as_len hvX.1.2
   have e2:=as_ok al (by omega)
   have ht:itT ⟨false,.mk k v tb nm op fn fl xs,al⟩=txt (.mk k v tb nm op fn fl xs) ++ asT al:=rfl
   rw [ht]
   rw [row_mk] at e1
   have hl2:(txt (.mk k v tb nm op fn fl xs)).length ≤ 10000000:=by omega
   clear hl1 hcs
   generalize txt (.mk k v tb nm op fn fl xs)=A at e1 hl2 ⊢
   generalize asT al=B at e2 q3 ⊢
   simp only [go_sem,reduceIte,rE,rF,rG,rH,QP.row,g1,hi,hH',hji,hj0,and_self,decide_true,hia,Int.toNat_natCast,hx1]
   refine WC_p rfl rfl e1 ?_
   simp only [go_sem,reduceIte,rE,rF,rG,rH,QP.row,g1,hi,hH',hji,hj0,and_self,decide_true,hia,Int.toNat_natCast,hx1]
   refine WC_p rfl rfl e2 ?_
   simp only [go_sem,reduceIte,rE,rF,rG,rH,lA,lB,lC]
   refine ⟨by omega,?_⟩
   refine WX_app ho' rows_slice (by simp) (by simp; omega) (by omega) (by omega) ?_
   intro p1 H2 ho2 hfr2 hof2
   have hH2:=(hfr2 0 (by omega) (ho'.off (.inl (by omega)))).trans hH'
   simp only [go_sem,reduceIte,rE,rF,rG,rH,hi,hwj]
   exact ⟨hH2,ho2.kept (by omega) (fun _ _ _=>rfl)⟩
 ·rintro T' H' n' hf' hi ⟨hn',hH',ho'⟩ _
  have g3:T' 3 = .str _:=(hf' 3 rfl).trans h3
  have g1:T' 1 = .ptr 0 0:=(hf' 1 rfl).trans h1
  clear hf'
  rw [List.take_length] at ho'
  unfold QP.row at hH'
  simp only [go_sem,reduceIte,rE,rF,rG,rH,g1,g3,hi,hH',Int.lt_irrefl,decide_false]
  refine WC_own1m (v := .str (Lib.join (a.it.l.map itT) cmW)) [] [.s (.str cmW)] ho' rfl rfl rfl (fun s hs => ?_) ?_
  ·have:=refJoin_ok s cmW (by rw [hs,List.length_map]; omega) (by rw [hs,sums_map]; omega) (by decide)
   rw [hs] at this
   exact this
  ·intro H2 ho2 hof
   have hH2:=(hof 0 (ho'.off (.inl (by omega)))).trans hH'
   have hj2:(Lib.join (a.it.l.map itT) cmW).length ≤ 10000000:=by omega
   generalize Lib.join (a.it.l.map itT) cmW=J2 at hj2 ⊢
   simp only [go_sem,reduceIte,rE,rF,rG,rH,g3,lA,lB,lC]
   refine ⟨by omega,?_⟩
   have e6:frW.length=6:=rfl
   have hS:s ++ J2 ++ frW=s ++ (J2 ++ frW):=by rw [List.append_assoc]
   rw [hS]
   refine hB (s ++ (J2 ++ frW)) J2 (by rw [List.length_append,List.length_append]; omega) (by omega) _ _ _ (by omega) rfl rfl ?_ hH2
   exact g1
include hf hL hT in
theorem refSelect_txt (a:QP Q) (ha:wfQP w a) (h:SelOk vq a) (hn:cntQP c a ≤ 10000):calL EE 143 [.st (QP.row f a)] []=some (.ret (.str (selT tq a)),[]):=by
 have hA:=fun S hS T H n hn1 h3 h1 hH=>rsel3_ok (f:=f) hf hL hT a ha h hn S hS T H n hn1 h3 h1 hH
 refine fn_ok f143 (by simp) ?_
 rw [rs_e0]
 unfold rC c143 selT selA
 unfold QP.row at *
 cases hd:a.ds with
 | false =>
  rw [hd] at hA
  simp only [go_sem,reduceIte,rE,rF,rG,rH,headS,hd]
  exact hA seW (by decide) _ _ _ (by omega) rfl rfl rfl
 | true =>
  rw [hd] at hA
  simp only [go_sem,reduceIte,rE,rF,rG,rH,headS,hd]
  exact hA (seW ++ diW) (by decide) _ _ _ (by omega) rfl rfl rfl
end
end Go.Vm
