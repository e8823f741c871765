/- Chapter 24: which queries are valid, by the reference. -/
import Derived.Test.YtaepmmmcipolbaaGreatDoorQSfVb
set_option linter.unusedVariables false
set_option linter.unusedSimpArgs false
set_option maxRecDepth 100000
namespace Go.Vm
open Nat renaming reduceEqDiff→rA,reduceAdd→rB,reduceLeDiff→rC,reduceLT→rD
open Go
theorem sum_dec {a b c d e g:Nat} (h:a ≤ RB ∧ b ≤ RB ∧ c ≤ RB ∧ d ≤ RB ∧ e ≤ RB ∧ g ≤ RB):decide (IntKind.i64.wrap (IntKind.i64.wrap (IntKind.i64.wrap (IntKind.i64.wrap (IntKind.i64.wrap ((a:Int) + b) + c) + d) + e) + g)=0)=(decide (a=0) && decide (b=0) && decide (c=0) && decide (d=0) && decide (e=0) && decide (g=0)):=by
 have hRB:RB=140737488351232:=rfl
 rw [wrap_in (x:=(a:Int) + b) (by omega) (by omega),wrap_in (x:=(a:Int) + b + c) (by omega) (by omega),wrap_in (x:=(a:Int) + b + c + d) (by omega) (by omega),wrap_in (x:=(a:Int) + b + c + d + e) (by omega) (by omega),wrap_in (by omega) (by omega)]
 rw [Bool.eq_iff_iff]
 simp only [Bool.and_eq_true,decide_eq_true_eq]
 omega
section
variable {Q:Type} [Inhabited Q] {f:Q→List SV} (hf:∀ x,(f x).length=10) {w:Q→Prop} {vq vb:Q→Bool}
 (rV:∀ a,w a→calL EE 18 [.st (f a)] []=some (.ret (.bool (vq a)),[]))
 (rB:∀ a,w a→calL EE 61 [.st (f a)] []=some (.ret (.bool (vb a)),[]))
include hf
include rV in
set_option maxHeartbeats 4000000 in
theorem refFrom_ok (x:Slc (FrP Q)) (hl:x.l.length ≤ mxL) (hw:∀ a ∈ x.l,wfFr w a):calL EE 137 [.s (x.sv (FrP.row f))] []=some (.ret (.bool (decide (0 < x.l.length) && x.l.all (vFr vq))),[]):=by
 refine fn_ok f137 (by simp) ?_
 unfold c137
 simp only [go_sem,reduceIte,rA,rB,rC,rD]
 refine WP_scan rfl 3 x.l.length (fun j=>vFr vq (x.l.getD j default)=true) (fun _ _ _ _=>True) rfl trivial ?_ ?_
 ·rintro j T' H' n' hlt hf' hi _ _
  have h0:T' 0 = .s (x.sv (FrP.row f)):=hf' 0 rfl
  clear hf'
  have hji:(j:Int) < x.l.length:=by omega
  have hj0:(0:Int) ≤ j:=by omega
  have hwj:=wrap_suc (j:=j) (by have:mxL=9223372036854775807:=rfl; omega)
  have hld:=fun HH=>(fr_ags (f:=f)).load (l:=x.l) (j:=j) (H:=HH) hlt
  have hia:=fun (s:Slc (FrP Q)) (HH:Ob) (kk:IntKind) (ii:Int)=>(fr_ags (f:=f)).ia (s:=s) (H:=HH) (k:=kk) (i:=ii)
  have bad:vFr vq (x.l.getD j default)=false→x.l.all (vFr vq)=false:=fun h=>all_not default hlt h
  have hwX:=hw _ (getD_mem (l:=x.l) default hlt)
  have hq:vFr vq (x.l.getD j default)=vFr vq (x.l.getD j default):=rfl
  generalize hX:x.l.getD j default=X at hld bad hwX
  conv at hq=>rhs; rw [hX]
  obtain ⟨nm,al,qs⟩:=X
  have hs:vFr vq ⟨nm,al,qs⟩=if qs.l.length=0 then nameV nm && optV al else decide (nm=[]) && nameV al && decide (qs.l.length=1) && vq (qs.l.getD 0 default):=rfl
  rw [hs] at bad hq
  have e1:=refName_ok nm
  have e2:=alias_ok al
  have e3:=refName_ok al
  have hsc:setCells [SV.str [],SV.str [],SV.nils] 0 [.str nm,.str al,qs.sv f]=[.str nm,.str al,qs.sv f]:=rfl
  have hrow:FrP.row f ⟨nm,al,qs⟩=[.str nm,.str al,qs.sv f]:=rfl
  rw [hrow] at hld
  generalize nameV nm=r1 at e1 bad hq
  generalize optV al=r2 at e2 bad hq
  generalize nameV al=r3 at e3 bad hq
  by_cases hz:qs.l.length=0
  ·have d0:decide (qs.l.length=0)=true:=decide_eq_true hz
   have d9:decide (qs.l.length=1)=false:=decide_eq_false (by omega)
   rw [if_pos hz] at bad hq
   simp only [go_sem,reduceIte,rA,rB,rC,rD,h0,hi,hji,hj0,and_self,decide_true,hia,Int.toNat_natCast,hld,hsc,zero_dec,one_dec,d0,d9]
   refine WC_p rfl rfl e1 ?_
   cases r1 with
   | false =>
    simp only [go_sem,reduceIte,rA,rB,rC,rD,h0,hi,hji,hj0,and_self,decide_true,hia,Int.toNat_natCast,hld,hsc,zero_dec,one_dec,d0,d9]
    cases de:decide (nm=[]) with
    | false =>
     simp only [go_sem,reduceIte,rA,rB,rC,rD,h0,hi,hji,hj0,and_self,decide_true,hia,Int.toNat_natCast,hld,hsc,zero_dec,one_dec,d0,d9,de,bad (by rfl)]
    | true =>
     simp only [go_sem,reduceIte,rA,rB,rC,rD,h0,hi,hji,hj0,and_self,decide_true,hia,Int.toNat_natCast,hld,hsc,zero_dec,one_dec,d0,d9,de]
     refine WC_p rfl rfl e3 ?_
     cases r3 with
     | false=>simp only [go_sem,reduceIte,rA,rB,rC,rD,h0,hi,hji,hj0,and_self,decide_true,hia,Int.toNat_natCast,hld,hsc,zero_dec,one_dec,d0,d9,de,bad (by rfl)]
     | true=>simp only [go_sem,reduceIte,rA,rB,rC,rD,h0,hi,hji,hj0,and_self,decide_true,hia,Int.toNat_natCast,hld,hsc,zero_dec,one_dec,d0,d9,de,bad (by rfl)]
   | true =>
    simp only [go_sem,reduceIte,rA,rB,rC,rD,h0,hi,hji,hj0,and_self,decide_true,hia,Int.toNat_natCast,hld,hsc,zero_dec,one_dec,d0,d9]
    refine WC_p rfl rfl e2 ?_
    cases r2 with
    | false =>
     simp only [go_sem,reduceIte,rA,rB,rC,rD,h0,hi,hji,hj0,and_self,decide_true,hia,Int.toNat_natCast,hld,hsc,zero_dec,one_dec,d0,d9]
     cases de:decide (nm=[]) with
     | false =>
      simp only [go_sem,reduceIte,rA,rB,rC,rD,h0,hi,hji,hj0,and_self,decide_true,hia,Int.toNat_natCast,hld,hsc,zero_dec,one_dec,d0,d9,de,bad (by rfl)]
     | true =>
      simp only [go_sem,reduceIte,rA,rB,rC,rD,h0,hi,hji,hj0,and_self,decide_true,hia,Int.toNat_natCast,hld,hsc,zero_dec,one_dec,d0,d9,de]
      refine WC_p rfl rfl e3 ?_
      cases r3 with
      | false=>simp only [go_sem,reduceIte,rA,rB,rC,rD,h0,hi,hji,hj0,and_self,decide_true,hia,Int.toNat_natCast,hld,hsc,zero_dec,one_dec,d0,d9,de,bad (by rfl)]
      | true=>simp only [go_sem,reduceIte,rA,rB,rC,rD,h0,hi,hji,hj0,and_self,decide_true,hia,Int.toNat_natCast,hld,hsc,zero_dec,one_dec,d0,d9,de,bad (by rfl)]
    | true =>
     simp only [go_sem,reduceIte,rA,rB,rC,rD,h0,hi,hji,hj0,and_self,decide_true,hia,Int.toNat_natCast,hld,hsc,zero_dec,one_dec,d0,d9]
     cases de:decide (nm=[]) with
     | false =>
      simp only [go_sem,reduceIte,rA,rB,rC,rD,h0,hi,hji,hj0,and_self,decide_true,hia,Int.toNat_natCast,hld,hsc,zero_dec,one_dec,d0,d9,de,hq,hwj]
     | true =>
      simp only [go_sem,reduceIte,rA,rB,rC,rD,h0,hi,hji,hj0,and_self,decide_true,hia,Int.toNat_natCast,hld,hsc,zero_dec,one_dec,d0,d9,de]
      refine WC_p rfl rfl e3 ?_
      cases r3 with
      | false=>simp only [go_sem,reduceIte,rA,rB,rC,rD,h0,hi,hji,hj0,and_self,decide_true,hia,Int.toNat_natCast,hld,hsc,zero_dec,one_dec,d0,d9,de,hq,hwj]
      | true=>simp only [go_sem,reduceIte,rA,rB,rC,rD,h0,hi,hji,hj0,and_self,decide_true,hia,Int.toNat_natCast,hld,hsc,zero_dec,one_dec,d0,d9,de,hq,hwj]
  ·have d0:decide (qs.l.length=0)=false:=decide_eq_false hz
   rw [if_neg hz] at bad hq
   simp only [go_sem,reduceIte,rA,rB,rC,rD,h0,hi,hji,hj0,and_self,decide_true,hia,Int.toNat_natCast,hld,hsc,zero_dec,one_dec,d0]
   refine WC_p rfl rfl e1 ?_
   cases r1 with
   | false =>
    simp only [go_sem,reduceIte,rA,rB,rC,rD,h0,hi,hji,hj0,and_self,decide_true,hia,Int.toNat_natCast,hld,hsc,zero_dec,one_dec,d0]
    cases de:decide (nm=[]) with
    | false =>
     rw [de] at bad
     simp only [go_sem,reduceIte,rA,rB,rC,rD,h0,hi,hji,hj0,and_self,decide_true,hia,Int.toNat_natCast,hld,hsc,zero_dec,one_dec,d0,de,bad (by rfl)]
    | true =>
     simp only [go_sem,reduceIte,rA,rB,rC,rD,h0,hi,hji,hj0,and_self,decide_true,hia,Int.toNat_natCast,hld,hsc,zero_dec,one_dec,d0,de]
     refine WC_p rfl rfl e3 ?_
     cases r3 with
     | false =>
      rw [de] at bad
      simp only [go_sem,reduceIte,rA,rB,rC,rD,h0,hi,hji,hj0,and_self,decide_true,hia,Int.toNat_natCast,hld,hsc,zero_dec,one_dec,d0,de,bad (by rfl)]
     | true =>
      rw [de] at bad hq
      cases d1:decide (qs.l.length=1) with
      | false =>
       rw [d1] at bad
       simp only [go_sem,reduceIte,rA,rB,rC,rD,h0,hi,hji,hj0,and_self,decide_true,hia,Int.toNat_natCast,hld,hsc,zero_dec,one_dec,d0,de,d1,bad (by rfl)]
      | true =>
       rw [d1] at bad hq
       have h1:qs.l.length=1:=of_decide_eq_true d1
       have hin:(0:Int) ≤ 0 ∧ (0:Int) < (qs.l.length:Int):=⟨by decide,by omega⟩
       have e0:Int.toNat 0=0:=rfl
       have hq0:=q_at hf (l:=qs.l) (i:=0) (by omega)
       have e4:=rV _ (hwX.2 _ (getD_mem (l:=qs.l) (j:=0) default (by omega)))
       generalize vq (qs.l.getD 0 default)=r4 at e4 bad hq
       simp only [go_sem,reduceIte,rA,rB,rC,rD,h0,hi,hji,hj0,and_self,decide_true,hia,Int.toNat_natCast,hld,hsc,zero_dec,one_dec,d0,de,d1,(q_ags hf).ia,hin,e0,hq0]
       refine WC_p rfl (by rw [pure_st]; rfl) e4 ?_
       cases r4 with
       | false=>simp only [go_sem,reduceIte,rA,rB,rC,rD,h0,hi,hji,hj0,and_self,decide_true,hia,Int.toNat_natCast,hld,hsc,zero_dec,one_dec,d0,de,d1,bad (by rfl)]
       | true=>simp only [go_sem,reduceIte,rA,rB,rC,rD,h0,hi,hji,hj0,and_self,decide_true,hia,Int.toNat_natCast,hld,hsc,zero_dec,one_dec,d0,de,d1,hq,hwj]
   | true =>
    simp only [go_sem,reduceIte,rA,rB,rC,rD,h0,hi,hji,hj0,and_self,decide_true,hia,Int.toNat_natCast,hld,hsc,zero_dec,one_dec,d0]
    refine WC_p rfl rfl e2 ?_
    cases r2 with
    | false =>
     simp only [go_sem,reduceIte,rA,rB,rC,rD,h0,hi,hji,hj0,and_self,decide_true,hia,Int.toNat_natCast,hld,hsc,zero_dec,one_dec,d0]
     cases de:decide (nm=[]) with
     | false =>
      rw [de] at bad
      simp only [go_sem,reduceIte,rA,rB,rC,rD,h0,hi,hji,hj0,and_self,decide_true,hia,Int.toNat_natCast,hld,hsc,zero_dec,one_dec,d0,de,bad (by rfl)]
     | true =>
      simp only [go_sem,reduceIte,rA,rB,rC,rD,h0,hi,hji,hj0,and_self,decide_true,hia,Int.toNat_natCast,hld,hsc,zero_dec,one_dec,d0,de]
      refine WC_p rfl rfl e3 ?_
      cases r3 with
      | false =>
       rw [de] at bad
       simp only [go_sem,reduceIte,rA,rB,rC,rD,h0,hi,hji,hj0,and_self,decide_true,hia,Int.toNat_natCast,hld,hsc,zero_dec,one_dec,d0,de,bad (by rfl)]
      | true =>
       rw [de] at bad hq
       cases d1:decide (qs.l.length=1) with
       | false =>
        rw [d1] at bad
        simp only [go_sem,reduceIte,rA,rB,rC,rD,h0,hi,hji,hj0,and_self,decide_true,hia,Int.toNat_natCast,hld,hsc,zero_dec,one_dec,d0,de,d1,bad (by rfl)]
       | true =>
        rw [d1] at bad hq
        have h1:qs.l.length=1:=of_decide_eq_true d1
        have hin:(0:Int) ≤ 0 ∧ (0:Int) < (qs.l.length:Int):=⟨by decide,by omega⟩
        have e0:Int.toNat 0=0:=rfl
        have hq0:=q_at hf (l:=qs.l) (i:=0) (by omega)
        have e4:=rV _ (hwX.2 _ (getD_mem (l:=qs.l) (j:=0) default (by omega)))
        generalize vq (qs.l.getD 0 default)=r4 at e4 bad hq
        simp only [go_sem,reduceIte,rA,rB,rC,rD,h0,hi,hji,hj0,and_self,decide_true,hia,Int.toNat_natCast,hld,hsc,zero_dec,one_dec,d0,de,d1,(q_ags hf).ia,hin,e0,hq0]
        refine WC_p rfl (by rw [pure_st]; rfl) e4 ?_
        cases r4 with
        | false=>simp only [go_sem,reduceIte,rA,rB,rC,rD,h0,hi,hji,hj0,and_self,decide_true,hia,Int.toNat_natCast,hld,hsc,zero_dec,one_dec,d0,de,d1,bad (by rfl)]
        | true=>simp only [go_sem,reduceIte,rA,rB,rC,rD,h0,hi,hji,hj0,and_self,decide_true,hia,Int.toNat_natCast,hld,hsc,zero_dec,one_dec,d0,de,d1,hq,hwj]
    | true =>
     simp only [go_sem,reduceIte,rA,rB,rC,rD,h0,hi,hji,hj0,and_self,decide_true,hia,Int.toNat_natCast,hld,hsc,zero_dec,one_dec,d0]
     cases de:decide (nm=[]) with
     | false =>
      rw [de] at bad
      simp only [go_sem,reduceIte,rA,rB,rC,rD,h0,hi,hji,hj0,and_self,decide_true,hia,Int.toNat_natCast,hld,hsc,zero_dec,one_dec,d0,de,bad (by rfl)]
     | true =>
      simp only [go_sem,reduceIte,rA,rB,rC,rD,h0,hi,hji,hj0,and_self,decide_true,hia,Int.toNat_natCast,hld,hsc,zero_dec,one_dec,d0,de]
      refine WC_p rfl rfl e3 ?_
      cases r3 with
      | false =>
       rw [de] at bad
       simp only [go_sem,reduceIte,rA,rB,rC,rD,h0,hi,hji,hj0,and_self,decide_true,hia,Int.toNat_natCast,hld,hsc,zero_dec,one_dec,d0,de,bad (by rfl)]
      | true =>
       rw [de] at bad hq
       cases d1:decide (qs.l.length=1) with
       | false =>
        rw [d1] at bad
        simp only [go_sem,reduceIte,rA,rB,rC,rD,h0,hi,hji,hj0,and_self,decide_true,hia,Int.toNat_natCast,hld,hsc,zero_dec,one_dec,d0,de,d1,bad (by rfl)]
       | true =>
        rw [d1] at bad hq
        have h1:qs.l.length=1:=of_decide_eq_true d1
        have hin:(0:Int) ≤ 0 ∧ (0:Int) < (qs.l.length:Int):=⟨by decide,by omega⟩
        have e0:Int.toNat 0=0:=rfl
        have hq0:=q_at hf (l:=qs.l) (i:=0) (by omega)
        have e4:=rV _ (hwX.2 _ (getD_mem (l:=qs.l) (j:=0) default (by omega)))
        generalize vq (qs.l.getD 0 default)=r4 at e4 bad hq
        simp only [go_sem,reduceIte,rA,rB,rC,rD,h0,hi,hji,hj0,and_self,decide_true,hia,Int.toNat_natCast,hld,hsc,zero_dec,one_dec,d0,de,d1,(q_ags hf).ia,hin,e0,hq0]
        refine WC_p rfl (by rw [pure_st]; rfl) e4 ?_
        cases r4 with
        | false=>simp only [go_sem,reduceIte,rA,rB,rC,rD,h0,hi,hji,hj0,and_self,decide_true,hia,Int.toNat_natCast,hld,hsc,zero_dec,one_dec,d0,de,d1,bad (by rfl)]
        | true=>simp only [go_sem,reduceIte,rA,rB,rC,rD,h0,hi,hji,hj0,and_self,decide_true,hia,Int.toNat_natCast,hld,hsc,zero_dec,one_dec,d0,de,d1,hq,hwj]
 ·rintro T' H' n' hf' hi _ hp
  have h0:T' 0 = .s (x.sv (FrP.row f)):=hf' 0 rfl
  clear hf'
  simp only [go_sem,reduceIte,rA,rB,rC,rD,h0,hi,Int.lt_irrefl,decide_false,all_good hp,pos_dec]
include rV in
set_option maxHeartbeats 1000000 in
theorem refMembers_ok (x:Slc (MbP Q)) (hl:x.l.length ≤ mxL) (hw:∀ a ∈ x.l,wfMb w a):calL EE 138 [.s (x.sv (MbP.row f))] []=some (.ret (.bool (x.l.all (vMb vq))),[]):=by
 refine fn_ok f138 (by simp) ?_
 unfold c138
 simp only [go_sem,reduceIte,rA,rB,rC,rD]
 refine WP_scan rfl 3 x.l.length (fun j=>vMb vq (x.l.getD j default)=true) (fun _ _ _ _=>True) rfl trivial ?_ ?_
 ·rintro j T' H' n' hlt hf' hi _ _
  have h0:T' 0 = .s (x.sv (MbP.row f)):=hf' 0 rfl
  clear hf'
  have hji:(j:Int) < x.l.length:=by omega
  have hj0:(0:Int) ≤ j:=by omega
  have hwj:=wrap_suc (j:=j) (by have:mxL=9223372036854775807:=rfl; omega)
  have hx1:∀ agg sz off HH,loadM agg sz HH (.eptr (x.l.map (MbP.row f)) j off)=loadS agg sz (MbP.row f (x.l.getD j default)) off:=fun agg sz off HH=>by rw [load_eptr,if_pos hlt]
  have hia:=fun (s:Slc (MbP Q)) (HH:Ob) (kk:IntKind) (ii:Int)=>(mb_ags hf).ia (s:=s) (H:=HH) (k:=kk) (i:=ii)
  have bad:vMb vq (x.l.getD j default)=false→x.l.all (vMb vq)=false:=fun h=>all_not default hlt h
  have hwX:=hw _ (getD_mem (l:=x.l) default hlt)
  have hq:vMb vq (x.l.getD j default)=vMb vq (x.l.getD j default):=rfl
  generalize hX:x.l.getD j default=X at hx1 bad hwX
  conv at hq=>rhs; rw [hX]
  obtain ⟨no,ex,mq⟩:=X
  have hs:vMb vq ⟨no,ex,mq⟩=(ex.l.all vld && vq mq):=rfl
  rw [hs] at bad hq
  have e1:=evs_ok ex hwX.1 hwX.2.1
  have e2:=rV mq hwX.2.2
  have t1:=hf mq
  have t3:List.take 10 (f mq)=f mq:=List.take_of_length_le (by omega)
  generalize ex.l.all vld=r1 at e1 bad hq
  generalize vq mq=r2 at e2 bad hq
  simp only [go_sem,reduceIte,rA,rB,rC,rD,h0,hi,hji,hj0,and_self,decide_true,hia,Int.toNat_natCast,hx1,MbP.row,List.drop_succ_cons,List.drop_zero,List.length_cons,t1,t3]
  refine WC_p rfl rfl e1 ?_
  cases r1 with
  | false=>simp only [go_sem,reduceIte,rA,rB,rC,rD,h0,hi,hji,hj0,and_self,decide_true,hia,Int.toNat_natCast,hx1,bad (by rfl)]
  | true =>
   simp only [go_sem,reduceIte,rA,rB,rC,rD,h0,hi,hji,hj0,and_self,decide_true,hia,Int.toNat_natCast,hx1,MbP.row,List.drop_succ_cons,List.drop_zero,List.length_cons,t1,t3]
   refine WC_p rfl (by rw [pure_st]; rfl) e2 ?_
   cases r2 with
   | false=>simp only [go_sem,reduceIte,rA,rB,rC,rD,bad (by rfl)]
   | true=>simp only [go_sem,reduceIte,rA,rB,rC,rD,hi,hq,hwj]
 ·rintro T' H' n' hf' hi _ hp
  have h0:T' 0 = .s (x.sv (MbP.row f)):=hf' 0 rfl
  clear hf'
  simp only [go_sem,reduceIte,rA,rB,rC,rD,h0,hi,Int.lt_irrefl,decide_false,all_good hp]
include rV rB in
set_option maxHeartbeats 4000000 in
theorem inner_ok (a:QP Q) (ha:wfQP w a):calL EE 61 [.st (QP.row f a)] []=some (.ret (.bool (vBody vq vb a)),[]):=by
 have e1:=refItems_ok a.it ha.lit ha.it
 have e2:=refFrom_ok hf rV a.fr ha.lfr ha.fr
 have e3:=evs_ok a.wh ha.lwh ha.wh
 have e4:=refMembers_ok hf rV a.mb ha.lmb ha.mb
 have e5:=evs_ok a.gb ha.lgb ha.gb
 have e6:=refHaving_ok a.hv ha.lhv (fun x hx=>(ha.hv x hx).1)
 have hsum:=sum_dec ha.rln
 have h5:a.k < 0 ∨ 5 < a.k→vBody vq vb a=false:=by
  intro h
  unfold vBody vSet
  rw [if_neg (show ¬ a.k=0 by omega)]
  rcases h with h | h
  ·rw [decide_eq_false (show ¬ 0 ≤ a.k by omega)]; simp
  ·rw [decide_eq_false (show ¬ a.k ≤ 5 by omega)]; simp
 refine fn_ok f61 (by simp) ?_
 unfold c61
 unfold QP.row at *
 by_cases hx:(decide (0 < a.wi.l.length) || decide (a.k < 0) || decide (5 < a.k))=true
 ·have hb:vBody vq vb a=false:=by
   simp only [Bool.or_eq_true,decide_eq_true_eq] at hx
   by_cases hW:a.wi.l.length=0
   ·exact h5 (by omega)
   ·unfold vBody; rw [decide_eq_false hW]; simp
  rw [hb]
  simp only [go_sem,reduceIte,rA,rB,rC,rD,one_dec,zero_dec,two_dec,le1_dec,pos_dec,hx]
 have hx:(decide (0 < a.wi.l.length) || decide (a.k < 0) || decide (5 < a.k))=false:=by simpa using hx
 have hn:a.wi.l.length=0 ∧ 0 ≤ a.k ∧ a.k ≤ 5:=by
  simp only [Bool.or_eq_false_iff,decide_eq_false_iff_not] at hx
  omega
 have w1:decide (a.wi.l.length=0)=true:=decide_eq_true hn.1
 by_cases hk:a.k=0
 ·have k0:decide (a.k=0)=true:=decide_eq_true hk
  have hb:vBody vq vb a=vSel vq a:=by unfold vBody; rw [w1,if_pos hk,Bool.true_and]
  rw [hb]
  unfold vSel
  generalize vIts a.it.l=r1 at e1
  generalize a.fr.l.all (vFr vq)=r2 at e2
  generalize a.wh.l.all vld=r3 at e3
  generalize a.mb.l.all (vMb vq)=r4 at e4
  generalize a.gb.l.all vld=r5 at e5
  generalize a.hv.l.all vHv=r6 at e6
  cases d1:decide (a.ar.l.length=0) with
  | false=>simp only [go_sem,reduceIte,rA,rB,rC,rD,one_dec,zero_dec,two_dec,le1_dec,pos_dec,hx,k0,d1]
  | true =>
   simp only [go_sem,reduceIte,rA,rB,rC,rD,one_dec,zero_dec,two_dec,le1_dec,pos_dec,hx,k0,d1]
   refine WC_p rfl rfl e1 ?_
   cases r1 with
   | false=>simp only [go_sem,reduceIte,rA,rB,rC,rD,one_dec,zero_dec,two_dec,le1_dec,pos_dec,hx,k0,d1]
   | true =>
    cases d2:decide (0 < a.fr.l.length) with
    | false =>
     rw [d2] at e2
     simp only [go_sem,reduceIte,rA,rB,rC,rD,one_dec,zero_dec,two_dec,le1_dec,pos_dec,hx,k0,d1] at e2 ⊢
     refine WC_p rfl rfl e2 ?_
     simp only [go_sem,reduceIte,rA,rB,rC,rD,one_dec,zero_dec,two_dec,le1_dec,pos_dec,hx,k0,d1]
    | true =>
     rw [d2,Bool.true_and] at e2
     simp only [go_sem,reduceIte,rA,rB,rC,rD,one_dec,zero_dec,two_dec,le1_dec,pos_dec,hx,k0,d1]
     refine WC_p rfl rfl e2 ?_
     cases r2 with
     | false=>simp only [go_sem,reduceIte,rA,rB,rC,rD,one_dec,zero_dec,two_dec,le1_dec,pos_dec,hx,k0,d1]
     | true =>
      cases d3:decide (a.wh.l.length ≤ 1) with
      | false=>simp only [go_sem,reduceIte,rA,rB,rC,rD,one_dec,zero_dec,two_dec,le1_dec,pos_dec,hx,k0,d1,d3]
      | true =>
       simp only [go_sem,reduceIte,rA,rB,rC,rD,one_dec,zero_dec,two_dec,le1_dec,pos_dec,hx,k0,d1,d3]
       refine WC_p rfl rfl e3 ?_
       cases r3 with
       | false=>simp only [go_sem,reduceIte,rA,rB,rC,rD,one_dec,zero_dec,two_dec,le1_dec,pos_dec,hx,k0,d1,d3]
       | true =>
        simp only [go_sem,reduceIte,rA,rB,rC,rD,one_dec,zero_dec,two_dec,le1_dec,pos_dec,hx,k0,d1,d3]
        refine WC_p rfl rfl e4 ?_
        cases r4 with
        | false=>simp only [go_sem,reduceIte,rA,rB,rC,rD,one_dec,zero_dec,two_dec,le1_dec,pos_dec,hx,k0,d1,d3]
        | true =>
         simp only [go_sem,reduceIte,rA,rB,rC,rD,one_dec,zero_dec,two_dec,le1_dec,pos_dec,hx,k0,d1,d3]
         refine WC_p rfl rfl e5 ?_
         cases r5 with
         | false=>simp only [go_sem,reduceIte,rA,rB,rC,rD,one_dec,zero_dec,two_dec,le1_dec,pos_dec,hx,k0,d1,d3]
         | true =>
          simp only [go_sem,reduceIte,rA,rB,rC,rD,one_dec,zero_dec,two_dec,le1_dec,pos_dec,hx,k0,d1,d3]
          refine WC_p rfl rfl e6 ?_
          simp only [go_sem,reduceIte,rA,rB,rC,rD,one_dec,zero_dec,two_dec,le1_dec,pos_dec,hx,k0,d1,d3]
 ·have k0:decide (a.k=0)=false:=decide_eq_false hk
  have hb:vBody vq vb a=vSet vb a:=by unfold vBody; rw [w1,if_neg hk,Bool.true_and]
  rw [hb]
  have hs:vSet vb a=(emp a && decide (a.ar.l.length=2) && vb (a.ar.l.getD 0 default) && vb (a.ar.l.getD 1 default)):=by
   unfold vSet
   rw [decide_eq_true hn.2.1,decide_eq_true hn.2.2]
   cases emp a <;> cases decide (a.ar.l.length=2) <;> rfl
  have he:emp a=(!a.ds && decide (IntKind.i64.wrap (IntKind.i64.wrap (IntKind.i64.wrap (IntKind.i64.wrap (IntKind.i64.wrap ((a.it.l.length:Int) + a.fr.l.length) + a.wh.l.length) + a.mb.l.length) + a.gb.l.length) + a.hv.l.length)=0)):=by
   rw [hsum]; unfold emp
   simp only [Bool.and_assoc]
  rw [hs]
  cases hE:emp a with
  | false =>
   rw [hE] at he
   have he:=he.symm
   simp only [go_sem,reduceIte,rA,rB,rC,rD,one_dec,zero_dec,two_dec,le1_dec,pos_dec,hx,k0,he]
  | true =>
   rw [hE] at he
   have he:=he.symm
   cases d2:decide (a.ar.l.length=2) with
   | false=>simp only [go_sem,reduceIte,rA,rB,rC,rD,one_dec,zero_dec,two_dec,le1_dec,pos_dec,hx,k0,he,d2]
   | true =>
    have hl2:a.ar.l.length=2:=of_decide_eq_true d2
    have hin0:(0:Int) ≤ 0 ∧ (0:Int) < (a.ar.l.length:Int):=⟨by decide,by omega⟩
    have hin1:(0:Int) ≤ 1 ∧ (1:Int) < (a.ar.l.length:Int):=⟨by decide,by omega⟩
    have z0:Int.toNat 0=0:=rfl
    have z1:Int.toNat 1=1:=rfl
    have l0:=q_at hf (l:=a.ar.l) (i:=0) (by omega)
    have l1:=q_at hf (l:=a.ar.l) (i:=1) (by omega)
    have c0:=rB _ (ha.ar _ (getD_mem (l:=a.ar.l) (j:=0) default (by omega)))
    have c1:=rB _ (ha.ar _ (getD_mem (l:=a.ar.l) (j:=1) default (by omega)))
    generalize vb (a.ar.l.getD 0 default)=r1 at c0
    generalize vb (a.ar.l.getD 1 default)=r2 at c1
    simp only [go_sem,reduceIte,rA,rB,rC,rD,one_dec,zero_dec,two_dec,le1_dec,pos_dec,hx,k0,he,d2,(q_ags hf).ia,hin0,hin1,z0,z1,l0,l1,and_self]
    refine WC_p rfl (by rw [pure_st]; rfl) c0 ?_
    cases r1 with
    | false=>simp only [go_sem,reduceIte,rA,rB,rC,rD,one_dec,zero_dec,two_dec,le1_dec,pos_dec,hx,k0,he,d2]
    | true =>
     simp only [go_sem,reduceIte,rA,rB,rC,rD,one_dec,zero_dec,two_dec,le1_dec,pos_dec,hx,k0,he,d2,(q_ags hf).ia,hin0,hin1,z0,z1,l0,l1,and_self]
     refine WC_p rfl (by rw [pure_st]; rfl) c1 ?_
     simp only [go_sem,reduceIte,rA,rB,rC,rD,one_dec,zero_dec,two_dec,le1_dec,pos_dec,hx,k0,he,d2]
def row_cm:List SV:=[.str [],.nils,.int .i64 0,.nils,.bool false,.nils,.nils,.nils,.nils,.nils,.nils,.nils,.int .i64 0,.nils,.bool false,.nils,.nils,.nils,.nils,.nils,.nils,.nils]
include rV rB in
set_option maxHeartbeats 4000000 in
theorem refQuery_ok (a:QP Q) (ha:wfQP w a):calL EE 18 [.st (QP.row f a)] []=some (.ret (.bool (vQry vq vb a)),[]):=by
 have e2:=inner_ok hf rV rB (noW a) (noW_wf a ha)
 refine fn_ok f18 (by simp) ?_
 unfold c18 vQry
 unfold noW QP.row at *
 generalize vBody vq vb _=r2 at e2
 simp only [go_sem,reduceIte,rA,rB,rC,rD]
 refine WP_scan rfl 3 a.wi.l.length (fun j=>vCm vb (a.wi.l.getD j default)=true) (fun _ _ H n=>1 ≤ n ∧ H 0 = .box 38 ((QP.row f a).map .s)) rfl ⟨by decide,rfl⟩ ?_ ?_
 ·rintro j T' H' n' hlt hf' hi ⟨hn,hH⟩ _
  have h1:T' 1 = .ptr 0 0:=(hf' 1 rfl).trans rfl
  clear hf'
  have hji:(j:Int) < a.wi.l.length:=by omega
  have hj0:(0:Int) ≤ j:=by omega
  have hwj:=wrap_suc (j:=j) (by have:=ha.lwi; have:mxL=9223372036854775807:=rfl; omega)
  have hld:=fun HH=>(cm_ags hf).load (l:=a.wi.l) (j:=j) (H:=HH) hlt
  have hia:=fun (s:Slc (CmP Q)) (HH:Ob) (kk:IntKind) (ii:Int)=>(cm_ags hf).ia (s:=s) (H:=HH) (k:=kk) (i:=ii)
  have bad:vCm vb (a.wi.l.getD j default)=false→a.wi.l.all (vCm vb)=false:=fun h=>all_not default hlt h
  have hwX:=ha.wi _ (getD_mem (l:=a.wi.l) default hlt)
  have hq:vCm vb (a.wi.l.getD j default)=vCm vb (a.wi.l.getD j default):=rfl
  have lx:=cm_len hf (a.wi.l.getD j default)
  generalize hX:a.wi.l.getD j default=X at hld bad hwX lx
  conv at hq=>rhs; rw [hX]
  obtain ⟨nm,co,bs,st⟩:=X
  have hs:vCm vb ⟨nm,co,bs,st⟩=(nameV nm && decide (0 < co.l.length) && co.l.all nameV && vb bs && vb st):=rfl
  rw [hs] at bad hq
  have c1:=refName_ok nm
  have c2:=refNames_ok co hwX.1
  have c3:=rB bs hwX.2.1
  have c4:=rB st hwX.2.2
  obtain ⟨t1,t2,t3,t4,t5⟩:=two10 hf bs st
  have hrow:CmP.row f ⟨nm,co,bs,st⟩ = .str nm :: co.sv txRow :: (f bs ++ f st):=rfl
  have hsa:=setCells_all (show (row_cm).length=(CmP.row f ⟨nm,co,bs,st⟩).length by rw [lx]; rfl)
  rw [hrow] at hsa hld lx
  have hsc:setCells [.str nm,co.sv txRow,.int .i64 0,.nils,.bool false,.nils,.nils,.nils,.nils,.nils,.nils,.nils,.int .i64 0,.nils,.bool false,.nils,.nils,.nils,.nils,.nils,.nils,.nils] 2 (f bs ++ f st) = .str nm :: co.sv txRow :: (f bs ++ f st):=hsa
  have z0:decide (co.l.length=0) = !decide (0 < co.l.length):=by rw [← decide_not,decide_eq_decide]; omega
  generalize nameV nm=r1 at c1 bad hq
  generalize co.l.all nameV=r3 at c2 bad hq
  generalize vb bs=r4 at c3 bad hq
  generalize vb st=r5 at c4 bad hq
  simp only [go_sem,reduceIte,rA,rB,rC,rD,QP.row,h1,hi,hH,hji,hj0,and_self,decide_true,hia,Int.toNat_natCast,hld]
  refine ⟨t4,?_⟩
  simp only [go_sem,reduceIte,rA,rB,rC,rD,hsc]
  refine WC_p rfl rfl c1 ?_
  cases r1 with
  | false=>simp only [go_sem,reduceIte,rA,rB,rC,rD,hsc,zero_dec,z0,bad (by rfl)]
  | true =>
   cases d1:decide (0 < co.l.length) with
   | false =>
    rw [d1] at bad z0
    simp only [go_sem,reduceIte,rA,rB,rC,rD,hsc,zero_dec,z0,bad (by rfl)]
   | true =>
    rw [d1] at bad z0 hq
    simp only [go_sem,reduceIte,rA,rB,rC,rD,QP.row,h1,hi,hsc,zero_dec,z0,List.drop_succ_cons,List.drop_zero,List.length_cons,t1,t2,t3,t4,t5]
    refine WC_p rfl rfl c2 ?_
    cases r3 with
    | false=>simp only [go_sem,reduceIte,rA,rB,rC,rD,hsc,zero_dec,z0,bad (by rfl)]
    | true =>
     simp only [go_sem,reduceIte,rA,rB,rC,rD,QP.row,h1,hi,hsc,zero_dec,z0,List.drop_succ_cons,List.drop_zero,List.length_cons,t1,t2,t3,t4,t5]
     refine WC_p rfl (by rw [pure_st]; rfl) c3 ?_
     cases r4 with
     | false=>simp only [go_sem,reduceIte,rA,rB,rC,rD,hsc,zero_dec,z0,bad (by rfl)]
     | true =>
      simp only [go_sem,reduceIte,rA,rB,rC,rD,QP.row,h1,hi,hsc,zero_dec,z0,List.drop_succ_cons,List.drop_zero,List.length_cons,t1,t2,t3,t4,t5]
      refine WC_p rfl (by rw [pure_st]; rfl) c4 ?_
      cases r5 with
      | false=>simp only [go_sem,reduceIte,rA,rB,rC,rD,hsc,zero_dec,z0,bad (by rfl)]
      | true =>
       simp only [go_sem,reduceIte,rA,rB,rC,rD,QP.row,h1,hi,hsc,zero_dec,z0,List.drop_succ_cons,List.drop_zero,List.length_cons,t1,t2,t3,t4,t5,hq,hwj]
       exact hH
 ·rintro T' H' n' hf' hi ⟨hn,hH⟩ hp
  have h1:T' 1 = .ptr 0 0:=(hf' 1 rfl).trans rfl
  clear hf'
  simp only [go_sem,reduceIte,rA,rB,rC,rD,QP.row,h1,hi,hH,Int.lt_irrefl,decide_false,all_good hp]
  refine WC_p rfl rfl e2 ?_
  simp only [go_sem,reduceIte,rA,rB,rC,rD]
end
def QN.vv:∀ n,(QN n→Bool) × (QN n→Bool)
 | 0=>(fun _=>false,fun _=>false)
 | n + 1=>(fun q=>vQry (QN.vv n).1 (QN.vv n).2 q,fun q=>vBody (QN.vv n).1 (QN.vv n).2 q)
theorem valQ_ok:∀ (n:Nat),(∀ a:QN n,QN.wf n a→calL EE 17 [.st (QN.row n a)] []=some (.ret (.bool ((QN.vv n).1 a)),[])) ∧ (∀ a:QN n,QN.wf n a→calL EE 59 [.st (QN.row n a)] []=some (.ret (.bool ((QN.vv n).2 a)),[]))
 | 0=>⟨fun _ _=>cal_run (n:=200) (by kernel_rfl),fun _ _=>cal_run (n:=200) (by kernel_rfl)⟩
 | n + 1=>⟨fun a h=>query_val (qn_len n) (equalQ_ok n) (qn_refl n) (valQ_ok n).1 (valQ_ok n).2 a h,fun a h=>body_val (qn_len n) (equalQ_ok n) (qn_refl n) (valQ_ok n).1 (valQ_ok n).2 a h⟩
theorem refValQ_ok:∀ (n:Nat),(∀ a:QN n,QN.wf n a→calL EE 18 [.st (QN.row n a)] []=some (.ret (.bool ((QN.vv n).1 a)),[])) ∧ (∀ a:QN n,QN.wf n a→calL EE 61 [.st (QN.row n a)] []=some (.ret (.bool ((QN.vv n).2 a)),[]))
 | 0=>⟨fun _ _=>cal_run (n:=200) (by kernel_rfl),fun _ _=>cal_run (n:=200) (by kernel_rfl)⟩
 | n + 1=>⟨fun a h=>refQuery_ok (qn_len n) (refValQ_ok n).1 (refValQ_ok n).2 a h,fun a h=>inner_ok (qn_len n) (refValQ_ok n).1 (refValQ_ok n).2 a h⟩
end Go.Vm
