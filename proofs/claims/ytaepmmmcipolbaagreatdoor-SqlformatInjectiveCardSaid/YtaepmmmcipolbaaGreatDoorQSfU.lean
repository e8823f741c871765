/- Chapter 24: texts of expressions. -/
import Derived.Test.YtaepmmmcipolbaaGreatDoorQSfO
set_option linter.unusedVariables false
set_option linter.unusedSimpArgs false
set_option maxRecDepth 100000
namespace Go.Vm
open List renaming length_append→lA,length_cons→lB,length_nil→lC
open Nat renaming reduceEqDiff→rA,reduceAdd→rB,reduceLeDiff→rC,reduceLT→rD
open Go
theorem tab_ia {n:Nat} {H:Ob} {es:List (List SV)} {k:IntKind} {i:Int}:indexAM (.arr n false 1) H (.eptr es 0 0) (.s (.int k i))=gd (0 ≤ i ∧ i < n) (.eptr es 0 i.toNat):=by
 simp only [indexAM,gd,Nat.lt_one_iff,Nat.zero_lt_one,and_true,Nat.mul_one,Nat.zero_add]
theorem tab_load {c:List SV} {H:Ob} {j:Nat}:loadM false 1 H (.eptr [c] 0 j)=match c[j]? with
  | some v=>some (.s v)
  | none=>none:=rfl
theorem sym_load {H:Ob} {j:Nat}:loadM false 1 H (.eptr [[.str [43],.str [45],.str [42],.str [45],.str [124,124],.str [61],.str [60,62],.str [60],.str [60,61],.str [62],.str [62,61],.str [65,78,68],.str [79,82],.str [78,79,84]]] 0 j)=if j < 14 then some (.s (.str (symT.getD j []))) else none:=by
 rw [show ([[.str [43],.str [45],.str [42],.str [45],.str [124,124],.str [61],.str [60,62],.str [60],.str [60,61],.str [62],.str [62,61],.str [65,78,68],.str [79,82],.str [78,79,84]]]:List (List SV))=[symT.map .str] from rfl,tab_load,List.getElem?_map]
 by_cases h:j < 14
 ·rw [if_pos h,List.getElem?_eq_getElem (show j < symT.length from h),List.getD_eq_getElem?_getD,List.getElem?_eq_getElem (show j < symT.length from h)]; rfl
 ·rw [if_neg h,List.getElem?_eq_none (show symT.length ≤ j from Nat.le_of_not_lt h)]; rfl
theorem fn_load {H:Ob} {j:Nat}:loadM false 1 H (.eptr [[.str [67,79,85,78,84],.str [83,85,77],.str [77,73,78],.str [77,65,88]]] 0 j)=if j < 4 then some (.s (.str (fnT.getD j []))) else none:=by
 rw [show ([[.str [67,79,85,78,84],.str [83,85,77],.str [77,73,78],.str [77,65,88]]]:List (List SV))=[fnT.map .str] from rfl,tab_load,List.getElem?_map]
 by_cases h:j < 4
 ·rw [if_pos h,List.getElem?_eq_getElem (show j < fnT.length from h),List.getD_eq_getElem?_getD,List.getElem?_eq_getElem (show j < fnT.length from h)]; rfl
 ·rw [if_neg h,List.getElem?_eq_none (show fnT.length ≤ j from Nat.le_of_not_lt h)]; rfl
def lvT:List Int:=[5,5,6,7,5,4,4,4,4,4,4,2,1,3]
theorem lv_load {H:Ob} {j:Nat}:loadM false 1 H (.eptr [[.int .i64 5,.int .i64 5,.int .i64 6,.int .i64 7,.int .i64 5,.int .i64 4,.int .i64 4,.int .i64 4,.int .i64 4,.int .i64 4,.int .i64 4,.int .i64 2,.int .i64 1,.int .i64 3]] 0 j)=if j < 14 then some (.s (.int .i64 (lvT.getD j 0))) else none:=by
 rw [show ([[.int .i64 5,.int .i64 5,.int .i64 6,.int .i64 7,.int .i64 5,.int .i64 4,.int .i64 4,.int .i64 4,.int .i64 4,.int .i64 4,.int .i64 4,.int .i64 2,.int .i64 1,.int .i64 3]]:List (List SV))=[lvT.map (.int .i64)] from rfl,tab_load,List.getElem?_map]
 by_cases h:j < 14
 ·rw [if_pos h,List.getElem?_eq_getElem (show j < lvT.length from h),List.getD_eq_getElem?_getD,List.getElem?_eq_getElem (show j < lvT.length from h)]; rfl
 ·rw [if_neg h,List.getElem?_eq_none (show lvT.length ≤ j from Nat.le_of_not_lt h)]; rfl
theorem lv_T (op:Int) (h0:0 ≤ op) (h1:op ≤ 13):lvT.getD op.toNat 0=lvO op:=by
 have h:((List.range 14).all fun i=>decide (lvT.getD i 0=lvO i))=true:=by kernel_rfl
 have:=of_decide_eq_true (List.all_eq_true.1 h op.toNat (List.mem_range.2 (by omega)))
 rw [this,Int.toNat_of_nonneg h0]
theorem vld_op {k v tb nm op fn fl xs} (h:vld (.mk k v tb nm op fn fl xs)=true ∨ cal (.mk k v tb nm op fn fl xs)=true) (hk:k=2):0 ≤ op ∧ op ≤ 13 ∧ xs.length=arI op ∧ vldL xs=true:=by
 rcases h with h | h
 ·rw [vld] at h
  rcases vld_cases h with ⟨e,_⟩ | ⟨e,_⟩ | ⟨_,h1,h2,h3,h4,_⟩
  ·omega
  ·omega
  ·exact ⟨h1,h2,h3,h4⟩
 ·have:=(cal_cases h).1
  omega
theorem level_ok (t:Tr) (h:vld t=true ∨ cal t=true):calL EE 122 [.st t.row] []=some (.ret (.i64 (lvl t)),[]):=by
 cases t with
 | mk k v tb nm op fn fl xs =>
  refine fn_ok f122 (by simp) ?_
  unfold c122
  rw [row_mk,lvl]
  by_cases hk:k=2
  ·have d2:decide (k=2)=true:=decide_eq_true hk
   obtain ⟨h0,h1,_⟩:=vld_op h hk
   have e1:(0 ≤ op ∧ op < ((14:Nat):Int))=True:=eq_true ⟨h0,by omega⟩
   have e2:(op.toNat < 14)=True:=eq_true (by omega)
   rw [if_pos hk]
   simp only [go_sem,reduceIte,rA,rB,rC,rD,d2,tab_ia,e1,lv_load,e2,lv_T op h0 h1]
  ·have d2:decide (k=2)=false:=decide_eq_false hk
   rw [if_neg hk]
   simp only [go_sem,reduceIte,rA,rB,rC,rD,d2]
theorem atX (t:Tr) (req:Int) (h:vld t=true ∨ cal t=true) (hl:(txt t).length ≤ 10000000) (hx:calL EE 53 [.st t.row] []=some (.ret (.str (txt t)),[])):calL EE 123 [.st t.row,.i64 req] []=some (.ret (.str (atP (lvl t,txt t) req)),[]):=by
 refine fn_ok f123 (by simp) ?_
 unfold c123 atP
 have lr:=row_len t
 have htk:List.take 9 t.row=t.row:=List.take_of_length_le (by omega)
 simp only [go_sem,reduceIte,rA,rB,rC,rD,htk]
 refine ⟨by omega,WC_p rfl (by rw [pure_st]; rfl) (level_ok t h) ?_⟩
 by_cases hq:lvl t < req
 ·have d:decide (lvl t < req)=true:=decide_eq_true hq
  rw [if_pos hq]
  simp only [go_sem,reduceIte,rA,rB,rC,rD,d,htk]
  refine ⟨by omega,WC_p rfl (by rw [pure_st]; rfl) hx ?_⟩
  simp only [go_sem,reduceIte,rA,rB,rC,rD,List.cons_append,List.nil_append,lA,lB,lC]
  omega
 ·have d:decide (lvl t < req)=false:=decide_eq_false hq
  rw [if_neg hq]
  simp only [go_sem,reduceIte,rA,rB,rC,rD,d,htk]
  refine ⟨by omega,WC_p rfl (by rw [pure_st]; rfl) hx ?_⟩
  simp only [go_sem,reduceIte,rA,rB,rC,rD]
theorem text0 (k:Int) (v:Val) (tb nm:List UInt8) (op fn:Int) (fl:Option Bool) (xs:List Tr) (hw:bigV v) (ht:v.text.length ≤ 255) (h0:k=0):calL EE 53 [.st (Tr.mk k v tb nm op fn fl xs).row] []=some (.ret (.str (txt (.mk k v tb nm op fn fl xs))),[]):=by
 refine fn_ok f53 (by simp) ?_
 unfold c53
 rw [row_mk,txt]
 unfold txtB
 have d0:decide (k=0)=true:=decide_eq_true h0
 simp only [go_sem,reduceIte,rA,rB,rC,rD,d0,if_pos h0]
 refine WC_p rfl rfl (t13 v hw (by omega)) ?_
 simp only [go_sem,reduceIte,rA,rB,rC,rD]
theorem text1 (k:Int) (v:Val) (tb nm:List UInt8) (op fn:Int) (fl:Option Bool) (xs:List Tr) (ht:tb.length ≤ 255) (hn:nm.length ≤ 255) (h0:¬ k=0) (h1:k=1):calL EE 53 [.st (Tr.mk k v tb nm op fn fl xs).row] []=some (.ret (.str (txt (.mk k v tb nm op fn fl xs))),[]):=by
 refine fn_ok f53 (by simp) ?_
 unfold c53
 rw [row_mk,txt]
 unfold txtB
 have d0:decide (k=0)=false:=decide_eq_false h0
 have d1:decide (k=1)=true:=decide_eq_true h1
 rw [if_neg h0,if_pos h1]
 by_cases he:tb=[]
 ·have d2:decide (tb=[])=true:=decide_eq_true he
  rw [if_pos he]
  simp only [go_sem,reduceIte,rA,rB,rC,rD,d0,d1,d2]
 ·have d2:decide (tb=[])=false:=decide_eq_false he
  rw [if_neg he]
  simp only [go_sem,reduceIte,rA,rB,rC,rD,d0,d1,d2,List.cons_append,List.nil_append,lA,lB,lC]
  omega
set_option maxHeartbeats 1000000 in
theorem text3 (k:Int) (v:Val) (tb nm:List UInt8) (op fn:Int) (fl:Option Bool) (xs:List Tr) (h3:k=3) (hc:cal (Tr.mk k v tb nm op fn fl xs)=true) (hx:∀ a,a ∈ xs→(txt a).length ≤ 10000000 ∧ calL EE 53 [.st a.row] []=some (.ret (.str (txt a)),[])):calL EE 53 [.st (Tr.mk k v tb nm op fn fl xs).row] []=some (.ret (.str (txt (.mk k v tb nm op fn fl xs))),[]):=by
 obtain ⟨_,c1,c2,c3,c4,c5,_⟩:=cal_cases hc
 refine fn_ok f53 (by simp) ?_
 unfold c53
 rw [row_mk,txt]
 unfold txtB
 have d0:decide (k=0)=false:=decide_eq_false (by omega)
 have d1:decide (k=1)=false:=decide_eq_false (by omega)
 have d3:decide (k=3)=true:=decide_eq_true h3
 have hlen:(mkS fl xs).l.length=xs.length:=by rw [mkS_l]
 have e1:(0 ≤ fn ∧ fn < ((4:Nat):Int))=True:=eq_true ⟨c1,by omega⟩
 have e2:(fn.toNat < 4)=True:=eq_true (by omega)
 have hfn:=fn_le fn.toNat
 rw [if_neg (by omega),if_neg (by omega),if_pos h3]
 by_cases hz:xs.length=0
 ·have z:decide ((xs.length:Int)=0)=true:=decide_eq_true (by omega)
  have hp:ptx xs=[]:=by rw [nilL hz,ptx]
  rw [hp]
  simp only [go_sem,reduceIte,rA,rB,rC,rD,d0,d1,d3,hlen,z,tab_ia,e1,fn_load,e2]
  omega
 ·have z:decide ((xs.length:Int)=0)=false:=decide_eq_false (by omega)
  have h0l:0 < xs.length:=by omega
  have hld:=fun HH=>tr_ags.load (l:=(mkS fl xs).l) (j:=0) (H:=HH) (by rw [hlen]; exact h0l)
  have hin:((0:Int) ≤ 0 ∧ (0:Int) < xs.length)=True:=eq_true ⟨by omega,by omega⟩
  obtain ⟨ha,hcall⟩:=hx (xs.getD 0 default) (getD_mem (l:=xs) default h0l)
  have hp:ptx xs=[(lvl (xs.getD 0 default),txt (xs.getD 0 default))]:=by
   match xs,hz,c3 with
   | [a],_,_=>rw [ptx,ptx]; rfl
  rw [hp]
  simp only [mkS_l] at hld
  generalize xs.getD 0 default=a at hld ha hcall
  simp only [go_sem,reduceIte,rA,rB,rC,rD,d0,d1,d3,hlen,z,tab_ia,e1,fn_load,e2,tr_ags.ia,mkS_l,hin,Int.toNat_zero,hld]
  refine ⟨by omega,WC_p rfl (by rw [pure_st]; rfl) hcall ?_⟩
  simp only [go_sem,reduceIte,rA,rB,rC,rD,List.cons_append,List.nil_append,List.append_assoc,lA,lB,lC]
  omega
theorem ptx_at {xs:List Tr} {i:Nat} (h:i < xs.length):(ptx xs).getD i (0,[])=(lvl (xs.getD i default),txt (xs.getD i default)):=by
 rw [ptx_map,List.getD_eq_getElem?_getD,List.getElem?_map,List.getElem?_eq_getElem h,List.getD_eq_getElem?_getD,List.getElem?_eq_getElem h]; rfl
theorem atP_le {p:Int × List UInt8} {q:Int} {n:Nat} (h:p.2.length ≤ n):(atP p q).length ≤ n + 2:=by
 have:=at_len p q
 omega
theorem lv_rng (op:Int):1 ≤ lvO op ∧ lvO op ≤ 7:=by
 unfold lvO
 repeat' split
 all_goals omega
def txOk (g:FuncId) (a:Tr):Prop:=vld a=true ∧ (txt a).length ≤ 10000000 ∧ calL EE g [.st a.row] []=some (.ret (.str (txt a)),[])
set_option maxHeartbeats 4000000 in
theorem text2 (k:Int) (v:Val) (tb nm:List UInt8) (op fn:Int) (fl:Option Bool) (xs:List Tr) (h2:k=2) (hc:vld (Tr.mk k v tb nm op fn fl xs)=true) (hx:∀ a,a ∈ xs→txOk 53 a):calL EE 53 [.st (Tr.mk k v tb nm op fn fl xs).row] []=some (.ret (.str (txt (.mk k v tb nm op fn fl xs))),[]):=by
 obtain ⟨o0,o1,o2,o3⟩:=vld_op (.inl hc) h2
 have hlv:=level_ok _ (.inl hc)
 refine fn_ok f53 (by simp) ?_
 unfold c53
 rw [row_mk] at hlv ⊢
 rw [lvl,if_pos h2] at hlv
 rw [txt]
 unfold txtB
 have d0:decide (k=0)=false:=decide_eq_false (by omega)
 have d1:decide (k=1)=false:=decide_eq_false (by omega)
 have d3:decide (k=3)=false:=decide_eq_false (by omega)
 have hlen:(mkS fl xs).l.length=xs.length:=by rw [mkS_l]
 have e1:(0 ≤ op ∧ op < ((14:Nat):Int))=True:=eq_true ⟨o0,by omega⟩
 have e2:(op.toNat < 14)=True:=eq_true (by omega)
 have hsy:=sym_le op.toNat
 have hpos:0 < xs.length:=by rw [o2]; unfold arI; split <;> omega
 have hld0:=fun HH=>tr_ags.load (l:=(mkS fl xs).l) (j:=0) (H:=HH) (by rw [hlen]; exact hpos)
 have hin0:((0:Int) ≤ 0 ∧ (0:Int) < xs.length)=True:=eq_true ⟨by omega,by omega⟩
 obtain ⟨a1,a2,a3⟩:=hx (xs.getD 0 default) (getD_mem (l:=xs) default hpos)
 have hp0:=ptx_at hpos
 have hat:=fun q=>atX _ q (.inl a1) a2 a3
 have hal:=fun q=>atP_le (p:=(lvl (xs.getD 0 default),txt (xs.getD 0 default))) (q:=q) a2
 have hr:=lv_rng op
 simp only [mkS_l] at hld0
 rw [if_neg (by omega),if_neg (by omega),if_neg (by omega)]
 unfold opT
 rw [hp0]
 by_cases h13:op=13
 ·have d13:decide (op=13)=true:=decide_eq_true h13
  rw [if_pos h13]
  generalize xs.getD 0 default=a at hld0 hat hal
  simp only [go_sem,reduceIte,rA,rB,rC,rD,d0,d1,d3]
  refine WC_p rfl (by rw [pure_st (l:=[_,_,_,_,_,_,_,_,_])]; rfl) hlv ?_
  simp only [go_sem,reduceIte,rA,rB,rC,rD,d13,tr_ags.ia,hlen,mkS_l,hin0,Int.toNat_zero,hld0]
  refine WC_p rfl (by rw [pure_st]; rfl) (hat _) ?_
  have:=hal (lvO op)
  simp only [go_sem,reduceIte,rA,rB,rC,rD,notT,List.cons_append,List.nil_append]
  omega
 ·have d13:decide (op=13)=false:=decide_eq_false h13
  rw [if_neg h13]
  by_cases h3:op=3
  ·have d33:decide (op=3)=true:=decide_eq_true h3
   rw [if_pos h3]
   generalize xs.getD 0 default=a at hld0 hat hal
   simp only [go_sem,reduceIte,rA,rB,rC,rD,d0,d1,d3]
   refine WC_p rfl (by rw [pure_st (l:=[_,_,_,_,_,_,_,_,_])]; rfl) hlv ?_
   simp only [go_sem,reduceIte,rA,rB,rC,rD,d13,d33,tr_ags.ia,hlen,mkS_l,hin0,Int.toNat_zero,hld0]
   refine WC_p rfl (by rw [pure_st]; rfl) (hat _) ?_
   have:=hal 8
   simp only [go_sem,reduceIte,rA,rB,rC,rD,List.cons_append,List.nil_append]
   omega
  ·have d33:decide (op=3)=false:=decide_eq_false h3
   rw [if_neg h3]
   have h1l:1 < xs.length:=by rw [o2]; unfold arI; rw [if_neg (by omega)]; omega
   have hld1:=fun HH=>tr_ags.load (l:=(mkS fl xs).l) (j:=1) (H:=HH) (by rw [hlen]; exact h1l)
   have hin1:((0:Int) ≤ 1 ∧ (1:Int) < xs.length)=True:=eq_true ⟨by omega,by omega⟩
   obtain ⟨b1,b2,b3⟩:=hx (xs.getD 1 default) (getD_mem (l:=xs) default h1l)
   have hbt:=fun q=>atX _ q (.inl b1) b2 b3
   have hbl:=fun q=>atP_le (p:=(lvl (xs.getD 1 default),txt (xs.getD 1 default))) (q:=q) b2
   simp only [mkS_l] at hld1
   rw [ptx_at h1l]
   generalize xs.getD 0 default=a at hld0 hat hal
   generalize xs.getD 1 default=b at hld1 hbt hbl
   have w1:=wrap_in (x:=lvO op + 1) (by omega) (by omega)
   simp only [go_sem,reduceIte,rA,rB,rC,rD,d0,d1,d3]
   refine WC_p rfl (by rw [pure_st (l:=[_,_,_,_,_,_,_,_,_])]; rfl) hlv ?_
   by_cases h4:lvO op=4
   ·have d4:decide (lvO op=4)=true:=decide_eq_true h4
    rw [if_pos h4]
    simp only [go_sem,reduceIte,rA,rB,rC,rD,d13,d33,d4,tr_ags.ia,hlen,mkS_l,hin0,hin1,Int.toNat_zero,Int.toNat_one,hld0,hld1]
    refine WC_p rfl (by rw [pure_st]; rfl) (hat _) ?_
    have u1:=hal 5
    have u2:=hbl (lvO op + 1)
    generalize atP (lvl a,txt a) 5=s1 at u1
    simp only [go_sem,reduceIte,rA,rB,rC,rD,tr_ags.ia,hlen,mkS_l,hin0,hin1,Int.toNat_zero,Int.toNat_one,hld0,hld1,tab_ia,e1,sym_load,e2,w1,lA,lB,lC]
    refine ⟨by omega,WC_p rfl (by rw [pure_st]; rfl) (hbt _) ?_⟩
    generalize atP (lvl b,txt b) (lvO op + 1)=s2 at u2
    simp only [go_sem,reduceIte,rA,rB,rC,rD,tr_ags.ia,hlen,mkS_l,lA,lB,lC]
    omega
   ·have d4:decide (lvO op=4)=false:=decide_eq_false h4
    rw [if_neg h4]
    simp only [go_sem,reduceIte,rA,rB,rC,rD,d13,d33,d4,tr_ags.ia,hlen,mkS_l,hin0,hin1,Int.toNat_zero,Int.toNat_one,hld0,hld1]
    refine WC_p rfl (by rw [pure_st]; rfl) (hat _) ?_
    have u1:=hal (lvO op)
    have u2:=hbl (lvO op + 1)
    generalize atP (lvl a,txt a) (lvO op)=s1 at u1
    simp only [go_sem,reduceIte,rA,rB,rC,rD,tr_ags.ia,hlen,mkS_l,hin0,hin1,Int.toNat_zero,Int.toNat_one,hld0,hld1,tab_ia,e1,sym_load,e2,w1,lA,lB,lC]
    refine ⟨by omega,WC_p rfl (by rw [pure_st]; rfl) (hbt _) ?_⟩
    generalize atP (lvl b,txt b) (lvO op + 1)=s2 at u2
    simp only [go_sem,reduceIte,rA,rB,rC,rD,tr_ags.ia,hlen,mkS_l,lA,lB,lC]
    omega
end Go.Vm
