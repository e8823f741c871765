/- Chapter 24: the reference's texts; Expr; the law's walk. -/
import Derived.Test.YtaepmmmcipolbaaGreatDoorQSfU
set_option linter.unusedVariables false
set_option linter.unusedSimpArgs false
set_option maxRecDepth 100000
namespace Go.Vm
open List renaming length_append→lA,length_cons→lB,length_nil→lC
open Nat renaming reduceEqDiff→rA,reduceAdd→rB,reduceLeDiff→rC,reduceLT→rD
open Go
theorem ref_text0 (k:Int) (v:Val) (tb nm:List UInt8) (op fn:Int) (fl:Option Bool) (xs:List Tr) (hw:bigV v) (ht:v.text.length ≤ 255) (h0:k=0):calL EE 55 [.st (Tr.mk k v tb nm op fn fl xs).row] []=some (.ret (.str (txt (.mk k v tb nm op fn fl xs))),[]):=by
 refine fn_ok f55 (by simp) ?_
 unfold c55
 rw [row_mk,txt]
 unfold txtB
 have d0:decide (k=0)=true:=decide_eq_true h0
 simp only [go_sem,reduceIte,rA,rB,rC,rD,d0,if_pos h0]
 refine WC_p rfl rfl (t14 v hw (by omega)) ?_
 simp only [go_sem,reduceIte,rA,rB,rC,rD]
theorem ref_text1 (k:Int) (v:Val) (tb nm:List UInt8) (op fn:Int) (fl:Option Bool) (xs:List Tr) (ht:tb.length ≤ 255) (hn:nm.length ≤ 255) (h0:¬ k=0) (h1:k=1):calL EE 55 [.st (Tr.mk k v tb nm op fn fl xs).row] []=some (.ret (.str (txt (.mk k v tb nm op fn fl xs))),[]):=by
 refine fn_ok f55 (by simp) ?_
 unfold c55
 rw [row_mk,txt]
 unfold txtB
 have d0:decide (k=0)=false:=decide_eq_false h0
 have d1:decide (k=1)=true:=decide_eq_true h1
 rw [if_neg h0,if_pos h1]
 by_cases he:tb=[]
 ·have d2:decide (tb=[])=true:=decide_eq_true he
  rw [if_pos he]
  simp only [go_sem,reduceIte,rA,rB,rC,rD,d0,d1,d2]
 ·have d2:decide (tb=[])=false:=decide_eq_false he
  rw [if_neg he]
  simp only [go_sem,reduceIte,rA,rB,rC,rD,d0,d1,d2,List.cons_append,List.nil_append,lA,lB,lC]
  omega
theorem parts4 {dr:Bool} {H:Ob} {T:Nat→PV}:partsX 1 dr H (List.replicate 4 [SV.str []]) (vpX T [(0,.c (.s (.str [67,79,85,78,84]))),(1,.c (.s (.str [83,85,77]))),(2,.c (.s (.str [77,73,78]))),(3,.c (.s (.str [77,65,88])))])=some (fnT.map txRow,H):=by
 cases dr <;> rfl
set_option maxHeartbeats 1000000 in
theorem ref_text3 (k:Int) (v:Val) (tb nm:List UInt8) (op fn:Int) (fl:Option Bool) (xs:List Tr) (h3:k=3) (hc:cal (Tr.mk k v tb nm op fn fl xs)=true) (hx:∀ a,a ∈ xs→(txt a).length ≤ 10000000 ∧ calL EE 55 [.st a.row] []=some (.ret (.str (txt a)),[])):calL EE 55 [.st (Tr.mk k v tb nm op fn fl xs).row] []=some (.ret (.str (txt (.mk k v tb nm op fn fl xs))),[]):=by
 obtain ⟨_,c1,c2,c3,c4,c5,_⟩:=cal_cases hc
 refine fn_ok f55 (by simp) ?_
 unfold c55
 rw [row_mk,txt]
 unfold txtB
 have d0:decide (k=0)=false:=decide_eq_false (by omega)
 have d1:decide (k=1)=false:=decide_eq_false (by omega)
 have d3:decide (k=3)=true:=decide_eq_true h3
 have hlen:(mkS fl xs).l.length=xs.length:=by rw [mkS_l]
 have e1:(0 ≤ fn ∧ fn < ((fnT.length:Nat):Int))=True:=eq_true ⟨c1,by show fn < ((4:Nat):Int); omega⟩
 have e2:(fn.toNat < fnT.length)=True:=eq_true (by show fn.toNat < 4; omega)
 have hfn:=fn_le fn.toNat
 rw [if_neg (by omega),if_neg (by omega),if_pos h3]
 simp only [go_sem,reduceIte,rA,rB,rC,rD,d0,d1,d3]
 rw [rowsN,parts4,WX_some]
 have hia:∀ (H:Ob) (k:IntKind) (i:Int),indexAM (.sl 1) H (.s (.slice (List.map txRow fnT) true)) (.s (.int k i))=gd (0 ≤ i ∧ i < fnT.length) (.eptr (fnT.map txRow) i.toNat 0):=fun H k i=>ia_tx (s:=Slc.mk fnT true)
 have hl0:∀ (H:Ob),loadM false 1 H (.eptr (fnT.map txRow) fn.toNat 0)=some (.s (.str (fnT.getD fn.toNat []))):=by
  intro H
  rw [load_eptr (agg:=false),if_pos (of_eq_true e2)]
  rfl
 by_cases hz:xs.length=0
 ·have z:decide ((xs.length:Int)=0)=true:=decide_eq_true (by omega)
  have hp:ptx xs=[]:=by rw [nilL hz,ptx]
  rw [hp]
  simp only [go_sem,reduceIte,rA,rB,rC,rD,hia,e1,hl0,hlen,z]
  omega
 ·have z:decide ((xs.length:Int)=0)=false:=decide_eq_false (by omega)
  have h0l:0 < xs.length:=by omega
  have hld:=fun HH=>tr_ags.load (l:=(mkS fl xs).l) (j:=0) (H:=HH) (by rw [hlen]; exact h0l)
  have hin:((0:Int) ≤ 0 ∧ (0:Int) < xs.length)=True:=eq_true ⟨by omega,by omega⟩
  obtain ⟨ha,hcall⟩:=hx (xs.getD 0 default) (getD_mem (l:=xs) default h0l)
  have hp:ptx xs=[(lvl (xs.getD 0 default),txt (xs.getD 0 default))]:=by
   match xs,hz,c3 with
   | [a],_,_=>rw [ptx,ptx]; rfl
  rw [hp]
  simp only [mkS_l] at hld
  generalize xs.getD 0 default=a at hld ha hcall
  simp only [go_sem,reduceIte,rA,rB,rC,rD,hia,e1,hl0,hlen,z,tr_ags.ia,mkS_l,hin,Int.toNat_zero,hld]
  refine ⟨by omega,WC_p rfl (by rw [pure_st]; rfl) hcall ?_⟩
  simp only [go_sem,reduceIte,rA,rB,rC,rD,List.cons_append,List.nil_append,List.append_assoc,lA,lB,lC]
  omega
set_option maxHeartbeats 4000000 in
theorem ref_text2 (k:Int) (v:Val) (tb nm:List UInt8) (op fn:Int) (fl:Option Bool) (xs:List Tr) (h2:k=2) (hc:vld (Tr.mk k v tb nm op fn fl xs)=true) (hx:∀ a,a ∈ xs→txOk 55 a):calL EE 55 [.st (Tr.mk k v tb nm op fn fl xs).row] []=some (.ret (.str (txt (.mk k v tb nm op fn fl xs))),[]):=by
 obtain ⟨o0,o1,o2,o3⟩:=vld_op (.inl hc) h2
 have hlv:=refLevel_ok (.mk k v tb nm op fn fl xs)
 refine fn_ok f55 (by simp) ?_
 unfold c55
 rw [row_mk] at hlv ⊢
 rw [lvl,if_pos h2] at hlv
 rw [txt]
 unfold txtB
 have d0:decide (k=0)=false:=decide_eq_false (by omega)
 have d1:decide (k=1)=false:=decide_eq_false (by omega)
 have d3:decide (k=3)=false:=decide_eq_false (by omega)
 have hlen:(mkS fl xs).l.length=xs.length:=by rw [mkS_l]
 have e1:(0 ≤ op ∧ op < ((14:Nat):Int))=True:=eq_true ⟨o0,by omega⟩
 have e2:(op.toNat < 14)=True:=eq_true (by omega)
 have hsy:=sym_le op.toNat
 have hpos:0 < xs.length:=by rw [o2]; unfold arI; split <;> omega
 have hld0:=fun HH=>tr_ags.load (l:=(mkS fl xs).l) (j:=0) (H:=HH) (by rw [hlen]; exact hpos)
 have hin0:((0:Int) ≤ 0 ∧ (0:Int) < xs.length)=True:=eq_true ⟨by omega,by omega⟩
 obtain ⟨a1,a2,a3⟩:=hx (xs.getD 0 default) (getD_mem (l:=xs) default hpos)
 have hp0:=ptx_at hpos
 have hat:=fun q=>refAtX _ q a2 a3
 have hal:=fun q=>atP_le (p:=(lvl (xs.getD 0 default),txt (xs.getD 0 default))) (q:=q) a2
 have hr:=lv_rng op
 simp only [mkS_l] at hld0
 rw [if_neg (by omega),if_neg (by omega),if_neg (by omega)]
 unfold opT
 rw [hp0]
 by_cases h13:op=13
 ·have d13:decide (op=13)=true:=decide_eq_true h13
  rw [if_pos h13]
  generalize xs.getD 0 default=a at hld0 hat hal
  simp only [go_sem,reduceIte,rA,rB,rC,rD,d0,d1,d3]
  refine WC_p rfl (by rw [pure_st (l:=[_,_,_,_,_,_,_,_,_])]; rfl) hlv ?_
  simp only [go_sem,reduceIte,rA,rB,rC,rD,d13,tr_ags.ia,hlen,mkS_l,hin0,Int.toNat_zero,hld0]
  refine WC_p rfl (by rw [pure_st]; rfl) (hat _) ?_
  have:=hal (lvO op)
  simp only [go_sem,reduceIte,rA,rB,rC,rD,notT,List.cons_append,List.nil_append]
  omega
 ·have d13:decide (op=13)=false:=decide_eq_false h13
  rw [if_neg h13]
  by_cases h3:op=3
  ·have d33:decide (op=3)=true:=decide_eq_true h3
   rw [if_pos h3]
   generalize xs.getD 0 default=a at hld0 hat hal
   simp only [go_sem,reduceIte,rA,rB,rC,rD,d0,d1,d3]
   refine WC_p rfl (by rw [pure_st (l:=[_,_,_,_,_,_,_,_,_])]; rfl) hlv ?_
   simp only [go_sem,reduceIte,rA,rB,rC,rD,d13,d33,tr_ags.ia,hlen,mkS_l,hin0,Int.toNat_zero,hld0]
   refine WC_p rfl (by rw [pure_st]; rfl) (hat _) ?_
   have:=hal 8
   simp only [go_sem,reduceIte,rA,rB,rC,rD,List.cons_append,List.nil_append]
   omega
  ·have d33:decide (op=3)=false:=decide_eq_false h3
   rw [if_neg h3]
   have h1l:1 < xs.length:=by rw [o2]; unfold arI; rw [if_neg (by omega)]; omega
   have hld1:=fun HH=>tr_ags.load (l:=(mkS fl xs).l) (j:=1) (H:=HH) (by rw [hlen]; exact h1l)
   have hin1:((0:Int) ≤ 1 ∧ (1:Int) < xs.length)=True:=eq_true ⟨by omega,by omega⟩
   obtain ⟨b1,b2,b3⟩:=hx (xs.getD 1 default) (getD_mem (l:=xs) default h1l)
   have hbt:=fun q=>refAtX _ q b2 b3
   have hbl:=fun q=>atP_le (p:=(lvl (xs.getD 1 default),txt (xs.getD 1 default))) (q:=q) b2
   simp only [mkS_l] at hld1
   rw [ptx_at h1l]
   generalize xs.getD 0 default=a at hld0 hat hal
   generalize xs.getD 1 default=b at hld1 hbt hbl
   have w1:=wrap_in (x:=lvO op + 1) (by omega) (by omega)
   simp only [go_sem,reduceIte,rA,rB,rC,rD,d0,d1,d3]
   refine WC_p rfl (by rw [pure_st (l:=[_,_,_,_,_,_,_,_,_])]; rfl) hlv ?_
   by_cases h4:lvO op=4
   ·have d4:decide (lvO op=4)=true:=decide_eq_true h4
    rw [if_pos h4]
    simp only [go_sem,reduceIte,rA,rB,rC,rD,d13,d33,d4,tr_ags.ia,hlen,mkS_l,hin0,hin1,Int.toNat_zero,Int.toNat_one,hld0,hld1]
    refine WC_p rfl (by rw [pure_st]; rfl) (hat _) ?_
    have u1:=hal 5
    have u2:=hbl (lvO op + 1)
    generalize atP (lvl a,txt a) 5=s1 at u1
    simp only [go_sem,reduceIte,rA,rB,rC,rD,tr_ags.ia,hlen,mkS_l,hin0,hin1,Int.toNat_zero,Int.toNat_one,hld0,hld1,w1,lA,lB,lC]
    refine ⟨by omega,WC_p rfl rfl (refSym_ok op o0 o1) ?_⟩
    simp only [go_sem,reduceIte,rA,rB,rC,rD,tr_ags.ia,hlen,mkS_l,hin0,hin1,Int.toNat_zero,Int.toNat_one,hld0,hld1,w1,lA,lB,lC]
    refine ⟨by omega,WC_p rfl (by rw [pure_st]; rfl) (hbt _) ?_⟩
    generalize atP (lvl b,txt b) (lvO op + 1)=s2 at u2
    simp only [go_sem,reduceIte,rA,rB,rC,rD,tr_ags.ia,hlen,mkS_l,lA,lB,lC]
    omega
   ·have d4:decide (lvO op=4)=false:=decide_eq_false h4
    rw [if_neg h4]
    simp only [go_sem,reduceIte,rA,rB,rC,rD,d13,d33,d4,tr_ags.ia,hlen,mkS_l,hin0,hin1,Int.toNat_zero,Int.toNat_one,hld0,hld1]
    refine WC_p rfl (by rw [pure_st]; rfl) (hat _) ?_
    have u1:=hal (lvO op)
    have u2:=hbl (lvO op + 1)
    generalize atP (lvl a,txt a) (lvO op)=s1 at u1
    simp only [go_sem,reduceIte,rA,rB,rC,rD,tr_ags.ia,hlen,mkS_l,hin0,hin1,Int.toNat_zero,Int.toNat_one,hld0,hld1,w1,lA,lB,lC]
    refine ⟨by omega,WC_p rfl rfl (refSym_ok op o0 o1) ?_⟩
    simp only [go_sem,reduceIte,rA,rB,rC,rD,tr_ags.ia,hlen,mkS_l,hin0,hin1,Int.toNat_zero,Int.toNat_one,hld0,hld1,w1,lA,lB,lC]
    refine ⟨by omega,WC_p rfl (by rw [pure_st]; rfl) (hbt _) ?_⟩
    generalize atP (lvl b,txt b) (lvO op + 1)=s2 at u2
    simp only [go_sem,reduceIte,rA,rB,rC,rD,tr_ags.ia,hlen,mkS_l,lA,lB,lC]
    omega
theorem text_ok (n:Nat):∀ t:Tr,cnt t ≤ n→n ≤ 10000→wf t→(vld t=true ∨ cal t=true)→calL EE 53 [.st t.row] []=some (.ret (.str (txt t)),[]):=by
 induction n with
 | zero=>intro t h _; have:=cnt_pos t; omega
 | succ n ih =>
  intro t h hn hw hv
  cases t with
  | mk k v tb nm op fn fl xs =>
   have hw':=hw
   rw [wf] at hw'
   rw [cnt] at h
   have hx:vldL xs=true→∀ a,a ∈ xs→txOk 53 a:=by
    intro hv a ha
    rw [vldL_all] at hv
    have h1:=List.all_eq_true.1 hv a ha
    have h2:=cnt_mem ha
    have h3:=wfL_mem hw'.2.2 ha
    have h4:=txt_len a h3 h1
    exact ⟨h1,by omega,ih a (by omega) (by omega) h3 (.inl h1)⟩
   rcases hv with hv | hv
   ·have hv':=hv
    have hs:=vld_sm _ hv
    rw [vld] at hv'
    rw [sm] at hs
    rcases vld_cases hv' with ⟨e,_⟩ | ⟨e,_⟩ | ⟨e,_,_,_,h5,_⟩
    ·exact text0 k v tb nm op fn fl xs hw'.1 hs.1 e
    ·exact text1 k v tb nm op fn fl xs (by omega) (by omega) (by omega) e
    ·exact text2 k v tb nm op fn fl xs e hv (hx h5)
   ·have hc:=cal_cases hv
    exact text3 k v tb nm op fn fl xs hc.1 hv fun a ha=>(hx hc.2.2.2.2.1 a ha).2
theorem refText_ok (n:Nat):∀ t:Tr,cnt t ≤ n→n ≤ 10000→wf t→(vld t=true ∨ cal t=true)→calL EE 55 [.st t.row] []=some (.ret (.str (txt t)),[]):=by
 induction n with
 | zero=>intro t h _; have:=cnt_pos t; omega
 | succ n ih =>
  intro t h hn hw hv
  cases t with
  | mk k v tb nm op fn fl xs =>
   have hw':=hw
   rw [wf] at hw'
   rw [cnt] at h
   have hx:vldL xs=true→∀ a,a ∈ xs→txOk 55 a:=by
    intro hv a ha
    rw [vldL_all] at hv
    have h1:=List.all_eq_true.1 hv a ha
    have h2:=cnt_mem ha
    have h3:=wfL_mem hw'.2.2 ha
    have h4:=txt_len a h3 h1
    exact ⟨h1,by omega,ih a (by omega) (by omega) h3 (.inl h1)⟩
   rcases hv with hv | hv
   ·have hv':=hv
    have hs:=vld_sm _ hv
    rw [vld] at hv'
    rw [sm] at hs
    rcases vld_cases hv' with ⟨e,_⟩ | ⟨e,_⟩ | ⟨e,_,_,_,h5,_⟩
    ·exact ref_text0 k v tb nm op fn fl xs hw'.1 hs.1 e
    ·exact ref_text1 k v tb nm op fn fl xs (by omega) (by omega) (by omega) e
    ·exact ref_text2 k v tb nm op fn fl xs e hv (hx h5)
   ·have hc:=cal_cases hv
    exact ref_text3 k v tb nm op fn fl xs hc.1 hv fun a ha=>(hx hc.2.2.2.2.1 a ha).2
theorem at_ok (t:Tr) (req:Int) (hn:cnt t ≤ 10000) (hw:wf t) (hv:vld t=true):calL EE 123 [.st t.row,.i64 req] []=some (.ret (.str (atP (lvl t,txt t) req)),[]) :=
 atX t req (.inl hv) (by have:=txt_len t hw hv; omega) (text_ok _ t hn (Nat.le_refl _) hw (.inl hv))
theorem refAt_ok (t:Tr) (req:Int) (hn:cnt t ≤ 10000) (hw:wf t) (hv:vld t=true):calL EE 125 [.st t.row,.i64 req] []=some (.ret (.str (atP (lvl t,txt t) req)),[]) :=
 refAtX t req (by have:=txt_len t hw hv; omega) (refText_ok _ t hn (Nat.le_refl _) hw (.inl hv))
end Go.Vm
