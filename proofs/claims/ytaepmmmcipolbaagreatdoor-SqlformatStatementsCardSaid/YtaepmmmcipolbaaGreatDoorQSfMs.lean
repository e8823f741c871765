/- Chapter 24: statements as data; how they are compared. -/
import Derived.Test.YtaepmmmcipolbaaGreatDoorQSfM
set_option linter.unusedVariables false
set_option linter.unusedSimpArgs false
set_option maxRecDepth 100000
namespace Go.Vm
open Nat renaming reduceEqDiff→rA,reduceAdd→rB,reduceLeDiff→rC,reduceLT→rD
open Go
structure Col where
 name:List UInt8
 ty:Int
 deriving Inhabited,DecidableEq
def Col.row (c:Col):List SV:=[.str c.name,.int .i64 c.ty]
structure Stg where
 name:List UInt8
 e:Tr
 deriving Inhabited
def Stg.row (x:Stg):List SV := .str x.name :: x.e.row
def rwRow (x:Slc Tr):List SV:=[x.sv Tr.row]
structure StP (Q:Type) where
 k:Int
 nm:List UInt8
 tb:List UInt8
 co:Slc Col
 ke:Slc (List UInt8)
 ns:Slc (List UInt8)
 ro:Slc (Slc Tr)
 se:Slc Stg
 wh:Slc Tr
 qu:Slc Q
 deriving Inhabited
def StP.row {Q:Type} (f:Q→List SV) (s:StP Q):List SV:=[.int .i64 s.k,.str s.nm,.str s.tb,s.co.sv Col.row,s.ke.sv txRow,s.ns.sv txRow,s.ro.sv rwRow,s.se.sv Stg.row,s.wh.sv Tr.row,s.qu.sv f]
theorem col_ags:Ags 2 Col.row:=⟨fun _=>rfl,by decide⟩
theorem stg_ags:Ags 10 Stg.row:=⟨fun x=>by unfold Stg.row; rw [List.length_cons,row_len],by decide⟩
theorem rw_ags:Ags 1 rwRow:=⟨fun _=>rfl,by decide⟩
def eqC (a b:Col):Bool:=decide (a.name=b.name) && decide (a.ty=b.ty)
def eqR (a b:Slc Tr):Bool:=eqF eqT a.l b.l
def eqS (a b:Stg):Bool:=decide (a.name=b.name) && eqT a.e b.e
def eqStP {Q:Type} (q:Q→Q→Bool) (a b:StP Q):Bool:=decide (a.k=b.k) && decide (a.nm=b.nm) && decide (a.tb=b.tb) && eqF eqC a.co.l b.co.l && eqF eqN a.ke.l b.ke.l && eqF eqN a.ns.l b.ns.l && eqF eqR a.ro.l b.ro.l && eqF eqS a.se.l b.se.l && eqF eqT a.wh.l b.wh.l && eqF q a.qu.l b.qu.l
structure wfStP {Q:Type} (w:Q→Prop) (s:StP Q):Prop where
 lco:s.co.l.length ≤ mxL
 lke:s.ke.l.length ≤ mxL
 lns:s.ns.l.length ≤ mxL
 lro:s.ro.l.length ≤ mxL
 ro:∀ x ∈ s.ro.l,x.l.length ≤ mxL ∧ ∀ t ∈ x.l,wf t
 lse:s.se.l.length ≤ mxL
 se:∀ x ∈ s.se.l,wf x.e
 lwh:s.wh.l.length ≤ mxL
 wh:∀ x ∈ s.wh.l,wf x
 lqu:s.qu.l.length ≤ mxL
 qu:∀ x ∈ s.qu.l,w x
 rst:s.nm.length ≤ RB ∧ s.tb.length ≤ RB
 rln:s.co.l.length ≤ RB ∧ s.ke.l.length ≤ RB ∧ s.ns.l.length ≤ RB ∧ s.ro.l.length ≤ RB ∧ s.se.l.length ≤ RB
 rro:∀ x ∈ s.ro.l,∀ t ∈ x.l,rc t
 rse:∀ x ∈ s.se.l,rc x.e
 rwh:∀ x ∈ s.wh.l,rc x
theorem cols_eq (x y:Slc Col) (hx:x.l.length ≤ mxL):calL EE 80 [.s (x.sv Col.row),.s (y.sv Col.row)] []=some (.ret (.bool (eqF eqC x.l y.l)),[]):=by
 refine fn_ok f80 (by simp) ?_
 unfold c80
 by_cases hl:x.l.length=y.l.length
 ·have hd:decide ((x.l.length:Int)=(y.l.length:Int))=true:=decide_eq_true (by omega)
  simp only [go_sem,reduceIte,rA,rB,rC,rD,hd]
  refine WP_scan rfl 13 x.l.length (fun j=>eqC (x.l.getD j default) (y.l.getD j default)=true) (fun _ _ _ _=>True) rfl trivial ?_ ?_
  ·rintro j T' H' n' hlt hf hi _ _
   have h0:T' 0 = .s (x.sv Col.row):=hf 0 rfl
   have h1:T' 1 = .s (y.sv Col.row):=hf 1 rfl
   have h12:T' 12 = .i64 x.l.length:=hf 12 rfl
   clear hf
   have hly:j < y.l.length:=by omega
   have hji:(j:Int) < x.l.length:=by omega
   have hjy:(j:Int) < y.l.length:=by omega
   have hj0:(0:Int) ≤ j:=by omega
   have hwj:=wrap_suc (j:=j) (by have:mxL=9223372036854775807:=rfl; omega)
   have hx1:=fun HH=>col_ags.load (H:=HH) hlt
   have hy1:=fun HH=>col_ags.load (H:=HH) hly
   have hq:(decide ((x.l.getD j default).name=(y.l.getD j default).name) && decide ((x.l.getD j default).ty=(y.l.getD j default).ty))=eqC (x.l.getD j default) (y.l.getD j default):=rfl
   simp only [go_sem,reduceIte,rA,rB,rC,rD,h0,h1,h12,hi,hji,hjy,hj0,and_self,decide_true,col_ags.ia,Int.toNat_natCast,hx1,hy1,Col.row,flat_neq,svEqs_int,svEqs_str,svEqs_nil,bnd_some,hq]
   cases hb:eqC (x.l.getD j default) (y.l.getD j default) with
   | true=>simp only [go_sem,reduceIte,rA,rB,rC,rD,hi,hwj,hb]
   | false=>simp only [go_sem,reduceIte,rA,rB,rC,rD,hi,hwj,hb,eqF_bad hl hlt hb]
  ·rintro T' H' n' hf hi _ hp
   have h12:T' 12 = .i64 x.l.length:=hf 12 rfl
   clear hf
   simp only [go_sem,reduceIte,rA,rB,rC,rD,h12,hi,Int.lt_irrefl,decide_false,eqF_good hl hp]
 ·have hd:decide ((x.l.length:Int)=(y.l.length:Int))=false:=decide_eq_false (by omega)
  simp only [go_sem,reduceIte,rA,rB,rC,rD,hd,eqF_no hl]
theorem rw_load {l:List (Slc Tr)} {j:Nat} {H:Ob} (hj:j < l.length):loadM false 1 H (.eptr (l.map rwRow) j 0)=some (.s ((l.getD j default).sv Tr.row)):=by
 rw [load_eptr (agg:=false),if_pos hj]
 rfl
theorem rw_ia {s:Slc (Slc Tr)} {H:Ob} {k:IntKind} {i:Int}:indexAM (.sl 1) H (.s (s.sv rwRow)) (.s (.int k i))=gd (0 ≤ i ∧ i < s.l.length) (.eptr (s.l.map rwRow) i.toNat 0):=rw_ags.ia
theorem row_eq (x y:Slc Tr) (hx:x.l.length ≤ mxL) (hw:∀ t ∈ x.l,wf t):calL EE 83 [.s (x.sv Tr.row),.s (y.sv Tr.row)] []=some (.ret (.bool (eqR x y)),[]):=by
 have e:=exprs_eq x y hx hw
 refine fn_ok f83 (by simp) ?_
 unfold c83
 simp only [go_sem,reduceIte,rA,rB,rC,rD]
 refine WC_p rfl rfl e ?_
 simp only [go_sem,reduceIte,rA,rB,rC,rD]
 rfl
theorem rows_eq (x y:Slc (Slc Tr)) (hx:x.l.length ≤ mxL) (hw:∀ a ∈ x.l,a.l.length ≤ mxL ∧ ∀ t ∈ a.l,wf t):calL EE 82 [.s (x.sv rwRow),.s (y.sv rwRow),.s (.func 83)] []=some (.ret (.bool (eqF eqR x.l y.l)),[]):=by
 refine fn_ok f82 (by simp) ?_
 unfold c82
 by_cases hl:x.l.length=y.l.length
 ·have hd:decide ((x.l.length:Int)=(y.l.length:Int))=true:=decide_eq_true (by omega)
  simp only [go_sem,reduceIte,rA,rB,rC,rD,hd]
  refine WP_scan rfl 17 x.l.length (fun j=>eqR (x.l.getD j default) (y.l.getD j default)=true) (fun _ _ _ _=>True) rfl trivial ?_ ?_
  ·rintro j T' H' n' hlt hf hi _ _
   have h1:T' 1 = .s (y.sv rwRow):=hf 1 rfl
   have h2:T' 2 = .s (.func 83):=hf 2 rfl
   have h15:T' 15 = .s (x.sv rwRow):=hf 15 rfl
   have h16:T' 16 = .i64 x.l.length:=hf 16 rfl
   clear hf
   have hly:j < y.l.length:=by omega
   have hji:(j:Int) < x.l.length:=by omega
   have hjy:(j:Int) < y.l.length:=by omega
   have hj0:(0:Int) ≤ j:=by omega
   have hwj:=wrap_suc (j:=j) (by have:mxL=9223372036854775807:=rfl; omega)
   have hx1:=fun HH=>rw_load (H:=HH) hlt
   have hy1:=fun HH=>rw_load (H:=HH) hly
   have hm:=hw _ (getD_mem (l:=x.l) default hlt)
   have e:=row_eq (x.l.getD j default) (y.l.getD j default) hm.1 hm.2
   simp only [go_sem,reduceIte,rA,rB,rC,rD,h1,h2,h15,h16,hi,hji,hjy,hj0,and_self,decide_true,rw_ia,Int.toNat_natCast,hx1,hy1]
   refine WV_s (WC_p rfl rfl e ?_)
   cases hb:eqR (x.l.getD j default) (y.l.getD j default) with
   | true=>simp only [go_sem,reduceIte,rA,rB,rC,rD,hi,hwj,hb]
   | false=>simp only [go_sem,reduceIte,rA,rB,rC,rD,hi,hwj,hb,eqF_bad hl hlt hb]
  ·rintro T' H' n' hf hi _ hp
   have h16:T' 16 = .i64 x.l.length:=hf 16 rfl
   clear hf
   simp only [go_sem,reduceIte,rA,rB,rC,rD,h16,hi,Int.lt_irrefl,decide_false,eqF_good hl hp]
 ·have hd:decide ((x.l.length:Int)=(y.l.length:Int))=false:=decide_eq_false (by omega)
  simp only [go_sem,reduceIte,rA,rB,rC,rD,hd,eqF_no hl]
theorem stg_ok (a b:Stg) (ha:wf a.e):calL EE 85 [.st a.row,.st b.row] []=some (.ret (.bool (eqS a b)),[]):=by
 obtain ⟨s,⟨k,v,tb,nm,op,fn,fl,xs⟩⟩:=a
 obtain ⟨s',⟨k',v',tb',nm',op',fn',fl',xs'⟩⟩:=b
 have e:=equal_ok _ _ (.mk k' v' tb' nm' op' fn' fl' xs') (Nat.le_refl _) ha
 refine fn_ok f85 (by simp) ?_
 unfold c85
 show WP EE _ (enter [.st (.str s :: (Tr.mk k v tb nm op fn fl xs).row),.st (.str s' :: (Tr.mk k' v' tb' nm' op' fn' fl' xs').row)]) _ _ (Fin _ (.bool (decide (s=s') && eqT (.mk k v tb nm op fn fl xs) (.mk k' v' tb' nm' op' fn' fl' xs'))))
 rw [row_mk,row_mk] at e ⊢
 simp only [go_sem,reduceIte,rA,rB,rC,rD]
 generalize eqT _ _=r at e
 cases hF:decide (s=s') with
 | true =>
  simp only [go_sem,reduceIte,rA,rB,rC,rD,hF]
  refine WC_p rfl rfl e ?_
  simp only [go_sem,reduceIte,rA,rB,rC,rD,hF]
 | false=>simp only [go_sem,reduceIte,rA,rB,rC,rD,hF]
theorem set_eq (x y:Slc Stg) (hx:x.l.length ≤ mxL) (hw:∀ a ∈ x.l,wf a.e):calL EE 84 [.s (x.sv Stg.row),.s (y.sv Stg.row),.s (.func 85)] []=some (.ret (.bool (eqF eqS x.l y.l)),[]) :=
 eq_func stg_ags (z:=[.str [],.int .i64 0,.int .i64 0,.int .i64 0,.str [],.str [],.str [],.int .i64 0,.int .i64 0,.nils]) rfl f84 (by decide) x y hx 85 rfl eqS fun j hj _=>stg_ok _ _ (hw _ (getD_mem (l:=x.l) default hj))
section
variable {Q:Type} [Inhabited Q] {f:Q→List SV} (hf:∀ x,(f x).length=10) {q:Q→Q→Bool} {w:Q→Prop}
 (hE:∀ a b,w a→calL EE 24 [.st (f a),.st (f b)] []=some (.ret (.bool (q a b)),[]))
 (hS:∀ a b,w a→calL EE 32 [.st (f a),.st (f b)] []=some (.ret (.bool (q a b)),[]))
include hf hE in
set_option maxHeartbeats 4000000 in
theorem stmt_eq (a b:StP Q) (ha:wfStP w a):calL EE 30 [.st (StP.row f a),.st (StP.row f b)] []=some (.ret (.bool (eqStP q a b)),[]):=by
 have e1:=cols_eq a.co b.co ha.lco
 have e2:=names_eq a.ke b.ke ha.lke
 have e3:=names_eq a.ns b.ns ha.lns
 have e4:=rows_eq a.ro b.ro ha.lro ha.ro
 have e5:=set_eq a.se b.se ha.lse ha.se
 have e6:=exprs_eq a.wh b.wh ha.lwh ha.wh
 have e7:=eq_func (q_ags hf) (z:=qzRow) rfl f78 (by decide) a.qu b.qu ha.lqu 24 rfl q fun j hj _=>hE _ _ (ha.qu _ (getD_mem (l:=a.qu.l) default hj))
 refine fn_ok f30 (by simp) ?_
 unfold c30 eqStP StP.row
 generalize eqF eqC a.co.l b.co.l=r1 at e1
 generalize eqF eqN a.ke.l b.ke.l=r2 at e2
 generalize eqF eqN a.ns.l b.ns.l=r3 at e3
 generalize eqF eqR a.ro.l b.ro.l=r4 at e4
 generalize eqF eqS a.se.l b.se.l=r5 at e5
 generalize eqF eqT a.wh.l b.wh.l=r6 at e6
 generalize eqF q a.qu.l b.qu.l=r7 at e7
 cases d1:decide (a.k=b.k) with
 | false=>simp only [go_sem,reduceIte,rA,rB,rC,rD,d1]
 | true =>
  cases d2:decide (a.nm=b.nm) with
  | false=>simp only [go_sem,reduceIte,rA,rB,rC,rD,d1,d2]
  | true =>
   cases d3:decide (a.tb=b.tb) with
   | false=>simp only [go_sem,reduceIte,rA,rB,rC,rD,d1,d2,d3]
   | true =>
    simp only [go_sem,reduceIte,rA,rB,rC,rD,d1,d2,d3]
    refine WC_p rfl rfl e1 ?_
    cases r1 with
    | false=>simp only [go_sem,reduceIte,rA,rB,rC,rD,d1,d2,d3]
    | true =>
     simp only [go_sem,reduceIte,rA,rB,rC,rD,d1,d2,d3]
     refine WC_p rfl rfl e2 ?_
     cases r2 with
     | false=>simp only [go_sem,reduceIte,rA,rB,rC,rD,d1,d2,d3]
     | true =>
      simp only [go_sem,reduceIte,rA,rB,rC,rD,d1,d2,d3]
      refine WC_p rfl rfl e3 ?_
      cases r3 with
      | false=>simp only [go_sem,reduceIte,rA,rB,rC,rD,d1,d2,d3]
      | true =>
       simp only [go_sem,reduceIte,rA,rB,rC,rD,d1,d2,d3]
       refine WC_p rfl rfl e4 ?_
       simp only [go_sem,reduceIte,rA,rB,rC,rD]
       refine WC_p rfl rfl e5 ?_
       cases r4 with
       | false=>simp only [go_sem,reduceIte,rA,rB,rC,rD]
       | true =>
        cases r5 with
        | false=>simp only [go_sem,reduceIte,rA,rB,rC,rD]
        | true =>
         simp only [go_sem,reduceIte,rA,rB,rC,rD]
         refine WC_p rfl rfl e6 ?_
         cases r6 with
         | false=>simp only [go_sem,reduceIte,rA,rB,rC,rD]
         | true =>
          simp only [go_sem,reduceIte,rA,rB,rC,rD]
          refine WC_p rfl rfl e7 ?_
          simp only [go_sem,reduceIte,rA,rB,rC,rD]
include hf hS in
set_option maxHeartbeats 8000000 in
theorem stmt_same (a b:StP Q) (ha:wfStP w a):calL EE 31 [.st (StP.row f a),.st (StP.row f b)] []=some (.ret (.bool (eqStP q a b)),[]):=by
 have e2:=names_same a.ke b.ke ha.lke
 have e3:=names_same a.ns b.ns ha.lns
 have e6:=exprs_same a.wh b.wh ha.lwh ha.wh
 have e7:=sameQueries_ok hf hS a.qu b.qu ha.lqu ha.qu
 have hA:∀ HH:Ob,∀ j (h:j < a.co.l.length),loadM true 2 HH (.eptr (a.co.l.map Col.row) j 0)=some (.st (a.co.l.getD j default).row):=fun HH j h=>col_ags.load h
 refine fn_ok f31 (by simp) ?_
 unfold c31 eqStP
 have n1:¬ a.co.l.length=b.co.l.length→eqF eqC a.co.l b.co.l=false:=eqF_no
 have n4:¬ a.ro.l.length=b.ro.l.length→eqF eqR a.ro.l b.ro.l=false:=eqF_no
 have n5:¬ a.se.l.length=b.se.l.length→eqF eqS a.se.l b.se.l=false:=eqF_no
 generalize eqF eqN a.ke.l b.ke.l=r2 at e2
 generalize eqF eqN a.ns.l b.ns.l=r3 at e3
 generalize eqF eqT a.wh.l b.wh.l=r6 at e6
 generalize eqF q a.qu.l b.qu.l=r7 at e7
 cases d1:decide (a.k=b.k) with
 | false=>simp only [go_sem,reduceIte,rA,rB,rC,rD,StP.row,d1]
 | true =>
  cases d2:decide (a.nm=b.nm) with
  | false=>simp only [go_sem,reduceIte,rA,rB,rC,rD,StP.row,d1,d2]
  | true =>
   cases d3:decide (a.tb=b.tb) with
   | false=>simp only [go_sem,reduceIte,rA,rB,rC,rD,StP.row,d1,d2,d3]
   | true =>
    simp only [go_sem,reduceIte,rA,rB,rC,rD,StP.row,d1,d2,d3]
    refine WC_p rfl rfl e2 ?_
    cases r2 with
    | false=>simp only [go_sem,reduceIte,rA,rB,rC,rD,StP.row,d1,d2,d3]
    | true =>
     simp only [go_sem,reduceIte,rA,rB,rC,rD,StP.row,d1,d2,d3]
     refine WC_p rfl rfl e3 ?_
     cases r3 with
     | false=>simp only [go_sem,reduceIte,rA,rB,rC,rD,StP.row,d1,d2,d3]
     | true =>
      by_cases hl1:¬ a.co.l.length=b.co.l.length
      ·have l1:decide ((a.co.l.length:Int)=(b.co.l.length:Int))=false:=decide_eq_false (by omega)
       simp only [go_sem,reduceIte,rA,rB,rC,rD,StP.row,d1,d2,d3,l1,n1 hl1]
      replace hl1:=Decidable.not_not.1 hl1
      have l1:decide ((a.co.l.length:Int)=(b.co.l.length:Int))=true:=decide_eq_true (by omega)
      by_cases hl2:¬ a.ro.l.length=b.ro.l.length
      ·have l2:decide ((a.ro.l.length:Int)=(b.ro.l.length:Int))=false:=decide_eq_false (by omega)
       simp only [go_sem,reduceIte,rA,rB,rC,rD,StP.row,d1,d2,d3,l1,l2,n4 hl2]
      replace hl2:=Decidable.not_not.1 hl2
      have l2:decide ((a.ro.l.length:Int)=(b.ro.l.length:Int))=true:=decide_eq_true (by omega)
      by_cases hl3:¬ a.se.l.length=b.se.l.length
      ·have l3:decide ((a.se.l.length:Int)=(b.se.l.length:Int))=false:=decide_eq_false (by omega)
       simp only [go_sem,reduceIte,rA,rB,rC,rD,StP.row,d1,d2,d3,l1,l2,l3,n5 hl3]
      replace hl3:=Decidable.not_not.1 hl3
      have l3:decide ((a.se.l.length:Int)=(b.se.l.length:Int))=true:=decide_eq_true (by omega)
      simp only [go_sem,reduceIte,rA,rB,rC,rD,StP.row,d1,d2,d3,l1,l2,l3]
      refine WC_p rfl rfl e6 ?_
      cases r6 with
      | false=>simp only [go_sem,reduceIte,rA,rB,rC,rD,StP.row,d1,d2,d3,l1,l2,l3]
      | true =>
       simp only [go_sem,reduceIte,rA,rB,rC,rD,StP.row,d1,d2,d3,l1,l2,l3]
       refine WC_p rfl rfl e7 ?_
       cases r7 with
       | false=>simp only [go_sem,reduceIte,rA,rB,rC,rD,StP.row,d1,d2,d3,l1,l2,l3]
       | true =>
        simp only [go_sem,reduceIte,rA,rB,rC,rD,StP.row,d1,d2,d3,l1,l2,l3]
        refine WP_scan rfl 5 a.co.l.length (fun j=>eqC (a.co.l.getD j default) (b.co.l.getD j default)=true) (fun _ _ H _=>H 0 = .box 57 ((StP.row f a).map .s) ∧ H 1 = .box 57 ((StP.row f b).map .s)) rfl ⟨rfl,rfl⟩ ?_ ?_
        ·rintro j T' H' n' hlt hf' hi ⟨hH0,hH1⟩ _
         have h2:T' 2 = .ptr 0 0:=(hf' 2 rfl).trans rfl
         have h3:T' 3 = .ptr 1 0:=(hf' 3 rfl).trans rfl
         clear hf'
         have hly:j < b.co.l.length:=by omega
         have hji:(j:Int) < a.co.l.length:=by omega
         have hjy:(j:Int) < b.co.l.length:=by omega
         have hj0:(0:Int) ≤ j:=by omega
         have hwj:=wrap_suc (j:=j) (by have:=ha.lco; have:mxL=9223372036854775807:=rfl; omega)
         have hx1:=fun HH=>col_ags.load (H:=HH) hlt
         have hy1:=fun HH=>col_ags.load (H:=HH) hly
         have hq:(decide ((a.co.l.getD j default).name=(b.co.l.getD j default).name) && decide ((a.co.l.getD j default).ty=(b.co.l.getD j default).ty))=eqC (a.co.l.getD j default) (b.co.l.getD j default):=rfl
         simp only [go_sem,reduceIte,rA,rB,rC,rD,StP.row,h2,h3,hH0,hH1,hi,hji,hjy,hj0,hwj,and_self,decide_true,Int.toNat_natCast,col_ags.ia,hx1,hy1,Col.row,flat_neq,svEqs_int,svEqs_str,svEqs_nil,bnd_some,hq]
         cases hb:eqC (a.co.l.getD j default) (b.co.l.getD j default) with
         | true=>simp only [go_sem,reduceIte,rA,rB,rC,rD,StP.row,h2,h3,hH0,hH1,hi,hji,hjy,hj0,hwj,and_self,decide_true,Int.toNat_natCast,hb,true_and]
         | false=>simp only [go_sem,reduceIte,rA,rB,rC,rD,StP.row,h2,h3,hH0,hH1,hi,hji,hjy,hj0,hwj,and_self,decide_true,Int.toNat_natCast,hb,eqF_bad hl1 hlt hb]
        ·rintro T' H' n' hf' hi ⟨hH0,hH1⟩ hp
         have h2:T' 2 = .ptr 0 0:=(hf' 2 rfl).trans rfl
         have h3:T' 3 = .ptr 1 0:=(hf' 3 rfl).trans rfl
         clear hf'
         have gco:=eqF_good (q:=eqC) hl1 hp
         simp only [go_sem,reduceIte,rA,rB,rC,rD,StP.row,h2,h3,hH0,hH1,hi,Int.lt_irrefl,decide_false,gco]
         refine WP_scan rfl 6 a.ro.l.length (fun j=>eqR (a.ro.l.getD j default) (b.ro.l.getD j default)=true) (fun _ _ H _=>H 0 = .box 57 ((StP.row f a).map .s) ∧ H 1 = .box 57 ((StP.row f b).map .s)) rfl ⟨hH0,hH1⟩ ?_ ?_
         ·rintro j T' H' n' hlt hf' hi ⟨hH0,hH1⟩ _
          have h2:T' 2 = .ptr 0 0:=(hf' 2 rfl).trans h2
          have h3:T' 3 = .ptr 1 0:=(hf' 3 rfl).trans h3
          clear hf'
          have hly:j < b.ro.l.length:=by omega
          have hji:(j:Int) < a.ro.l.length:=by omega
          have hjy:(j:Int) < b.ro.l.length:=by omega
          have hj0:(0:Int) ≤ j:=by omega
          have hwj:=wrap_suc (j:=j) (by have:=ha.lro; have:mxL=9223372036854775807:=rfl; omega)
          have hx1:=fun HH=>rw_load (H:=HH) hlt
          have hy1:=fun HH=>rw_load (H:=HH) hly
          have hm:=ha.ro _ (getD_mem (l:=a.ro.l) default hlt)
          have e:=exprs_same (a.ro.l.getD j default) (b.ro.l.getD j default) hm.1 hm.2
          simp only [go_sem,reduceIte,rA,rB,rC,rD,StP.row,h2,h3,hH0,hH1,hi,hji,hjy,hj0,hwj,and_self,decide_true,Int.toNat_natCast,rw_ia,hx1,hy1]
          refine WC_p rfl rfl e ?_
          have hq:eqF eqT (a.ro.l.getD j default).l (b.ro.l.getD j default).l=eqR (a.ro.l.getD j default) (b.ro.l.getD j default):=rfl
          cases hb:eqR (a.ro.l.getD j default) (b.ro.l.getD j default) with
          | true=>simp only [go_sem,reduceIte,rA,rB,rC,rD,StP.row,h2,h3,hH0,hH1,hi,hji,hjy,hj0,hwj,and_self,decide_true,Int.toNat_natCast,hq,hb,true_and]
          | false=>simp only [go_sem,reduceIte,rA,rB,rC,rD,StP.row,h2,h3,hH0,hH1,hi,hji,hjy,hj0,hwj,and_self,decide_true,Int.toNat_natCast,hq,hb,eqF_bad hl2 hlt hb,gco]
         ·rintro T' H' n' hf' hi ⟨hH0,hH1⟩ hp
          have h2:T' 2 = .ptr 0 0:=(hf' 2 rfl).trans h2
          have h3:T' 3 = .ptr 1 0:=(hf' 3 rfl).trans h3
          clear hf'
          have gro:=eqF_good (q:=eqR) hl2 hp
          simp only [go_sem,reduceIte,rA,rB,rC,rD,StP.row,h2,h3,hH0,hH1,hi,Int.lt_irrefl,decide_false,gro]
          refine WP_scan rfl 7 a.se.l.length (fun j=>eqS (a.se.l.getD j default) (b.se.l.getD j default)=true) (fun _ _ H _=>H 0 = .box 57 ((StP.row f a).map .s) ∧ H 1 = .box 57 ((StP.row f b).map .s)) rfl ⟨hH0,hH1⟩ ?_ ?_
          ·rintro j T' H' n' hlt hf' hi ⟨hH0,hH1⟩ _
           have h2:T' 2 = .ptr 0 0:=(hf' 2 rfl).trans h2
           have h3:T' 3 = .ptr 1 0:=(hf' 3 rfl).trans h3
           clear hf'
           have hly:j < b.se.l.length:=by omega
           have hji:(j:Int) < a.se.l.length:=by omega
           have hjy:(j:Int) < b.se.l.length:=by omega
           have hj0:(0:Int) ≤ j:=by omega
           have hwj:=wrap_suc (j:=j) (by have:=ha.lse; have:mxL=9223372036854775807:=rfl; omega)
           have hx1:∀ agg sz off HH,loadM agg sz HH (.eptr (a.se.l.map Stg.row) j off)=loadS agg sz (Stg.row (a.se.l.getD j default)) off:=fun agg sz off HH=>by rw [load_eptr,if_pos hlt]
           have hy1:∀ agg sz off HH,loadM agg sz HH (.eptr (b.se.l.map Stg.row) j off)=loadS agg sz (Stg.row (b.se.l.getD j default)) off:=fun agg sz off HH=>by rw [load_eptr,if_pos hly]
           have bad:eqS (a.se.l.getD j default) (b.se.l.getD j default)=false→eqF eqS a.se.l b.se.l=false:=fun h=>eqF_bad hl3 hlt h
           have hwX:=ha.se _ (getD_mem (l:=a.se.l) default hlt)
           have hq:eqS (a.se.l.getD j default) (b.se.l.getD j default)=eqS (a.se.l.getD j default) (b.se.l.getD j default):=rfl
           generalize hX:a.se.l.getD j default=X at hx1 bad hwX
           generalize hY:b.se.l.getD j default=Y at hy1 bad
           conv at hq=>rhs; rw [hX,hY]
           obtain ⟨s,⟨k,v,tb,nm,op,fn,fl,xs⟩⟩:=X
           obtain ⟨s',⟨k',v',tb',nm',op',fn',fl',xs'⟩⟩:=Y
           have e:=same_ok _ (Tr.mk k v tb nm op fn fl xs) (.mk k' v' tb' nm' op' fn' fl' xs') (Nat.le_refl _) hwX
           rw [row_mk,row_mk] at e
           have hs:eqS ⟨s,(.mk k v tb nm op fn fl xs)⟩ ⟨s',(.mk k' v' tb' nm' op' fn' fl' xs')⟩=(decide (s=s') && eqT (.mk k v tb nm op fn fl xs) (.mk k' v' tb' nm' op' fn' fl' xs')):=rfl
           rw [hs] at bad hq
           generalize eqT (.mk k v tb nm op fn fl xs) (.mk k' v' tb' nm' op' fn' fl' xs')=r0 at e bad hq
           cases ds:decide (s=s') with
           | false =>
            rw [ds] at bad hq
            simp only [go_sem,reduceIte,rA,rB,rC,rD,StP.row,h2,h3,hH0,hH1,hi,hji,hjy,hj0,hwj,and_self,decide_true,Int.toNat_natCast,stg_ags.ia,hx1,hy1,Stg.row,row_mk,ds,hq,gco,gro,bad (by rfl)]
           | true =>
            rw [ds] at bad hq
            simp only [go_sem,reduceIte,rA,rB,rC,rD,StP.row,h2,h3,hH0,hH1,hi,hji,hjy,hj0,hwj,and_self,decide_true,Int.toNat_natCast,stg_ags.ia,hx1,hy1,Stg.row,row_mk,ds]
            refine WC_p rfl rfl e ?_
            cases r0 with
            | true=>simp only [go_sem,reduceIte,rA,rB,rC,rD,StP.row,h2,h3,hH0,hH1,hi,hji,hjy,hj0,hwj,and_self,decide_true,Int.toNat_natCast,ds,hq,true_and]
            | false=>simp only [go_sem,reduceIte,rA,rB,rC,rD,StP.row,h2,h3,hH0,hH1,hi,hji,hjy,hj0,hwj,and_self,decide_true,Int.toNat_natCast,ds,hq,gco,gro,bad (by rfl)]
          ·rintro T' H' n' hf' hi ⟨hH0,hH1⟩ hp
           have h2:T' 2 = .ptr 0 0:=(hf' 2 rfl).trans h2
           have h3:T' 3 = .ptr 1 0:=(hf' 3 rfl).trans h3
           clear hf'
           have gse:=eqF_good (q:=eqS) hl3 hp
           simp only [go_sem,reduceIte,rA,rB,rC,rD,StP.row,h2,h3,hH0,hH1,hi,Int.lt_irrefl,decide_false,gse]
end
end Go.Vm
