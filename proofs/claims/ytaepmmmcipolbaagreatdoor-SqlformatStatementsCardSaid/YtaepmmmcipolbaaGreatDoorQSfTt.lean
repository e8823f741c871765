/- Chapter 24: texts of statements; the program's parts. -/
import Derived.Test.YtaepmmmcipolbaaGreatDoorQSfVd
import Derived.Test.YtaepmmmcipolbaaGreatDoorQSfTr
set_option linter.unusedVariables false
set_option linter.unusedSimpArgs false
set_option maxRecDepth 100000
namespace Go.Vm
open List renaming length_append→lA,length_cons→lB,length_nil→lC
open Nat renaming reduceEqDiff→rA,reduceAdd→rB,reduceLeDiff→rC,reduceLT→rD
open Go
def tyT (c:Col):List UInt8:=c.name ++ [32] ++ tnm c.ty
def rowT (x:Slc Tr):List UInt8:=[40] ++ Lib.join (x.l.map txt) cmW ++ [41]
def stgT (x:Stg):List UInt8:=x.name ++ [32,61,32] ++ txt x.e
def whrT (l:List Tr):List UInt8:=if l.length=0 then [] else [32,87,72,69,82,69,32] ++ txt (l.getD 0 default)
def namT (l:List (List UInt8)):List UInt8:=if l.length=0 then [] else [32,40] ++ Lib.join l cmW ++ [41]
def keyW (l:List (List UInt8)):List UInt8:=if l.length=0 then [] else [44,32,80,82,73,77,65,82,89,32,75,69,89,32,40] ++ Lib.join l cmW ++ [41]
section
variable {Q:Type} [Inhabited Q] (tq:Q→List UInt8) (c:Q→Nat)
def tabT (s:StP Q):List UInt8:=[67,82,69,65,84,69,32,84,65,66,76,69,32] ++ s.nm ++ [32,40] ++ Lib.join (s.co.l.map tyT) cmW ++ keyW s.ke.l ++ [41]
def insT (s:StP Q):List UInt8:=[73,78,83,69,82,84,32,73,78,84,79,32] ++ s.tb ++ namT s.ns.l ++ [32,86,65,76,85,69,83,32] ++ Lib.join (s.ro.l.map rowT) cmW
def stmT (s:StP Q):List UInt8 :=
 if s.k=0 then tq (s.qu.l.getD 0 default) else if s.k=1 then [69,88,80,76,65,73,78,32] ++ tq (s.qu.l.getD 0 default) else if s.k=2 then tabT s
 else if s.k=3 then [67,82,69,65,84,69,32,73,78,68,69,88,32] ++ s.nm ++ [32,79,78,32] ++ s.tb ++ [32,40] ++ Lib.join s.ns.l cmW ++ [41]
 else if s.k=4 then [67,82,69,65,84,69,32,86,73,69,87,32] ++ s.nm ++ [32,65,83,32] ++ tq (s.qu.l.getD 0 default)
 else if s.k=5 then [67,82,69,65,84,69,32,77,65,84,69,82,73,65,76,73,90,69,68,32,86,73,69,87,32] ++ s.nm ++ [32,65,83,32] ++ tq (s.qu.l.getD 0 default)
 else if s.k=6 then [68,82,79,80,32] ++ s.nm else if s.k=7 then insT s
 else if s.k=8 then [85,80,68,65,84,69,32] ++ s.tb ++ [32,83,69,84,32] ++ Lib.join (s.se.l.map stgT) cmW ++ whrT s.wh.l
 else if s.k=9 then [68,69,76,69,84,69,32,70,82,79,77,32] ++ s.tb ++ whrT s.wh.l else if s.k=10 then [66,69,71,73,78] else if s.k=11 then [67,79,77,77,73,84] else [82,79,76,76,66,65,67,75]
def cntRw (x:Slc Tr):Nat:=(x.l.map cnt).sum
def cntSt (x:Stg):Nat:=cnt x.e
def cntS (s:StP Q):Nat:=s.co.l.length + s.ke.l.length + s.ns.l.length + s.ro.l.length + s.se.l.length + (s.wh.l.map cnt).sum + (s.qu.l.map c).sum + (s.ro.l.map cntRw).sum + (s.se.l.map cntSt).sum
end
theorem tnm_len (k:Int):(tnm k).length ≤ 7:=by
 unfold tnm
 split
 ·decide
 ·split
  ·decide
  ·split <;> decide
theorem ones_sum {α:Type}:∀ l:List α,(l.map fun _=>1).sum=l.length
 | []=>rfl
 | a :: r=>by rw [List.map_cons,List.sum_cons,ones_sum r,List.length_cons]; omega
theorem joinN_len {l:List (List UInt8)} (h:l.all nameV=true):(Lib.join l cmW).length ≤ 33 * l.length:=by
 have:=join_le (t:=fun s:List UInt8=>s) (c:=fun _=>1) (K:=33) (sep:=cmW) (l:=l) fun s hs=>by
  have:=name_len (List.all_eq_true.1 h s hs)
  show s.length + 2 ≤ 33 * 1
  omega
 rw [ones_sum,List.map_id'] at this
 exact this
theorem ty_tlen {x:Col} (h:vCol x=true):(tyT x).length + 2 ≤ 1000 * 1:=by
 unfold vCol at h
 simp only [Bool.and_eq_true] at h
 have k1:=name_len h.1.1
 have k2:=tnm_len x.ty
 unfold tyT
 simp only [lA,lB,lC]
 omega
theorem row_tlen {x:Slc Tr} (hw:∀ t ∈ x.l,wf t) (h:vRow x=true):(rowT x).length + 2 ≤ 2000 * cntRw x:=by
 unfold vRow at h
 simp only [Bool.and_eq_true,decide_eq_true_eq,List.all_eq_true] at h
 have hl:=len_sum (c:=cnt) (l:=x.l) fun t _=>cnt_pos t
 have hj:=join_le (t:=txt) (c:=cnt) (K:=1000) (sep:=cmW) (l:=x.l) fun e he=>ex_tlen (hw e he) (h.2 e he)
 unfold rowT cntRw
 simp only [lA,lB,lC]
 omega
theorem stg_tlen {x:Stg} (hw:wf x.e) (h:vStg x=true):(stgT x).length + 2 ≤ 1000 * cntSt x:=by
 unfold vStg at h
 simp only [Bool.and_eq_true] at h
 have k1:=name_len h.1
 have k2:=txt_len2 hw (.inl h.2)
 have k3:=cnt_pos x.e
 unfold stgT cntSt
 simp only [lA,lB,lC]
 omega
theorem col_txt (x:Col) (h:vCol x=true):calL EE 154 [.st x.row] []=some (.ret (.str (tyT x)),[]):=by
 have k:=ty_tlen h
 have e:=t24 x.ty
 refine fn_ok f154 (by simp) ?_
 unfold c154 Col.row
 unfold tyT at *
 generalize tnm x.ty=A at e k ⊢
 simp only [lA,lB,lC] at k
 simp only [go_sem,reduceIte,rA,rB,rC,rD,lA,lB,lC]
 refine ⟨by omega,?_⟩
 refine WC_p rfl rfl e ?_
 simp only [go_sem,reduceIte,rA,rB,rC,rD,lA,lB,lC]
 omega
theorem stg_txt (x:Stg) (hw:wf x.e) (h:vStg x=true) (hn:cntSt x ≤ 10000):calL EE 110 [.st x.row] []=some (.ret (.str (stgT x)),[]):=by
 have k:=stg_tlen hw h
 obtain ⟨nm,t⟩:=x
 unfold vStg at h
 simp only [Bool.and_eq_true] at h
 have hn:cnt t ≤ 10000:=hn
 have e:=text_ok _ t (Nat.le_refl _) hn hw (.inl h.2)
 have lt:=row_len t
 have tt:List.take 9 t.row=t.row:=List.take_of_length_le (by omega)
 have k2:(stgT ⟨nm,t⟩).length ≤ 10000000:=by have:cntSt ⟨nm,t⟩=cnt t:=rfl; omega
 clear k
 refine fn_ok f110 (by simp) ?_
 unfold c110 Stg.row
 unfold stgT at *
 generalize txt t=A at e k2 ⊢
 simp only [lA,lB,lC] at k2
 simp only [go_sem,reduceIte,rA,rB,rC,rD,lt,tt,Nat.le_refl,lA,lB,lC]
 refine ⟨by omega,?_⟩
 refine WC_p rfl (by rw [pure_st]; rfl) e ?_
 simp only [go_sem,reduceIte,rA,rB,rC,rD,lA,lB,lC]
 omega
theorem where_txt (x:Slc Tr) (hw:∀ t ∈ x.l,wf t) (h:vWh x.l=true) (hn:(x.l.map cnt).sum ≤ 10000):calL EE 111 [.s (x.sv Tr.row)] []=some (.ret (.str (whrT x.l)),[]) ∧ calL EE 115 [.s (x.sv Tr.row)] []=some (.ret (.str (whrT x.l)),[]) ∧ (whrT x.l).length ≤ 10000000:=by
 unfold vWh at h
 simp only [Bool.and_eq_true,decide_eq_true_eq,List.all_eq_true] at h
 unfold whrT
 by_cases h0:x.l.length=0
 ·rw [if_pos h0]
  have d:decide (x.l.length=0)=true:=decide_eq_true h0
  refine ⟨fn_ok f111 (by simp) ?_,fn_ok f115 (by simp) ?_,by decide⟩
  ·unfold c111
   simp only [go_sem,reduceIte,rA,rB,rC,rD,zero_dec,d]
  ·unfold c115
   simp only [go_sem,reduceIte,rA,rB,rC,rD,zero_dec,d]
 ·rw [if_neg h0]
  have d:decide (x.l.length=0)=false:=decide_eq_false h0
  have hm:=getD_mem (l:=x.l) (j:=0) default (by omega)
  have hs:=sum_mem (g:=cnt) hm
  have e1:=text_ok _ _ (Nat.le_refl _) (by omega) (hw _ hm) (.inl (h.2 _ hm))
  have e2:=refText_ok _ _ (Nat.le_refl _) (by omega) (hw _ hm) (.inl (h.2 _ hm))
  have k:=txt_len2 (hw _ hm) (.inl (h.2 _ hm))
  have hld:=fun HH=>tr_ags.load (l:=x.l) (j:=0) (H:=HH) (by omega)
  have hin:(0:Int) ≤ 0 ∧ (0:Int) < (x.l.length:Int):=⟨by decide,by omega⟩
  have e0:Int.toNat 0=0:=rfl
  have k2:(txt (x.l.getD 0 default)).length ≤ 9000000:=by omega
  clear k
  generalize x.l.getD 0 default=X at e1 e2 k2 hld ⊢
  generalize txt X=A at e1 e2 k2 ⊢
  refine ⟨fn_ok f111 (by simp) ?_,fn_ok f115 (by simp) ?_,by simp only [lA,lB,lC]; omega⟩
  ·unfold c111
   simp only [go_sem,reduceIte,rA,rB,rC,rD,zero_dec,d,tr_ags.ia,hin,and_self,e0,hld]
   refine WC_p rfl (by rw [pure_st]; rfl) e1 ?_
   simp only [go_sem,reduceIte,rA,rB,rC,rD,lA,lB,lC]
   omega
  ·unfold c115
   simp only [go_sem,reduceIte,rA,rB,rC,rD,zero_dec,d,tr_ags.ia,hin,and_self,e0,hld]
   refine WC_p rfl (by rw [pure_st]; rfl) e2 ?_
   simp only [go_sem,reduceIte,rA,rB,rC,rD,lA,lB,lC]
   omega
theorem row_txt (x:Slc Tr) (hw:∀ t ∈ x.l,wf t) (h:vRow x=true) (hn:cntRw x ≤ 10000):calL EE 159 [.s (x.sv Tr.row)] []=some (.ret (.str (rowT x)),[]):=by
 have k:=row_tlen hw h
 unfold vRow at h
 simp only [Bool.and_eq_true,decide_eq_true_eq,List.all_eq_true] at h
 have e:=list_e x hw h.2 hn
 have k2:(rowT x).length ≤ 100000000:=by omega
 clear k
 refine fn_ok f159 (by simp) ?_
 unfold c159
 unfold rowT cmW at *
 generalize Lib.join (x.l.map txt) [44,32]=A at e k2 ⊢
 simp only [lA,lB,lC] at k2
 simp only [go_sem,reduceIte,rA,rB,rC,rD]
 refine WC_p rfl rfl e ?_
 simp only [go_sem,reduceIte,rA,rB,rC,rD,lA,lB,lC]
 omega
theorem list_rows (x:Slc (Slc Tr)) (hx:x.l.length ≤ 1000000) (hj:(Lib.join (x.l.map rowT) cmW).length ≤ 1000000000)
  (hq:∀ a ∈ x.l,calL EE 159 [.s (a.sv Tr.row)] []=some (.ret (.str (rowT a)),[])):calL EE 158 [.s (x.sv rwRow),.str cmW,.s (.func 159)] []=some (.ret (.str (Lib.join (x.l.map rowT) cmW)),[]):=by
 have hrj:EE.ref 107=false:=rfl
 refine fn_ok f158 (by simp) ?_
 unfold c158
 simp only [go_sem,reduceIte,rA,rB,rC,rD]
 have hm:mksM 9 1 [SV.str []] (Ob.of []) 3 (PV.s (SV.int IntKind.i64 0)) (PV.i64 x.l.length)=some (.hsl 3 0 0 0,(Ob.of []).set 3 (.sarr 9 1 0 false true [])):=by
  unfold mksM
  simp only [PV.i64]
  rw [if_pos ⟨by omega,by omega,by omega⟩]
  rfl
 rw [hm,WX_some]
 refine WP_scan rfl 15 x.l.length (fun _=>True) (fun j T H n=>Own 0 9 1 H n (T 7) (((x.l.take j).map rowT).map txRow)) rfl (.inr (.inr ⟨3,0,false,by omega,by omega,rfl,rfl⟩)) ?_ ?_
 ·rintro j T' H' n' hlt hf' hi ho _
  have g1:T' 2 = .s (.func 159):=hf' 2 rfl
  have g13:T' 13 = .s (x.sv rwRow):=hf' 13 rfl
  have g14:T' 14 = .i64 x.l.length:=hf' 14 rfl
  clear hf'
  have hji:(j:Int) < x.l.length:=by omega
  have hj0:(0:Int) ≤ j:=by omega
  have hwj:=wrap_suc (j:=j) (by omega)
  have hnx:((x.l.take (j + 1)).map rowT).map txRow=((x.l.take j).map rowT).map txRow ++ [txRow (rowT (x.l.getD j default))]:=by
   rw [take_step default hlt,List.map_append,List.map_append]; rfl
  rw [hnx]
  have hle:(((x.l.take j).map rowT).map txRow).length ≤ 1000000:=by rw [List.length_map,List.length_map,List.length_take]; omega
  generalize ((x.l.take j).map rowT).map txRow=rows at ho hle ⊢
  have hld:=fun HH=>rw_load (l:=x.l) (j:=j) (H:=HH) hlt
  have hcall:=hq _ (getD_mem (l:=x.l) default hlt)
  generalize x.l.getD j default=X at hld hcall ⊢
  generalize rowT X=A at hcall ⊢
  simp only [go_sem,reduceIte,rA,rB,rC,rD,g1,g13,g14,hi,hji,hj0,and_self,decide_true,rw_ia,Int.toNat_natCast,hld]
  refine WV_s (WC_p rfl rfl hcall ?_)
  simp only [go_sem,reduceIte,rA,rB,rC,rD]
  refine WX_app ho rows_slice (by simp) (by simp; omega) (by omega) (by omega) ?_
  intro p1 H2 ho2 hfr2 hof2
  simp only [go_sem,reduceIte,rA,rB,rC,rD,hi,hwj]
  exact ho2.kept (by omega) (fun _ _ _=>rfl)
 ·rintro T' H' n' hf' hi ho _
  have g14:T' 14 = .i64 x.l.length:=hf' 14 rfl
  have g1:T' 1 = .str cmW:=hf' 1 rfl
  clear hf'
  rw [List.take_length] at ho
  simp only [go_sem,reduceIte,rA,rB,rC,rD,g1,g14,hi,Int.lt_irrefl,decide_false]
  refine WC_own1m (v := .str (Lib.join (x.l.map rowT) cmW)) [] [.s (.str cmW)] ho hrj rfl rfl (fun s hs => ?_) ?_
  ·have:=join_cal s cmW (by rw [hs,List.length_map]; omega) (by rw [hs]; exact hj)
   rw [hs] at this
   exact this
  ·intro H2 ho2 hof
   simp only [go_sem,reduceIte,rA,rB,rC,rD]
section
variable {Q:Type} {f:Q→List SV} {c:Q→Nat} {w:Q→Prop}
theorem table_txt (a:StP Q) (ha:wfStP w a) (h1:nameV a.nm=true) (h2:a.co.l.all vCol=true) (h3:a.ke.l.all nameV=true) (hn:cntS c a ≤ 10000):calL EE 106 [.st (StP.row f a)] []=some (.ret (.str (tabT a)),[]):=by
 unfold cntS at hn
 rw [List.all_eq_true] at h2
 have k1:=name_len h1
 have k2:=join_le (t:=tyT) (c:=fun _=>1) (K:=1000) (sep:=cmW) (l:=a.co.l) fun x hx=>ty_tlen (h2 x hx)
 rw [ones_sum] at k2
 have k3:=joinN_len h3
 have e1:=list_func col_ags (z:=[.str [],.int .i64 0]) rfl f153 (g:=154) a.co (by omega) cmW rfl tyT (by omega) fun x hx=>col_txt x (h2 x hx)
 have e2:=join_cal a.ke cmW (by omega) (by omega)
 refine fn_ok f106 (by simp) ?_
 unfold c106 tabT keyW
 unfold StP.row cmW at *
 have k4:(Lib.join (a.co.l.map tyT) [44,32]).length ≤ 10000000:=by omega
 have k5:(Lib.join a.ke.l [44,32]).length ≤ 10000000:=by omega
 clear k2 k3
 generalize Lib.join (a.co.l.map tyT) [44,32]=A at e1 k4 ⊢
 generalize Lib.join a.ke.l [44,32]=B at e2 k5 ⊢
 simp only [go_sem,reduceIte,rA,rB,rC,rD,lA,lB,lC]
 refine ⟨by omega,?_⟩
 refine WC_p rfl rfl e1 ?_
 by_cases h0:a.ke.l.length=0
 ·have d:decide (0 < a.ke.l.length)=false:=decide_eq_false (by omega)
  rw [if_pos h0]
  simp only [go_sem,reduceIte,rA,rB,rC,rD,pos_dec,d,lA,lB,lC,List.append_nil]
  omega
 ·have d:decide (0 < a.ke.l.length)=true:=decide_eq_true (by omega)
  rw [if_neg h0]
  simp only [go_sem,reduceIte,rA,rB,rC,rD,pos_dec,d,lA,lB,lC]
  refine ⟨by omega,?_⟩
  refine WC_p rfl rfl e2 ?_
  simp only [go_sem,reduceIte,rA,rB,rC,rD,lA,lB,lC,List.append_assoc,List.cons_append,List.nil_append]
  omega
theorem insert_txt (a:StP Q) (ha:wfStP w a) (h1:nameV a.tb=true) (h2:a.ns.l.all nameV=true) (h3:a.ro.l.all vRow=true) (hn:cntS c a ≤ 10000):calL EE 108 [.st (StP.row f a)] []=some (.ret (.str (insT a)),[]):=by
 unfold cntS at hn
 rw [List.all_eq_true] at h3
 have k1:=name_len h1
 have k2:=join_le (t:=rowT) (c:=cntRw) (K:=2000) (sep:=cmW) (l:=a.ro.l) fun x hx=>row_tlen (ha.ro x hx).2 (h3 x hx)
 have k3:=joinN_len h2
 have e1:=list_rows a.ro (by omega) (by omega) fun x hx=>by
  have:=sum_mem (g:=cntRw) hx
  exact row_txt x (ha.ro x hx).2 (h3 x hx) (by omega)
 have e2:=join_cal a.ns cmW (by omega) (by omega)
 refine fn_ok f108 (by simp) ?_
 unfold c108 insT namT
 unfold StP.row cmW at *
 have k4:(Lib.join (a.ro.l.map rowT) [44,32]).length ≤ 100000000:=by omega
 have k5:(Lib.join a.ns.l [44,32]).length ≤ 10000000:=by omega
 clear k2 k3
 generalize Lib.join (a.ro.l.map rowT) [44,32]=A at e1 k4 ⊢
 generalize Lib.join a.ns.l [44,32]=B at e2 k5 ⊢
 by_cases h0:a.ns.l.length=0
 ·have d:decide (0 < a.ns.l.length)=false:=decide_eq_false (by omega)
  rw [if_pos h0]
  simp only [go_sem,reduceIte,rA,rB,rC,rD,pos_dec,d,lA,lB,lC,List.append_nil]
  refine ⟨by omega,?_⟩
  refine ⟨by omega,?_⟩
  refine WC_p rfl rfl e1 ?_
  simp only [go_sem,reduceIte,rA,rB,rC,rD,lA,lB,lC]
  omega
 ·have d:decide (0 < a.ns.l.length)=true:=decide_eq_true (by omega)
  rw [if_neg h0]
  simp only [go_sem,reduceIte,rA,rB,rC,rD,pos_dec,d,lA,lB,lC]
  refine ⟨by omega,?_⟩
  refine WC_p rfl rfl e2 ?_
  simp only [go_sem,reduceIte,rA,rB,rC,rD,lA,lB,lC]
  refine ⟨by omega,⟨by omega,by omega⟩,by omega,?_⟩
  refine WC_p rfl rfl e1 ?_
  simp only [go_sem,reduceIte,rA,rB,rC,rD,lA,lB,lC,List.append_assoc,List.cons_append,List.nil_append]
  omega
end
end Go.Vm
