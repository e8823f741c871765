/- Chapter 24: types' names. -/
import Derived.Test.YtaepmmmcipolbaaGreatDoorQSfT
import Derived.Test.YtaepmmmcipolbaaGreatDoorQSfAs
import Derived.Test.YtaepmmmcipolbaaGreatDoorQSfVc
import Derived.Test.YtaepmmmcipolbaaGreatDoorQSfMs
section
set_option linter.unusedVariables false
set_option linter.unusedSimpArgs false
set_option maxRecDepth 100000
namespace Go.Vm
open Nat renaming reduceEqDiff→rA,reduceAdd→rB,reduceLeDiff→rC,reduceLT→rD
open Go
theorem t25 (k:Int):calL EE 112 [.i64 k] []=some (.ret (.str (tnm k)),[]):=by
 refine fn_ok f112 (by simp) ?_
 unfold c112 tnm
 simp only [go_sem,reduceIte,rA,rB,rC,rD,decide_eq_true_eq]
 split
 ·rfl
 ·split
  ·rfl
  ·split
   ·rfl
   ·rfl
theorem t24 (k:Int):calL EE 97 [.i64 k] []=some (.ret (.str (tnm k)),[]):=by
 refine fn_ok f97 (by simp) ?_
 unfold c97
 simp only [go_sem,reduceIte,rA,rB,rC,rD,Bool.or_eq_true,decide_eq_true_eq]
 split
 ·unfold tnm
  rw [if_neg (by omega),if_neg (by omega),if_neg (by omega)]
 ·refine WC_p rfl rfl t46 ?_
  have hl:nmS.l.length=3:=rfl
  simp only [go_sem,reduceIte,rA,rB,rC,rD,ia_tx,hl]
  rcases (by omega:k=0 ∨ k=1 ∨ k=2) with rfl | rfl | rfl
  ·exact ⟨_,rfl,rfl⟩
  ·exact ⟨_,rfl,rfl⟩
  ·exact ⟨_,rfl,rfl⟩
end Go.Vm
end
section
set_option linter.unusedVariables false
set_option linter.unusedSimpArgs false
set_option maxRecDepth 100000
namespace Go.Vm
open Nat renaming reduceEqDiff→rA,reduceAdd→rB,reduceLeDiff→rC,reduceLT→rD
open Go
attribute [go_sem] Bool.false_and Bool.true_and Bool.and_false Bool.and_true Bool.not_false Bool.not_true Bool.or_false Bool.true_or Bool.or_true Bool.false_or
def vCol (c:Col):Bool:=nameV c.name && decide (0 ≤ c.ty) && decide (c.ty ≤ 2)
def vRow (x:Slc Tr):Bool:=decide (0 < x.l.length) && x.l.all vld
def vStg (x:Stg):Bool:=nameV x.name && vld x.e
def vWh (l:List Tr):Bool:=decide (l.length ≤ 1) && l.all vld
theorem lt_neg (a b:Int):decide (a < b) = !decide (b ≤ a):=by rw [← decide_not,decide_eq_decide]; omega
theorem tnm_ne (k:Int):(!decide (tnm k=[]))=(decide (0 ≤ k) && decide (k ≤ 2)):=by
 rw [Bool.eq_iff_iff]
 unfold tnm
 by_cases h0:k=0
 ·subst h0; decide
 ·by_cases h1:k=1
  ·subst h1; decide
  ·by_cases h2:k=2
   ·subst h2; decide
   ·rw [if_neg h0,if_neg h1,if_neg h2]
    simp only [decide_true,Bool.not_true,Bool.and_eq_true,decide_eq_true_eq,Bool.false_eq_true,false_iff]
    omega
theorem vCol_ok (x:Col):calL EE 96 [.st x.row] []=some (.ret (.bool (vCol x)),[]):=by
 have e1:=name_ok x.name
 have e2:=t24 x.ty
 have h2:=tnm_ne x.ty
 refine fn_ok f96 (by simp) ?_
 unfold c96 vCol Col.row
 generalize nameV x.name=r at e1
 simp only [go_sem,reduceIte,rA,rB,rC,rD]
 refine WC_p rfl rfl e1 ?_
 cases r with
 | false=>simp only [go_sem,reduceIte,rA,rB,rC,rD]
 | true =>
  simp only [go_sem,reduceIte,rA,rB,rC,rD]
  refine WC_p rfl rfl e2 ?_
  simp only [go_sem,reduceIte,rA,rB,rC,rD,h2]
theorem vStg_ok (x:Stg) (hw:wf x.e):calL EE 102 [.st x.row] []=some (.ret (.bool (vStg x)),[]):=by
 obtain ⟨nm,t⟩:=x
 have e1:=name_ok nm
 have e2:=valid_ok _ t (Nat.le_refl _) hw
 have lt:=row_len t
 have tt:List.take 9 t.row=t.row:=List.take_of_length_le (by omega)
 refine fn_ok f102 (by simp) ?_
 unfold c102 vStg Stg.row
 generalize nameV nm=r at e1
 generalize vld t=r2 at e2
 simp only [go_sem,reduceIte,rA,rB,rC,rD,lt,tt,Nat.le_refl]
 refine WC_p rfl rfl e1 ?_
 cases r with
 | false=>simp only [go_sem,reduceIte,rA,rB,rC,rD,lt,tt,Nat.le_refl]
 | true =>
  simp only [go_sem,reduceIte,rA,rB,rC,rD,lt,tt,Nat.le_refl]
  refine WC_p rfl (by rw [pure_st]; rfl) e2 ?_
  simp only [go_sem,reduceIte,rA,rB,rC,rD]
theorem vRow_ok (x:Slc Tr) (hx:x.l.length ≤ mxL) (hw:∀ t ∈ x.l,wf t):calL EE 99 [.s (x.sv Tr.row)] []=some (.ret (.bool (vRow x)),[]):=by
 have e:=alls_ok x hx hw
 refine fn_ok f99 (by simp) ?_
 unfold c99 vRow
 generalize x.l.all vld=r at e
 generalize hd:decide (0 < x.l.length)=d
 cases d with
 | false=>simp only [go_sem,reduceIte,rA,rB,rC,rD,pos_dec,hd]
 | true =>
  simp only [go_sem,reduceIte,rA,rB,rC,rD,pos_dec,hd]
  refine WC_p rfl rfl e ?_
  simp only [go_sem,reduceIte,rA,rB,rC,rD]
theorem vWh_ok (x:Slc Tr) (hx:x.l.length ≤ mxL) (hw:∀ t ∈ x.l,wf t):calL EE 100 [.s (x.sv Tr.row)] []=some (.ret (.bool (vWh x.l)),[]):=by
 have e:=alls_ok x hx hw
 refine fn_ok f100 (by simp) ?_
 unfold c100 vWh
 generalize x.l.all vld=r at e
 generalize hd:decide (x.l.length ≤ 1)=d
 cases d with
 | false=>simp only [go_sem,reduceIte,rA,rB,rC,rD,le1_dec,hd]
 | true =>
  simp only [go_sem,reduceIte,rA,rB,rC,rD,le1_dec,hd]
  refine WC_p rfl rfl e ?_
  simp only [go_sem,reduceIte,rA,rB,rC,rD]
theorem allCol_ok (x:Slc Col) (hl:x.l.length ≤ mxL):calL EE 95 [.s (x.sv Col.row),.s (.func 96)] []=some (.ret (.bool (x.l.all vCol)),[]) :=
 all_func col_ags f95 (by decide) rfl f146 rfl f200 rfl f147 (by decide) x hl (g:=96) rfl vCol fun j hj=>vCol_ok _
theorem allStg_ok (x:Slc Stg) (hl:x.l.length ≤ mxL) (hw:∀ a ∈ x.l,wf a.e):calL EE 101 [.s (x.sv Stg.row),.s (.func 102)] []=some (.ret (.bool (x.l.all vStg)),[]) :=
 all_func stg_ags f101 (by decide) rfl f151 rfl f202 rfl f152 (by decide) x hl (g:=102) rfl vStg fun j hj=>vStg_ok _ (hw _ (getD_mem (l:=x.l) default hj))
theorem allRow_ok (x:Slc (Slc Tr)) (hx:x.l.length ≤ mxL) (hw:∀ a ∈ x.l,a.l.length ≤ mxL ∧ ∀ t ∈ a.l,wf t):calL EE 98 [.s (x.sv rwRow),.s (.func 99)] []=some (.ret (.bool (x.l.all vRow)),[]):=by
 refine fn_ok f98 (by simp) ?_
 unfold c98
 simp only [go_sem,reduceIte,rA,rB,rC,rD]
 have hels:Els false 1 rwRow (fun s:Slc Tr=>PV.s (s.sv Tr.row)):=⟨fun _=>rfl,by decide,fun _=>rfl⟩
 rw [box_s,WX_some]
 refine WC_cf (contains_func hels rfl f149 rfl f201 x hx (.func 150 [] [.ptr 0 0]) (fun y => !vRow y) _ _ (fun j hj H1 n1 hn hH=>⟨(150,[],[.ptr 0 0]),rfl,?_⟩)) ?_
 ·obtain ⟨w1,w2⟩:=hw _ (getD_mem (l:=x.l) default hj)
  have hH0:H1 0 = .box 76 ([SV.func 99].map .s):=(hH 0 (by omega)).trans rfl
  show CF EE false 150 [.s ((x.l.getD j default).sv Tr.row),.ptr 0 0] H1 n1 _
  refine fn_ref rfl f150 (by simp) ?_
  unfold c150
  simp only [go_sem,reduceIte,rA,rB,rC,rD,hH0]
  refine WV_s (WC_p rfl rfl (vRow_ok _ w1 w2) ?_)
  simp only [go_sem,reduceIte,rA,rB,rC,rD]
  omega
 ·intro H1 n1 hn hH
  simp only [go_sem,reduceIte,rA,rB,rC,rD,any_not]
set_option maxHeartbeats 1000000 in
theorem refCols_ok (x:Slc Col) (hl:x.l.length ≤ mxL):calL EE 103 [.s (x.sv Col.row)] []=some (.ret (.bool (decide (0 < x.l.length) && x.l.all vCol)),[]):=by
 refine fn_ok f103 (by simp) ?_
 unfold c103
 simp only [go_sem,reduceIte,rA,rB,rC,rD]
 refine WP_scan rfl 3 x.l.length (fun j=>vCol (x.l.getD j default)=true) (fun _ _ _ _=>True) rfl trivial ?_ ?_
 ·rintro j T' H' n' hlt hf' hi _ _
  have h0:T' 0 = .s (x.sv Col.row):=hf' 0 rfl
  clear hf'
  have hji:(j:Int) < x.l.length:=by omega
  have hj0:(0:Int) ≤ j:=by omega
  have hwj:=wrap_suc (j:=j) (by have:mxL=9223372036854775807:=rfl; omega)
  have hx1:∀ agg sz off HH,loadM agg sz HH (.eptr (x.l.map Col.row) j off)=loadS agg sz (Col.row (x.l.getD j default)) off:=fun agg sz off HH=>by rw [load_eptr,if_pos hlt]
  have bad:vCol (x.l.getD j default)=false→x.l.all vCol=false:=fun h=>all_not default hlt h
  have hq:vCol (x.l.getD j default)=vCol (x.l.getD j default):=rfl
  generalize hX:x.l.getD j default=X at hx1 bad
  conv at hq=>rhs; rw [hX]
  obtain ⟨nm,ty⟩:=X
  have e1:=refName_ok nm
  have hs:vCol ⟨nm,ty⟩=(nameV nm && decide (0 ≤ ty) && decide (ty ≤ 2)):=rfl
  have f1:=lt_neg ty 0
  have f2:=lt_neg 2 ty
  have hrow:Col.row ⟨nm,ty⟩=[.str nm,.int .i64 ty]:=rfl
  rw [hs] at bad hq
  rw [hrow] at hx1
  generalize nameV nm=r at e1 bad hq
  generalize decide (0 ≤ ty)=d1 at f1 bad hq
  generalize decide (ty ≤ 2)=d2 at f2 bad hq
  simp only [go_sem,reduceIte,rA,rB,rC,rD,h0,hi,hji,hj0,and_self,decide_true,col_ags.ia,Int.toNat_natCast,hx1,f1,f2]
  refine WC_p rfl rfl e1 ?_
  cases r with
  | false=>simp only [go_sem,reduceIte,rA,rB,rC,rD,h0,hi,hji,hj0,and_self,decide_true,col_ags.ia,Int.toNat_natCast,hx1,f1,f2,bad (by rfl)]
  | true =>
   cases d1 with
   | false=>simp only [go_sem,reduceIte,rA,rB,rC,rD,h0,hi,hji,hj0,and_self,decide_true,col_ags.ia,Int.toNat_natCast,hx1,f1,f2,bad (by rfl)]
   | true =>
    cases d2 with
    | false=>simp only [go_sem,reduceIte,rA,rB,rC,rD,h0,hi,hji,hj0,and_self,decide_true,col_ags.ia,Int.toNat_natCast,hx1,f1,f2,bad (by rfl)]
    | true =>
     simp only [go_sem,reduceIte,rA,rB,rC,rD,h0,hi,hji,hj0,and_self,decide_true,col_ags.ia,Int.toNat_natCast,hx1,f1,f2,hq,hwj]
 ·rintro T' H' n' hf' hi _ hp
  have h0:T' 0 = .s (x.sv Col.row):=hf' 0 rfl
  clear hf'
  simp only [go_sem,reduceIte,rA,rB,rC,rD,h0,hi,Int.lt_irrefl,decide_false,all_good hp,pos_dec]
set_option maxHeartbeats 1000000 in
theorem refRows_ok (x:Slc (Slc Tr)) (hl:x.l.length ≤ mxL) (hw:∀ a ∈ x.l,a.l.length ≤ mxL ∧ ∀ t ∈ a.l,wf t):calL EE 104 [.s (x.sv rwRow)] []=some (.ret (.bool (decide (0 < x.l.length) && x.l.all vRow)),[]):=by
 refine fn_ok f104 (by simp) ?_
 unfold c104
 simp only [go_sem,reduceIte,rA,rB,rC,rD]
 refine WP_scan rfl 3 x.l.length (fun j=>vRow (x.l.getD j default)=true) (fun _ _ _ _=>True) rfl trivial ?_ ?_
 ·rintro j T' H' n' hlt hf' hi _ _
  have h0:T' 0 = .s (x.sv rwRow):=hf' 0 rfl
  clear hf'
  have hji:(j:Int) < x.l.length:=by omega
  have hj0:(0:Int) ≤ j:=by omega
  have hwj:=wrap_suc (j:=j) (by have:mxL=9223372036854775807:=rfl; omega)
  have hx1:∀ agg sz off HH,loadM agg sz HH (.eptr (x.l.map rwRow) j off)=loadS agg sz (rwRow (x.l.getD j default)) off:=fun agg sz off HH=>by rw [load_eptr,if_pos hlt]
  have bad:vRow (x.l.getD j default)=false→x.l.all vRow=false:=fun h=>all_not default hlt h
  have hwX:=hw _ (getD_mem (l:=x.l) default hlt)
  have hq:vRow (x.l.getD j default)=vRow (x.l.getD j default):=rfl
  generalize hX:x.l.getD j default=X at hx1 bad hwX
  conv at hq=>rhs; rw [hX]
  have e1:=evs_ok X hwX.1 hwX.2
  have hs:vRow X=(decide (0 < X.l.length) && X.l.all vld):=rfl
  have f1:decide (X.l.length=0) = !decide (0 < X.l.length):=by rw [← decide_not,decide_eq_decide]; omega
  have hrow:rwRow X=[X.sv Tr.row]:=rfl
  rw [hs] at bad hq
  rw [hrow] at hx1
  generalize X.l.all vld=r at e1 bad hq
  generalize decide (0 < X.l.length)=d1 at f1 bad hq
  cases d1 with
  | false=>simp only [go_sem,reduceIte,rA,rB,rC,rD,h0,hi,hji,hj0,and_self,decide_true,rw_ags.ia,Int.toNat_natCast,hx1,zero_dec,f1,bad (by rfl)]
  | true =>
   simp only [go_sem,reduceIte,rA,rB,rC,rD,h0,hi,hji,hj0,and_self,decide_true,rw_ags.ia,Int.toNat_natCast,hx1,zero_dec,f1]
   refine WC_p rfl rfl e1 ?_
   cases r with
   | false=>simp only [go_sem,reduceIte,rA,rB,rC,rD,h0,hi,hji,hj0,and_self,decide_true,rw_ags.ia,Int.toNat_natCast,hx1,zero_dec,f1,bad (by rfl)]
   | true =>
    simp only [go_sem,reduceIte,rA,rB,rC,rD,h0,hi,hji,hj0,and_self,decide_true,rw_ags.ia,Int.toNat_natCast,hx1,zero_dec,f1,hq,hwj]
 ·rintro T' H' n' hf' hi _ hp
  have h0:T' 0 = .s (x.sv rwRow):=hf' 0 rfl
  clear hf'
  simp only [go_sem,reduceIte,rA,rB,rC,rD,h0,hi,Int.lt_irrefl,decide_false,all_good hp,pos_dec]
set_option maxHeartbeats 1000000 in
theorem refSets_ok (x:Slc Stg) (hl:x.l.length ≤ mxL) (hw:∀ a ∈ x.l,wf a.e):calL EE 105 [.s (x.sv Stg.row)] []=some (.ret (.bool (decide (0 < x.l.length) && x.l.all vStg)),[]):=by
 refine fn_ok f105 (by simp) ?_
 unfold c105
 simp only [go_sem,reduceIte,rA,rB,rC,rD]
 refine WP_scan rfl 3 x.l.length (fun j=>vStg (x.l.getD j default)=true) (fun _ _ _ _=>True) rfl trivial ?_ ?_
 ·rintro j T' H' n' hlt hf' hi _ _
  have h0:T' 0 = .s (x.sv Stg.row):=hf' 0 rfl
  clear hf'
  have hji:(j:Int) < x.l.length:=by omega
  have hj0:(0:Int) ≤ j:=by omega
  have hwj:=wrap_suc (j:=j) (by have:mxL=9223372036854775807:=rfl; omega)
  have hx1:∀ agg sz off HH,loadM agg sz HH (.eptr (x.l.map Stg.row) j off)=loadS agg sz (Stg.row (x.l.getD j default)) off:=fun agg sz off HH=>by rw [load_eptr,if_pos hlt]
  have bad:vStg (x.l.getD j default)=false→x.l.all vStg=false:=fun h=>all_not default hlt h
  have hwX:=hw _ (getD_mem (l:=x.l) default hlt)
  have hq:vStg (x.l.getD j default)=vStg (x.l.getD j default):=rfl
  generalize hX:x.l.getD j default=X at hx1 bad hwX
  conv at hq=>rhs; rw [hX]
  obtain ⟨nm,t⟩:=X
  have e1:=refName_ok nm
  have e2:=refValid_ok _ t (Nat.le_refl _) hwX
  have lt:=row_len t
  have tt:List.take 9 t.row=t.row:=List.take_of_length_le (by omega)
  have hs:vStg ⟨nm,t⟩=(nameV nm && vld t):=rfl
  have hrow:Stg.row ⟨nm,t⟩ = .str nm :: t.row:=rfl
  rw [hs] at bad hq
  rw [hrow] at hx1
  generalize nameV nm=r at e1 bad hq
  generalize vld t=r2 at e2 bad hq
  simp only [go_sem,reduceIte,rA,rB,rC,rD,h0,hi,hji,hj0,and_self,decide_true,stg_ags.ia,Int.toNat_natCast,hx1,lt,tt,Nat.le_refl]
  refine WC_p rfl rfl e1 ?_
  cases r with
  | false=>simp only [go_sem,reduceIte,rA,rB,rC,rD,h0,hi,hji,hj0,and_self,decide_true,stg_ags.ia,Int.toNat_natCast,hx1,lt,tt,Nat.le_refl,bad (by rfl)]
  | true =>
   simp only [go_sem,reduceIte,rA,rB,rC,rD,h0,hi,hji,hj0,and_self,decide_true,stg_ags.ia,Int.toNat_natCast,hx1,lt,tt,Nat.le_refl]
   refine WC_p rfl (by rw [pure_st]; rfl) e2 ?_
   cases r2 with
   | false=>simp only [go_sem,reduceIte,rA,rB,rC,rD,h0,hi,hji,hj0,and_self,decide_true,stg_ags.ia,Int.toNat_natCast,hx1,lt,tt,Nat.le_refl,bad (by rfl)]
   | true =>
    simp only [go_sem,reduceIte,rA,rB,rC,rD,h0,hi,hji,hj0,and_self,decide_true,stg_ags.ia,Int.toNat_natCast,hx1,lt,tt,Nat.le_refl,hq,hwj]
 ·rintro T' H' n' hf' hi _ hp
  have h0:T' 0 = .s (x.sv Stg.row):=hf' 0 rfl
  clear hf'
  simp only [go_sem,reduceIte,rA,rB,rC,rD,h0,hi,Int.lt_irrefl,decide_false,all_good hp,pos_dec]
end Go.Vm
end
