/- Chapter 24: expressions, equal and valid. -/
import Derived.Test.YtaepmmmcipolbaaGreatDoorQSfK
import Derived.Test.YtaepmmmcipolbaaGreatDoorQSfH
set_option linter.unusedVariables false
set_option linter.unusedSimpArgs false
set_option maxRecDepth 100000
namespace Go.Vm
open Nat renaming reduceEqDiff→rA,reduceAdd→rB,reduceLeDiff→rC,reduceLT→rD
open Go
theorem row_len (t:Tr):t.row.length=9:=by cases t; rw [row_mk]; rfl
theorem tr_ags:Ags 9 Tr.row:=⟨row_len,by decide⟩
theorem eqL_eqF:∀ l m:List Tr,eqL l m=eqF eqT l m
 | [],[]=>by rw [eqL,eqF]
 | a :: r,b :: r'=>by rw [eqL,eqF,eqL_eqF r r']
 | [],_ :: _=>by rw [eqL,eqF]
 | _ :: _,[]=>by rw [eqL,eqF]
theorem val_dec (v w:Val):(decide (v.kind=w.kind) && (decide (v.n=w.n) && decide (v.text=w.text)))=decide (v=w):=by
 rw [Bool.eq_iff_iff]
 simp only [Bool.and_eq_true,decide_eq_true_eq]
 constructor
 ·rintro ⟨h1,h2,h3⟩
  cases v; cases w
  simp at h1 h2 h3
  rw [h1,h2,h3]
 ·rintro rfl; exact ⟨rfl,rfl,rfl⟩
theorem wfL_mem:∀ {l:List Tr} {a:Tr},wfL l→a ∈ l→wf a
 | b :: r,a,h,hm=>by
  rw [wfL] at h
  rcases List.mem_cons.1 hm with rfl | hm
  ·exact h.1
  ·exact wfL_mem h.2 hm
theorem equal_ok:∀ (n:Nat) (a b:Tr),cnt a ≤ n→wf a→calL EE 23 [.st a.row,.st b.row] []=some (.ret (.bool (eqT a b)),[])
 | 0,a,b,h,_=>by have:=cnt_pos a; omega
 | n + 1,.mk k v tb nm op fn fl xs,.mk k' v' tb' nm' op' fn' fl' xs',h,hw=>by
  rw [wf] at hw
  rw [cnt] at h
  have hq:∀ j,j < (mkS fl xs).l.length→j < (mkS fl' xs').l.length→calL EE 23 [.st ((mkS fl xs).l.getD j default).row,.st ((mkS fl' xs').l.getD j default).row] []=some (.ret (.bool (eqT ((mkS fl xs).l.getD j default) ((mkS fl' xs').l.getD j default))),[]):=by
   intro j hj _
   rw [mkS_l] at hj ⊢
   have hm:=getD_mem (l:=xs) default hj
   exact equal_ok n _ _ (by have:=cnt_mem hm; omega) (wfL_mem hw.2.2 hm)
  have hf:=eq_func tr_ags (z:=[.int .i64 0,.int .i64 0,.int .i64 0,.str [],.str [],.str [],.int .i64 0,.int .i64 0,.nils]) rfl f67 (by decide) (mkS fl xs) (mkS fl' xs') (by rw [mkS_l]; exact hw.2.1) 23 rfl eqT hq
  rw [mkS_l,mkS_l,← eqL_eqF] at hf
  refine fn_ok f23 (by simp) ?_
  unfold c23
  rw [row_mk,row_mk,eqT]
  simp only [go_sem,reduceIte,rA,rB,rC,rD,flat_eql,svEqs_int,svEqs_str,svEqs_nil,bnd_some,val_dec]
  generalize (decide (k=k') && decide (v=v') && decide (tb=tb') && decide (nm=nm') && decide (op=op') && decide (fn=fn'))=F
  cases F with
  | true =>
   simp only [go_sem,reduceIte,rA,rB,rC,rD]
   refine WC_p rfl rfl hf ?_
   simp only [go_sem,reduceIte,rA,rB,rC,rD]
  | false=>simp only [go_sem,reduceIte,rA,rB,rC,rD]
theorem isOp_ok (op:Int):calL EE 44 [.i64 op] []=some (.ret (.bool (decide (0 ≤ op) && decide (op ≤ 13))),[]):=by
 refine fn_ok f44 (by simp) ?_
 unfold c44
 simp only [go_sem,reduceIte,rA,rB,rC,rD]
theorem arity_ok (op:Int):calL EE 45 [.i64 op] []=some (.ret (.i64 (arI op:Nat)),[]):=by
 refine fn_ok f45 (by simp) ?_
 unfold c45 arI
 simp only [go_sem,reduceIte,rA,rB,rC,rD,Bool.or_eq_true,decide_eq_true_eq]
 split
 ·rfl
 ·rfl
def eTr (k:Int):Tr := .mk k vz [] [] 0 0 none []
theorem eTr_row (k:Int):(eTr k).row=[.int .i64 k,.int .i64 0,.int .i64 0,.str [],.str [],.str [],.int .i64 0,.int .i64 0,.nils]:=row_mk
theorem rest_eq (k k':Int) (v:Val) (tb nm:List UInt8) (op fn:Int) (fl:Option Bool) (xs:List Tr):eqT (.mk k v tb nm op fn fl xs) (eTr k')=(decide (k=k') && (decide (v=vz) && decide (tb=[]) && decide (nm=[]) && decide (op=0) && decide (fn=0) && decide (xs.length=0))):=by
 rw [eTr,eqT,eqL_nil]
 simp only [Bool.and_assoc]
theorem vE (k':Int) (v':Val) (tb' nm':List UInt8) (op' fn':Int) (fl':Option Bool) (xs':List Tr) (hw2:wf (.mk k' v' tb' nm' op' fn' fl' xs')):calL EE 23 [.st [.int .i64 k',.int .i64 v'.kind,.int .i64 v'.n,.str v'.text,.str tb',.str nm',.int .i64 op',.int .i64 fn',(mkS fl' xs').sv Tr.row],.st [.int .i64 k',.int .i64 0,.int .i64 0,.str [],.str [],.str [],.int .i64 0,.int .i64 0,.nils]] [] =
  some (.ret (.bool (decide (v'=vz) && decide (tb'=[]) && decide (nm'=[]) && decide (op'=0) && decide (fn'=0) && decide (xs'.length=0))),[]):=by
 have:=equal_ok _ (.mk k' v' tb' nm' op' fn' fl' xs') (eTr k') (Nat.le_refl _) hw2
 rw [row_mk,eTr_row,rest_eq] at this
 rw [this,decide_eq_true (rfl:k'=k'),Bool.true_and]
set_option maxHeartbeats 1000000 in
theorem valid0 (k:Int) (v:Val) (tb nm:List UInt8) (op fn:Int) (fl:Option Bool) (xs:List Tr) (hw:wf (.mk k v tb nm op fn fl xs)) (h0:k=0):calL EE 12 [.st (Tr.mk k v tb nm op fn fl xs).row] []=some (.ret (.bool (vld (.mk k v tb nm op fn fl xs))),[]):=by
 have hw':=hw
 rw [wf] at hw
 refine fn_ok f12 (by simp) ?_
 unfold c12
 rw [row_mk,vld]
 have d0:decide (k=0)=true:=decide_eq_true h0
 have e:=vE k vz tb nm op fn fl xs ⟨⟨by decide,by decide⟩,hw.2⟩
 simp only [go_sem,reduceIte,rA,rB,rC,rD,d0]
 refine WC_p rfl rfl (t15 v) ?_
 unfold vldB
 rw [if_pos h0]
 cases hV:validV v with
 | false=>simp only [go_sem,reduceIte,rA,rB,rC,rD]
 | true =>
  have hN:(!decide (v.kind=0) || decide (0 ≤ v.n))=decide (0 ≤ v.n):=by
   by_cases hk:v.kind=0
   ·rw [decide_eq_true hk]; rfl
   ·rw [decide_eq_false hk,decide_eq_true (val_pos hV hk)]; rfl
  cases hn:decide (0 ≤ v.n) with
  | false =>
   have hN:=hN.trans hn
   simp only [go_sem,reduceIte,rA,rB,rC,rD,hN]
  | true =>
   have hN:=hN.trans hn
   simp only [go_sem,reduceIte,rA,rB,rC,rD,hN]
   refine WC_p rfl rfl e ?_
   simp only [go_sem,reduceIte,rA,rB,rC,rD,decide_true]
set_option maxHeartbeats 1000000 in
theorem valid1 (k:Int) (v:Val) (tb nm:List UInt8) (op fn:Int) (fl:Option Bool) (xs:List Tr) (hw:wf (.mk k v tb nm op fn fl xs)) (h0:¬ k=0) (h1:k=1):calL EE 12 [.st (Tr.mk k v tb nm op fn fl xs).row] []=some (.ret (.bool (vld (.mk k v tb nm op fn fl xs))),[]):=by
 have hw':=hw
 rw [wf] at hw
 refine fn_ok f12 (by simp) ?_
 unfold c12
 rw [row_mk,vld]
 have d0:decide (k=0)=false:=decide_eq_false h0
 have d1:decide (k=1)=true:=decide_eq_true h1
 have e:=vE k v [] [] op fn fl xs hw'
 simp only [go_sem,reduceIte,rA,rB,rC,rD,d0,d1]
 refine WC_p rfl rfl (name_ok nm) ?_
 unfold vldB
 rw [if_neg h0,if_pos h1]
 cases hN:nameV nm with
 | false=>simp only [go_sem,reduceIte,rA,rB,rC,rD]
 | true =>
  simp only [go_sem,reduceIte,rA,rB,rC,rD]
  refine WC_p rfl rfl (opt_ok tb) ?_
  cases hO:optV tb with
  | false=>simp only [go_sem,reduceIte,rA,rB,rC,rD]
  | true =>
   simp only [go_sem,reduceIte,rA,rB,rC,rD]
   refine WC_p rfl rfl e ?_
   simp only [go_sem,reduceIte,rA,rB,rC,rD,decide_true]
end Go.Vm
