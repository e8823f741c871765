/- Chapter 24: budgets of nodes; aggregate calls. -/
import Derived.Test.YtaepmmmcipolbaaGreatDoorQSfR
set_option linter.unusedVariables false
set_option linter.unusedSimpArgs false
set_option maxRecDepth 100000
namespace Go.Vm
open Nat renaming reduceEqDiff→rA,reduceAdd→rB,reduceLeDiff→rC,reduceLT→rD
open Go
theorem wrap_rng (y:Int) : -9223372036854775808 ≤ IntKind.i64.wrap y ∧ IntKind.i64.wrap y ≤ 9223372036854775807:=by
 rw [IntKind.wrap_i64]; omega
theorem div_wrap (y:Int):IntKind.i64.wrap ((IntKind.i64.wrap y).tdiv 40)=(IntKind.i64.wrap y).tdiv 40:=by
 obtain ⟨h1,h2⟩:=wrap_rng y
 generalize IntKind.i64.wrap y=x at h1 h2
 by_cases h:0 ≤ x
 ·rw [Int.tdiv_eq_ediv_of_nonneg h]
  exact wrap_in (by omega) (by omega)
 ·obtain ⟨z,rfl⟩:∃ z,x = -z:=⟨-x,by omega⟩
  rw [Int.neg_tdiv,Int.tdiv_eq_ediv_of_nonneg (by omega)]
  exact wrap_in (by omega) (by omega)
theorem drop_tr {xs:List Tr} {i:Nat} (h:i < xs.length):xs.drop i=xs.getD i default :: xs.drop (i + 1):=by
 rw [List.drop_eq_getElem_cons h,List.getD_eq_getElem?_getD,List.getElem?_eq_getElem h]; rfl
theorem nodL_neg {l:List Tr} {b:Int} (h:b < 0):nodL l b=b:=by
 cases l with
 | nil=>rw [nodL]
 | cons a r=>rw [nodL,if_pos h]
theorem nodes_ok (n:Nat):∀ (t:Tr) (b:Int),cnt t ≤ n→wf t→calL EE 38 [.st t.row,.i64 b] []=some (.ret (.i64 (nod t b)),[]):=by
 induction n with
 | zero=>intro t b h _; have:=cnt_pos t; omega
 | succ n ih =>
  intro t b h hw
  cases t with
  | mk k v tb nm op fn fl xs =>
   rw [wf] at hw
   rw [cnt] at h
   have h40:((40:Int) ≠ 0)=True:=by simp
   have hlen:(mkS fl xs).l.length=xs.length:=by rw [mkS_l]
   refine fn_ok f38 (by simp) ?_
   unfold c38
   rw [row_mk,nod]
   unfold nodeC
   simp only [go_sem,reduceIte,rA,rB,rC,rD,h40,div_wrap]
   generalize IntKind.i64.wrap (b - _)=b0
   refine WP_loop rfl (fun k' T H m=>∃ (i:Nat) (c:Int),i + k'=xs.length ∧ T 5 = .i64 i ∧ T 1 = .i64 c ∧ nodL (xs.drop i) c=nodL xs b0 ∧ H 0 = .box 26 ([SV.int .i64 k,.int .i64 v.kind,.int .i64 v.n,.str v.text,.str tb,.str nm,.int .i64 op,.int .i64 fn,(mkS fl xs).sv Tr.row].map .s)) (k0:=xs.length) ⟨0,b0,by omega,rfl,rfl,rfl,rfl⟩ ?_
   rintro k' T' H' n' hf ⟨i,c,hik,h5,h1,hnd,hH⟩
   have h2:T' 2 = .ptr 0 0:=hf 2 rfl
   clear hf
   have hwi:=fun h=>wrap_suc (j:=i) h
   by_cases hi:i < xs.length
   ·have d1:decide ((i:Int) < xs.length)=true:=decide_eq_true (by omega)
    by_cases hc:0 ≤ c
    ·have d2:decide ((0:Int) ≤ c)=true:=decide_eq_true hc
     have hm:=getD_mem (l:=xs) default hi
     have hcall:=ih (xs.getD i default) c (by have:=cnt_mem hm; omega) (wfL_mem hw.2.2 hm)
     have hld:=fun HH=>tr_ags.load (l:=(mkS fl xs).l) (j:=i) (H:=HH) (by rw [hlen]; exact hi)
     have hin:(0:Int) ≤ i ∧ (i:Int) < xs.length:=⟨by omega,by omega⟩
     rw [drop_tr hi,nodL,if_neg (by omega)] at hnd
     simp only [mkS_l] at hld
     simp only [go_sem,reduceIte,rA,rB,rC,rD,h1,h2,h5,hH,hlen,d1,d2,tr_ags.ia,mkS_l,hin,Int.toNat_natCast,hld,decide_true]
     refine WC_p rfl (by rw [pure_st]; rfl) hcall ?_
     simp only [go_sem,reduceIte,rA,rB,rC,rD,h5,hwi (by omega)]
     exact ⟨k' - 1,by omega,i + 1,nod (xs.getD i default) c,by omega,rfl,rfl,hnd,hH⟩
    ·have d2:decide ((0:Int) ≤ c)=false:=decide_eq_false hc
     rw [nodL_neg (by omega)] at hnd
     simp only [go_sem,reduceIte,rA,rB,rC,rD,h1,h2,h5,hH,hlen,d1,d2,← hnd]
   ·have d1:decide ((i:Int) < xs.length)=false:=decide_eq_false (by omega)
    rw [List.drop_of_length_le (by omega),nodL] at hnd
    simp only [go_sem,reduceIte,rA,rB,rC,rD,h1,h2,h5,hH,hlen,d1,← hnd]
theorem few_ok (t:Tr) (m:Int) (hw:wf t):calL EE 10 [.st t.row,.i64 m] []=some (.ret (.bool (decide (0 ≤ nod t m))),[]):=by
 refine fn_ok f10 (by simp) ?_
 unfold c10
 have hl:=row_len t
 have htk:List.take 9 t.row=t.row:=List.take_of_length_le (by omega)
 simp only [go_sem,reduceIte,rA,rB,rC,rD,htk]
 refine ⟨by omega,WC_p rfl (by rw [pure_st]; rfl) (nodes_ok _ t m (Nat.le_refl _) hw) ?_⟩
 simp only [go_sem,reduceIte,rA,rB,rC,rD]
def preC (k fn:Int):Bool:=decide (k=3) && decide (0 ≤ fn) && decide (fn ≤ 3)
theorem preC_eq (k fn:Int):(!decide (k=3) || decide (fn < 0) || decide (3 < fn)) = !preC k fn:=by
 unfold preC
 rw [Bool.eq_iff_iff]
 simp only [Bool.or_eq_true,Bool.not_eq_true',decide_eq_true_eq,decide_eq_false_iff_not,Bool.and_eq_false_iff]
 omega
theorem cal_eq (k:Int) (v:Val) (tb nm:List UInt8) (op fn:Int) (fl:Option Bool) (xs:List Tr):cal (.mk k v tb nm op fn fl xs)=(preC k fn && decide (xs.length ≤ 1) && vldL xs && (decide (xs.length=1) || decide (fn=0)) && decide (v=vz) && decide (tb=[]) && decide (nm=[]) && decide (op=0)):=by
 rw [cal]; rfl
theorem all_ok (fl:Option Bool) (xs:List Tr) (hl:xs.length ≤ 9223372036854775807) (hw:wfL xs):calL EE 46 [.s ((mkS fl xs).sv Tr.row),.s (.func 12)] []=some (.ret (.bool (vldL xs)),[]):=by
 have hf:=all_func tr_ags f46 (by decide) rfl f118 rfl f171 rfl f119 (by decide) (mkS fl xs) (by rw [mkS_l]; exact hl) (g:=12) rfl vld (fun j hj=>by
  rw [mkS_l] at hj ⊢
  exact valid_ok _ _ (Nat.le_refl _) (wfL_mem hw (getD_mem (l:=xs) default hj)))
 rwa [mkS_l,← vldL_all] at hf
set_option maxHeartbeats 1000000 in
theorem isCall_ok (t:Tr) (hw:wf t):calL EE 52 [.st t.row] []=some (.ret (.bool (cal t)),[]):=by
 cases t with
 | mk k v tb nm op fn fl xs =>
  have hw':=hw
  rw [wf] at hw'
  have e:=equal_ok _ (.mk k v tb nm op fn fl xs) (.mk 3 vz [] [] 0 fn fl xs) (Nat.le_refl _) hw
  rw [row_mk,row_mk,eqT,eqL_self] at e
  have hlen:(mkS fl xs).l.length=xs.length:=by rw [mkS_l]
  have hp:=preC_eq k fn
  have h1:decide ((1:Int) < (xs.length:Int)) = !decide (xs.length ≤ 1):=by rw [← decide_not,decide_eq_decide]; omega
  have h2:decide ((xs.length:Int)=1)=decide (xs.length=1):=decide_eq_decide.2 (by omega)
  refine fn_ok f52 (by simp) ?_
  unfold c52
  rw [row_mk,cal_eq]
  cases hP:preC k fn with
  | false =>
   rw [hP] at hp
   simp only [go_sem,reduceIte,rA,rB,rC,rD,hlen,h1,hp]
  | true =>
   have d3:decide (k=3)=true:=by
    unfold preC at hP
    simp only [Bool.and_eq_true] at hP
    exact hP.1.1
   rw [hP] at hp
   cases hL:decide (xs.length ≤ 1) with
   | false =>
    rw [hL] at h1
    simp only [go_sem,reduceIte,rA,rB,rC,rD,hlen,h1,hp]
   | true =>
    rw [hL] at h1
    simp only [go_sem,reduceIte,rA,rB,rC,rD,hlen,h1,hp]
    refine WC_p rfl rfl (all_ok fl xs hw'.2.1 hw'.2.2) ?_
    cases hV:vldL xs with
    | false=>simp only [go_sem,reduceIte,rA,rB,rC,rD,hlen,h1,hp]
    | true =>
     simp only [go_sem,reduceIte,rA,rB,rC,rD,hlen,h1,h2,hp]
     cases hF:(decide (xs.length=1) || decide (fn=0)) with
     | false=>simp only [go_sem,reduceIte,rA,rB,rC,rD]
     | true =>
      simp only [go_sem,reduceIte,rA,rB,rC,rD]
      refine WC_p rfl rfl e ?_
      simp only [go_sem,reduceIte,rA,rB,rC,rD,d3,decide_true]
end Go.Vm
