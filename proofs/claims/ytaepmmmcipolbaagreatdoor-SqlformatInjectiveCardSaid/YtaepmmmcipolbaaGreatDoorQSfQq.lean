/- Chapter 24: SqlformatQueries' walk. -/
import Derived.Test.YtaepmmmcipolbaaGreatDoorQSfTv
import Derived.Test.YtaepmmmcipolbaaGreatDoorQSfSr
import Derived.Test.YtaepmmmcipolbaaGreatDoorQSfIq
import Derived.Test.YtaepmmmcipolbaaGreatDoorQSfPa
section
set_option linter.unusedVariables false
set_option linter.unusedSimpArgs false
set_option maxRecDepth 100000
namespace Go.Vm
open Nat renaming reduceEqDiff→rA,reduceAdd→rB,reduceLeDiff→rC,reduceLT→rD
open Go
theorem run_trq {f:FuncId} {args:List PV} (h:∃ v H1 n1,runL EE f args (Ob.of []) 0=some (.ret v,H1,n1) ∧ v = .bool true):∃ H' n',runL EE f args (Ob.of []) 0=some (.ret (.bool true),H',n'):=by
 obtain ⟨v,H1,n1,h,rfl⟩:=h
 exact ⟨H1,n1,h⟩
theorem fewQ_ok (n:Nat) (a:QN n) (hw:QN.wf n a) (m:Int):calL EE 16 [.st (QN.row n a),.i64 m] []=some (.ret (.bool (decide (0 ≤ QN.nod n a m))),[]):=by
 have e1:=queries_ok n a m hw
 obtain ⟨t1,t2⟩:=qn_take n a
 refine fn_ok f16 (by simp) ?_
 unfold c16
 simp only [go_sem,reduceIte,rA,rB,rC,rD,t1,t2]
 refine WC_p rfl (by rw [pure_st]; rfl) e1 ?_
 simp only [go_sem,reduceIte,rA,rB,rC,rD]
end Go.Vm
end
section
set_option linter.unusedVariables false
set_option linter.unusedSimpArgs false
set_option maxRecDepth 100000
namespace Go.Vm
open Nat renaming reduceEqDiff→rA,reduceAdd→rB,reduceLeDiff→rC,reduceLT→rD
open Go
def inj1:SC:=tailS 2 c5
def inj2:SC:=tailS 3 c5
theorem inj_e0:c5 = .seq (headS 0 c5) (.seq (headS 1 c5) inj1):=rfl
theorem inj_e1:inj1 = .seq (headS 2 c5) inj2:=rfl
section
variable (m:Nat) (p q:QN m)
theorem inj_q (hp:QN.wf m p) (hq:QN.wf m q) (cp:QN.cnt m p ≤ 10000) (cq:QN.cnt m q ≤ 10000) (T:Nat→PV) (H:Ob) (n:Nat) (h6:T 6 = .ptr 2 0) (h7:T 7 = .ptr 3 0) (hH2:H 2 = .box 38 ((QN.row m p).map .s)) (hH3:H 3 = .box 38 ((QN.row m q).map .s)) :
  WP EE inj2 T H n (FinR [.t 8] fun v _ _=>v = .bool true):=by
 obtain ⟨t1,t2⟩:=qn_take m p
 obtain ⟨u1,u2⟩:=qn_take m q
 unfold inj2 c5
 simp only [go_sem,reduceIte,rA,rB,rC,rD,tailS,h6,h7,hH2,hH3,t1,t2]
 refine WC_p rfl (by rw [pure_st]; rfl) ((valQ_ok m).1 p hp) ?_
 cases vp:(QN.vv m).1 p with
 | false =>
  simp only [go_sem,reduceIte,rA,rB,rC,rD]
  refine WC_p rfl rfl awake24 ?_
  simp only [go_sem,reduceIte,rA,rB,rC,rD]
 | true =>
  simp only [go_sem,reduceIte,rA,rB,rC,rD,h6,h7,hH2,hH3,u1,u2]
  refine WC_p rfl (by rw [pure_st]; rfl) ((valQ_ok m).1 q hq) ?_
  cases vq:(QN.vv m).1 q with
  | false =>
   simp only [go_sem,reduceIte,rA,rB,rC,rD]
   refine WC_p rfl rfl awake24 ?_
   simp only [go_sem,reduceIte,rA,rB,rC,rD]
  | true =>
   have ep:=query_ok m p hp cp
   have eq:=query_ok m q hq cq
   unfold qryV at ep eq
   rw [if_pos vp] at ep
   rw [if_pos vq] at eq
   have ee:=equalQ_ok m p q hp
   have ei:=qtxt_iff vp vq
   have hb:(QN.eq m p q == QN.eq m p q)=true:=by cases QN.eq m p q <;> rfl
   generalize QN.txt m p=tp at ep ei
   generalize QN.txt m q=tq at eq ei
   simp only [go_sem,reduceIte,rA,rB,rC,rD,h6,h7,hH2,hH3,t1,t2]
   refine WC_p rfl (by rw [pure_st]; rfl) ep ?_
   simp only [go_sem,reduceIte,rA,rB,rC,rD,h6,h7,hH2,hH3,u1,u2]
   refine WC_p rfl (by rw [pure_st]; rfl) eq ?_
   simp only [go_sem,reduceIte,rA,rB,rC,rD,h6,h7,hH2,hH3,t1,t2,u1,u2,ei]
   refine WC_p rfl (by rw [pure_st,pure_st]; rfl) ee ?_
   simp only [go_sem,reduceIte,rA,rB,rC,rD,h6,h7,hH2,hH3,t1,t2,u1,u2,ei,hb]
   refine WC_p rfl rfl awake24 ?_
   simp only [go_sem,reduceIte,rA,rB,rC,rD,ei,hb]
end
theorem inj_e (m:Nat) (a:Tr) (la:wf a) (b:Tr) (lb:wf b) (ca:cnt a ≤ 10000 ∨ vld a=false) (cb:cnt b ≤ 10000 ∨ vld b=false) (p q:QN m) (hp:QN.wf m p) (hq:QN.wf m q) (cp:QN.cnt m p ≤ 10000) (cq:QN.cnt m q ≤ 10000) (T:Nat→PV) (H:Ob) (n:Nat)
  (h4:T 4 = .ptr 0 0) (h5:T 5 = .ptr 1 0) (h6:T 6 = .ptr 2 0) (h7:T 7 = .ptr 3 0) (hH0:H 0 = .box 26 (a.row.map .s)) (hH1:H 1 = .box 26 (b.row.map .s)) (hH2:H 2 = .box 38 ((QN.row m p).map .s)) (hH3:H 3 = .box 38 ((QN.row m q).map .s)) :
  WP EE inj1 T H n (FinR [.t 8] fun v _ _=>v = .bool true):=by
 have la':=row_len a
 have hta:List.take 9 a.row=a.row:=List.take_of_length_le (by omega)
 have lb':=row_len b
 have htb:List.take 9 b.row=b.row:=List.take_of_length_le (by omega)
 have hQ:=fun T H n h6 h7 hH2 hH3=>inj_q m p q hp hq cp cq T H n h6 h7 hH2 hH3
 rw [inj_e1]
 unfold c5
 simp only [go_sem,reduceIte,rA,rB,rC,rD,headS,h4,h5,h6,h7,hH0,hH1,hta,htb]
 refine ⟨by omega,WC_p rfl (by rw [pure_st]; rfl) (valid_ok _ a (Nat.le_refl _) la) ?_⟩
 cases va:vld a with
 | false =>
  simp only [go_sem,reduceIte,rA,rB,rC,rD,h4,h5,h6,h7,hH0,hH1,hta,htb]
  exact hQ _ _ _ h6 h7 hH2 hH3
 | true =>
  simp only [go_sem,reduceIte,rA,rB,rC,rD,h4,h5,h6,h7,hH0,hH1,hta,htb]
  refine ⟨by omega,WC_p rfl (by rw [pure_st]; rfl) (valid_ok _ b (Nat.le_refl _) lb) ?_⟩
  cases vb:vld b with
  | false =>
   simp only [go_sem,reduceIte,rA,rB,rC,rD,h4,h5,h6,h7,hH0,hH1,hta,htb]
   exact hQ _ _ _ h6 h7 hH2 hH3
  | true =>
   rw [va] at ca
   rw [vb] at cb
   have ca:=ca.resolve_right Bool.noConfusion
   have cb:=cb.resolve_right Bool.noConfusion
   have ea:=expr_ok a la (fun _=>ca)
   have eb:=expr_ok b lb (fun _=>cb)
   unfold exprV at ea eb
   rw [if_pos (by rw [va]; rfl)] at ea
   rw [if_pos (by rw [vb]; rfl)] at eb
   have ee:=equal_ok _ a b (Nat.le_refl _) la
   have ei:=txt_iff va vb
   have hb:(eqT a b == eqT a b)=true:=by cases eqT a b <;> rfl
   generalize txt a=ta at ea ei
   generalize txt b=tb at eb ei
   simp only [go_sem,reduceIte,rA,rB,rC,rD,h4,h5,h6,h7,hH0,hH1,hta,htb]
   refine ⟨by omega,WC_p rfl (by rw [pure_st]; rfl) ea ?_⟩
   simp only [go_sem,reduceIte,rA,rB,rC,rD,h4,h5,h6,h7,hH0,hH1,hta,htb]
   refine ⟨by omega,WC_p rfl (by rw [pure_st]; rfl) eb ?_⟩
   simp only [go_sem,reduceIte,rA,rB,rC,rD,h4,h5,h6,h7,hH0,hH1,hta,htb,ei]
   refine ⟨by omega,WC_p rfl (by rw [pure_st,pure_st]; rfl) ee ?_⟩
   simp only [go_sem,reduceIte,rA,rB,rC,rD,h4,h5,h6,h7,hH0,hH1,hta,htb,ei,hb]
   exact hQ _ _ _ h6 h7 hH2 hH3
theorem inj_law (m:Nat) (a:Tr) (la:wf a) (b:Tr) (lb:wf b) (p:QN m) (lp:QN.wf m p) (q:QN m) (lq:QN.wf m q):∃ H' n',runL EE 5 [.st a.row,.st b.row,.st (QN.row m p),.st (QN.row m q)] (Ob.of []) 0=some (.ret (.bool true),H',n'):=by
 refine run_trq ?_
 refine fn_run (R:=fun v _ _=>v = .bool true) f5 (by simp) ?_
 have la':=row_len a
 have hta:List.take 9 a.row=a.row:=List.take_of_length_le (by omega)
 have lb':=row_len b
 have htb:List.take 9 b.row=b.row:=List.take_of_length_le (by omega)
 obtain ⟨t1,t2⟩:=qn_take m p
 obtain ⟨u1,u2⟩:=qn_take m q
 rw [inj_e0]
 unfold c5
 simp only [go_sem,reduceIte,rA,rB,rC,rD,headS,hta]
 refine ⟨by omega,WC_p rfl (by rw [pure_st]; rfl) (few_ok a 60 la) ?_⟩
 by_cases ha:¬ 0 ≤ nod a 60
 ·have d:decide (0 ≤ nod a 60)=false:=decide_eq_false ha
  simp only [go_sem,reduceIte,rA,rB,rC,rD,d]
  refine WC_p rfl rfl awake24 ?_
  simp only [go_sem,reduceIte,rA,rB,rC,rD]
 have ha:=Decidable.not_not.1 ha
 have da:decide (0 ≤ nod a 60)=true:=decide_eq_true ha
 simp only [go_sem,reduceIte,rA,rB,rC,rD,da,htb]
 refine ⟨by omega,WC_p rfl (by rw [pure_st]; rfl) (few_ok b 60 lb) ?_⟩
 by_cases hb:¬ 0 ≤ nod b 60
 ·have d:decide (0 ≤ nod b 60)=false:=decide_eq_false hb
  simp only [go_sem,reduceIte,rA,rB,rC,rD,da,d]
  refine WC_p rfl rfl awake24 ?_
  simp only [go_sem,reduceIte,rA,rB,rC,rD]
 have hb:=Decidable.not_not.1 hb
 have db:decide (0 ≤ nod b 60)=true:=decide_eq_true hb
 simp only [go_sem,reduceIte,rA,rB,rC,rD,da,db,t1,t2]
 refine WC_p rfl (by rw [pure_st]; rfl) (fewQ_ok m p lp 60) ?_
 by_cases hp:¬ 0 ≤ QN.nod m p 60
 ·have d:decide (0 ≤ QN.nod m p 60)=false:=decide_eq_false hp
  simp only [go_sem,reduceIte,rA,rB,rC,rD,da,db,d]
  refine WC_p rfl rfl awake24 ?_
  simp only [go_sem,reduceIte,rA,rB,rC,rD]
 have hp:=Decidable.not_not.1 hp
 have dp:decide (0 ≤ QN.nod m p 60)=true:=decide_eq_true hp
 simp only [go_sem,reduceIte,rA,rB,rC,rD,da,db,dp,u1,u2]
 refine WC_p rfl (by rw [pure_st]; rfl) (fewQ_ok m q lq 60) ?_
 by_cases hq:¬ 0 ≤ QN.nod m q 60
 ·have d:decide (0 ≤ QN.nod m q 60)=false:=decide_eq_false hq
  simp only [go_sem,reduceIte,rA,rB,rC,rD,da,db,dp,d]
  refine WC_p rfl rfl awake24 ?_
  simp only [go_sem,reduceIte,rA,rB,rC,rD]
 have hq:=Decidable.not_not.1 hq
 have dq:decide (0 ≤ QN.nod m q 60)=true:=decide_eq_true hq
 have cE:∀ t:Tr,0 ≤ nod t 60→cnt t ≤ 10000 ∨ vld t=false:=fun t h=>by
  cases hv:vld t with
  | false=>exact .inr rfl
  | true=>exact .inl (Nat.le_trans (few_cnt' h (by decide) (by decide) (.inl hv)) (by decide))
 have hcp:=few_query lp (by decide) (by decide) hp
 have hcq:=few_query lq (by decide) (by decide) hq
 have hE:=fun T H n h4 h5 h6 h7 hH0 hH1 hH2 hH3=>inj_e m a la b lb (cE a ha) (cE b hb) p q lp lq (by omega) (by omega) T H n h4 h5 h6 h7 hH0 hH1 hH2 hH3
 simp only [go_sem,reduceIte,rA,rB,rC,rD,da,db,dp,dq]
 exact hE _ _ _ rfl rfl rfl rfl rfl rfl rfl rfl
end Go.Vm
end
