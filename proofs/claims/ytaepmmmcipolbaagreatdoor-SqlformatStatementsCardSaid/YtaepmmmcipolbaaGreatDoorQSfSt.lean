/- Chapter 24: what a budget says of a statement; SqlformatStatements' walk. -/
import Derived.Test.YtaepmmmcipolbaaGreatDoorQSfVx
import Derived.Test.YtaepmmmcipolbaaGreatDoorQSfTs
import Derived.Test.YtaepmmmcipolbaaGreatDoorQSfMb
set_option linter.unusedVariables false
set_option linter.unusedSimpArgs false
set_option maxRecDepth 100000
namespace Go.Vm
open Nat renaming reduceEqDiff→rE,reduceAdd→rF,reduceLeDiff→rG,reduceLT→rH
open Go
theorem rw_stp {x:Slc Tr} (h:∀ t ∈ x.l,rc t):Stp nodRw cntRw x:=fun b h0 h1=>(fB_chn (g:=nod) (c:=cnt) (l:=x.l) (fun t ht=>nod_stp (h t ht)) b h1).2 h0
theorem few_stp {Q:Type} {n:Q→Int→Int} {c:Q→Nat} {w:Q→Prop} (hC:∀ x,w x→CQ n c x) {a:StP Q} (hw:wfStP w a) {m:Int} (h0:0 ≤ m) (h1:m ≤ 1000000) (h:0 ≤ nodStP n a m):(cntS c a:Int) ≤ m:=by
 have ch:=chn_comp (chn_comp (chn_comp
  (fB_chn (g:=nod) (c:=cnt) (l:=a.wh.l) fun x hx=>nod_stp (hw.rwh x hx))
  (fB_chn (g:=n) (c:=c) (l:=a.qu.l) fun x hx=>(hC x (hw.qu x hx)).1))
  (fB_chn (g:=nodRw) (c:=cntRw) (l:=a.ro.l) fun x hx=>rw_stp (hw.rro x hx)))
  (fB_chn (g:=nodSt) (c:=cntSt) (l:=a.se.l) fun x hx=>fun b p0 p1=>nod_stp (hw.rse x hx) b p0 p1)
 have hRB:RB=140737488351232:=rfl
 obtain ⟨q1,q2⟩:=hw.rst
 obtain ⟨l1,l2,l3,l4,l5⟩:=hw.rln
 have hz:IntKind.i64.wrap ((IntKind.i64.wrap ((a.nm.length:Int) + a.tb.length)).tdiv 40)=(((a.nm.length + a.tb.length) / 40:Nat):Int):=by
  rw [wrap_in (x:=(a.nm.length:Int) + a.tb.length) (by omega) (by omega),Int.tdiv_eq_ediv_of_nonneg (by omega),wrap_in (by omega) (by omega)]
  omega
 have hz0:(((a.nm.length + a.tb.length) / 40:Nat):Int) ≤ 10000000000000:=by omega
 unfold nodStP at h
 rw [hz] at h
 have hz1:(0:Int) ≤ (((a.nm.length + a.tb.length) / 40:Nat):Int):=Int.natCast_nonneg _
 generalize (((a.nm.length + a.tb.length) / 40:Nat):Int)=z at h hz0 hz1
 rw [wrap_in (x:=m - (a.co.l.length:Int)) (by omega) (by omega),wrap_in (x:=m - (a.co.l.length:Int) - (a.ke.l.length:Int)) (by omega) (by omega),wrap_in (x:=m - (a.co.l.length:Int) - (a.ke.l.length:Int) - (a.ns.l.length:Int)) (by omega) (by omega),
  wrap_in (x:=m - (a.co.l.length:Int) - (a.ke.l.length:Int) - (a.ns.l.length:Int) - (a.ro.l.length:Int)) (by omega) (by omega),wrap_in (x:=m - (a.co.l.length:Int) - (a.ke.l.length:Int) - (a.ns.l.length:Int) - (a.ro.l.length:Int) - (a.se.l.length:Int)) (by omega) (by omega),
  wrap_in (x:=m - (a.co.l.length:Int) - (a.ke.l.length:Int) - (a.ns.l.length:Int) - (a.ro.l.length:Int) - (a.se.l.length:Int) - z) (by omega) (by omega)] at h
 obtain ⟨c1,c2⟩:=ch (m - (a.co.l.length:Int) - (a.ke.l.length:Int) - (a.ns.l.length:Int) - (a.ro.l.length:Int) - (a.se.l.length:Int) - z) (by omega)
 simp only at c1 c2
 unfold cntS
 by_cases hb:m - (a.co.l.length:Int) - (a.ke.l.length:Int) - (a.ns.l.length:Int) - (a.ro.l.length:Int) - (a.se.l.length:Int) - z < 0
 ·rw [c1 hb] at h
  omega
 ·obtain ⟨_,_,c3⟩:=c2 (by omega)
  have:=c3 h
  omega
theorem run_trs {f:FuncId} {args:List PV} (h:∃ v H1 n1,runL EE f args (Ob.of []) 0=some (.ret v,H1,n1) ∧ v = .bool true):∃ H' n',runL EE f args (Ob.of []) 0=some (.ret (.bool true),H',n'):=by
 obtain ⟨v,H1,n1,h,rfl⟩:=h
 exact ⟨H1,n1,h⟩
section
variable {Q:Type} [Inhabited Q]
def stmV (q:Q→Q→Bool) (vq:Q→Bool) (tq:Q→List UInt8) (a:StP Q):List UInt8:=if vStm q vq a=true then stmT tq a else []
variable {f:Q→List SV} (hf:∀ x,(f x).length=10) {tq:Q→List UInt8} {c:Q→Nat} {nq:Q→Int→Int} {q:Q→Q→Bool} {vq:Q→Bool} {w:Q→Prop}
 (hE:∀ a b,w a→calL EE 24 [.st (f a),.st (f b)] []=some (.ret (.bool (q a b)),[]))
 (hS:∀ a b,w a→calL EE 32 [.st (f a),.st (f b)] []=some (.ret (.bool (q a b)),[]))
 (hV:∀ a,w a→calL EE 17 [.st (f a)] []=some (.ret (.bool (vq a)),[]))
 (rV:∀ a,w a→calL EE 18 [.st (f a)] []=some (.ret (.bool (vq a)),[]))
 (hN:∀ a b,w a→calL EE 56 [.st (f a),.i64 b] []=some (.ret (.i64 (nq a b)),[]))
 (hC:∀ x,w x→CQ nq c x)
 (hL:∀ a,w a→vq a=true→(tq a).length + 100 ≤ 1000 * c a)
 (hT:∀ a,w a→vq a=true→c a ≤ 10000→calL EE 62 [.st (f a)] []=some (.ret (.str (tq a)),[]))
 (rT:∀ a,w a→vq a=true→c a ≤ 10000→calL EE 63 [.st (f a)] []=some (.ret (.str (tq a)),[]))
include hf
include hE hV hL hT in
theorem stmt_txt (a:StP Q) (ha:wfStP w a) (hn:cntS c a ≤ 10000):calL EE 36 [.st (StP.row f a)] []=some (.ret (.str (stmV q vq tq a)),[]):=by
 have e1:=valStm_ok hf hE hV a ha
 have hA:=fun ho T H n=>ts_all hf hL hT a ha ho hn T H n
 refine fn_ok f36 (by simp) ?_
 rw [stt_e]
 unfold c36 stmV
 cases hv:vStm q vq a with
 | false =>
  rw [hv] at e1
  unfold StP.row at e1 ⊢
  simp only [go_sem,reduceIte,rE,rF,rG,rH,headS]
  refine WC_p rfl (by rw [pure_st]; rfl) e1 ?_
  simp only [go_sem,reduceIte,rE,rF,rG,rH,headS,Bool.false_eq_true]
 | true =>
  rw [hv] at e1
  have ho:okS vq a=true:=by unfold vStm at hv; rw [Bool.and_eq_true] at hv; exact hv.1
  have hB:=hA ho
  unfold StP.row at e1 hB ⊢
  simp only [go_sem,reduceIte,rE,rF,rG,rH,headS]
  refine WC_p rfl (by rw [pure_st]; rfl) e1 ?_
  simp only [go_sem,reduceIte,rE,rF,rG,rH,headS]
  exact hB _ _ _ rfl rfl
include hS rV hL rT in
theorem refStmt_txt (a:StP Q) (ha:wfStP w a) (hn:cntS c a ≤ 10000):calL EE 37 [.st (StP.row f a)] []=some (.ret (.str (stmV q vq tq a)),[]):=by
 have e1:=refValStm_ok hf hS rV a ha
 have hA:=fun ho T H n=>us_all hf hL rT a ha ho hn T H n
 refine fn_ok f37 (by simp) ?_
 rw [utt_e]
 unfold c37 stmV
 cases hv:vStm q vq a with
 | false =>
  rw [hv] at e1
  unfold StP.row at e1 ⊢
  simp only [go_sem,reduceIte,rE,rF,rG,rH,headS]
  refine WC_p rfl (by rw [pure_st]; rfl) e1 ?_
  simp only [go_sem,reduceIte,rE,rF,rG,rH,headS,Bool.false_eq_true]
 | true =>
  rw [hv] at e1
  have ho:okS vq a=true:=by unfold vStm at hv; rw [Bool.and_eq_true] at hv; exact hv.1
  have hB:=hA ho
  unfold StP.row at e1 hB ⊢
  simp only [go_sem,reduceIte,rE,rF,rG,rH,headS]
  refine WC_p rfl (by rw [pure_st]; rfl) e1 ?_
  simp only [go_sem,reduceIte,rE,rF,rG,rH,headS]
  exact hB _ _ _ (by omega) rfl rfl
include hE hS hV rV hN hC hL hT rT in
set_option maxHeartbeats 4000000 in
theorem stmt_lawX (a:StP Q) (la:wfStP w a):∃ H' n',runL EE 9 [.st (StP.row f a)] (Ob.of []) 0=some (.ret (.bool true),H',n'):=by
 refine run_trs (fn_run f9 (by simp) ?_)
 have fa:=stmt_few hf hN a 120 la
 have e1:=valStm_ok hf hE hV a la
 have e2:=refValStm_ok hf hS rV a la
 have e3:=fun hn=>stmt_txt (c:=c) hf hE hV hL hT a la hn
 have e4:=fun hn=>refStmt_txt (c:=c) hf hS rV hL rT a la hn
 unfold c9
 unfold StP.row at *
 by_cases hn:0 ≤ nodStP nq a 120
 ·rw [decide_eq_true hn] at fa
  have hc:=few_stp hC la (m:=120) (by decide) (by decide) hn
  have e3:=e3 (by omega)
  have e4:=e4 (by omega)
  have hb:(vStm q vq a == vStm q vq a)=true:=by cases vStm q vq a <;> rfl
  simp only [go_sem,reduceIte,rE,rF,rG,rH]
  refine WC_p rfl (by rw [pure_st]; rfl) fa ?_
  simp only [go_sem,reduceIte,rE,rF,rG,rH]
  refine WC_p rfl (by rw [pure_st]; rfl) e1 ?_
  simp only [go_sem,reduceIte,rE,rF,rG,rH]
  refine WC_p rfl (by rw [pure_st]; rfl) e2 ?_
  simp only [go_sem,reduceIte,rE,rF,rG,rH,hb]
  refine WC_p rfl (by rw [pure_st]; rfl) e3 ?_
  simp only [go_sem,reduceIte,rE,rF,rG,rH,hb]
  refine WC_p rfl (by rw [pure_st]; rfl) e4 ?_
  simp only [go_sem,reduceIte,rE,rF,rG,rH,hb,decide_true]
  refine WC_p rfl rfl awake24 ?_
  simp only [go_sem,reduceIte,rE,rF,rG,rH,hb,decide_true]
 ·rw [decide_eq_false hn] at fa
  simp only [go_sem,reduceIte,rE,rF,rG,rH]
  refine WC_p rfl (by rw [pure_st]; rfl) fa ?_
  simp only [go_sem,reduceIte,rE,rF,rG,rH]
  refine WC_p rfl rfl awake24 ?_
  simp only [go_sem,reduceIte,rE,rF,rG,rH]
end
theorem stmt_law (m:Nat) (a:StP (QN m)) (la:wfStP (QN.wf m) a):∃ H' n',runL EE 9 [.st (StP.row (QN.row m) a)] (Ob.of []) 0=some (.ret (.bool true),H',n') :=
 stmt_lawX (qn_len m) (equalQ_ok m) (sameQ_ok m) (valQ_ok m).1 (refValQ_ok m).1 (queries_ok m) (qn_cq m) (fun x h v=>qn_tlen m x h (.inl v)) (fun x h v=>txtQ_ok m x h (.inl v)) (fun x h v=>refTxtQ_ok m x h (.inl v)) a la
end Go.Vm
