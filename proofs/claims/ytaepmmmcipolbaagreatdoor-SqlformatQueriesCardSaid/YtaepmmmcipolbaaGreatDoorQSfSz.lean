/- Chapter 24: sizes of expressions; what a query's size is. -/
import Derived.Test.YtaepmmmcipolbaaGreatDoorQSfCq
import Derived.Test.YtaepmmmcipolbaaGreatDoorQSfAv
set_option linter.unusedVariables false
set_option linter.unusedSimpArgs false
set_option maxRecDepth 100000
namespace Go.Vm
open Go
theorem sum_le1 {α:Type} {g:α→Nat}:∀ {l:List α} {a:α},a ∈ l→g a ≤ (l.map g).sum
 | b :: r,a,h=>by
  rw [List.map_cons,List.sum_cons]
  rcases List.mem_cons.1 h with rfl | h
  ·omega
  ·have:=sum_le1 (g:=g) h; omega
theorem sum_step {α:Type} [Inhabited α] {g:α→Nat} {l:List α} {j:Nat} (h:j < l.length):((l.take (j + 1)).map g).sum=((l.take j).map g).sum + g (l.getD j default):=by
 rw [take_step default h,List.map_append,List.sum_append,List.map_cons,List.map_nil,List.sum_cons,List.sum_nil,Nat.add_zero]
theorem sum_pre {α:Type} {g:α→Nat}:∀ (l:List α) (j:Nat),((l.take j).map g).sum ≤ (l.map g).sum
 | [],j=>by rw [List.take_nil]; exact Nat.le_refl _
 | a :: r,0=>Nat.zero_le _
 | a :: r,j + 1=>by
  have:=sum_pre (g:=g) r j
  rw [List.take_succ_cons,List.map_cons,List.map_cons,List.sum_cons,List.sum_cons]
  omega
theorem cntL_pred:∀ l:List Tr,l.length + (l.map fun t=>cnt t - 1).sum=cntL l
 | []=>by rw [cntL]; rfl
 | a :: r=>by
  have:=cntL_pred r
  have:=cnt_pos a
  rw [cntL,List.length_cons,List.map_cons,List.sum_cons]
  omega
theorem i64_add {a b:Nat} (h:a + b ≤ 1000000):IntKind.i64.wrap ((a:Int) + (b:Int))=((a + b:Nat):Int):=wrap_add (by omega)
theorem sizes_ok (n:Nat):∀ x:Slc Tr,cntL x.l ≤ n→n ≤ 10000→calL EE 64 [.s (x.sv Tr.row)] []=some (.ret (.i64 (cntL x.l:Nat)),[]):=by
 induction n using Nat.strongRecOn with
 | _ n ih =>
  intro x hx hn
  have hll:=cntL_len x.l
  refine fn_ok f64 (by simp) ?_
  unfold c64
  simp only [go_sem,reduceIte,Nat.reduceEqDiff,Nat.reduceAdd,Nat.reduceLeDiff,Nat.reduceLT]
  refine WP_scan rfl 10 x.l.length (fun _=>True) (fun j T _ _=>T 3 = .i64 (x.l.length + ((x.l.take j).map fun t=>cnt t - 1).sum:Nat)) rfl rfl ?_ ?_
  ·rintro j T' H' n' hlt hf' hi h3 _
   have h8:T' 8 = .s (x.sv Tr.row):=hf' 8 rfl
   have h9:T' 9 = .i64 x.l.length:=hf' 9 rfl
   clear hf'
   have hji:(j:Int) < x.l.length:=by omega
   have hj0:(0:Int) ≤ j:=by omega
   have hwj:=wrap_suc (j:=j) (by omega)
   have hld:=fun HH=>tr_ags.load (l:=x.l) (j:=j) (H:=HH) hlt
   have hm:=cnt_mem (getD_mem (l:=x.l) (j:=j) default hlt)
   have hp:=sum_pre (g:=fun t=>cnt t - 1) x.l j
   have hpp:=cntL_pred x.l
   have hst:=sum_step (g:=fun t=>cnt t - 1) hlt
   rw [hst]
   generalize x.l.getD j default=X at hld hm ⊢
   obtain ⟨k,v,tb,nm,op,fn,fl,xs⟩:=X
   have hc:cnt (.mk k v tb nm op fn fl xs)=cntL xs + 1:=by rw [cnt]
   have hcall:=ih (cntL xs) (by omega) (mkS fl xs) (by rw [mkS_l]; exact Nat.le_refl _) (by omega)
   rw [mkS_l] at hcall
   rw [row_mk] at hld
   have hsc:setCells [SV.int .i64 0,.int .i64 0,.int .i64 0,.str [],.str [],.str [],.int .i64 0,.int .i64 0,.nils] 0 [.int .i64 k,.int .i64 v.kind,.int .i64 v.n,.str v.text,.str tb,.str nm,.int .i64 op,.int .i64 fn,(mkS fl xs).sv Tr.row]=[.int .i64 k,.int .i64 v.kind,.int .i64 v.n,.str v.text,.str tb,.str nm,.int .i64 op,.int .i64 fn,(mkS fl xs).sv Tr.row]:=rfl
   simp only [go_sem,reduceIte,Nat.reduceEqDiff,Nat.reduceAdd,Nat.reduceLeDiff,Nat.reduceLT,h3,h8,h9,hi,hji,hj0,and_self,decide_true,tr_ags.ia,Int.toNat_natCast,hld,hsc]
   refine WC_p rfl rfl hcall ?_
   have hw:=i64_add (a:=x.l.length + ((x.l.take j).map fun t=>cnt t - 1).sum) (b:=cntL xs) (by omega)
   simp only [go_sem,reduceIte,Nat.reduceEqDiff,Nat.reduceAdd,Nat.reduceLeDiff,Nat.reduceLT,h3,hi,hwj,hw,hc]
   exact congrArg (fun k:Nat=>PV.i64 (k:Int)) (by omega)
  ·rintro T' H' n' hf' hi h3 _
   have h9:T' 9 = .i64 x.l.length:=hf' 9 rfl
   clear hf'
   rw [List.take_length,cntL_pred] at h3
   simp only [go_sem,reduceIte,Nat.reduceEqDiff,Nat.reduceAdd,Nat.reduceLeDiff,Nat.reduceLT,h3,h9,hi,Int.lt_irrefl,decide_false]
theorem refSizes_ok (n:Nat):∀ x:Slc Tr,cntL x.l ≤ n→n ≤ 10000→calL EE 66 [.s (x.sv Tr.row)] []=some (.ret (.i64 (cntL x.l:Nat)),[]):=by
 induction n using Nat.strongRecOn with
 | _ n ih =>
  intro x hx hn
  have hll:=cntL_len x.l
  refine fn_ok f66 (by simp) ?_
  unfold c66
  simp only [go_sem,reduceIte,Nat.reduceEqDiff,Nat.reduceAdd,Nat.reduceLeDiff,Nat.reduceLT]
  refine WP_scan rfl 4 x.l.length (fun _=>True) (fun j T _ _=>T 3 = .i64 (((x.l.take j).map cnt).sum:Nat)) rfl rfl ?_ ?_
  ·rintro j T' H' n' hlt hf' hi h3 _
   have h0:T' 0 = .s (x.sv Tr.row):=hf' 0 rfl
   clear hf'
   have hji:(j:Int) < x.l.length:=by omega
   have hj0:(0:Int) ≤ j:=by omega
   have hwj:=wrap_suc (j:=j) (by omega)
   have hx1:∀ agg sz off HH,loadM agg sz HH (.eptr (x.l.map Tr.row) j off)=loadS agg sz (Tr.row (x.l.getD j default)) off:=fun agg sz off HH=>by rw [load_eptr,if_pos hlt]
   have hm:=cnt_mem (getD_mem (l:=x.l) (j:=j) default hlt)
   have hp:=sum_pre (g:=cnt) x.l j
   have hpp:=cntL_sum x.l
   have hst:=sum_step (g:=cnt) hlt
   rw [hst]
   generalize x.l.getD j default=X at hx1 hm ⊢
   obtain ⟨k,v,tb,nm,op,fn,fl,xs⟩:=X
   have hc:cnt (.mk k v tb nm op fn fl xs)=cntL xs + 1:=by rw [cnt]
   have hcall:=ih (cntL xs) (by omega) (mkS fl xs) (by rw [mkS_l]; exact Nat.le_refl _) (by omega)
   rw [mkS_l] at hcall
   rw [row_mk] at hx1
   simp only [go_sem,reduceIte,Nat.reduceEqDiff,Nat.reduceAdd,Nat.reduceLeDiff,Nat.reduceLT,h0,h3,hi,hji,hj0,and_self,decide_true,tr_ags.ia,Int.toNat_natCast,hx1]
   refine WC_p rfl rfl hcall ?_
   have hw1:IntKind.i64.wrap (1 + ((cntL xs:Nat):Int))=((cntL xs + 1:Nat):Int):=by rw [wrap_in (by omega) (by omega)]; omega
   have hw:=i64_add (a:=((x.l.take j).map cnt).sum) (b:=cntL xs + 1) (by omega)
   simp only [go_sem,reduceIte,Nat.reduceEqDiff,Nat.reduceAdd,Nat.reduceLeDiff,Nat.reduceLT,h0,h3,hi,hwj,hw1,hw,hc]
  ·rintro T' H' n' hf' hi h3 _
   have h0:T' 0 = .s (x.sv Tr.row):=hf' 0 rfl
   clear hf'
   rw [List.take_length,← cntL_sum] at h3
   simp only [go_sem,reduceIte,Nat.reduceEqDiff,Nat.reduceAdd,Nat.reduceLeDiff,Nat.reduceLT,h0,h3,hi,Int.lt_irrefl,decide_false]
section
variable {Q:Type} (z:Q→Nat)
def szIt (x:Itm):Nat:=if x.star=true then 0 else cnt x.e
def szCm (x:CmP Q):Nat:=z x.base + z x.step
def szFr (x:FrP Q):Nat:=(x.q.l.map z).sum
def szMb (x:MbP Q):Nat:=cntL x.ex.l + z x.q
def szQP (q:QP Q):Nat:=1 + (cntL q.wh.l + cntL q.gb.l + (q.wi.l.map (szCm z)).sum + (q.it.l.map szIt).sum + (q.fr.l.map (szFr z)).sum + (q.mb.l.map (szMb z)).sum + (q.hv.l.map fun x=>cnt x.c).sum + (q.ar.l.map z).sum)
end
theorem sum_mono {α:Type} {g c:α→Nat}:∀ {l:List α},(∀ x ∈ l,g x ≤ c x)→(l.map g).sum ≤ (l.map c).sum
 | [],_=>Nat.le_refl _
 | a :: r,h=>by
  have h1:=h a (List.mem_cons_self ..)
  have h2:=sum_mono (l:=r) fun x hx=>h x (List.mem_cons_of_mem _ hx)
  rw [List.map_cons,List.map_cons,List.sum_cons,List.sum_cons]
  omega
theorem sz_le {Q:Type} {z c:Q→Nat} (h:∀ a,z a ≤ c a) (q:QP Q):szQP z q ≤ cntQP c q:=by
 have k1:=sum_mono (g:=szCm z) (c:=cntCm c) (l:=q.wi.l) fun x _=>by have:=h x.base; have:=h x.step; unfold szCm cntCm; omega
 have k2:=sum_mono (g:=szIt) (c:=fun x:Itm=>cnt x.e) (l:=q.it.l) fun x _=>by unfold szIt; split <;> omega
 have k3:=sum_mono (g:=szFr z) (c:=cntFr c) (l:=q.fr.l) fun x _=>by have:=sum_mono (g:=z) (c:=c) (l:=x.q.l) fun y _=>h y; unfold szFr cntFr; omega
 have k4:=sum_mono (g:=szMb z) (c:=cntMb c) (l:=q.mb.l) fun x _=>by have:=h x.q; unfold szMb cntMb; rw [cntL_sum]; omega
 have k5:=sum_mono (g:=fun x:Hv=>cnt x.c) (c:=fun x:Hv=>1 + cnt x.c) (l:=q.hv.l) fun x _=>by omega
 have k6:=sum_mono (g:=z) (c:=c) (l:=q.ar.l) fun y _=>h y
 unfold szQP cntQP
 rw [cntL_sum,cntL_sum]
 omega
end Go.Vm
