/- Chapter 24: the size of a query, by the program. -/
import Derived.Test.YtaepmmmcipolbaaGreatDoorQSfSz
import Derived.Test.YtaepmmmcipolbaaGreatDoorQSfVb
set_option linter.unusedVariables false
set_option linter.unusedSimpArgs false
set_option maxRecDepth 100000
namespace Go.Vm
open Go
theorem parts2s {sz:Nat} {dr:Bool} {H:Ob} {z x y:List SV} {T:Nat→PV} {i j:Nat} (hi:T i = .st x) (hj:T j = .st y) (lx:x.length=sz) (ly:y.length=sz):partsX sz dr H (List.replicate 2 z) (vpX T [(0,.t i),(1,.t j)])=some ([x,y],H):=by
 simp only [vpX_cons,vpX_nil,partsX_cons,partsX_nil,show valX T (.t i) = .st x from hi,show valX T (.t j) = .st y from hj,row1_st lx,row1_st ly,bnd_some]
 rfl
theorem Own.at {α:Type} [Inhabited α] {f:α→List SV} {lo:Nat} {e:TypeId} {sz:Nat} (hf:Ags sz f) {H:Ob} {n:Nat} {p:PV} {l:List α} (h:Own lo e sz H n p (l.map f)) {i:Nat} (hi:i < l.length):∃ q,indexAM (.sl sz) H p (.i64 (i:Nat))=some q ∧ loadM true sz H q=some (.st (f (l.getD i default))):=by
 have hin:(0:Int) ≤ (i:Int) ∧ (i:Int) < (l.length:Int):=⟨by omega,by omega⟩
 rcases h with ⟨_,h2⟩ | ⟨rfl,_⟩ | ⟨id,ver,fz,_,_,rfl,hH⟩
 ·rw [List.map_eq_nil_iff] at h2
  subst h2
  simp at hi
 ·refine ⟨.eptr (l.map f) i 0,?_,hf.load hi⟩
  have:=hf.ia (s := .mk l true) (H:=H) (k := .i64) (i:=(i:Int))
  have e:indexAM (.sl sz) H (.s (.slice (l.map f) true)) (.i64 (i:Nat))=gd (0 ≤ (i:Int) ∧ (i:Int) < (l.length:Int)) (.eptr (l.map f) (i:Int).toNat 0):=this
  rw [e,Int.toNat_natCast]
  unfold gd
  rw [if_pos hin]
 ·refine ⟨.aptr id ver (0 + (i:Int).toNat) 0,?_,?_⟩
  ·show indexAM (.sl sz) H (.hsl id ver 0 (l.map f).length) (.s (.int .i64 (i:Int)))=_
   rw [ia_hsl,hH,iaH_sarr,List.length_map]
   unfold gd
   rw [if_pos ⟨hin.1,hin.2,rfl,rfl,by omega⟩]
  ·rw [load_aptr,hH,loadH_map,if_pos rfl,Int.toNat_natCast,Nat.zero_add,if_pos hi,loadS_t,if_pos (by rw [hf.len]; omega),List.drop_zero,List.take_of_length_le (by rw [hf.len]; omega)]
theorem len_sum' {α:Type} {c:α→Nat}:∀ {l:List α},(∀ x ∈ l,1 ≤ c x)→l.length ≤ (l.map c).sum
 | [],_=>Nat.zero_le _
 | a :: r,h=>by
  have h1:=h a (List.mem_cons_self ..)
  have h2:=len_sum' (l:=r) fun x hx=>h x (List.mem_cons_of_mem _ hx)
  rw [List.length_cons,List.map_cons,List.sum_cons]
  omega
theorem sum_flat {α β:Type} {g:α→List β} {z:β→Nat}:∀ l:List α,((l.flatMap g).map z).sum=(l.map fun x=>((g x).map z).sum).sum
 | []=>rfl
 | a :: r=>by rw [List.flatMap_cons,List.map_append,List.sum_append,sum_flat r,List.map_cons,List.sum_cons]
theorem sum_two {α:Type} (g h:α→Nat):∀ l:List α,(l.map fun x=>g x + h x).sum=(l.map g).sum + (l.map h).sum
 | []=>rfl
 | a :: r=>by rw [List.map_cons,List.map_cons,List.map_cons,List.sum_cons,List.sum_cons,List.sum_cons,sum_two g h r]; omega
section
variable {Q:Type} [Inhabited Q] {f:Q→List SV} (hf:∀ x,(f x).length=10) {z c:Q→Nat} {w:Q→Prop}
 (hz:∀ a,z a ≤ c a)
 (hZ:∀ a,w a→c a ≤ 10000→calL EE 21 [.st (f a)] []=some (.ret (.i64 (z a:Nat)),[]))
omit [Inhabited Q] in
include hf in
theorem clone_ok (x:Slc Q) (hx:x.l.length ≤ 10000) (H:Ob) (n:Nat) (hn:1 ≤ n):∃ v H1 n1,runL EE 65 [.s (x.sv f)] H n=some (.ret v,H1,n1) ∧ (n ≤ n1 ∧ H1 0=H 0 ∧ Own 1 38 10 H1 n1 v (x.l.map f)):=by
 refine fn_run (R:=fun v H1 n1=>n ≤ n1 ∧ H1 0=H 0 ∧ Own 1 38 10 H1 n1 v (x.l.map f)) f65 (by simp) ?_
 unfold c65
 cases x with
 | nil =>
  have e:binM .eql .slice (PV.s SV.nils) (PV.s SV.nils)=some (.s (.bool true)):=rfl
  simp only [go_sem,reduceIte,Nat.reduceEqDiff,Nat.reduceAdd,Nat.reduceLeDiff,Nat.reduceLT,Slc.sv,e]
  exact ⟨by omega,.nil⟩
 | mk l b =>
  have e:binM .eql .slice (PV.s (SV.slice (l.map f) b)) (PV.s SV.nils)=some (.s (.bool false)):=rfl
  have hx:l.length ≤ 10000:=hx
  simp only [go_sem,reduceIte,Nat.reduceEqDiff,Nat.reduceAdd,Nat.reduceLeDiff,Nat.reduceLT,Slc.sv,e]
  refine WX_app (lo:=1) (n:=n) Own.lit rows_slice (fun c hc => ?_) (by rw [List.length_map,List.length_nil]; omega) (by omega) (by omega) ?_
  ·obtain ⟨y,_,rfl⟩:=List.mem_map.1 hc
   exact hf y
  ·intro p1 H2 ho2 hfr2 hof2
   have hH2:=hfr2 0 (by omega) (fun _ _ _ _ h=>by cases h)
   rw [List.nil_append] at ho2
   simp only [go_sem,reduceIte,Nat.reduceEqDiff,Nat.reduceAdd,Nat.reduceLeDiff,Nat.reduceLT]
   exact ⟨by omega,hH2,ho2.kept (by omega) (fun _ _ _=>rfl)⟩
include hf hz hZ in
set_option maxHeartbeats 8000000 in
theorem size_qp (a:QP Q) (ha:wfQP w a) (hn:cntQP c a ≤ 10000) (hc1:∀ a,w a→1 ≤ c a):calL EE 21 [.st (QP.row f a)] []=some (.ret (.i64 (szQP z a:Nat)),[]):=by
 have hsz:=sz_le hz a
 have g1:cntL a.wh.l ≤ 10000:=by unfold cntQP at hn; rw [cntL_sum]; omega
 have g2:cntL a.gb.l ≤ 10000:=by unfold cntQP at hn; rw [cntL_sum]; omega
 have b0:1 + (cntL a.wh.l + cntL a.gb.l + (a.wi.l.map (szCm z)).sum + (a.it.l.map szIt).sum + (a.fr.l.map (szFr z)).sum + (a.mb.l.map (szMb z)).sum + (a.hv.l.map fun x=>cnt x.c).sum + (a.ar.l.map z).sum) ≤ 10000:=Nat.le_trans hsz hn
 have c1:(a.it.l.map fun x:Itm=>cnt x.e).sum ≤ 10000:=by unfold cntQP at hn; omega
 have c2:(a.hv.l.map fun x:Hv=>1 + cnt x.c).sum ≤ 10000:=by unfold cntQP at hn; omega
 have c3:(a.wi.l.map (cntCm c)).sum ≤ 10000:=by unfold cntQP at hn; omega
 have c4:(a.fr.l.map (cntFr c)).sum ≤ 10000:=by unfold cntQP at hn; omega
 have c5:(a.mb.l.map (cntMb c)).sum ≤ 10000:=by unfold cntQP at hn; omega
 have c6:(a.ar.l.map c).sum ≤ 10000:=by unfold cntQP at hn; omega
 have l1:=len_sum' (c:=fun x:Itm=>cnt x.e) (l:=a.it.l) fun x _=>cnt_pos x.e
 have l2:=len_sum' (c:=fun x:Hv=>1 + cnt x.c) (l:=a.hv.l) fun x _=>by omega
 have l3:=len_sum' (c:=cntCm c) (l:=a.wi.l) fun x _=>by unfold cntCm; omega
 have l4:=len_sum' (c:=cntFr c) (l:=a.fr.l) fun x _=>by unfold cntFr; omega
 have l5:=len_sum' (c:=cntMb c) (l:=a.mb.l) fun x hx=>by have:=hc1 _ (ha.mb x hx).2.2; unfold cntMb; omega
 have l6:=len_sum' (c:=c) (l:=a.ar.l) fun x hx=>hc1 _ (ha.ar x hx)
 have e1:=sizes_ok _ a.wh (Nat.le_refl _) g1
 have e2:=sizes_ok _ a.gb (Nat.le_refl _) g2
 refine fn_ok f21 (by simp) ?_
 unfold c21
 unfold QP.row at *
 have w1:IntKind.i64.wrap (1 + ((cntL a.wh.l:Nat):Int))=((1 + cntL a.wh.l:Nat):Int):=by rw [wrap_in (by omega) (by omega)]; omega
 have w2:=i64_add (a:=1 + cntL a.wh.l) (b:=cntL a.gb.l) (by omega)
 simp only [go_sem,reduceIte,Nat.reduceEqDiff,Nat.reduceAdd,Nat.reduceLeDiff,Nat.reduceLT]
 refine WC_p rfl rfl e1 ?_
 simp only [go_sem,reduceIte,Nat.reduceEqDiff,Nat.reduceAdd,Nat.reduceLeDiff,Nat.reduceLT,w1]
 refine WC_p rfl rfl e2 ?_
 simp only [go_sem,reduceIte,Nat.reduceEqDiff,Nat.reduceAdd,Nat.reduceLeDiff,Nat.reduceLT,w1,w2]
 refine WP_scan rfl 28 a.it.l.length (fun _=>True) (fun j T H n=>1 ≤ n ∧ H 0 = .box 38 ((QP.row f a).map .s) ∧ T 3 = .i64 (1 + cntL a.wh.l + cntL a.gb.l + ((a.it.l.take j).map szIt).sum:Nat)) rfl ⟨by decide,rfl,rfl⟩ ?_ ?_
 ·rintro j T' H' n' hlt hf' hi ⟨hn',hH',h3'⟩ _
  have ga:T' 26 = .s (a.it.sv (Itm.row)):=hf' 26 rfl
  have gl:T' 27 = .i64 a.it.l.length:=hf' 27 rfl
  clear hf'
  have hji:(j:Int) < a.it.l.length:=by omega
  have hj0:(0:Int) ≤ j:=by omega
  have hwj:=wrap_suc (j:=j) (by omega)
  have hm:=getD_mem (l:=a.it.l) (j:=j) default hlt
  have hld:=fun HH=>(itm_ags).load (l:=a.it.l) (j:=j) (H:=HH) hlt
  have hia:=fun (s:Slc Itm) (HH:Ob) (kk:IntKind) (ii:Int)=>(itm_ags).ia (s:=s) (H:=HH) (k:=kk) (i:=ii)
  have hst:=sum_step (g:=szIt) hlt
  have hp:=sum_pre (g:=szIt) a.it.l (j + 1)
  rw [hst] at hp
  rw [hst]
  generalize a.it.l.getD j default=X at hld hp ⊢
  have hce:szIt X ≤ 10000:=by omega
  obtain ⟨st,⟨k,v,tb,nm,op,fn,fl,xs⟩,al⟩:=X
  have hr:Itm.row ⟨st,.mk k v tb nm op fn fl xs,al⟩=[.bool st,.int .i64 k,.int .i64 v.kind,.int .i64 v.n,.str v.text,.str tb,.str nm,.int .i64 op,.int .i64 fn,(mkS fl xs).sv Tr.row,.str al]:=by unfold Itm.row; rw [row_mk]; rfl
  rw [hr] at hld
  have hsc:setCells [SV.bool false,.int .i64 0,.int .i64 0,.int .i64 0,.str [],.str [],.str [],.int .i64 0,.int .i64 0,.nils,.str []] 0 [.bool st,.int .i64 k,.int .i64 v.kind,.int .i64 v.n,.str v.text,.str tb,.str nm,.int .i64 op,.int .i64 fn,(mkS fl xs).sv Tr.row,.str al]=[.bool st,.int .i64 k,.int .i64 v.kind,.int .i64 v.n,.str v.text,.str tb,.str nm,.int .i64 op,.int .i64 fn,(mkS fl xs).sv Tr.row,.str al]:=rfl
  have hH2:∀ zz,(H'.set (n' + 1 + 2) zz) 0=H' 0:=fun zz=>by unfold Ob.set; rw [if_neg (by omega)]
  cases st with
  | true =>
   have hs0:szIt ⟨true,.mk k v tb nm op fn fl xs,al⟩=0:=rfl
   simp only [go_sem,reduceIte,Nat.reduceEqDiff,Nat.reduceAdd,Nat.reduceLeDiff,Nat.reduceLT,ga,gl,hi,h3',hji,hj0,and_self,decide_true,hia,Int.toNat_natCast,hld,hsc,hwj,Bool.not_true,hs0,Nat.add_zero,hH']
  | false =>
   have hs0:szIt ⟨false,.mk k v tb nm op fn fl xs,al⟩=cntL xs + 1:=by show cnt (.mk k v tb nm op fn fl xs)=_; rw [cnt]
   rw [hs0] at hp hce ⊢
   have e3:=sizes_ok _ (mkS fl xs) (by rw [mkS_l]; exact Nat.le_refl _) (show cntL xs ≤ 10000 by omega)
   rw [mkS_l] at e3
   simp only [go_sem,reduceIte,Nat.reduceEqDiff,Nat.reduceAdd,Nat.reduceLeDiff,Nat.reduceLT,ga,gl,hi,h3',hji,hj0,and_self,decide_true,hia,Int.toNat_natCast,hld,hsc,Bool.not_false]
   refine WC_p rfl rfl e3 ?_
   have w3:IntKind.i64.wrap (1 + ((cntL xs:Nat):Int))=((cntL xs + 1:Nat):Int):=by rw [wrap_in (by omega) (by omega)]; omega
   have w4:=i64_add (a:=1 + cntL a.wh.l + cntL a.gb.l + ((a.it.l.take j).map szIt).sum) (b:=cntL xs + 1) (by omega)
   simp only [go_sem,reduceIte,Nat.reduceEqDiff,Nat.reduceAdd,Nat.reduceLeDiff,Nat.reduceLT,h3',hi,hwj,w3,w4,hH']
   exact congrArg (fun k:Nat=>PV.i64 (k:Int)) (by omega)
 ·rintro T' H' n' hf' hi ⟨hn',hH',h3'⟩ _
  have g1:T' 1 = .ptr 0 0:=(hf' 1 rfl).trans rfl
  have gl:T' 27 = .i64 a.it.l.length:=hf' 27 rfl
  have k8:=hf' 8 rfl
  clear hf'
  rw [List.take_length] at h3'
  unfold QP.row at hH'
  simp only [go_sem,reduceIte,Nat.reduceEqDiff,Nat.reduceAdd,Nat.reduceLeDiff,Nat.reduceLT,g1,gl,hi,hH',Int.lt_irrefl,decide_false]
  refine WP_scan rfl 46 a.hv.l.length (fun _=>True) (fun j T H n=>1 ≤ n ∧ H 0 = .box 38 ((QP.row f a).map .s) ∧ T 3 = .i64 (1 + cntL a.wh.l + cntL a.gb.l + (a.it.l.map szIt).sum + ((a.hv.l.take j).map fun x:Hv=>cnt x.c).sum:Nat)) rfl ⟨by omega,hH',h3'⟩ ?_ ?_
  ·rintro j T' H' n' hlt hf' hi ⟨hn',hH',h3'⟩ _
   have ga:T' 44 = .s (a.hv.sv (Hv.row)):=hf' 44 rfl
   have gl:T' 45 = .i64 a.hv.l.length:=hf' 45 rfl
   clear hf'
   have hji:(j:Int) < a.hv.l.length:=by omega
   have hj0:(0:Int) ≤ j:=by omega
   have hwj:=wrap_suc (j:=j) (by omega)
   have hm:=getD_mem (l:=a.hv.l) (j:=j) default hlt
   have hld:=fun HH=>(hv_ags).load (l:=a.hv.l) (j:=j) (H:=HH) hlt
   have hia:=fun (s:Slc Hv) (HH:Ob) (kk:IntKind) (ii:Int)=>(hv_ags).ia (s:=s) (H:=HH) (k:=kk) (i:=ii)
   have hst:=sum_step (g:=fun x:Hv=>cnt x.c) hlt
   have hp:=sum_pre (g:=fun x:Hv=>cnt x.c) a.hv.l (j + 1)
   rw [hst] at hp
   rw [hst]
   generalize a.hv.l.getD j default=X at hld hp ⊢
   obtain ⟨⟨k,v,tb,nm,op,fn,fl,xs⟩,hop,b⟩:=X
   have hr:Hv.row ⟨.mk k v tb nm op fn fl xs,hop,b⟩=[.int .i64 k,.int .i64 v.kind,.int .i64 v.n,.str v.text,.str tb,.str nm,.int .i64 op,.int .i64 fn,(mkS fl xs).sv Tr.row,.int .i64 hop,.int .i64 b.kind,.int .i64 b.n,.str b.text]:=by unfold Hv.row; rw [row_mk]; rfl
   rw [hr] at hld
   have hsc:setCells [SV.int .i64 0,.int .i64 0,.int .i64 0,.str [],.str [],.str [],.int .i64 0,.int .i64 0,.nils,.int .i64 0,.int .i64 0,.int .i64 0,.str []] 0 [.int .i64 k,.int .i64 v.kind,.int .i64 v.n,.str v.text,.str tb,.str nm,.int .i64 op,.int .i64 fn,(mkS fl xs).sv Tr.row,.int .i64 hop,.int .i64 b.kind,.int .i64 b.n,.str b.text]=[.int .i64 k,.int .i64 v.kind,.int .i64 v.n,.str v.text,.str tb,.str nm,.int .i64 op,.int .i64 fn,(mkS fl xs).sv Tr.row,.int .i64 hop,.int .i64 b.kind,.int .i64 b.n,.str b.text]:=rfl
   have hs0:cnt (.mk k v tb nm op fn fl xs)=cntL xs + 1:=by rw [cnt]
   have hp:_ + cnt (.mk k v tb nm op fn fl xs) ≤ _:=hp
   show WP EE _ _ _ _ (contQ _ _ _ (fun T H n=>1 ≤ n ∧ H 0 = .box 38 ((QP.row f a).map .s) ∧ T 3 = .i64 (1 + cntL a.wh.l + cntL a.gb.l + (a.it.l.map szIt).sum + (((a.hv.l.take j).map fun x:Hv=>cnt x.c).sum + cnt (.mk k v tb nm op fn fl xs)):Nat)) _)
   rw [hs0] at hp ⊢
   have e3:=sizes_ok _ (mkS fl xs) (by rw [mkS_l]; exact Nat.le_refl _) (show cntL xs ≤ 10000 by omega)
   rw [mkS_l] at e3
   simp only [go_sem,reduceIte,Nat.reduceEqDiff,Nat.reduceAdd,Nat.reduceLeDiff,Nat.reduceLT,ga,gl,hi,h3',hji,hj0,and_self,decide_true,hia,Int.toNat_natCast,hld,hsc]
   refine WC_p rfl rfl e3 ?_
   have w3:IntKind.i64.wrap (1 + ((cntL xs:Nat):Int))=((cntL xs + 1:Nat):Int):=by rw [wrap_in (by omega) (by omega)]; omega
   have w4:=i64_add (a:=1 + cntL a.wh.l + cntL a.gb.l + (a.it.l.map szIt).sum + ((a.hv.l.take j).map fun x:Hv=>cnt x.c).sum) (b:=cntL xs + 1) (by omega)
   simp only [go_sem,reduceIte,Nat.reduceEqDiff,Nat.reduceAdd,Nat.reduceLeDiff,Nat.reduceLT,h3',hi,hwj,w3,w4,hH']
   exact congrArg (fun k:Nat=>PV.i64 (k:Int)) (by omega)
  ·rintro T' H' n' hf' hi ⟨hn',hH',h3'⟩ _
   have g1:T' 1 = .ptr 0 0:=(hf' 1 rfl).trans g1
   have gl:T' 45 = .i64 a.hv.l.length:=hf' 45 rfl
   have k8:=hf' 8 rfl
   clear hf'
   rw [List.take_length] at h3'
   unfold QP.row at hH'
   simp only [go_sem,reduceIte,Nat.reduceEqDiff,Nat.reduceAdd,Nat.reduceLeDiff,Nat.reduceLT,g1,gl,hi,hH',Int.lt_irrefl,decide_false]
   refine WC_run rfl (clone_ok hf a.ar (by omega) H' _ (by omega)) ?_
   rintro v H1 n1 ⟨hn1,hH1,ho1⟩
   rw [hH'] at hH1
   simp only [go_sem,reduceIte,Nat.reduceEqDiff,Nat.reduceAdd,Nat.reduceLeDiff,Nat.reduceLT,g1,hH1]
   have hfl:(a.wi.l.flatMap fun x=>[x.base,x.step]).length=2 * a.wi.l.length:=by
    generalize a.wi.l=l
    induction l with
    | nil=>rfl
    | cons x r ih=>rw [List.flatMap_cons,List.length_append,ih,List.length_cons]; simp; omega
   have hfm:∀ l:List (FrP Q),(∀ x ∈ l,wfFr w x)→(l.flatMap fun x=>x.q.l).length ≤ (l.map (cntFr c)).sum:=by
    intro l hl
    induction l with
    | nil=>exact Nat.zero_le _
    | cons x r ih =>
     have h1:=ih fun y hy=>hl y (List.mem_cons_of_mem _ hy)
     have h2:=len_sum' (c:=c) (l:=x.q.l) fun y hy=>hc1 y ((hl x (List.mem_cons_self ..)).2 y hy)
     rw [List.flatMap_cons,List.length_append,List.map_cons,List.sum_cons]
     unfold cntFr
     unfold cntFr at h1
     omega
   have hfm2:=hfm a.fr.l ha.fr
   have k3:T' 3 = .i64 (1 + cntL a.wh.l + cntL a.gb.l + (a.it.l.map szIt).sum + (a.hv.l.map fun x=>cnt x.c).sum:Nat):=h3'
   refine WP_scan rfl 64 a.wi.l.length (fun _=>True) (fun j T H n=>1 ≤ n ∧ H 0 = .box 38 ((QP.row f a).map .s) ∧ T 3 = .i64 (1 + cntL a.wh.l + cntL a.gb.l + (a.it.l.map szIt).sum + (a.hv.l.map fun x=>cnt x.c).sum:Nat) ∧ Own 1 38 10 H n (T 8) ((a.ar.l ++ (a.wi.l.take j).flatMap (fun x=>[x.base,x.step])).map f)) rfl ⟨by omega,hH1,k3,by rw [List.take_zero,List.flatMap_nil,List.append_nil]; exact ho1.kept (by omega) (fun _ _ _=>rfl)⟩ ?_ ?_
   ·rintro j T' H' n' hlt hf' hi ⟨hn',hH',h3',ho'⟩ _
    have ga:T' 62 = .s (a.wi.sv (CmP.row f)):=hf' 62 rfl
    have gl:T' 63 = .i64 a.wi.l.length:=hf' 63 rfl
    clear hf'
    have hji:(j:Int) < a.wi.l.length:=by omega
    have hj0:(0:Int) ≤ j:=by omega
    have hwj:=wrap_suc (j:=j) (by omega)
    have hm:=getD_mem (l:=a.wi.l) (j:=j) default hlt
    have hld:=fun HH=>(cm_ags hf).load (l:=a.wi.l) (j:=j) (H:=HH) hlt
    have hia:=fun (s:Slc (CmP Q)) (HH:Ob) (kk:IntKind) (ii:Int)=>(cm_ags hf).ia (s:=s) (H:=HH) (k:=kk) (i:=ii)
    have hnx:(a.ar.l ++ (a.wi.l.take (j + 1)).flatMap (fun x=>[x.base,x.step])).map f=(a.ar.l ++ (a.wi.l.take j).flatMap (fun x=>[x.base,x.step])).map f ++ [f (a.wi.l.getD j default).base,f (a.wi.l.getD j default).step]:=by
     rw [take_step default hlt]; simp
    rw [hnx]
    have hle:((a.ar.l ++ (a.wi.l.take j).flatMap fun x=>[x.base,x.step]).map f).length ≤ 100000:=by
     have:=congrArg List.length (show (a.wi.l.flatMap fun x=>[x.base,x.step])=((a.wi.l.take j).flatMap fun x=>[x.base,x.step]) ++ ((a.wi.l.drop j).flatMap fun x=>[x.base,x.step]) by rw [← List.flatMap_append,List.take_append_drop])
     rw [List.length_append] at this
     rw [List.length_map,List.length_append]
     omega
    generalize (a.ar.l ++ (a.wi.l.take j).flatMap fun x=>[x.base,x.step]).map f=rows at ho' hle ⊢
    have lx:=cm_len hf (a.wi.l.getD j default)
    generalize a.wi.l.getD j default=X at hld lx ⊢
    obtain ⟨nm,co,bs,st⟩:=X
    obtain ⟨t1,t2,t3,t4,t5⟩:=two10 hf bs st
    have lb:=hf bs
    have ls:=hf st
    have hrow:CmP.row f ⟨nm,co,bs,st⟩ = .str nm :: co.sv txRow :: (f bs ++ f st):=rfl
    have hsa:=setCells_all (show ([.str [],.nils,.int .i64 0,.nils,.bool false,.nils,.nils,.nils,.nils,.nils,.nils,.nils,.int .i64 0,.nils,.bool false,.nils,.nils,.nils,.nils,.nils,.nils,.nils]:List SV).length=(CmP.row f ⟨nm,co,bs,st⟩).length by rw [lx]; rfl)
    rw [hrow] at hsa hld lx
    have hsc:setCells [.str nm,co.sv txRow,.int .i64 0,.nils,.bool false,.nils,.nils,.nils,.nils,.nils,.nils,.nils,.int .i64 0,.nils,.bool false,.nils,.nils,.nils,.nils,.nils,.nils,.nils] 2 (f bs ++ f st) = .str nm :: co.sv txRow :: (f bs ++ f st):=hsa
    simp only [go_sem,reduceIte,Nat.reduceEqDiff,Nat.reduceAdd,Nat.reduceLeDiff,Nat.reduceLT,ga,gl,hi,hji,hj0,and_self,decide_true,hia,Int.toNat_natCast,hld]
    refine ⟨t4,?_⟩
    simp only [go_sem,reduceIte,Nat.reduceEqDiff,Nat.reduceAdd,Nat.reduceLeDiff,Nat.reduceLT,hsc,List.drop_succ_cons,List.drop_zero,List.length_cons,t1,t2,t3,t4,t5]
    rw [rowsN,parts2s (sz:=10) (x:=f bs) (y:=f st) rfl rfl lb ls,WX_some]
    simp only [go_sem,reduceIte,Nat.reduceEqDiff,Nat.reduceAdd,Nat.reduceLeDiff,Nat.reduceLT]
    have ho2:∀ zz,Own 1 38 10 (H'.set (n' + 1 + 2) zz) n' (T' 8) rows:=fun zz=>ho'.kept (Nat.le_refl _) (fun j _ hj=>by unfold Ob.set; rw [if_neg (by omega)])
    have hs0:∀ zz,(H'.set (n' + 1 + 2) zz) 0=H' 0:=fun zz=>by unfold Ob.set; rw [if_neg (by omega)]
    refine WX_app (ho2 _) rows_slice (fun c hc=>by simp at hc; rcases hc with rfl | rfl <;> assumption) (by simp only [List.length_cons,List.length_nil]; omega) (by omega) (by omega) ?_
    intro p1 H2 ho3 hfr2 hof2
    have hH2:=(hfr2 0 (by omega) (ho'.off (.inl (by omega)))).trans ((hs0 _).trans hH')
    simp only [go_sem,reduceIte,Nat.reduceEqDiff,Nat.reduceAdd,Nat.reduceLeDiff,Nat.reduceLT,hi,hwj]
    exact ⟨hH2,h3',ho3.kept (by omega) (fun _ _ _=>rfl)⟩
   ·rintro T' H' n' hf' hi ⟨hn',hH',h3',ho'⟩ _
    have g1:T' 1 = .ptr 0 0:=(hf' 1 rfl).trans g1
    have gl:T' 63 = .i64 a.wi.l.length:=hf' 63 rfl
    skip
    clear hf'
    rw [List.take_length] at ho'
    unfold QP.row at hH'
    simp only [go_sem,reduceIte,Nat.reduceEqDiff,Nat.reduceAdd,Nat.reduceLeDiff,Nat.reduceLT,g1,gl,hi,hH',Int.lt_irrefl,decide_false]
    refine WP_scan rfl 79 a.fr.l.length (fun _=>True) (fun j T H n=>1 ≤ n ∧ H 0 = .box 38 ((QP.row f a).map .s) ∧ T 3 = .i64 (1 + cntL a.wh.l + cntL a.gb.l + (a.it.l.map szIt).sum + (a.hv.l.map fun x=>cnt x.c).sum:Nat) ∧ Own 1 38 10 H n (T 8) ((a.ar.l ++ a.wi.l.flatMap (fun x=>[x.base,x.step]) ++ (a.fr.l.take j).flatMap (fun x=>x.q.l)).map f)) rfl ⟨by omega,hH',h3',by rw [List.take_zero,List.flatMap_nil,List.append_nil]; exact ho'.kept (by omega) (fun _ _ _=>rfl)⟩ ?_ ?_
    ·rintro j T' H' n' hlt hf' hi ⟨hn',hH',h3',ho'⟩ _
     have ga:T' 77 = .s (a.fr.sv (FrP.row f)):=hf' 77 rfl
     have gl:T' 78 = .i64 a.fr.l.length:=hf' 78 rfl
     clear hf'
     have hji:(j:Int) < a.fr.l.length:=by omega
     have hj0:(0:Int) ≤ j:=by omega
     have hwj:=wrap_suc (j:=j) (by omega)
     have hm:=getD_mem (l:=a.fr.l) (j:=j) default hlt
     have hld:=fun HH=>(fr_ags (f:=f)).load (l:=a.fr.l) (j:=j) (H:=HH) hlt
     have hia:=fun (s:Slc (FrP Q)) (HH:Ob) (kk:IntKind) (ii:Int)=>(fr_ags (f:=f)).ia (s:=s) (H:=HH) (k:=kk) (i:=ii)
     have hnx:(a.ar.l ++ a.wi.l.flatMap (fun x=>[x.base,x.step]) ++ (a.fr.l.take (j + 1)).flatMap (fun x=>x.q.l)).map f=(a.ar.l ++ a.wi.l.flatMap (fun x=>[x.base,x.step]) ++ (a.fr.l.take j).flatMap (fun x=>x.q.l)).map f ++ (a.fr.l.getD j default).q.l.map f:=by
      rw [take_step default hlt]; simp
     rw [hnx]
     have hle:((a.ar.l ++ a.wi.l.flatMap (fun x=>[x.base,x.step]) ++ (a.fr.l.take j).flatMap fun x=>x.q.l).map f).length ≤ 100000:=by
      have:=congrArg List.length (show (a.fr.l.flatMap fun x=>x.q.l)=((a.fr.l.take j).flatMap fun x=>x.q.l) ++ ((a.fr.l.drop j).flatMap fun x=>x.q.l) by rw [← List.flatMap_append,List.take_append_drop])
      rw [List.length_append] at this
      rw [List.length_map,List.length_append,List.length_append]
      omega
     generalize (a.ar.l ++ a.wi.l.flatMap (fun x=>[x.base,x.step]) ++ (a.fr.l.take j).flatMap fun x=>x.q.l).map f=rows at ho' hle ⊢
     have hql:=len_sum' (c:=c) (l:=(a.fr.l.getD j default).q.l) fun y hy=>hc1 y ((ha.fr _ hm).2 y hy)
     have hcs:=sum_le1 (g:=cntFr c) hm
     have hql2:(a.fr.l.getD j default).q.l.length ≤ 10000:=by unfold cntFr at hcs; unfold cntFr at c4; omega
     clear hql hcs
     generalize a.fr.l.getD j default=X at hld hql2 ⊢
     obtain ⟨nm,al,qs⟩:=X
     have hql2:qs.l.length ≤ 10000:=hql2
     have hrow:FrP.row f ⟨nm,al,qs⟩=[.str nm,.str al,qs.sv f]:=rfl
     rw [hrow] at hld
     have hsc:setCells [SV.str [],SV.str [],SV.nils] 0 [.str nm,.str al,qs.sv f]=[.str nm,.str al,qs.sv f]:=rfl
     simp only [go_sem,reduceIte,Nat.reduceEqDiff,Nat.reduceAdd,Nat.reduceLeDiff,Nat.reduceLT,ga,gl,hi,hji,hj0,and_self,decide_true,hia,Int.toNat_natCast,hld,hsc]
     have ho2:∀ zz,Own 1 38 10 (H'.set (n' + 1 + 2) zz) n' (T' 8) rows:=fun zz=>ho'.kept (Nat.le_refl _) (fun j _ hj=>by unfold Ob.set; rw [if_neg (by omega)])
     have hs0:∀ zz,(H'.set (n' + 1 + 2) zz) 0=H' 0:=fun zz=>by unfold Ob.set; rw [if_neg (by omega)]
     refine WX_app (ho2 _) rows_sv (fun c hc=>by obtain ⟨y,_,rfl⟩:=List.mem_map.1 hc; exact hf y) (by rw [List.length_map]; omega) (by omega) (by omega) ?_
     intro p1 H2 ho3 hfr2 hof2
     have hH2:=(hfr2 0 (by omega) (ho'.off (.inl (by omega)))).trans ((hs0 _).trans hH')
     simp only [go_sem,reduceIte,Nat.reduceEqDiff,Nat.reduceAdd,Nat.reduceLeDiff,Nat.reduceLT,hi,hwj]
     exact ⟨hH2,h3',ho3.kept (by omega) (fun _ _ _=>rfl)⟩
    ·rintro T' H' n' hf' hi ⟨hn',hH',h3',ho'⟩ _
     have g1:T' 1 = .ptr 0 0:=(hf' 1 rfl).trans g1
     have gl:T' 78 = .i64 a.fr.l.length:=hf' 78 rfl
     skip
     clear hf'
     rw [List.take_length] at ho'
     unfold QP.row at hH'
     simp only [go_sem,reduceIte,Nat.reduceEqDiff,Nat.reduceAdd,Nat.reduceLeDiff,Nat.reduceLT,g1,gl,hi,hH',Int.lt_irrefl,decide_false]
     refine WP_scan rfl 91 a.mb.l.length (fun _=>True) (fun j T H n=>1 ≤ n ∧ H 0 = .box 38 ((QP.row f a).map .s) ∧ T 3 = .i64 (1 + cntL a.wh.l + cntL a.gb.l + (a.it.l.map szIt).sum + (a.hv.l.map fun x=>cnt x.c).sum + ((a.mb.l.take j).map fun x:MbP Q=>cntL x.ex.l).sum:Nat) ∧ Own 1 38 10 H n (T 8) ((a.ar.l ++ a.wi.l.flatMap (fun x=>[x.base,x.step]) ++ a.fr.l.flatMap (fun x=>x.q.l) ++ (a.mb.l.take j).map (fun x=>x.q)).map f)) rfl ⟨by omega,hH',h3',by rw [List.take_zero,List.map_nil,List.append_nil]; exact ho'.kept (by omega) (fun _ _ _=>rfl)⟩ ?_ ?_
     ·rintro j T' H' n' hlt hf' hi ⟨hn',hH',h3',ho'⟩ _
      have ga:T' 89 = .s (a.mb.sv (MbP.row f)):=hf' 89 rfl
      have gl:T' 90 = .i64 a.mb.l.length:=hf' 90 rfl
      clear hf'
      have hji:(j:Int) < a.mb.l.length:=by omega
      have hj0:(0:Int) ≤ j:=by omega
      have hwj:=wrap_suc (j:=j) (by omega)
      have hm:=getD_mem (l:=a.mb.l) (j:=j) default hlt
      have hld:=fun HH=>(mb_ags hf).load (l:=a.mb.l) (j:=j) (H:=HH) hlt
      have hia:=fun (s:Slc (MbP Q)) (HH:Ob) (kk:IntKind) (ii:Int)=>(mb_ags hf).ia (s:=s) (H:=HH) (k:=kk) (i:=ii)
      have hnx:(a.ar.l ++ a.wi.l.flatMap (fun x=>[x.base,x.step]) ++ a.fr.l.flatMap (fun x=>x.q.l) ++ (a.mb.l.take (j + 1)).map (fun x=>x.q)).map f=(a.ar.l ++ a.wi.l.flatMap (fun x=>[x.base,x.step]) ++ a.fr.l.flatMap (fun x=>x.q.l) ++ (a.mb.l.take j).map (fun x=>x.q)).map f ++ [f (a.mb.l.getD j default).q]:=by
       rw [take_step default hlt]; simp
      rw [hnx]
      have hst:=sum_step (g:=fun x:MbP Q=>cntL x.ex.l) hlt
      have hp:=sum_pre (g:=fun x:MbP Q=>cntL x.ex.l) a.mb.l (j + 1)
      rw [hst] at hp
      rw [hst]
      have hle:((a.ar.l ++ a.wi.l.flatMap (fun x=>[x.base,x.step]) ++ a.fr.l.flatMap (fun x=>x.q.l) ++ (a.mb.l.take j).map fun x=>x.q).map f).length ≤ 100000:=by rw [List.length_map,List.length_append,List.length_append,List.length_append,List.length_map,List.length_take]; omega
      generalize (a.ar.l ++ a.wi.l.flatMap (fun x=>[x.base,x.step]) ++ a.fr.l.flatMap (fun x=>x.q.l) ++ (a.mb.l.take j).map fun x=>x.q).map f=rows at ho' hle ⊢
      have lx:=mb_len hf (a.mb.l.getD j default)
      have smb:=sum_mono (g:=fun x:MbP Q=>cntL x.ex.l) (c:=szMb z) (l:=a.mb.l) fun x _=>by unfold szMb; omega
      generalize a.mb.l.getD j default=X at hld lx hp ⊢
      obtain ⟨no,ex,mq⟩:=X
      have hp:_ + cntL ex.l ≤ _:=hp
      have lq:=hf mq
      have t3:List.take 10 (f mq)=f mq:=List.take_of_length_le (by omega)
      have e3:=sizes_ok _ ex (Nat.le_refl _) (show cntL ex.l ≤ 10000 by omega)
      have hrow:MbP.row f ⟨no,ex,mq⟩ = .bool no :: ex.sv Tr.row :: f mq:=rfl
      have hsa:=setCells_all (show ([.bool false,.nils,.int .i64 0,.nils,.bool false,.nils,.nils,.nils,.nils,.nils,.nils,.nils]:List SV).length=(MbP.row f ⟨no,ex,mq⟩).length by rw [lx]; rfl)
      rw [hrow] at hsa hld lx
      have hsc:setCells [.bool no,ex.sv Tr.row,.int .i64 0,.nils,.bool false,.nils,.nils,.nils,.nils,.nils,.nils,.nils] 2 (f mq) = .bool no :: ex.sv Tr.row :: f mq:=hsa
      simp only [go_sem,reduceIte,Nat.reduceEqDiff,Nat.reduceAdd,Nat.reduceLeDiff,Nat.reduceLT,ga,gl,hi,hji,hj0,and_self,decide_true,hia,Int.toNat_natCast,hld]
      refine ⟨lq,?_⟩
      simp only [go_sem,reduceIte,Nat.reduceEqDiff,Nat.reduceAdd,Nat.reduceLeDiff,Nat.reduceLT,hsc]
      refine WC_p rfl rfl e3 ?_
      have w4:=i64_add (a:=1 + cntL a.wh.l + cntL a.gb.l + (a.it.l.map szIt).sum + (a.hv.l.map fun x=>cnt x.c).sum + ((a.mb.l.take j).map fun x:MbP Q=>cntL x.ex.l).sum) (b:=cntL ex.l) (by omega)
      simp only [go_sem,reduceIte,Nat.reduceEqDiff,Nat.reduceAdd,Nat.reduceLeDiff,Nat.reduceLT,h3',w4,hsc,List.drop_succ_cons,List.drop_zero,List.length_cons,lq,t3,row1_st]
      have ho2:∀ zz,Own 1 38 10 (H'.set (n' + 1 + 2) zz) n' (T' 8) rows:=fun zz=>ho'.kept (Nat.le_refl _) (fun j _ hj=>by unfold Ob.set; rw [if_neg (by omega)])
      have hs0:∀ zz,(H'.set (n' + 1 + 2) zz) 0=H' 0:=fun zz=>by unfold Ob.set; rw [if_neg (by omega)]
      refine WX_app (ho2 _) rows_slice (fun c hc=>by simp at hc; rw [hc]; exact lq) (by simp only [List.length_cons,List.length_nil]; omega) (by omega) (by omega) ?_
      intro p1 H2 ho3 hfr2 hof2
      have hH2:=(hfr2 0 (by omega) (ho'.off (.inl (by omega)))).trans ((hs0 _).trans hH')
      simp only [go_sem,reduceIte,Nat.reduceEqDiff,Nat.reduceAdd,Nat.reduceLeDiff,Nat.reduceLT,hi,hwj]
      exact ⟨hH2,congrArg (fun k:Nat=>PV.i64 (k:Int)) (by omega),ho3.kept (by omega) (fun _ _ _=>rfl)⟩
     ·rintro T' H' n' hf' hi ⟨hn',hH',h3',ho'⟩ _
      have g1:T' 1 = .ptr 0 0:=(hf' 1 rfl).trans g1
      have gl:T' 90 = .i64 a.mb.l.length:=hf' 90 rfl
      skip
      clear hf'
      rw [List.take_length] at h3'
      rw [List.take_length] at ho'
      unfold QP.row at hH'
      simp only [go_sem,reduceIte,Nat.reduceEqDiff,Nat.reduceAdd,Nat.reduceLeDiff,Nat.reduceLT,g1,gl,hi,hH',Int.lt_irrefl,decide_false]
      have hsum:((a.ar.l ++ a.wi.l.flatMap (fun x=>[x.base,x.step]) ++ a.fr.l.flatMap (fun x=>x.q.l) ++ a.mb.l.map (fun x=>x.q)).map z).sum=(a.ar.l.map z).sum + (a.wi.l.map (szCm z)).sum + (a.fr.l.map (szFr z)).sum + (a.mb.l.map fun x=>z x.q).sum:=by
       rw [List.map_append,List.map_append,List.map_append,List.sum_append,List.sum_append,List.sum_append,sum_flat,sum_flat,List.map_map]
       have e1:(fun x:CmP Q=>([x.base,x.step].map z).sum)=szCm z:=by
        funext x
        show z x.base + (z x.step + 0)=z x.base + z x.step
        omega
       rw [e1]
       rfl
      have hsm:(a.mb.l.map (szMb z)).sum=(a.mb.l.map fun x:MbP Q=>cntL x.ex.l).sum + (a.mb.l.map fun x=>z x.q).sum:=sum_two _ _ a.mb.l
      have hmem:∀ y ∈ a.ar.l ++ a.wi.l.flatMap (fun x=>[x.base,x.step]) ++ a.fr.l.flatMap (fun x=>x.q.l) ++ a.mb.l.map (fun x=>x.q),w y ∧ c y ≤ 10000:=by
       intro y hy
       simp only [List.mem_append,List.mem_flatMap,List.mem_map] at hy
       rcases hy with ((hy | ⟨x,hx,hy⟩) | ⟨x,hx,hy⟩) | ⟨x,hx,rfl⟩
       ·exact ⟨ha.ar y hy,by have:=sum_le1 (g:=c) hy; omega⟩
       ·have k1:=sum_le1 (g:=cntCm c) hx
        have k2:c x.base + c x.step ≤ cntCm c x:=by unfold cntCm; omega
        have hy:y=x.base ∨ y=x.step:=by simpa using hy
        rcases hy with rfl | rfl
        ·exact ⟨(ha.wi x hx).2.1,by omega⟩
        ·exact ⟨(ha.wi x hx).2.2,by omega⟩
       ·have k1:=sum_le1 (g:=cntFr c) hx
        have k2:(x.q.l.map c).sum ≤ cntFr c x:=by unfold cntFr; omega
        have k3:=sum_le1 (g:=c) hy
        exact ⟨(ha.fr x hx).2 y hy,by omega⟩
       ·have k1:=sum_le1 (g:=cntMb c) hx
        have k2:c x.q ≤ cntMb c x:=by unfold cntMb; omega
        exact ⟨(ha.mb x hx).2.2,by omega⟩
      have hll:(a.ar.l ++ a.wi.l.flatMap (fun x=>[x.base,x.step]) ++ a.fr.l.flatMap (fun x=>x.q.l) ++ a.mb.l.map (fun x=>x.q)).length ≤ 100000:=by rw [List.length_append,List.length_append,List.length_append,List.length_map]; omega
      have htot:szQP z a=1 + cntL a.wh.l + cntL a.gb.l + (a.it.l.map szIt).sum + (a.hv.l.map fun x=>cnt x.c).sum + (a.mb.l.map fun x:MbP Q=>cntL x.ex.l).sum + ((a.ar.l ++ a.wi.l.flatMap (fun x=>[x.base,x.step]) ++ a.fr.l.flatMap (fun x=>x.q.l) ++ a.mb.l.map (fun x=>x.q)).map z).sum:=by
       rw [hsum]
       unfold szQP
       omega
      rw [htot]
      have hb:1 + cntL a.wh.l + cntL a.gb.l + (a.it.l.map szIt).sum + (a.hv.l.map fun x=>cnt x.c).sum + (a.mb.l.map fun x:MbP Q=>cntL x.ex.l).sum + ((a.ar.l ++ a.wi.l.flatMap (fun x=>[x.base,x.step]) ++ a.fr.l.flatMap (fun x=>x.q.l) ++ a.mb.l.map (fun x=>x.q)).map z).sum ≤ 10000:=by rw [← htot]; exact Nat.le_trans hsz hn
      generalize 1 + cntL a.wh.l + cntL a.gb.l + (a.it.l.map szIt).sum + (a.hv.l.map fun x=>cnt x.c).sum + (a.mb.l.map fun x:MbP Q=>cntL x.ex.l).sum=N4 at h3' hb ⊢
      generalize a.ar.l ++ a.wi.l.flatMap (fun x=>[x.base,x.step]) ++ a.fr.l.flatMap (fun x=>x.q.l) ++ a.mb.l.map (fun x=>x.q)=L at ho' hmem hll hb ⊢
      have hlen:=ho'.len (k:=0)
      rw [List.length_map] at hlen
      rw [hlen,WX_some]
      refine WP_scan rfl 108 L.length (fun _=>True) (fun j T H n=>1 ≤ n ∧ T 3 = .i64 (N4 + ((L.take j).map z).sum:Nat) ∧ Own 1 38 10 H n (T 106) (L.map f)) rfl ⟨by omega,h3',ho'.kept (by omega) (fun _ _ _=>rfl)⟩ ?_ ?_
      ·rintro j T2 H2 n2 hlt hf2 hi2 ⟨hn2,h32,ho2⟩ _
       have g107:T2 107 = .i64 L.length:=hf2 107 rfl
       clear hf2
       have hji:(j:Int) < L.length:=by omega
       have hj0:(0:Int) ≤ j:=by omega
       have hwj:=wrap_suc (j:=j) (by omega)
       obtain ⟨q,hq1,hq2⟩:=Own.at (q_ags hf) ho2 hlt
       obtain ⟨m1,m2⟩:=hmem _ (getD_mem (l:=L) (j:=j) default hlt)
       have hst:=sum_step (g:=z) hlt
       have hp:=sum_pre (g:=z) L (j + 1)
       rw [hst] at hp
       rw [hst]
       have e3:=hZ _ m1 m2
       generalize L.getD j default=X at hq2 e3 hp ⊢
       have lx:=hf X
       have tx:List.take 10 (f X)=f X:=List.take_of_length_le (by omega)
       have hsc:=setCells_all (show ([.int .i64 0,.nils,.bool false,.nils,.nils,.nils,.nils,.nils,.nils,.nils]:List SV).length=(f X).length by rw [lx]; rfl)
       generalize hp6:T2 106=p6 at hq1 ho2
       simp only [go_sem,reduceIte,Nat.reduceEqDiff,Nat.reduceAdd,Nat.reduceLeDiff,Nat.reduceLT,g107,hp6,hi2,h32,hji,hj0,and_self,decide_true,hq1,hq2,hsc,lx,tx]
       refine WC_p rfl (by rw [pure_st]; rfl) e3 ?_
       have w4:=i64_add (a:=N4 + ((L.take j).map z).sum) (b:=z X) (by omega)
       simp only [go_sem,reduceIte,Nat.reduceEqDiff,Nat.reduceAdd,Nat.reduceLeDiff,Nat.reduceLT,h32,w4,hi2,hwj,hp6]
       exact ⟨congrArg (fun k:Nat=>PV.i64 (k:Int)) (by omega),ho2.kept (by omega) (fun j _ hj=>by unfold Ob.set; rw [if_neg (by omega)])⟩
      ·rintro T2 H2 n2 hf2 hi2 ⟨hn2,h32,ho2⟩ _
       have g107:T2 107 = .i64 L.length:=hf2 107 rfl
       clear hf2
       rw [List.take_length] at h32
       simp only [go_sem,reduceIte,Nat.reduceEqDiff,Nat.reduceAdd,Nat.reduceLeDiff,Nat.reduceLT,g107,h32,hi2,Int.lt_irrefl,decide_false]
end
end Go.Vm
