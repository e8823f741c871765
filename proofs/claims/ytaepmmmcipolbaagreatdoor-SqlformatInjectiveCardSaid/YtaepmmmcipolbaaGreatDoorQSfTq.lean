/- Chapter 24: the program's texts of SELECT queries. -/
import Derived.Test.YtaepmmmcipolbaaGreatDoorQSfTp
set_option linter.unusedVariables false
set_option linter.unusedSimpArgs false
set_option maxRecDepth 100000
namespace Go.Vm
open List renaming length_append→lA,length_cons→lB,length_nil→lC
open Nat renaming reduceEqDiff→rA,reduceAdd→rB,reduceLeDiff→rC,reduceLT→rD
open Go
def headS:Nat→SC→SC
 | 0,.seq a _=>a
 | k + 1,.seq _ b=>headS k b
 | _,c=>c
def tailS:Nat→SC→SC
 | 0,c=>c
 | k + 1,.seq _ b=>tailS k b
 | _,c=>c
def selt3:SC:=tailS 3 c142
def selt7:SC:=tailS 7 c142
def selt8:SC:=tailS 8 c142
def selt9:SC:=tailS 9 c142
theorem sel_e0:c142 = .seq (headS 0 c142) (.seq (headS 1 c142) (.seq (headS 2 c142) selt3)):=rfl
theorem sel_e3:selt3 = .seq (headS 3 c142) (.seq (headS 4 c142) (.seq (headS 5 c142) (.seq (headS 6 c142) selt7))):=rfl
theorem sel_e7:selt7 = .seq (headS 7 c142) selt8:=rfl
theorem sel_e8:selt8 = .seq (headS 8 c142) selt9:=rfl
section
variable {Q:Type} [Inhabited Q] {f:Q→List SV} (hf:∀ x,(f x).length=10) {tq:Q→List UInt8} {kd:Q→Int} {c:Q→Nat} {vq vb:Q→Bool} {w:Q→Prop}
 (hL:∀ a,w a→(vq a=true ∨ vb a=true)→(tq a).length + 100 ≤ 1000 * c a)
 (hT:∀ a,w a→(vq a=true ∨ vb a=true)→c a ≤ 10000→calL EE 62 [.st (f a)] []=some (.ret (.str (tq a)),[]))
theorem selD_ok (a:QP Q) (ha:wfQP w a) (h:SelOk vq a) (hn:cntQP c a ≤ 10000) (s:List UInt8) (hs:s.length ≤ 100000000) (T:Nat→PV) (H:Ob) (n:Nat) (h3:T 3 = .str s) (h1:T 1 = .ptr 0 0) (hH:H 0 = .box 38 ((QP.row f a).map .s)) :
  WP EE selt9 T H n (Fin [.t 2] (.str (s ++ selD a))):=by
 have hc:(a.hv.l.map fun x:Hv=>1 + cnt x.c).sum ≤ 10000:=by unfold cntQP at hn; omega
 have hl:=len_sum (c:=fun x:Hv=>1 + cnt x.c) (l:=a.hv.l) fun x _=>by omega
 have hj:=join_le (t:=hvT) (c:=fun x:Hv=>1 + cnt x.c) (K:=1000) (sep:=anW) (l:=a.hv.l) fun x hx=>hv_tlen (ha.hv x hx) (h.hv x hx)
 have e:=list_func hv_ags (z:=[.int .i64 0,.int .i64 0,.int .i64 0,.str [],.str [],.str [],.int .i64 0,.int .i64 0,.nils,.int .i64 0,.int .i64 0,.int .i64 0,.str []]) rfl f195 (g:=196) a.hv (by omega) anW rfl hvT (by omega) fun x hx=>by
  have:=sum_mem (g:=fun x:Hv=>1 + cnt x.c) hx
  exact having_txt x (ha.hv x hx) (h.hv x hx) (by omega)
 unfold selt9 c142 selD QP.row at *
 by_cases h0:a.hv.l.length=0
 ·have d:decide (0 < a.hv.l.length)=false:=decide_eq_false (by omega)
  rw [if_pos h0,List.append_nil]
  simp only [go_sem,reduceIte,rA,rB,rC,rD,tailS,h1,h3,hH,pos_dec,d]
 ·have d:decide (0 < a.hv.l.length)=true:=decide_eq_true (by omega)
  rw [if_neg h0]
  have hj2:(Lib.join (a.hv.l.map hvT) anW).length ≤ 100000000:=by omega
  generalize Lib.join (a.hv.l.map hvT) anW=J at e hj2
  simp only [go_sem,reduceIte,rA,rB,rC,rD,tailS,h1,h3,hH,pos_dec,d]
  refine WC_p rfl rfl e ?_
  simp only [go_sem,reduceIte,rA,rB,rC,rD,h3,lA,lB,lC]
  exact ⟨by omega,by omega,rfl⟩
theorem selC_ok (a:QP Q) (ha:wfQP w a) (h:SelOk vq a) (hn:cntQP c a ≤ 10000) (s:List UInt8) (hs:s.length ≤ 50000000) (T:Nat→PV) (H:Ob) (n:Nat) (h3:T 3 = .str s) (h1:T 1 = .ptr 0 0) (hH:H 0 = .box 38 ((QP.row f a).map .s)) :
  WP EE selt8 T H n (Fin [.t 2] (.str (s ++ selC a ++ selD a))):=by
 have hc:(a.gb.l.map cnt).sum ≤ 10000:=by unfold cntQP at hn; omega
 have hl:=len_sum (c:=cnt) (l:=a.gb.l) fun x _=>cnt_pos x
 have hj:=join_le (t:=txt) (c:=cnt) (K:=1000) (sep:=cmW) (l:=a.gb.l) fun x hx=>ex_tlen (ha.gb x hx) (h.gb x hx)
 have e:=list_e a.gb ha.gb h.gb hc
 have hD:=fun S hS T H n h3 h1 hH=>selD_ok (f:=f) a ha h hn S hS T H n h3 h1 hH
 rw [sel_e8]
 unfold c142 selC
 unfold QP.row at *
 by_cases h0:a.gb.l.length=0
 ·have d:decide (0 < a.gb.l.length)=false:=decide_eq_false (by omega)
  rw [if_pos h0,List.append_nil]
  simp only [go_sem,reduceIte,rA,rB,rC,rD,headS,h1,h3,hH,pos_dec,d]
  exact hD s (by omega) _ _ _ h3 h1 hH
 ·have d:decide (0 < a.gb.l.length)=true:=decide_eq_true (by omega)
  rw [if_neg h0]
  have hj2:(Lib.join (a.gb.l.map txt) cmW).length ≤ 20000000:=by omega
  generalize Lib.join (a.gb.l.map txt) cmW=J at e hj2
  simp only [go_sem,reduceIte,rA,rB,rC,rD,headS,h1,h3,hH,pos_dec,d]
  refine WC_p rfl rfl e ?_
  simp only [go_sem,reduceIte,rA,rB,rC,rD,h3,lA,lB,lC]
  refine ⟨by omega,by omega,?_⟩
  have e10:grW.length=10:=rfl
  refine hD (s ++ (grW ++ J)) (by rw [List.length_append,List.length_append]; omega) _ _ _ rfl ?_ hH
  exact h1
include hL in
theorem cnds_few (a:QP Q) (ha:wfQP w a) (h:SelOk vq a):a.wh.l.length ≤ (a.wh.l.map cnt).sum ∧ a.mb.l.length ≤ (a.mb.l.map (cntMb c)).sum:=by
 refine ⟨len_sum (c:=cnt) (l:=a.wh.l) fun x _=>cnt_pos x,len_sum (c:=cntMb c) (l:=a.mb.l) fun x hx => ?_⟩
 have:=h.mb x hx
 unfold vMb at this
 rw [Bool.and_eq_true] at this
 have:=hL _ (ha.mb x hx).2.2 (.inl this.2)
 unfold cntMb
 omega
include hL in
theorem selB_ok (a:QP Q) (ha:wfQP w a) (h:SelOk vq a) (hn:cntQP c a ≤ 10000) (s:List UInt8) (hs:s.length ≤ 30000000) (T:Nat→PV) (H:Ob) (n:Nat) (h3:T 3 = .str s) (h1:T 1 = .ptr 0 0) (hH:H 0 = .box 38 ((QP.row f a).map .s))
  (ho:Own 1 9 1 H n (T 4) ((cnds tq a).map txRow)):WP EE selt7 T H n (Fin [.t 2] (.str (s ++ selB tq a ++ selC a ++ selD a))):=by
 have k1:=cnds_len hL ha h
 have k2:=jn_sum (sep:=anW) (cnds tq a)
 have k5:=cnds_few hL a ha h
 have k6:(cnds tq a).length=a.wh.l.length + a.mb.l.length:=by unfold cnds; rw [List.length_append,List.length_map,List.length_map]
 have k4:((a.wh.l.map cnt).sum + (a.mb.l.map (cntMb c)).sum) ≤ 10000:=by unfold cntQP at hn; omega
 have hC:=fun S hS T H n h3 h1 hH=>selC_ok (f:=f) a ha h hn S hS T H n h3 h1 hH
 rw [sel_e7]
 unfold c142 selB
 unfold QP.row at *
 have hlen:=fun k=>ho.len (k:=k)
 rw [List.length_map] at hlen
 by_cases h0:(cnds tq a).length=0
 ·have d:decide (0 < (cnds tq a).length)=false:=decide_eq_false (by omega)
  rw [if_pos h0,List.append_nil]
  simp only [go_sem,reduceIte,rA,rB,rC,rD,headS,h1,h3,hH,hlen,pos_dec,d]
  exact hC s (by omega) _ _ _ h3 h1 hH
 ·have d:decide (0 < (cnds tq a).length)=true:=decide_eq_true (by omega)
  rw [if_neg h0]
  simp only [go_sem,reduceIte,rA,rB,rC,rD,headS,h1,h3,hH,hlen,pos_dec,d]
  refine WC_own1m (v := .str (Lib.join (cnds tq a) anW)) [] [.s (.str anW)] ho rfl rfl rfl (fun s hs => ?_) ?_
  ·have:=join_cal s anW (by rw [hs]; omega) (by rw [hs]; omega)
   rw [hs] at this
   exact this
  ·intro H2 ho2 hof
   have hH2:=(hof 0 (ho.off (.inl (by omega)))).trans hH
   have hj2:(Lib.join (cnds tq a) anW).length ≤ 10000000:=by omega
   generalize Lib.join (cnds tq a) anW=J at hj2
   simp only [go_sem,reduceIte,rA,rB,rC,rD,h3,lA,lB,lC]
   refine ⟨by omega,by omega,?_⟩
   have e10:whW.length=7:=rfl
   refine hC (s ++ (whW ++ J)) (by rw [List.length_append,List.length_append]; omega) _ _ _ rfl ?_ hH2
   exact h1
include hf hL hT in
set_option maxHeartbeats 4000000 in
theorem selA_ok (a:QP Q) (ha:wfQP w a) (h:SelOk vq a) (hn:cntQP c a ≤ 10000) (s:List UInt8) (hs:s.length ≤ 1000) (T:Nat→PV) (H:Ob) (n:Nat) (hn1:1 ≤ n) (h3:T 3 = .str s) (h1:T 1 = .ptr 0 0) (hH:H 0 = .box 38 ((QP.row f a).map .s)) :
  WP EE selt3 T H n (Fin [.t 2] (.str (s ++ Lib.join (a.it.l.map itT) cmW ++ frW ++ Lib.join (a.fr.l.map (frT tq)) cmW ++ selB tq a ++ selC a ++ selD a))):=by
 have hc1:(a.it.l.map fun x:Itm=>cnt x.e).sum ≤ 10000:=by unfold cntQP at hn; omega
 have hc2:(a.fr.l.map (cntFr c)).sum ≤ 10000:=by unfold cntQP at hn; omega
 have hc3:(a.wh.l.map cnt).sum ≤ 10000:=by unfold cntQP at hn; omega
 have hc4:(a.mb.l.map (cntMb c)).sum ≤ 10000:=by unfold cntQP at hn; omega
 have l1:=len_sum (c:=fun x:Itm=>cnt x.e) (l:=a.it.l) fun x _=>cnt_pos x.e
 have l2:=len_sum (c:=cntFr c) (l:=a.fr.l) fun x _=>by unfold cntFr; omega
 obtain ⟨l3,l4⟩:=cnds_few hL a ha h
 have j1:=join_le (t:=itT) (c:=fun x:Itm=>cnt x.e) (K:=1000) (sep:=cmW) (l:=a.it.l) fun x hx=>it_tlen (ha.it x hx) (h.it x hx)
 have j2:=join_le (t:=frT tq) (c:=cntFr c) (K:=1000) (sep:=cmW) (l:=a.fr.l) fun x hx=>fr_tlen hL (ha.fr x hx) (h.fr x hx)
 have e1:=list_func itm_ags (z:=[.bool false,.int .i64 0,.int .i64 0,.int .i64 0,.str [],.str [],.str [],.int .i64 0,.int .i64 0,.nils,.str []]) rfl f190 (g:=191) a.it (by omega) cmW rfl itT (by omega) fun x hx=>by
  have:=sum_mem (g:=fun x:Itm=>cnt x.e) hx
  exact item_txt x (ha.it x hx) (h.it x hx) (by omega)
 have e2:=list_func (fr_ags (f:=f)) (z:=[.str [],.str [],.nils]) rfl f192 (g:=193) a.fr (by omega) cmW rfl (frT tq) (by omega) fun x hx=>by
  have:=sum_mem (g:=cntFr c) hx
  exact from_txt hf hL hT x (ha.fr x hx) (h.fr x hx) (by omega)
 have hB:=fun S hS T H n h3 h1 hH ho=>selB_ok (f:=f) hL a ha h hn S hS T H n h3 h1 hH ho
 have k1:(Lib.join (a.it.l.map itT) cmW).length ≤ 10000000:=by omega
 have k2:(Lib.join (a.fr.l.map (frT tq)) cmW).length ≤ 10000000:=by omega
 rw [sel_e3]
 unfold c142
 unfold QP.row at *
 generalize Lib.join (a.it.l.map itT) cmW=J1 at e1 k1
 generalize Lib.join (a.fr.l.map (frT tq)) cmW=J2 at e2 k2
 simp only [go_sem,reduceIte,rA,rB,rC,rD,headS,h1,h3,hH]
 refine WC_p rfl rfl e1 ?_
 simp only [go_sem,reduceIte,rA,rB,rC,rD,h1,h3,hH,lA,lB,lC]
 refine ⟨by omega,?_⟩
 refine WC_p rfl rfl e2 ?_
 simp only [go_sem,reduceIte,rA,rB,rC,rD,h1,h3,hH,lA,lB,lC]
 refine ⟨by omega,by omega,?_⟩
 refine WP_scan rfl 26 a.wh.l.length (fun _=>True) (fun j T H n=>1 ≤ n ∧ H 0 = .box 38 ((QP.row f a).map .s) ∧ Own 1 9 1 H n (T 4) (((a.wh.l.take j).map whT).map txRow)) rfl ⟨by omega,hH,.nil⟩ ?_ ?_
 ·rintro j T' H' n' hlt hf' hi ⟨hn',hH',ho⟩ _
  have g24:T' 24 = .s (a.wh.sv Tr.row):=hf' 24 rfl
  have g25:T' 25 = .i64 a.wh.l.length:=hf' 25 rfl
  clear hf'
  have hji:(j:Int) < a.wh.l.length:=by omega
  have hj0:(0:Int) ≤ j:=by omega
  have hwj:=wrap_suc (j:=j) (by omega)
  have hnx:((a.wh.l.take (j + 1)).map whT).map txRow=((a.wh.l.take j).map whT).map txRow ++ [txRow (whT (a.wh.l.getD j default))]:=by
   rw [take_step default hlt,List.map_append,List.map_append]; rfl
  rw [hnx]
  have hle:(((a.wh.l.take j).map whT).map txRow).length ≤ 1000000:=by rw [List.length_map,List.length_map,List.length_take]; omega
  generalize ((a.wh.l.take j).map whT).map txRow=rows at ho hle ⊢
  have hld:=fun HH=>tr_ags.load (l:=a.wh.l) (j:=j) (H:=HH) hlt
  have hm:=getD_mem (l:=a.wh.l) (j:=j) default hlt
  have hcs:=sum_mem (g:=cnt) hm
  have hcall:=at_ok (a.wh.l.getD j default) 2 (by omega) (ha.wh _ hm) (h.wh _ hm)
  have hcall:calL EE 123 [.st (a.wh.l.getD j default).row,.i64 2] []=some (.ret (.str (whT (a.wh.l.getD j default))),[]):=hcall
  generalize a.wh.l.getD j default=X at hld hcall ⊢
  have lx:=row_len X
  have hz:([SV.int .i64 0,.int .i64 0,.int .i64 0,.str [],.str [],.str [],.int .i64 0,.int .i64 0,.nils]:List SV).length=X.row.length:=by rw [lx]; rfl
  simp only [go_sem,reduceIte,rA,rB,rC,rD,g24,g25,hi,hji,hj0,and_self,decide_true,tr_ags.ia,Int.toNat_natCast,hld]
  refine ⟨lx,by rw [setCells_len]; decide,?_⟩
  rw [setCells_all hz,List.take_of_length_le (by omega)]
  refine WC_p rfl (by rw [pure_st]; rfl) hcall ?_
  simp only [go_sem,reduceIte,rA,rB,rC,rD]
  have ho1:∀ zz,Own 1 9 1 (H'.set (n' + 1 + 2) zz) n' (T' 4) rows:=fun zz=>ho.kept (Nat.le_refl _) (fun j _ hj=>by unfold Ob.set; rw [if_neg (by omega)])
  refine WX_app (ho1 _) rows_slice (by simp) (by simp; omega) (by omega) (by omega) ?_
  intro p1 H2 ho2 hfr2 hof2
  have hH2:=(hfr2 0 (by omega) (ho.off (.inl (by omega)))).trans ((show (H'.set (n' + 1 + 2) _) 0=H' 0 by unfold Ob.set; rw [if_neg (by omega)]).trans hH')
  simp only [go_sem,reduceIte,rA,rB,rC,rD,hi,hwj]
  exact ⟨hH2,ho2.kept (by omega) (fun _ _ _=>rfl)⟩
 ·rintro T' H' n' hf' hi ⟨hn',hH',ho⟩ _
  have g3:T' 3 = .str (s ++ (J1 ++ frW ++ J2)):=hf' 3 rfl
  have g1:T' 1 = .ptr 0 0:=(hf' 1 rfl).trans h1
  have g25:T' 25 = .i64 a.wh.l.length:=hf' 25 rfl
  clear hf'
  rw [List.take_length] at ho
  unfold QP.row at hH'
  simp only [go_sem,reduceIte,rA,rB,rC,rD,g1,g3,g25,hi,hH',Int.lt_irrefl,decide_false]
  refine WP_scan rfl 39 a.mb.l.length (fun _=>True) (fun j T H n=>1 ≤ n ∧ H 0 = .box 38 ((QP.row f a).map .s) ∧ Own 1 9 1 H n (T 4) ((a.wh.l.map whT ++ (a.mb.l.take j).map (mbT tq)).map txRow)) rfl ⟨by omega,hH',?_⟩ ?_ ?_
  ·rw [List.take_zero,List.map_nil,List.append_nil]
   exact ho.kept (by omega) (fun _ _ _=>rfl)
  ·rintro j T2 H2 n2 hlt hf' hi2 ⟨hn2,hH2,ho2⟩ _
   have g37:T2 37 = .s (a.mb.sv (MbP.row f)):=hf' 37 rfl
   have g38:T2 38 = .i64 a.mb.l.length:=hf' 38 rfl
   clear hf'
   have hji:(j:Int) < a.mb.l.length:=by omega
   have hj0:(0:Int) ≤ j:=by omega
   have hwj:=wrap_suc (j:=j) (by omega)
   have hnx:(a.wh.l.map whT ++ (a.mb.l.take (j + 1)).map (mbT tq)).map txRow=(a.wh.l.map whT ++ (a.mb.l.take j).map (mbT tq)).map txRow ++ [txRow (mbT tq (a.mb.l.getD j default))]:=by
    rw [take_step default hlt,List.map_append,List.map_append,List.map_append,List.map_append]; simp
   rw [hnx]
   have hle:((a.wh.l.map whT ++ (a.mb.l.take j).map (mbT tq)).map txRow).length ≤ 1000000:=by rw [List.length_map,List.length_append,List.length_map,List.length_map,List.length_take]; omega
   generalize (a.wh.l.map whT ++ (a.mb.l.take j).map (mbT tq)).map txRow=rows at ho2 hle ⊢
   have hld:=fun HH=>(mb_ags hf).load (l:=a.mb.l) (j:=j) (H:=HH) hlt
   have hia:=fun (s:Slc (MbP Q)) (HH:Ob) (kk:IntKind) (ii:Int)=>(mb_ags hf).ia (s:=s) (H:=HH) (k:=kk) (i:=ii)
   have hm:=getD_mem (l:=a.mb.l) (j:=j) default hlt
   have hcs:=sum_mem (g:=cntMb c) hm
   have hcall:=member_txt hf hL hT (a.mb.l.getD j default) (ha.mb _ hm) (h.mb _ hm) (by omega)
   have lx:=mb_len hf (a.mb.l.getD j default)
   generalize MbP.row f (a.mb.l.getD j default)=R at hld hcall lx
   generalize mbT tq (a.mb.l.getD j default)=S at hcall ⊢
   have hz:([SV.bool false,.nils,.int .i64 0,.nils,.bool false,.nils,.nils,.nils,.nils,.nils,.nils,.nils]:List SV).length=R.length:=by rw [lx]; rfl
   simp only [go_sem,reduceIte,rA,rB,rC,rD,g37,g38,hi2,hji,hj0,and_self,decide_true,hia,Int.toNat_natCast,hld]
   refine ⟨lx,by rw [setCells_len]; decide,?_⟩
   rw [setCells_all hz,List.take_of_length_le (by omega)]
   refine WC_p rfl (by rw [pure_st]; rfl) hcall ?_
   simp only [go_sem,reduceIte,rA,rB,rC,rD]
   have ho3:∀ zz,Own 1 9 1 (H2.set (n2 + 1 + 2) zz) n2 (T2 4) rows:=fun zz=>ho2.kept (Nat.le_refl _) (fun j _ hj=>by unfold Ob.set; rw [if_neg (by omega)])
   refine WX_app (ho3 _) rows_slice (by simp) (by simp; omega) (by omega) (by omega) ?_
   intro p1 H3 ho4 hfr2 hof2
   have hH3:=(hfr2 0 (by omega) (ho2.off (.inl (by omega)))).trans ((show (H2.set (n2 + 1 + 2) _) 0=H2 0 by unfold Ob.set; rw [if_neg (by omega)]).trans hH2)
   simp only [go_sem,reduceIte,rA,rB,rC,rD,hi2,hwj]
   exact ⟨hH3,ho4.kept (by omega) (fun _ _ _=>rfl)⟩
  ·rintro T2 H2 n2 hf' hi2 ⟨hn2,hH2,ho2⟩ _
   have g3':T2 3 = .str (s ++ (J1 ++ frW ++ J2)):=(hf' 3 rfl).trans g3
   have g1':T2 1 = .ptr 0 0:=(hf' 1 rfl).trans g1
   have g38:T2 38 = .i64 a.mb.l.length:=hf' 38 rfl
   clear hf'
   rw [List.take_length] at ho2
   have e6:frW.length=6:=rfl
   have hS:s ++ J1 ++ frW ++ J2=s ++ (J1 ++ frW ++ J2):=by simp only [List.append_assoc]
   rw [hS]
   simp only [go_sem,reduceIte,rA,rB,rC,rD,g1',g3',g38,hi2,Int.lt_irrefl,decide_false]
   exact hB _ (by simp only [List.length_append]; omega) _ _ _ g3' g1' hH2 (ho2.kept (by omega) (fun _ _ _=>rfl))
include hf hL hT in
theorem select_txt (a:QP Q) (ha:wfQP w a) (h:SelOk vq a) (hn:cntQP c a ≤ 10000):calL EE 142 [.st (QP.row f a)] []=some (.ret (.str (selT tq a)),[]):=by
 have hA:=fun S hS T H n hn1 h3 h1 hH=>selA_ok (f:=f) hf hL hT a ha h hn S hS T H n hn1 h3 h1 hH
 refine fn_ok f142 (by simp) ?_
 rw [sel_e0]
 unfold c142 selT selA
 unfold QP.row at *
 cases hd:a.ds with
 | false =>
  rw [hd] at hA
  simp only [go_sem,reduceIte,rA,rB,rC,rD,headS,hd]
  have e:seW=[83,69,76,69,67,84,32]:=rfl
  exact hA seW (by decide) _ _ _ (by omega) rfl rfl rfl
 | true =>
  rw [hd] at hA
  simp only [go_sem,reduceIte,rA,rB,rC,rD,headS,hd]
  exact hA (seW ++ diW) (by decide) _ _ _ (by omega) rfl rfl rfl
end
end Go.Vm
