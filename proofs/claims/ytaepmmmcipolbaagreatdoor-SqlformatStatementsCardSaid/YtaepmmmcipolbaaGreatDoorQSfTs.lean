/- Chapter 24: the program's text of a statement. -/
import Derived.Test.YtaepmmmcipolbaaGreatDoorQSfTt
import Derived.Test.YtaepmmmcipolbaaGreatDoorQSfTv
section
set_option linter.unusedVariables false
set_option linter.unusedSimpArgs false
set_option maxRecDepth 100000
namespace Go.Vm
open List renaming length_append→lA,length_cons→lB,length_nil→lC
open Nat renaming reduceEqDiff→rE,reduceAdd→rF,reduceLeDiff→rG,reduceLT→rH
open Go
def stt2:SC:=tailS 2 c36
theorem stt_e:c36 = .seq (headS 0 c36) (.seq (headS 1 c36) stt2):=rfl
section
variable {Q:Type} [Inhabited Q] {f:Q→List SV} (hf:∀ x,(f x).length=10) {tq:Q→List UInt8} {c:Q→Nat} {q:Q→Q→Bool} {vq:Q→Bool} {w:Q→Prop}
 (hL:∀ a,w a→vq a=true→(tq a).length + 100 ≤ 1000 * c a)
 (hT:∀ a,w a→vq a=true→c a ≤ 10000→calL EE 62 [.st (f a)] []=some (.ret (.str (tq a)),[]))
include hf hL hT in
set_option maxHeartbeats 4000000 in
theorem ts0 (a:StP Q) (ha:wfStP w a) (hk:a.k=0) (hv:okS vq a=true) (hn:cntS c a ≤ 10000) (T:Nat→PV) (H:Ob) (n:Nat) (h1:T 1 = .ptr 0 0) (hH0:H 0 = .box 57 ((StP.row f a).map .s)):WP EE stt2 T H n (Fin [.t 2] (.str (stmT tq a))):=by
 obtain ⟨k,nm,tb,co,ke,ns,ro,se,wh,qu⟩:=a
 obtain rfl:k=0:=hk
 have hv:(one vq ⟨0,nm,tb,co,ke,ns,ro,se,wh,qu⟩)=true:=hv
 skip
 unfold cntS at hn
 simp only at hn
 obtain ⟨hl1,v1⟩:qu.l.length=1 ∧ vq (qu.l.getD 0 default)=true:=by simpa only [one,Bool.and_eq_true,decide_eq_true_eq] using hv
 have hm:=getD_mem (l:=qu.l) (j:=0) default (by omega)
 have hs:=sum_mem (g:=c) hm
 have k9:=hL _ (ha.qu _ hm) v1
 have e9:=hT _ (ha.qu _ hm) v1 (by omega)
 have k8:(tq (qu.l.getD 0 default)).length ≤ 10000000:=by omega
 clear k9
 have hin:(0:Int) ≤ 0 ∧ (0:Int) < (qu.l.length:Int):=⟨by decide,by omega⟩
 have hq0:=q_at hf (l:=qu.l) (i:=0) (by omega)
 have e0:Int.toNat 0=0:=rfl
 rw [show stmT tq ⟨0,nm,tb,co,ke,ns,ro,se,wh,qu⟩=tq (qu.l.getD 0 default) from rfl]
 generalize tq (qu.l.getD 0 default)=A at e9 k8 ⊢
 unfold StP.row at hH0
 unfold stt2 c36
 simp only [go_sem,reduceIte,rE,rF,rG,rH,tailS,h1,hH0,Int.reduceEq,decide_false,decide_true,and_self,lA,lB,lC,(q_ags hf).ia,hin,e0,hq0]
 refine WC_p rfl (by rw [pure_st]; rfl) e9 ?_
 simp only [go_sem,reduceIte,rE,rF,rG,rH,tailS,h1,hH0,Int.reduceEq,decide_false,decide_true,and_self,lA,lB,lC]
include hf hL hT in
set_option maxHeartbeats 4000000 in
theorem ts1 (a:StP Q) (ha:wfStP w a) (hk:a.k=1) (hv:okS vq a=true) (hn:cntS c a ≤ 10000) (T:Nat→PV) (H:Ob) (n:Nat) (h1:T 1 = .ptr 0 0) (hH0:H 0 = .box 57 ((StP.row f a).map .s)):WP EE stt2 T H n (Fin [.t 2] (.str (stmT tq a))):=by
 obtain ⟨k,nm,tb,co,ke,ns,ro,se,wh,qu⟩:=a
 obtain rfl:k=1:=hk
 have hv:(one vq ⟨1,nm,tb,co,ke,ns,ro,se,wh,qu⟩)=true:=hv
 skip
 unfold cntS at hn
 simp only at hn
 obtain ⟨hl1,v1⟩:qu.l.length=1 ∧ vq (qu.l.getD 0 default)=true:=by simpa only [one,Bool.and_eq_true,decide_eq_true_eq] using hv
 have hm:=getD_mem (l:=qu.l) (j:=0) default (by omega)
 have hs:=sum_mem (g:=c) hm
 have k9:=hL _ (ha.qu _ hm) v1
 have e9:=hT _ (ha.qu _ hm) v1 (by omega)
 have k8:(tq (qu.l.getD 0 default)).length ≤ 10000000:=by omega
 clear k9
 have hin:(0:Int) ≤ 0 ∧ (0:Int) < (qu.l.length:Int):=⟨by decide,by omega⟩
 have hq0:=q_at hf (l:=qu.l) (i:=0) (by omega)
 have e0:Int.toNat 0=0:=rfl
 rw [show stmT tq ⟨1,nm,tb,co,ke,ns,ro,se,wh,qu⟩=[69,88,80,76,65,73,78,32] ++ tq (qu.l.getD 0 default) from rfl]
 generalize tq (qu.l.getD 0 default)=A at e9 k8 ⊢
 unfold StP.row at hH0
 unfold stt2 c36
 simp only [go_sem,reduceIte,rE,rF,rG,rH,tailS,h1,hH0,Int.reduceEq,decide_false,decide_true,and_self,lA,lB,lC,(q_ags hf).ia,hin,e0,hq0]
 refine WC_p rfl (by rw [pure_st]; rfl) e9 ?_
 simp only [go_sem,reduceIte,rE,rF,rG,rH,tailS,h1,hH0,Int.reduceEq,decide_false,decide_true,and_self,lA,lB,lC]
 omega
set_option maxHeartbeats 4000000 in
theorem ts2 (a:StP Q) (ha:wfStP w a) (hk:a.k=2) (hv:okS vq a=true) (hn:cntS c a ≤ 10000) (T:Nat→PV) (H:Ob) (n:Nat) (h1:T 1 = .ptr 0 0) (hH0:H 0 = .box 57 ((StP.row f a).map .s)):WP EE stt2 T H n (Fin [.t 2] (.str (stmT tq a))):=by
 obtain ⟨k,nm,tb,co,ke,ns,ro,se,wh,qu⟩:=a
 have hcn:=hn
 obtain rfl:k=2:=hk
 have hv:(nameV nm && decide (0 < co.l.length) && ke.l.all nameV && co.l.all vCol)=true:=hv
 simp only [Bool.and_eq_true,decide_eq_true_eq] at hv
 have e:=table_txt (f:=f) _ ha hv.1.1.1 hv.2 hv.1.2 hcn
 rw [show stmT tq ⟨2,nm,tb,co,ke,ns,ro,se,wh,qu⟩=tabT ⟨2,nm,tb,co,ke,ns,ro,se,wh,qu⟩ from rfl]
 generalize tabT (⟨2,nm,tb,co,ke,ns,ro,se,wh,qu⟩:StP Q)=A at e ⊢
 unfold StP.row at e
 unfold StP.row at hH0
 unfold stt2 c36
 simp only [go_sem,reduceIte,rE,rF,rG,rH,tailS,h1,hH0,Int.reduceEq,decide_false,decide_true,and_self,lA,lB,lC]
 refine WC_p rfl (by rw [pure_st]; rfl) e ?_
 simp only [go_sem,reduceIte,rE,rF,rG,rH,tailS,h1,hH0,Int.reduceEq,decide_false,decide_true,and_self,lA,lB,lC]
set_option maxHeartbeats 4000000 in
theorem ts3 (a:StP Q) (ha:wfStP w a) (hk:a.k=3) (hv:okS vq a=true) (hn:cntS c a ≤ 10000) (T:Nat→PV) (H:Ob) (n:Nat) (h1:T 1 = .ptr 0 0) (hH0:H 0 = .box 57 ((StP.row f a).map .s)):WP EE stt2 T H n (Fin [.t 2] (.str (stmT tq a))):=by
 obtain ⟨k,nm,tb,co,ke,ns,ro,se,wh,qu⟩:=a
 obtain rfl:k=3:=hk
 have hv:(nameV nm && nameV tb && decide (0 < ns.l.length) && ns.l.all nameV)=true:=hv
 simp only [Bool.and_eq_true,decide_eq_true_eq] at hv
 unfold cntS at hn
 simp only at hn
 have k1:=name_len hv.1.1.1
 have k2:=name_len hv.1.1.2
 have k3:=joinN_len hv.2
 have e:=join_cal ns cmW (by omega) (by omega)
 rw [show stmT tq ⟨3,nm,tb,co,ke,ns,ro,se,wh,qu⟩=[67,82,69,65,84,69,32,73,78,68,69,88,32] ++ nm ++ [32,79,78,32] ++ tb ++ [32,40] ++ Lib.join ns.l cmW ++ [41] from rfl]
 have k4:(Lib.join ns.l cmW).length ≤ 10000000:=by omega
 clear k3
 unfold cmW at *
 generalize Lib.join ns.l [44,32]=A at e k4 ⊢
 unfold StP.row at hH0
 unfold stt2 c36
 simp only [go_sem,reduceIte,rE,rF,rG,rH,tailS,h1,hH0,Int.reduceEq,decide_false,decide_true,and_self,lA,lB,lC]
 refine ⟨by omega,?_⟩
 refine WC_p rfl rfl e ?_
 simp only [go_sem,reduceIte,rE,rF,rG,rH,tailS,h1,hH0,Int.reduceEq,decide_false,decide_true,and_self,lA,lB,lC]
 omega
include hf hL hT in
set_option maxHeartbeats 4000000 in
theorem ts4 (a:StP Q) (ha:wfStP w a) (hk:a.k=4) (hv:okS vq a=true) (hn:cntS c a ≤ 10000) (T:Nat→PV) (H:Ob) (n:Nat) (h1:T 1 = .ptr 0 0) (hH0:H 0 = .box 57 ((StP.row f a).map .s)):WP EE stt2 T H n (Fin [.t 2] (.str (stmT tq a))):=by
 obtain ⟨k,nm,tb,co,ke,ns,ro,se,wh,qu⟩:=a
 obtain rfl:k=4:=hk
 have hv:(nameV nm && one vq ⟨4,nm,tb,co,ke,ns,ro,se,wh,qu⟩)=true:=hv
 simp only [Bool.and_eq_true,decide_eq_true_eq] at hv
 unfold cntS at hn
 simp only at hn
 have k1:=name_len hv.1
 obtain ⟨hl1,v1⟩:qu.l.length=1 ∧ vq (qu.l.getD 0 default)=true:=by simpa only [one,Bool.and_eq_true,decide_eq_true_eq] using hv.2
 have hm:=getD_mem (l:=qu.l) (j:=0) default (by omega)
 have hs:=sum_mem (g:=c) hm
 have k9:=hL _ (ha.qu _ hm) v1
 have e9:=hT _ (ha.qu _ hm) v1 (by omega)
 have k8:(tq (qu.l.getD 0 default)).length ≤ 10000000:=by omega
 clear k9
 have hin:(0:Int) ≤ 0 ∧ (0:Int) < (qu.l.length:Int):=⟨by decide,by omega⟩
 have hq0:=q_at hf (l:=qu.l) (i:=0) (by omega)
 have e0:Int.toNat 0=0:=rfl
 rw [show stmT tq ⟨4,nm,tb,co,ke,ns,ro,se,wh,qu⟩=[67,82,69,65,84,69,32,86,73,69,87,32] ++ nm ++ [32,65,83,32] ++ tq (qu.l.getD 0 default) from rfl]
 generalize tq (qu.l.getD 0 default)=A at e9 k8 ⊢
 unfold StP.row at hH0
 unfold stt2 c36
 simp only [go_sem,reduceIte,rE,rF,rG,rH,tailS,h1,hH0,Int.reduceEq,decide_false,decide_true,and_self,lA,lB,lC,(q_ags hf).ia,hin,e0,hq0]
 refine ⟨by omega,?_⟩
 refine WC_p rfl (by rw [pure_st]; rfl) e9 ?_
 simp only [go_sem,reduceIte,rE,rF,rG,rH,tailS,h1,hH0,Int.reduceEq,decide_false,decide_true,and_self,lA,lB,lC]
 omega
include hf hL hT in
set_option maxHeartbeats 4000000 in
theorem ts5 (a:StP Q) (ha:wfStP w a) (hk:a.k=5) (hv:okS vq a=true) (hn:cntS c a ≤ 10000) (T:Nat→PV) (H:Ob) (n:Nat) (h1:T 1 = .ptr 0 0) (hH0:H 0 = .box 57 ((StP.row f a).map .s)):WP EE stt2 T H n (Fin [.t 2] (.str (stmT tq a))):=by
 obtain ⟨k,nm,tb,co,ke,ns,ro,se,wh,qu⟩:=a
 obtain rfl:k=5:=hk
 have hv:(nameV nm && one vq ⟨5,nm,tb,co,ke,ns,ro,se,wh,qu⟩)=true:=hv
 simp only [Bool.and_eq_true,decide_eq_true_eq] at hv
 unfold cntS at hn
 simp only at hn
 have k1:=name_len hv.1
 obtain ⟨hl1,v1⟩:qu.l.length=1 ∧ vq (qu.l.getD 0 default)=true:=by simpa only [one,Bool.and_eq_true,decide_eq_true_eq] using hv.2
 have hm:=getD_mem (l:=qu.l) (j:=0) default (by omega)
 have hs:=sum_mem (g:=c) hm
 have k9:=hL _ (ha.qu _ hm) v1
 have e9:=hT _ (ha.qu _ hm) v1 (by omega)
 have k8:(tq (qu.l.getD 0 default)).length ≤ 10000000:=by omega
 clear k9
 have hin:(0:Int) ≤ 0 ∧ (0:Int) < (qu.l.length:Int):=⟨by decide,by omega⟩
 have hq0:=q_at hf (l:=qu.l) (i:=0) (by omega)
 have e0:Int.toNat 0=0:=rfl
 rw [show stmT tq ⟨5,nm,tb,co,ke,ns,ro,se,wh,qu⟩=[67,82,69,65,84,69,32,77,65,84,69,82,73,65,76,73,90,69,68,32,86,73,69,87,32] ++ nm ++ [32,65,83,32] ++ tq (qu.l.getD 0 default) from rfl]
 generalize tq (qu.l.getD 0 default)=A at e9 k8 ⊢
 unfold StP.row at hH0
 unfold stt2 c36
 simp only [go_sem,reduceIte,rE,rF,rG,rH,tailS,h1,hH0,Int.reduceEq,decide_false,decide_true,and_self,lA,lB,lC,(q_ags hf).ia,hin,e0,hq0]
 refine ⟨by omega,?_⟩
 refine WC_p rfl (by rw [pure_st]; rfl) e9 ?_
 simp only [go_sem,reduceIte,rE,rF,rG,rH,tailS,h1,hH0,Int.reduceEq,decide_false,decide_true,and_self,lA,lB,lC]
 omega
set_option maxHeartbeats 4000000 in
theorem ts6 (a:StP Q) (ha:wfStP w a) (hk:a.k=6) (hv:okS vq a=true) (hn:cntS c a ≤ 10000) (T:Nat→PV) (H:Ob) (n:Nat) (h1:T 1 = .ptr 0 0) (hH0:H 0 = .box 57 ((StP.row f a).map .s)):WP EE stt2 T H n (Fin [.t 2] (.str (stmT tq a))):=by
 obtain ⟨k,nm,tb,co,ke,ns,ro,se,wh,qu⟩:=a
 obtain rfl:k=6:=hk
 have hv:(nameV nm)=true:=hv
 skip
 unfold cntS at hn
 simp only at hn
 have k1:=name_len hv
 rw [show stmT tq ⟨6,nm,tb,co,ke,ns,ro,se,wh,qu⟩=[68,82,79,80,32] ++ nm from rfl]
 unfold StP.row at hH0
 unfold stt2 c36
 simp only [go_sem,reduceIte,rE,rF,rG,rH,tailS,h1,hH0,Int.reduceEq,decide_false,decide_true,and_self,lA,lB,lC]
 omega
set_option maxHeartbeats 4000000 in
theorem ts7 (a:StP Q) (ha:wfStP w a) (hk:a.k=7) (hv:okS vq a=true) (hn:cntS c a ≤ 10000) (T:Nat→PV) (H:Ob) (n:Nat) (h1:T 1 = .ptr 0 0) (hH0:H 0 = .box 57 ((StP.row f a).map .s)):WP EE stt2 T H n (Fin [.t 2] (.str (stmT tq a))):=by
 obtain ⟨k,nm,tb,co,ke,ns,ro,se,wh,qu⟩:=a
 have hcn:=hn
 obtain rfl:k=7:=hk
 have hv:(nameV tb && ns.l.all nameV && decide (0 < ro.l.length) && ro.l.all vRow)=true:=hv
 simp only [Bool.and_eq_true,decide_eq_true_eq] at hv
 have e:=insert_txt (f:=f) _ ha hv.1.1.1 hv.1.1.2 hv.2 hcn
 rw [show stmT tq ⟨7,nm,tb,co,ke,ns,ro,se,wh,qu⟩=insT ⟨7,nm,tb,co,ke,ns,ro,se,wh,qu⟩ from rfl]
 generalize insT (⟨7,nm,tb,co,ke,ns,ro,se,wh,qu⟩:StP Q)=A at e ⊢
 unfold StP.row at e
 unfold StP.row at hH0
 unfold stt2 c36
 simp only [go_sem,reduceIte,rE,rF,rG,rH,tailS,h1,hH0,Int.reduceEq,decide_false,decide_true,and_self,lA,lB,lC]
 refine WC_p rfl (by rw [pure_st]; rfl) e ?_
 simp only [go_sem,reduceIte,rE,rF,rG,rH,tailS,h1,hH0,Int.reduceEq,decide_false,decide_true,and_self,lA,lB,lC]
set_option maxHeartbeats 4000000 in
theorem ts8 (a:StP Q) (ha:wfStP w a) (hk:a.k=8) (hv:okS vq a=true) (hn:cntS c a ≤ 10000) (T:Nat→PV) (H:Ob) (n:Nat) (h1:T 1 = .ptr 0 0) (hH0:H 0 = .box 57 ((StP.row f a).map .s)):WP EE stt2 T H n (Fin [.t 2] (.str (stmT tq a))):=by
 obtain ⟨k,nm,tb,co,ke,ns,ro,se,wh,qu⟩:=a
 obtain rfl:k=8:=hk
 have hv:(nameV tb && decide (0 < se.l.length) && vWh wh.l && se.l.all vStg)=true:=hv
 simp only [Bool.and_eq_true,decide_eq_true_eq] at hv
 unfold cntS at hn
 simp only at hn
 have k1:=name_len hv.1.1.1
 have h4:=List.all_eq_true.1 hv.2
 have k2:=join_le (t:=stgT) (c:=cntSt) (K:=1000) (sep:=cmW) (l:=se.l) fun x hx=>stg_tlen (ha.se x hx) (h4 x hx)
 have e1:=list_func stg_ags (z:=[.str [],.int .i64 0,.int .i64 0,.int .i64 0,.str [],.str [],.str [],.int .i64 0,.int .i64 0,.nils]) rfl f109 (g:=110) se (by omega) cmW rfl stgT (by omega) fun x hx=>by
  have:=sum_mem (g:=cntSt) hx
  exact stg_txt x (ha.se x hx) (h4 x hx) (by omega)
 obtain ⟨e2,_,k3⟩:=where_txt wh ha.wh hv.1.2 (by omega)
 rw [show stmT tq ⟨8,nm,tb,co,ke,ns,ro,se,wh,qu⟩=[85,80,68,65,84,69,32] ++ tb ++ [32,83,69,84,32] ++ Lib.join (se.l.map stgT) cmW ++ whrT wh.l from rfl]
 have k4:(Lib.join (se.l.map stgT) cmW).length ≤ 100000000:=by omega
 clear k2
 unfold cmW at *
 generalize Lib.join (se.l.map stgT) [44,32]=A at e1 k4 ⊢
 generalize whrT wh.l=C at e2 k3 ⊢
 unfold StP.row at hH0
 unfold stt2 c36
 simp only [go_sem,reduceIte,rE,rF,rG,rH,tailS,h1,hH0,Int.reduceEq,decide_false,decide_true,and_self,lA,lB,lC]
 refine ⟨by omega,?_⟩
 refine WC_p rfl rfl e1 ?_
 simp only [go_sem,reduceIte,rE,rF,rG,rH,tailS,h1,hH0,Int.reduceEq,decide_false,decide_true,and_self,lA,lB,lC]
 refine ⟨by omega,?_⟩
 refine WC_p rfl rfl e2 ?_
 simp only [go_sem,reduceIte,rE,rF,rG,rH,tailS,h1,hH0,Int.reduceEq,decide_false,decide_true,and_self,lA,lB,lC]
 omega
set_option maxHeartbeats 4000000 in
theorem ts9 (a:StP Q) (ha:wfStP w a) (hk:a.k=9) (hv:okS vq a=true) (hn:cntS c a ≤ 10000) (T:Nat→PV) (H:Ob) (n:Nat) (h1:T 1 = .ptr 0 0) (hH0:H 0 = .box 57 ((StP.row f a).map .s)):WP EE stt2 T H n (Fin [.t 2] (.str (stmT tq a))):=by
 obtain ⟨k,nm,tb,co,ke,ns,ro,se,wh,qu⟩:=a
 obtain rfl:k=9:=hk
 have hv:(nameV tb && vWh wh.l)=true:=hv
 simp only [Bool.and_eq_true,decide_eq_true_eq] at hv
 unfold cntS at hn
 simp only at hn
 have k1:=name_len hv.1
 obtain ⟨e2,_,k3⟩:=where_txt wh ha.wh hv.2 (by omega)
 rw [show stmT tq ⟨9,nm,tb,co,ke,ns,ro,se,wh,qu⟩=[68,69,76,69,84,69,32,70,82,79,77,32] ++ tb ++ whrT wh.l from rfl]
 generalize whrT wh.l=C at e2 k3 ⊢
 unfold StP.row at hH0
 unfold stt2 c36
 simp only [go_sem,reduceIte,rE,rF,rG,rH,tailS,h1,hH0,Int.reduceEq,decide_false,decide_true,and_self,lA,lB,lC]
 refine ⟨by omega,?_⟩
 refine WC_p rfl rfl e2 ?_
 simp only [go_sem,reduceIte,rE,rF,rG,rH,tailS,h1,hH0,Int.reduceEq,decide_false,decide_true,and_self,lA,lB,lC]
 omega
set_option maxHeartbeats 4000000 in
theorem ts10 (a:StP Q) (ha:wfStP w a) (hk:a.k=10 ∨ a.k=11 ∨ a.k=12) (hv:okS vq a=true) (hn:cntS c a ≤ 10000) (T:Nat→PV) (H:Ob) (n:Nat) (h1:T 1 = .ptr 0 0) (hH0:H 0 = .box 57 ((StP.row f a).map .s)):WP EE stt2 T H n (Fin [.t 2] (.str (stmT tq a))):=by
 obtain ⟨k,nm,tb,co,ke,ns,ro,se,wh,qu⟩:=a
 unfold StP.row at hH0
 unfold stt2 c36
 rcases hk with h | h | h
 all_goals
  simp only at h
  subst h
  simp only [go_sem,reduceIte,rE,rF,rG,rH,tailS,h1,hH0,Int.reduceEq,decide_false,decide_true,and_self,lA,lB,lC]
  rfl
include hf hL hT in
theorem ts_all (a:StP Q) (ha:wfStP w a) (hv:okS vq a=true) (hn:cntS c a ≤ 10000) (T:Nat→PV) (H:Ob) (n:Nat) (h1:T 1 = .ptr 0 0) (hH0:H 0 = .box 57 ((StP.row f a).map .s)):WP EE stt2 T H n (Fin [.t 2] (.str (stmT tq a))):=by
 by_cases k0:a.k=0
 ·exact ts0 hf hL hT a ha k0 hv hn T H n h1 hH0
 by_cases k1:a.k=1
 ·exact ts1 hf hL hT a ha k1 hv hn T H n h1 hH0
 by_cases k2:a.k=2
 ·exact ts2 a ha k2 hv hn T H n h1 hH0
 by_cases k3:a.k=3
 ·exact ts3 a ha k3 hv hn T H n h1 hH0
 by_cases k4:a.k=4
 ·exact ts4 hf hL hT a ha k4 hv hn T H n h1 hH0
 by_cases k5:a.k=5
 ·exact ts5 hf hL hT a ha k5 hv hn T H n h1 hH0
 by_cases k6:a.k=6
 ·exact ts6 a ha k6 hv hn T H n h1 hH0
 by_cases k7:a.k=7
 ·exact ts7 a ha k7 hv hn T H n h1 hH0
 by_cases k8:a.k=8
 ·exact ts8 a ha k8 hv hn T H n h1 hH0
 by_cases k9:a.k=9
 ·exact ts9 a ha k9 hv hn T H n h1 hH0
 by_cases k10:a.k=10 ∨ a.k=11 ∨ a.k=12
 ·exact ts10 a ha k10 hv hn T H n h1 hH0
 ·exfalso
  unfold okS at hv
  rw [if_neg (by omega),if_neg (by omega),if_neg (by omega),if_neg (by omega),if_neg (by omega),if_neg (by omega),if_neg (by omega),if_neg (by omega),decide_eq_false (by omega),decide_eq_false (by omega),decide_eq_false (by omega)] at hv
  exact absurd hv (by decide)
end
end Go.Vm
end
section
set_option linter.unusedVariables false
set_option linter.unusedSimpArgs false
set_option maxRecDepth 100000
namespace Go.Vm
open List renaming length_append→lA,length_cons→lB,length_nil→lC
open Nat renaming reduceEqDiff→rE,reduceAdd→rF,reduceLeDiff→rG,reduceLT→rH
open Go
theorem nsum_len {l:List (List UInt8)} (h:l.all nameV=true):(l.map fun a=>a.length + cmW.length).sum ≤ 33 * l.length:=by
 have:=sum_le (g:=fun a:List UInt8=>a.length + cmW.length) (c:=fun _=>1) (K:=33) (l:=l) fun s hs=>by
  have:=name_len (List.all_eq_true.1 h s hs)
  show s.length + 2 ≤ 33 * 1
  omega
 rw [ones_sum] at this
 exact this
def utt2:SC:=tailS 2 c37
theorem utt_e:c37 = .seq (headS 0 c37) (.seq (headS 1 c37) utt2):=rfl
section
variable {Q:Type} [Inhabited Q] {f:Q→List SV} (hf:∀ x,(f x).length=10) {tq:Q→List UInt8} {c:Q→Nat} {q:Q→Q→Bool} {vq:Q→Bool} {w:Q→Prop}
 (hL:∀ a,w a→vq a=true→(tq a).length + 100 ≤ 1000 * c a)
 (hT:∀ a,w a→vq a=true→c a ≤ 10000→calL EE 63 [.st (f a)] []=some (.ret (.str (tq a)),[]))
include hf hL hT in
set_option maxHeartbeats 4000000 in
theorem us0 (a:StP Q) (ha:wfStP w a) (hk:a.k=0) (hv:okS vq a=true) (hn:cntS c a ≤ 10000) (T:Nat→PV) (H:Ob) (n:Nat) (hn1:1 ≤ n) (h1:T 1 = .ptr 0 0) (hH0:H 0 = .box 57 ((StP.row f a).map .s)):WP EE utt2 T H n (Fin [.t 2] (.str (stmT tq a))):=by
 obtain ⟨k,nm,tb,co,ke,ns,ro,se,wh,qu⟩:=a
 obtain rfl:k=0:=hk
 have hv:(one vq ⟨0,nm,tb,co,ke,ns,ro,se,wh,qu⟩)=true:=hv
 skip
 unfold cntS at hn
 simp only at hn
 obtain ⟨hl1,v1⟩:qu.l.length=1 ∧ vq (qu.l.getD 0 default)=true:=by simpa only [one,Bool.and_eq_true,decide_eq_true_eq] using hv
 have hm:=getD_mem (l:=qu.l) (j:=0) default (by omega)
 have hs:=sum_mem (g:=c) hm
 have k9:=hL _ (ha.qu _ hm) v1
 have e9:=hT _ (ha.qu _ hm) v1 (by omega)
 have k8:(tq (qu.l.getD 0 default)).length ≤ 10000000:=by omega
 clear k9
 have hin:(0:Int) ≤ 0 ∧ (0:Int) < (qu.l.length:Int):=⟨by decide,by omega⟩
 have hq0:=q_at hf (l:=qu.l) (i:=0) (by omega)
 have e0:Int.toNat 0=0:=rfl
 rw [show stmT tq ⟨0,nm,tb,co,ke,ns,ro,se,wh,qu⟩=tq (qu.l.getD 0 default) from rfl]
 generalize tq (qu.l.getD 0 default)=A at e9 k8 ⊢
 unfold StP.row at hH0
 unfold utt2 c37
 simp only [go_sem,reduceIte,rE,rF,rG,rH,tailS,h1,hH0,Int.reduceEq,decide_false,decide_true,and_self,lA,lB,lC,(q_ags hf).ia,hin,e0,hq0]
 refine WC_p rfl (by rw [pure_st]; rfl) e9 ?_
 simp only [go_sem,reduceIte,rE,rF,rG,rH,tailS,h1,hH0,Int.reduceEq,decide_false,decide_true,and_self,lA,lB,lC]
include hf hL hT in
set_option maxHeartbeats 4000000 in
theorem us1 (a:StP Q) (ha:wfStP w a) (hk:a.k=1) (hv:okS vq a=true) (hn:cntS c a ≤ 10000) (T:Nat→PV) (H:Ob) (n:Nat) (hn1:1 ≤ n) (h1:T 1 = .ptr 0 0) (hH0:H 0 = .box 57 ((StP.row f a).map .s)):WP EE utt2 T H n (Fin [.t 2] (.str (stmT tq a))):=by
 obtain ⟨k,nm,tb,co,ke,ns,ro,se,wh,qu⟩:=a
 obtain rfl:k=1:=hk
 have hv:(one vq ⟨1,nm,tb,co,ke,ns,ro,se,wh,qu⟩)=true:=hv
 skip
 unfold cntS at hn
 simp only at hn
 obtain ⟨hl1,v1⟩:qu.l.length=1 ∧ vq (qu.l.getD 0 default)=true:=by simpa only [one,Bool.and_eq_true,decide_eq_true_eq] using hv
 have hm:=getD_mem (l:=qu.l) (j:=0) default (by omega)
 have hs:=sum_mem (g:=c) hm
 have k9:=hL _ (ha.qu _ hm) v1
 have e9:=hT _ (ha.qu _ hm) v1 (by omega)
 have k8:(tq (qu.l.getD 0 default)).length ≤ 10000000:=by omega
 clear k9
 have hin:(0:Int) ≤ 0 ∧ (0:Int) < (qu.l.length:Int):=⟨by decide,by omega⟩
 have hq0:=q_at hf (l:=qu.l) (i:=0) (by omega)
 have e0:Int.toNat 0=0:=rfl
 rw [show stmT tq ⟨1,nm,tb,co,ke,ns,ro,se,wh,qu⟩=[69,88,80,76,65,73,78,32] ++ tq (qu.l.getD 0 default) from rfl]
 generalize tq (qu.l.getD 0 default)=A at e9 k8 ⊢
 unfold StP.row at hH0
 unfold utt2 c37
 simp only [go_sem,reduceIte,rE,rF,rG,rH,tailS,h1,hH0,Int.reduceEq,decide_false,decide_true,and_self,lA,lB,lC,(q_ags hf).ia,hin,e0,hq0]
 refine WC_p rfl (by rw [pure_st]; rfl) e9 ?_
 simp only [go_sem,reduceIte,rE,rF,rG,rH,tailS,h1,hH0,Int.reduceEq,decide_false,decide_true,and_self,lA,lB,lC]
 omega
set_option maxHeartbeats 4000000 in
theorem us3 (a:StP Q) (ha:wfStP w a) (hk:a.k=3) (hv:okS vq a=true) (hn:cntS c a ≤ 10000) (T:Nat→PV) (H:Ob) (n:Nat) (hn1:1 ≤ n) (h1:T 1 = .ptr 0 0) (hH0:H 0 = .box 57 ((StP.row f a).map .s)):WP EE utt2 T H n (Fin [.t 2] (.str (stmT tq a))):=by
 obtain ⟨k,nm,tb,co,ke,ns,ro,se,wh,qu⟩:=a
 obtain rfl:k=3:=hk
 have hv:(nameV nm && nameV tb && decide (0 < ns.l.length) && ns.l.all nameV)=true:=hv
 simp only [Bool.and_eq_true,decide_eq_true_eq] at hv
 unfold cntS at hn
 simp only at hn
 have k1:=name_len hv.1.1.1
 have k2:=name_len hv.1.1.2
 have k3:=joinN_len hv.2
 have k5:=nsum_len hv.2
 have e:=refJoin_ok ns cmW (by omega) (by omega) (by decide)
 rw [show stmT tq ⟨3,nm,tb,co,ke,ns,ro,se,wh,qu⟩=[67,82,69,65,84,69,32,73,78,68,69,88,32] ++ nm ++ [32,79,78,32] ++ tb ++ [32,40] ++ Lib.join ns.l cmW ++ [41] from rfl]
 have k4:(Lib.join ns.l cmW).length ≤ 10000000:=by omega
 clear k3 k5
 unfold cmW at *
 generalize Lib.join ns.l [44,32]=A at e k4 ⊢
 unfold StP.row at hH0
 unfold utt2 c37
 simp only [go_sem,reduceIte,rE,rF,rG,rH,tailS,h1,hH0,Int.reduceEq,decide_false,decide_true,and_self,lA,lB,lC]
 refine ⟨by omega,?_⟩
 refine WC_p rfl rfl e ?_
 simp only [go_sem,reduceIte,rE,rF,rG,rH,tailS,h1,hH0,Int.reduceEq,decide_false,decide_true,and_self,lA,lB,lC]
 omega
include hf hL hT in
set_option maxHeartbeats 4000000 in
theorem us4 (a:StP Q) (ha:wfStP w a) (hk:a.k=4) (hv:okS vq a=true) (hn:cntS c a ≤ 10000) (T:Nat→PV) (H:Ob) (n:Nat) (hn1:1 ≤ n) (h1:T 1 = .ptr 0 0) (hH0:H 0 = .box 57 ((StP.row f a).map .s)):WP EE utt2 T H n (Fin [.t 2] (.str (stmT tq a))):=by
 obtain ⟨k,nm,tb,co,ke,ns,ro,se,wh,qu⟩:=a
 obtain rfl:k=4:=hk
 have hv:(nameV nm && one vq ⟨4,nm,tb,co,ke,ns,ro,se,wh,qu⟩)=true:=hv
 simp only [Bool.and_eq_true,decide_eq_true_eq] at hv
 unfold cntS at hn
 simp only at hn
 have k1:=name_len hv.1
 obtain ⟨hl1,v1⟩:qu.l.length=1 ∧ vq (qu.l.getD 0 default)=true:=by simpa only [one,Bool.and_eq_true,decide_eq_true_eq] using hv.2
 have hm:=getD_mem (l:=qu.l) (j:=0) default (by omega)
 have hs:=sum_mem (g:=c) hm
 have k9:=hL _ (ha.qu _ hm) v1
 have e9:=hT _ (ha.qu _ hm) v1 (by omega)
 have k8:(tq (qu.l.getD 0 default)).length ≤ 10000000:=by omega
 clear k9
 have hin:(0:Int) ≤ 0 ∧ (0:Int) < (qu.l.length:Int):=⟨by decide,by omega⟩
 have hq0:=q_at hf (l:=qu.l) (i:=0) (by omega)
 have e0:Int.toNat 0=0:=rfl
 rw [show stmT tq ⟨4,nm,tb,co,ke,ns,ro,se,wh,qu⟩=[67,82,69,65,84,69,32,86,73,69,87,32] ++ nm ++ [32,65,83,32] ++ tq (qu.l.getD 0 default) from rfl]
 generalize tq (qu.l.getD 0 default)=A at e9 k8 ⊢
 unfold StP.row at hH0
 unfold utt2 c37
 simp only [go_sem,reduceIte,rE,rF,rG,rH,tailS,h1,hH0,Int.reduceEq,decide_false,decide_true,and_self,lA,lB,lC,(q_ags hf).ia,hin,e0,hq0]
 refine ⟨by omega,?_⟩
 refine WC_p rfl (by rw [pure_st]; rfl) e9 ?_
 simp only [go_sem,reduceIte,rE,rF,rG,rH,tailS,h1,hH0,Int.reduceEq,decide_false,decide_true,and_self,lA,lB,lC]
 omega
include hf hL hT in
set_option maxHeartbeats 4000000 in
theorem us5 (a:StP Q) (ha:wfStP w a) (hk:a.k=5) (hv:okS vq a=true) (hn:cntS c a ≤ 10000) (T:Nat→PV) (H:Ob) (n:Nat) (hn1:1 ≤ n) (h1:T 1 = .ptr 0 0) (hH0:H 0 = .box 57 ((StP.row f a).map .s)):WP EE utt2 T H n (Fin [.t 2] (.str (stmT tq a))):=by
 obtain ⟨k,nm,tb,co,ke,ns,ro,se,wh,qu⟩:=a
 obtain rfl:k=5:=hk
 have hv:(nameV nm && one vq ⟨5,nm,tb,co,ke,ns,ro,se,wh,qu⟩)=true:=hv
 simp only [Bool.and_eq_true,decide_eq_true_eq] at hv
 unfold cntS at hn
 simp only at hn
 have k1:=name_len hv.1
 obtain ⟨hl1,v1⟩:qu.l.length=1 ∧ vq (qu.l.getD 0 default)=true:=by simpa only [one,Bool.and_eq_true,decide_eq_true_eq] using hv.2
 have hm:=getD_mem (l:=qu.l) (j:=0) default (by omega)
 have hs:=sum_mem (g:=c) hm
 have k9:=hL _ (ha.qu _ hm) v1
 have e9:=hT _ (ha.qu _ hm) v1 (by omega)
 have k8:(tq (qu.l.getD 0 default)).length ≤ 10000000:=by omega
 clear k9
 have hin:(0:Int) ≤ 0 ∧ (0:Int) < (qu.l.length:Int):=⟨by decide,by omega⟩
 have hq0:=q_at hf (l:=qu.l) (i:=0) (by omega)
 have e0:Int.toNat 0=0:=rfl
 rw [show stmT tq ⟨5,nm,tb,co,ke,ns,ro,se,wh,qu⟩=[67,82,69,65,84,69,32,77,65,84,69,82,73,65,76,73,90,69,68,32,86,73,69,87,32] ++ nm ++ [32,65,83,32] ++ tq (qu.l.getD 0 default) from rfl]
 generalize tq (qu.l.getD 0 default)=A at e9 k8 ⊢
 unfold StP.row at hH0
 unfold utt2 c37
 simp only [go_sem,reduceIte,rE,rF,rG,rH,tailS,h1,hH0,Int.reduceEq,decide_false,decide_true,and_self,lA,lB,lC,(q_ags hf).ia,hin,e0,hq0]
 refine ⟨by omega,?_⟩
 refine WC_p rfl (by rw [pure_st]; rfl) e9 ?_
 simp only [go_sem,reduceIte,rE,rF,rG,rH,tailS,h1,hH0,Int.reduceEq,decide_false,decide_true,and_self,lA,lB,lC]
 omega
set_option maxHeartbeats 4000000 in
theorem us6 (a:StP Q) (ha:wfStP w a) (hk:a.k=6) (hv:okS vq a=true) (hn:cntS c a ≤ 10000) (T:Nat→PV) (H:Ob) (n:Nat) (hn1:1 ≤ n) (h1:T 1 = .ptr 0 0) (hH0:H 0 = .box 57 ((StP.row f a).map .s)):WP EE utt2 T H n (Fin [.t 2] (.str (stmT tq a))):=by
 obtain ⟨k,nm,tb,co,ke,ns,ro,se,wh,qu⟩:=a
 obtain rfl:k=6:=hk
 have hv:(nameV nm)=true:=hv
 skip
 unfold cntS at hn
 simp only at hn
 have k1:=name_len hv
 rw [show stmT tq ⟨6,nm,tb,co,ke,ns,ro,se,wh,qu⟩=[68,82,79,80,32] ++ nm from rfl]
 unfold StP.row at hH0
 unfold utt2 c37
 simp only [go_sem,reduceIte,rE,rF,rG,rH,tailS,h1,hH0,Int.reduceEq,decide_false,decide_true,and_self,lA,lB,lC]
 omega
set_option maxHeartbeats 4000000 in
theorem us9 (a:StP Q) (ha:wfStP w a) (hk:a.k=9) (hv:okS vq a=true) (hn:cntS c a ≤ 10000) (T:Nat→PV) (H:Ob) (n:Nat) (hn1:1 ≤ n) (h1:T 1 = .ptr 0 0) (hH0:H 0 = .box 57 ((StP.row f a).map .s)):WP EE utt2 T H n (Fin [.t 2] (.str (stmT tq a))):=by
 obtain ⟨k,nm,tb,co,ke,ns,ro,se,wh,qu⟩:=a
 obtain rfl:k=9:=hk
 have hv:(nameV tb && vWh wh.l)=true:=hv
 simp only [Bool.and_eq_true,decide_eq_true_eq] at hv
 unfold cntS at hn
 simp only at hn
 have k1:=name_len hv.1
 obtain ⟨_,e2,k3⟩:=where_txt wh ha.wh hv.2 (by omega)
 rw [show stmT tq ⟨9,nm,tb,co,ke,ns,ro,se,wh,qu⟩=[68,69,76,69,84,69,32,70,82,79,77,32] ++ tb ++ whrT wh.l from rfl]
 generalize whrT wh.l=C at e2 k3 ⊢
 unfold StP.row at hH0
 unfold utt2 c37
 simp only [go_sem,reduceIte,rE,rF,rG,rH,tailS,h1,hH0,Int.reduceEq,decide_false,decide_true,and_self,lA,lB,lC]
 refine ⟨by omega,?_⟩
 refine WC_p rfl rfl e2 ?_
 simp only [go_sem,reduceIte,rE,rF,rG,rH,tailS,h1,hH0,Int.reduceEq,decide_false,decide_true,and_self,lA,lB,lC]
 omega
set_option maxHeartbeats 4000000 in
theorem us10 (a:StP Q) (ha:wfStP w a) (hk:a.k=10 ∨ a.k=11 ∨ a.k=12) (hv:okS vq a=true) (hn:cntS c a ≤ 10000) (T:Nat→PV) (H:Ob) (n:Nat) (hn1:1 ≤ n) (h1:T 1 = .ptr 0 0) (hH0:H 0 = .box 57 ((StP.row f a).map .s)):WP EE utt2 T H n (Fin [.t 2] (.str (stmT tq a))):=by
 obtain ⟨k,nm,tb,co,ke,ns,ro,se,wh,qu⟩:=a
 unfold StP.row at hH0
 unfold utt2 c37
 rcases hk with h | h | h
 all_goals
  simp only at h
  subst h
  simp only [go_sem,reduceIte,rE,rF,rG,rH,tailS,h1,hH0,Int.reduceEq,decide_false,decide_true,and_self,lA,lB,lC]
  rfl
set_option maxHeartbeats 4000000 in
theorem us2 (a:StP Q) (ha:wfStP w a) (hk:a.k=2) (hv:okS vq a=true) (hn:cntS c a ≤ 10000) (T:Nat→PV) (H:Ob) (n:Nat) (hn1:1 ≤ n) (h1:T 1 = .ptr 0 0) (hH0:H 0 = .box 57 ((StP.row f a).map .s)):WP EE utt2 T H n (Fin [.t 2] (.str (stmT tq a))):=by
 obtain ⟨k,nm,tb,co,ke,ns,ro,se,wh,qu⟩:=a
 obtain rfl:k=2:=hk
 have hv:(nameV nm && decide (0 < co.l.length) && ke.l.all nameV && co.l.all vCol)=true:=hv
 simp only [Bool.and_eq_true,decide_eq_true_eq] at hv
 unfold cntS at hn
 simp only at hn
 have h2:=List.all_eq_true.1 hv.2
 have k1:=name_len hv.1.1.1
 have kb:=sum_le (g:=fun x=>(tyT x).length + cmW.length) (c:=fun _=>1) (K:=1000) (l:=co.l) fun x hx=>ty_tlen (h2 x hx)
 have kj:=join_le (t:=tyT) (c:=fun _=>1) (K:=1000) (sep:=cmW) (l:=co.l) fun x hx=>ty_tlen (h2 x hx)
 rw [ones_sum] at kb kj
 have k3:=joinN_len hv.1.2
 have k5:=nsum_len hv.1.2
 have ek:=refJoin_ok ke cmW (by omega) (by omega) (by decide)
 have k4:(Lib.join ke.l cmW).length ≤ 1000000:=by omega
 have k6:(Lib.join (co.l.map tyT) cmW).length ≤ 10000000:=by omega
 have kb2:(co.l.map fun x=>(tyT x).length + cmW.length).sum ≤ 10000000:=by omega
 have hcl:0 < co.l.length:=hv.1.1.2
 have hcn:co.l.length ≤ 10000:=by omega
 have hcm:cmW.length=2:=rfl
 clear k3 k5 kb kj
 rw [show stmT tq ⟨2,nm,tb,co,ke,ns,ro,se,wh,qu⟩=[67,82,69,65,84,69,32,84,65,66,76,69,32] ++ nm ++ [32,40] ++ Lib.join (co.l.map tyT) cmW ++ keyW ke.l ++ [41] from rfl]
 unfold keyW
 unfold StP.row at hH0
 unfold utt2 c37
 simp only [go_sem,reduceIte,rE,rF,rG,rH,tailS,h1,hH0,Int.reduceEq,decide_false,decide_true,and_self,lA,lB,lC]
 refine WP_scan rfl 4 co.l.length (fun _=>True) (fun j T H n=>1 ≤ n ∧ H 0 = .box 57 ((StP.row f ⟨2,nm,tb,co,ke,ns,ro,se,wh,qu⟩).map .s) ∧ Own 1 9 1 H n (T 3) (((co.l.take j).map tyT).map txRow)) rfl ⟨by omega,hH0,.lit⟩ ?_ ?_
 ·rintro j T' H' n' hlt hf' hi ⟨hn',hH',ho'⟩ _
  have g1:T' 1 = .ptr 0 0:=(hf' 1 rfl).trans h1
  clear hf'
  have hji:(j:Int) < co.l.length:=by omega
  have hj0:(0:Int) ≤ j:=by omega
  have hwj:=wrap_suc (j:=j) (by omega)
  have hnx:((co.l.take (j + 1)).map tyT).map txRow=((co.l.take j).map tyT).map txRow ++ [txRow (tyT (co.l.getD j default))]:=by
   rw [take_step default hlt]; simp
  rw [hnx]
  have hle:(((co.l.take j).map tyT).map txRow).length ≤ 1000000:=by rw [List.length_map,List.length_map,List.length_take]; omega
  generalize ((co.l.take j).map tyT).map txRow=rows at ho' hle ⊢
  have hm:=getD_mem (l:=co.l) (j:=j) default hlt
  have hx1:∀ agg sz off HH,loadM agg sz HH (.eptr (co.l.map Col.row) j off)=loadS agg sz (Col.row (co.l.getD j default)) off:=fun agg sz off HH=>by rw [load_eptr,if_pos hlt]
  have hvX:=h2 _ hm
  have kt:=ty_tlen hvX
  have e:=t25 (co.l.getD j default).ty
  generalize co.l.getD j default=X at hx1 kt e ⊢
  obtain ⟨cn,ct⟩:=X
  have hrow:Col.row ⟨cn,ct⟩=[.str cn,.int .i64 ct]:=rfl
  rw [hrow] at hx1
  unfold tyT at kt ⊢
  simp only at kt e ⊢
  generalize tnm ct=A at e kt ⊢
  simp only [lA,lB,lC] at kt
  simp only [go_sem,reduceIte,rE,rF,rG,rH,StP.row,g1,hi,hH',hji,hj0,and_self,decide_true,col_ags.ia,Int.toNat_natCast,hx1,lA,lB,lC]
  refine ⟨by omega,?_⟩
  refine WC_p rfl rfl e ?_
  simp only [go_sem,reduceIte,rE,rF,rG,rH,lA,lB,lC]
  refine ⟨by omega,?_⟩
  refine WX_app ho' rows_slice (by simp) (by simp; omega) (by omega) (by omega) ?_
  intro p1 H2 ho2 hfr2 hof2
  have hH2:=(hfr2 0 (by omega) (ho'.off (.inl (by omega)))).trans hH'
  simp only [go_sem,reduceIte,rE,rF,rG,rH,hi,hwj]
  exact ⟨hH2,ho2.kept (by omega) (fun _ _ _=>rfl)⟩
 ·rintro T' H' n' hf' hi ⟨hn',hH',ho'⟩ _
  have g1:T' 1 = .ptr 0 0:=(hf' 1 rfl).trans h1
  clear hf'
  rw [List.take_length] at ho'
  unfold StP.row at hH'
  by_cases h0:ke.l.length=0
  ·have d:decide (0 < ke.l.length)=false:=decide_eq_false (by omega)
   rw [if_pos h0]
   obtain ⟨o3,hof,hz⟩:=(ho'.kept (Nat.le_refl _) (fun _ _ _=>rfl)).frz
   obtain ⟨sl,hl,hsl⟩:=o3.lendF hz
   have hF0:=(hof 0 ((ho'.kept (Nat.le_refl _) (fun _ _ _=>rfl)).off (.inl (by omega)))).trans hH'
   have ej:=refJoin_ok sl cmW (by rw [hsl]; rw [List.length_map]; omega) (by rw [hsl]; rw [sums_map]; omega) (by decide)
   rw [hsl] at ej
   generalize Lib.join (co.l.map tyT) cmW=A at ej k6 ⊢
   simp only [go_sem,reduceIte,rE,rF,rG,rH,g1,hi,hH',hF0,Int.lt_irrefl,decide_false,pos_dec,d,lA,lB,lC]
   refine ⟨by omega,?_⟩
   refine WC_lend rfl (a:=[.s (sl.sv txRow),.str cmW]) (H1:=frz1 H' (T' 3)) ?_ rfl (fun _ => ?_) ej ?_
   ·rw [lendL_cons,hl,bnd_some]; rfl
   ·rw [List.all_cons,hz]; rfl
   ·simp only [go_sem,reduceIte,rE,rF,rG,rH,g1,hF0,List.all_nil,lA,lB,lC,List.append_nil,List.append_assoc,List.cons_append,List.nil_append]
    omega
  ·have d:decide (0 < ke.l.length)=true:=decide_eq_true (by omega)
   rw [if_neg h0]
   have hH1:=hH'
   simp only [go_sem,reduceIte,rE,rF,rG,rH,g1,hi,hH',Int.lt_irrefl,decide_false,pos_dec,d,lA,lB,lC]
   refine WC_p rfl rfl ek ?_
   generalize Lib.join ke.l cmW=K at k4 ⊢
   simp only [go_sem,reduceIte,rE,rF,rG,rH,g1,hi,hH',lA,lB,lC]
   refine ⟨⟨by omega,by omega⟩,?_⟩
   refine WX_app ho' rows_slice (by simp) (by simp; omega) (by omega) (by omega) ?_
   intro p1 H2 ho2 hfr2 hof2
   have hH2:=(hfr2 0 (by omega) (ho'.off (.inl (by omega)))).trans hH1
   rw [show (co.l.map tyT).map txRow ++ [[SV.str ([80,82,73,77,65,82,89,32,75,69,89,32,40] ++ K ++ [41])]]=(co.l.map tyT ++ [[80,82,73,77,65,82,89,32,75,69,89,32,40] ++ K ++ [41]]).map txRow by rw [List.map_append]; rfl] at ho2
   obtain ⟨o3,hof,hz⟩:=(ho2).frz
   obtain ⟨sl,hl,hsl⟩:=o3.lendF hz
   have hF0:=(hof 0 ((ho2).off (.inl (by omega)))).trans hH2
   have ej:=refJoin_ok sl cmW (by rw [hsl]; rw [List.length_append,List.length_map]; simp only [lA,lB,lC]; omega) (by rw [hsl]; rw [List.map_append,List.sum_append,sums_map]; generalize (co.l.map fun x=>(tyT x).length + cmW.length).sum=W at kb2 ⊢; simp only [List.map_cons,List.map_nil,List.sum_cons,List.sum_nil,lA,lB,lC]; omega) (by decide)
   rw [hsl] at ej
   rw [jn_snoc,if_neg (by rw [List.length_map]; omega)] at ej
   generalize Lib.join (co.l.map tyT) cmW=A at ej k6 ⊢
   simp only [go_sem,reduceIte,rE,rF,rG,rH,g1,hi,hH2,hF0,lA,lB,lC]
   refine ⟨by omega,?_⟩
   refine WC_lend rfl (a:=[.s (sl.sv txRow),.str cmW]) (H1:=frz1 H2 p1) ?_ rfl (fun _ => ?_) ej ?_
   ·rw [lendL_cons,hl,bnd_some]; rfl
   ·rw [List.all_cons,hz]; rfl
   ·simp only [go_sem,reduceIte,rE,rF,rG,rH,g1,hF0,List.all_nil,cmW,lA,lB,lC,List.append_nil,List.append_assoc,List.cons_append,List.nil_append]
    omega
set_option maxHeartbeats 4000000 in
theorem us8 (a:StP Q) (ha:wfStP w a) (hk:a.k=8) (hv:okS vq a=true) (hn:cntS c a ≤ 10000) (T:Nat→PV) (H:Ob) (n:Nat) (hn1:1 ≤ n) (h1:T 1 = .ptr 0 0) (hH0:H 0 = .box 57 ((StP.row f a).map .s)):WP EE utt2 T H n (Fin [.t 2] (.str (stmT tq a))):=by
 obtain ⟨k,nm,tb,co,ke,ns,ro,se,wh,qu⟩:=a
 obtain rfl:k=8:=hk
 have hv:(nameV tb && decide (0 < se.l.length) && vWh wh.l && se.l.all vStg)=true:=hv
 simp only [Bool.and_eq_true,decide_eq_true_eq] at hv
 unfold cntS at hn
 simp only at hn
 have k1:=name_len hv.1.1.1
 have h4:=List.all_eq_true.1 hv.2
 have kb:=sum_le (g:=fun x=>(stgT x).length + cmW.length) (c:=cntSt) (K:=1000) (l:=se.l) fun x hx=>stg_tlen (ha.se x hx) (h4 x hx)
 have kj:=join_le (t:=stgT) (c:=cntSt) (K:=1000) (sep:=cmW) (l:=se.l) fun x hx=>stg_tlen (ha.se x hx) (h4 x hx)
 obtain ⟨_,e2,k3⟩:=where_txt wh ha.wh hv.1.2 (by omega)
 have k6:(Lib.join (se.l.map stgT) cmW).length ≤ 100000000:=by omega
 have kb2:(se.l.map fun x=>(stgT x).length + cmW.length).sum ≤ 100000000:=by omega
 have hcn:se.l.length ≤ 10000:=by omega
 have hce:(se.l.map cntSt).sum ≤ 10000:=by omega
 clear kb kj
 rw [show stmT tq ⟨8,nm,tb,co,ke,ns,ro,se,wh,qu⟩=[85,80,68,65,84,69,32] ++ tb ++ [32,83,69,84,32] ++ Lib.join (se.l.map stgT) cmW ++ whrT wh.l from rfl]
 generalize whrT wh.l=C at e2 k3 ⊢
 unfold StP.row at hH0
 unfold utt2 c37
 simp only [go_sem,reduceIte,rE,rF,rG,rH,tailS,h1,hH0,Int.reduceEq,decide_false,decide_true,and_self,lA,lB,lC]
 refine WP_scan rfl 9 se.l.length (fun _=>True) (fun j T H n=>1 ≤ n ∧ H 0 = .box 57 ((StP.row f ⟨8,nm,tb,co,ke,ns,ro,se,wh,qu⟩).map .s) ∧ Own 1 9 1 H n (T 8) (((se.l.take j).map stgT).map txRow)) rfl ⟨by omega,hH0,.lit⟩ ?_ ?_
 ·rintro j T' H' n' hlt hf' hi ⟨hn',hH',ho'⟩ _
  have g1:T' 1 = .ptr 0 0:=(hf' 1 rfl).trans h1
  clear hf'
  have hji:(j:Int) < se.l.length:=by omega
  have hj0:(0:Int) ≤ j:=by omega
  have hwj:=wrap_suc (j:=j) (by omega)
  have hnx:((se.l.take (j + 1)).map stgT).map txRow=((se.l.take j).map stgT).map txRow ++ [txRow (stgT (se.l.getD j default))]:=by
   rw [take_step default hlt]; simp
  rw [hnx]
  have hle:(((se.l.take j).map stgT).map txRow).length ≤ 1000000:=by rw [List.length_map,List.length_map,List.length_take]; omega
  generalize ((se.l.take j).map stgT).map txRow=rows at ho' hle ⊢
  have hm:=getD_mem (l:=se.l) (j:=j) default hlt
  have hx1:∀ agg sz off HH,loadM agg sz HH (.eptr (se.l.map Stg.row) j off)=loadS agg sz (Stg.row (se.l.getD j default)) off:=fun agg sz off HH=>by rw [load_eptr,if_pos hlt]
  have hvX:=h4 _ hm
  have hwX:=ha.se _ hm
  have hcs:=sum_mem (g:=cntSt) hm
  have kt:=stg_tlen hwX hvX
  generalize se.l.getD j default=X at hx1 hvX hwX hcs kt ⊢
  obtain ⟨sn,t⟩:=X
  have hcs:cnt t ≤ _:=hcs
  have kt:_ ≤ 1000 * cnt t:=kt
  unfold vStg at hvX
  simp only [Bool.and_eq_true] at hvX
  have e:=refText_ok _ t (Nat.le_refl _) (by omega) hwX (.inl hvX.2)
  have hrow:Stg.row ⟨sn,t⟩ = .str sn :: t.row:=rfl
  rw [hrow] at hx1
  have lt:=row_len t
  have tt:List.take 9 t.row=t.row:=List.take_of_length_le (by omega)
  have kt2:(stgT ⟨sn,t⟩).length ≤ 10000000:=by omega
  clear kt hcs
  unfold stgT at kt2 ⊢
  simp only at kt2 e ⊢
  generalize txt t=A at e kt2 ⊢
  simp only [lA,lB,lC] at kt2
  simp only [go_sem,reduceIte,rE,rF,rG,rH,StP.row,g1,hi,hH',hji,hj0,and_self,decide_true,stg_ags.ia,Int.toNat_natCast,hx1,lt,tt,Nat.le_refl,lA,lB,lC]
  refine ⟨by omega,?_⟩
  refine WC_p rfl (by rw [pure_st]; rfl) e ?_
  simp only [go_sem,reduceIte,rE,rF,rG,rH,lA,lB,lC]
  refine ⟨by omega,?_⟩
  refine WX_app ho' rows_slice (by simp) (by simp; omega) (by omega) (by omega) ?_
  intro p1 H2 ho2 hfr2 hof2
  have hH2:=(hfr2 0 (by omega) (ho'.off (.inl (by omega)))).trans hH'
  simp only [go_sem,reduceIte,rE,rF,rG,rH,hi,hwj]
  exact ⟨hH2,ho2.kept (by omega) (fun _ _ _=>rfl)⟩
 ·rintro T' H' n' hf' hi ⟨hn',hH',ho'⟩ _
  have g1:T' 1 = .ptr 0 0:=(hf' 1 rfl).trans h1
  clear hf'
  rw [List.take_length] at ho'
  unfold StP.row at hH'
  obtain ⟨o3,hof,hz⟩:=(ho'.kept (Nat.le_refl _) (fun _ _ _=>rfl)).frz
  obtain ⟨sl,hl,hsl⟩:=o3.lendF hz
  have hF0:=(hof 0 ((ho'.kept (Nat.le_refl _) (fun _ _ _=>rfl)).off (.inl (by omega)))).trans hH'
  have ej:=refJoin_ok sl cmW (by rw [hsl]; rw [List.length_map]; omega) (by rw [hsl]; rw [sums_map]; omega) (by decide)
  rw [hsl] at ej
  generalize Lib.join (se.l.map stgT) cmW=A at ej k6 ⊢
  simp only [go_sem,reduceIte,rE,rF,rG,rH,g1,hi,hH',hF0,Int.lt_irrefl,decide_false,lA,lB,lC]
  refine ⟨by omega,?_⟩
  refine WC_lend rfl (a:=[.s (sl.sv txRow),.str cmW]) (H1:=frz1 H' (T' 8)) ?_ rfl (fun _ => ?_) ej ?_
  ·rw [lendL_cons,hl,bnd_some]; rfl
  ·rw [List.all_cons,hz]; rfl
  ·simp only [go_sem,reduceIte,rE,rF,rG,rH,g1,hF0,List.all_nil,lA,lB,lC]
   refine ⟨by omega,?_⟩
   refine WC_p rfl rfl e2 ?_
   simp only [go_sem,reduceIte,rE,rF,rG,rH,List.all_nil,lA,lB,lC,List.append_nil,List.append_assoc,List.cons_append,List.nil_append]
   omega
set_option maxHeartbeats 4000000 in
theorem us7 (a:StP Q) (ha:wfStP w a) (hk:a.k=7) (hv:okS vq a=true) (hn:cntS c a ≤ 10000) (T:Nat→PV) (H:Ob) (n:Nat) (hn1:1 ≤ n) (h1:T 1 = .ptr 0 0) (hH0:H 0 = .box 57 ((StP.row f a).map .s)):WP EE utt2 T H n (Fin [.t 2] (.str (stmT tq a))):=by
 obtain ⟨k,nm,tb,co,ke,ns,ro,se,wh,qu⟩:=a
 obtain rfl:k=7:=hk
 have hv:(nameV tb && ns.l.all nameV && decide (0 < ro.l.length) && ro.l.all vRow)=true:=hv
 simp only [Bool.and_eq_true,decide_eq_true_eq] at hv
 unfold cntS at hn
 simp only at hn
 have k1:=name_len hv.1.1.1
 have h4:=List.all_eq_true.1 hv.2
 have kb:=sum_le (g:=fun x=>(rowT x).length + cmW.length) (c:=cntRw) (K:=2000) (l:=ro.l) fun x hx=>row_tlen (ha.ro x hx).2 (h4 x hx)
 have kj:=join_le (t:=rowT) (c:=cntRw) (K:=2000) (sep:=cmW) (l:=ro.l) fun x hx=>row_tlen (ha.ro x hx).2 (h4 x hx)
 have k3:=joinN_len hv.1.1.2
 have k5:=nsum_len hv.1.1.2
 have ek:=refJoin_ok ns cmW (by omega) (by omega) (by decide)
 have k4:(Lib.join ns.l cmW).length ≤ 1000000:=by omega
 have k6:(Lib.join (ro.l.map rowT) cmW).length ≤ 100000000:=by omega
 have kb2:(ro.l.map fun x=>(rowT x).length + cmW.length).sum ≤ 100000000:=by omega
 have hcn:ro.l.length ≤ 10000:=by omega
 have hce:(ro.l.map cntRw).sum ≤ 10000:=by omega
 clear kb kj k3 k5
 rw [show stmT tq ⟨7,nm,tb,co,ke,ns,ro,se,wh,qu⟩=[73,78,83,69,82,84,32,73,78,84,79,32] ++ tb ++ namT ns.l ++ [32,86,65,76,85,69,83,32] ++ Lib.join (ro.l.map rowT) cmW from rfl]
 unfold namT
 unfold StP.row at hH0
 unfold utt2 c37
 by_cases h0:ns.l.length=0
 case' pos =>
  have d:decide (0 < ns.l.length)=false:=decide_eq_false (by omega)
  rw [if_pos h0]
  simp only [go_sem,reduceIte,rE,rF,rG,rH,tailS,h1,hH0,Int.reduceEq,decide_false,decide_true,and_self,lA,lB,lC,pos_dec,d]
  refine ⟨by omega,?_⟩
 case' neg =>
  have d:decide (0 < ns.l.length)=true:=decide_eq_true (by omega)
  rw [if_neg h0]
  simp only [go_sem,reduceIte,rE,rF,rG,rH,tailS,h1,hH0,Int.reduceEq,decide_false,decide_true,and_self,lA,lB,lC,pos_dec,d]
  refine ⟨by omega,?_⟩
  refine WC_p rfl rfl ek ?_
  generalize Lib.join ns.l cmW=K at k4 ⊢
  simp only [go_sem,reduceIte,rE,rF,rG,rH,tailS,h1,hH0,Int.reduceEq,decide_false,decide_true,and_self,lA,lB,lC]
  refine ⟨by omega,⟨by omega,by omega⟩,?_⟩
 all_goals
  refine WP_scan rfl 7 ro.l.length (fun _=>True) (fun j T H n=>1 ≤ n ∧ H 0 = .box 57 ((StP.row f ⟨7,nm,tb,co,ke,ns,ro,se,wh,qu⟩).map .s) ∧ Own 1 9 1 H n (T 6) (((ro.l.take j).map rowT).map txRow)) rfl ⟨by omega,hH0,.lit⟩ ?_ ?_
  ·rintro j T' H' n' hlt hf' hi ⟨hn',hH',ho'⟩ _
   have g1:T' 1 = .ptr 0 0:=(hf' 1 rfl).trans h1
   clear hf'
   have hji:(j:Int) < ro.l.length:=by omega
   have hj0:(0:Int) ≤ j:=by omega
   have hwj:=wrap_suc (j:=j) (by omega)
   have hnx:((ro.l.take (j + 1)).map rowT).map txRow=((ro.l.take j).map rowT).map txRow ++ [txRow (rowT (ro.l.getD j default))]:=by
    rw [take_step default hlt]; simp
   rw [hnx]
   have hle:(((ro.l.take j).map rowT).map txRow).length ≤ 1000000:=by rw [List.length_map,List.length_map,List.length_take]; omega
   generalize ((ro.l.take j).map rowT).map txRow=rows at ho' hle ⊢
   have hm:=getD_mem (l:=ro.l) (j:=j) default hlt
   have hx1:∀ agg sz off HH,loadM agg sz HH (.eptr (ro.l.map rwRow) j off)=loadS agg sz (rwRow (ro.l.getD j default)) off:=fun agg sz off HH=>by rw [load_eptr,if_pos hlt]
   have hvX:=h4 _ hm
   have hwX:=ha.ro _ hm
   have hcs:=sum_mem (g:=cntRw) hm
   have kt:=row_tlen hwX.2 hvX
   generalize ro.l.getD j default=X at hx1 hvX hwX hcs kt ⊢
   unfold vRow at hvX
   simp only [Bool.and_eq_true,decide_eq_true_eq,List.all_eq_true] at hvX
   have hcs:cntRw X ≤ _:=hcs
   have hc2:cntRw X ≤ 10000:=by omega
   have hcx:(X.l.map cnt).sum ≤ 10000:=hc2
   obtain ⟨tv,e,ts,rfl,hts⟩:=texts_ok X hwX.2 hvX.2 hcx
   have lx:=len_sum (c:=cnt) (l:=X.l) fun t _=>cnt_pos t
   have ks:=sum_le (g:=fun e=>(txt e).length + cmW.length) (c:=cnt) (K:=1000) (l:=X.l) fun e he=>ex_tlen (hwX.2 e he) (hvX.2 e he)
   have e5:=refJoin_ok ts cmW (by rw [hts,List.length_map]; omega) (by rw [hts,sums_map]; omega) (by decide)
   rw [hts] at e5
   have hrow:rwRow X=[X.sv Tr.row]:=rfl
   rw [hrow] at hx1
   have kt2:(rowT X).length ≤ 100000000:=by omega
   clear kt hcs ks hc2 hcx
   unfold rowT at kt2 ⊢
   generalize Lib.join (X.l.map txt) cmW=A at e5 kt2 ⊢
   simp only [lA,lB,lC] at kt2
   simp only [go_sem,reduceIte,rE,rF,rG,rH,StP.row,g1,hi,hH',hji,hj0,and_self,decide_true,rw_ags.ia,Int.toNat_natCast,hx1,lA,lB,lC]
   refine WC_p rfl rfl e ?_
   simp only [go_sem,reduceIte,rE,rF,rG,rH]
   refine WC_p rfl rfl e5 ?_
   simp only [go_sem,reduceIte,rE,rF,rG,rH,lA,lB,lC]
   refine ⟨⟨by omega,by omega⟩,?_⟩
   refine WX_app ho' rows_slice (by simp) (by simp; omega) (by omega) (by omega) ?_
   intro p1 H2 ho2 hfr2 hof2
   have hH2:=(hfr2 0 (by omega) (ho'.off (.inl (by omega)))).trans hH'
   simp only [go_sem,reduceIte,rE,rF,rG,rH,hi,hwj]
   exact ⟨hH2,ho2.kept (by omega) (fun _ _ _=>rfl)⟩
  ·rintro T' H' n' hf' hi ⟨hn',hH',ho'⟩ _
   have g1:T' 1 = .ptr 0 0:=(hf' 1 rfl).trans h1
   have g5:T' 5 = .str _:=(hf' 5 rfl).trans rfl
   clear hf'
   rw [List.take_length] at ho'
   unfold StP.row at hH'
   simp only [go_sem,reduceIte,rE,rF,rG,rH,g1,g5,hi,hH',Int.lt_irrefl,decide_false,lA,lB,lC]
   refine ⟨by omega,?_⟩
   refine WC_own1m (v := .str (Lib.join (ro.l.map rowT) cmW)) [] [.s (.str cmW)] ho' rfl rfl rfl (fun s hs => ?_) ?_
   ·have:=refJoin_ok s cmW (by rw [hs,List.length_map]; omega) (by rw [hs,sums_map]; exact kb2) (by decide)
    rw [hs] at this
    exact this
   ·intro H2 ho2 hof
    generalize Lib.join (ro.l.map rowT) cmW=J at k6 ⊢
    simp only [go_sem,reduceIte,rE,rF,rG,rH,g5,lA,lB,lC,List.append_nil,List.append_assoc,List.cons_append,List.nil_append]
    omega
include hf hL hT in
theorem us_all (a:StP Q) (ha:wfStP w a) (hv:okS vq a=true) (hn:cntS c a ≤ 10000) (T:Nat→PV) (H:Ob) (n:Nat) (hn1:1 ≤ n) (h1:T 1 = .ptr 0 0) (hH0:H 0 = .box 57 ((StP.row f a).map .s)):WP EE utt2 T H n (Fin [.t 2] (.str (stmT tq a))):=by
 by_cases k0:a.k=0
 ·exact us0 hf hL hT a ha k0 hv hn T H n hn1 h1 hH0
 by_cases k1:a.k=1
 ·exact us1 hf hL hT a ha k1 hv hn T H n hn1 h1 hH0
 by_cases k2:a.k=2
 ·exact us2 a ha k2 hv hn T H n hn1 h1 hH0
 by_cases k3:a.k=3
 ·exact us3 a ha k3 hv hn T H n hn1 h1 hH0
 by_cases k4:a.k=4
 ·exact us4 hf hL hT a ha k4 hv hn T H n hn1 h1 hH0
 by_cases k5:a.k=5
 ·exact us5 hf hL hT a ha k5 hv hn T H n hn1 h1 hH0
 by_cases k6:a.k=6
 ·exact us6 a ha k6 hv hn T H n hn1 h1 hH0
 by_cases k7:a.k=7
 ·exact us7 a ha k7 hv hn T H n hn1 h1 hH0
 by_cases k8:a.k=8
 ·exact us8 a ha k8 hv hn T H n hn1 h1 hH0
 by_cases k9:a.k=9
 ·exact us9 a ha k9 hv hn T H n hn1 h1 hH0
 by_cases k10:a.k=10 ∨ a.k=11 ∨ a.k=12
 ·exact us10 a ha k10 hv hn T H n hn1 h1 hH0
 ·exfalso
  unfold okS at hv
  rw [if_neg (by omega),if_neg (by omega),if_neg (by omega),if_neg (by omega),if_neg (by omega),if_neg (by omega),if_neg (by omega),if_neg (by omega),decide_eq_false (by omega),decide_eq_false (by omega),decide_eq_false (by omega)] at hv
  exact absurd hv (by decide)
end
end Go.Vm
end
