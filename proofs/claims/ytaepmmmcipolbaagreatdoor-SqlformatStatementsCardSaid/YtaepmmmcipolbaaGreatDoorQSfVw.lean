/- Chapter 24: which statements are valid, by the reference. -/
import Derived.Test.YtaepmmmcipolbaaGreatDoorQSfVd
set_option linter.unusedVariables false
set_option linter.unusedSimpArgs false
set_option maxRecDepth 100000
namespace Go.Vm
open Nat renaming reduceEqDiff→rA,reduceAdd→rB,reduceLeDiff→rC,reduceLT→rD
open Go
attribute [local go_sem] tailS held_eq hd3_ok pos_dec one_dec le1_dec decide_false decide_true and_self List.all_cons List.all_nil true_and
section
variable {Q:Type} [Inhabited Q] {f:Q→List SV} (hf:∀ x,(f x).length=10) {q:Q→Q→Bool} {w:Q→Prop} {vq:Q→Bool}
 (hE:∀ a b,w a→calL EE 24 [.st (f a),.st (f b)] []=some (.ret (.bool (q a b)),[]))
 (hS:∀ a b,w a→calL EE 32 [.st (f a),.st (f b)] []=some (.ret (.bool (q a b)),[]))
 (hV:∀ a,w a→calL EE 17 [.st (f a)] []=some (.ret (.bool (vq a)),[]))
 (rV:∀ a,w a→calL EE 18 [.st (f a)] []=some (.ret (.bool (vq a)),[]))
include hf
include hS rV in
set_option maxHeartbeats 4000000 in
theorem rs0 (a:StP Q) (ha:wfStP w a) (hk:a.k=0 ∨ a.k=1) (T:Nat→PV) (H:Ob) (n:Nat) (h1:T 1 = .ptr 0 0) (h3:T 4 = .ptr 10 0) (h4:T 3 = .bool (decide (a.qu.l.length=1))) (hH0:H 0 = .box 57 ((StP.row f a).map .s)) (hH1:H 10 = .box 57 ((row_st a.k).map .s)):WP EE rst3 T H n (Fin [.t 2] (.bool (vStm q vq a))):=by
 obtain ⟨k,nm,tb,co,ke,ns,ro,se,wh,qu⟩:=a
 have eE:=stmt_same hf hS _ ⟨k,[],[],.nil,.nil,.nil,.nil,.nil,.nil,qu⟩ ha
 have hs:vStm q vq ⟨k,nm,tb,co,ke,ns,ro,se,wh,qu⟩=(((decide (qu.l.length=1) && vq (qu.l.getD 0 default))) && eqStP q ⟨k,nm,tb,co,ke,ns,ro,se,wh,qu⟩ ⟨k,[],[],.nil,.nil,.nil,.nil,.nil,.nil,qu⟩):=by unfold vStm okS wantS; rcases hk with h | h <;> (simp only at h; subst h; rfl)
 rw [hs]
 generalize eqStP q ⟨k,nm,tb,co,ke,ns,ro,se,wh,qu⟩ ⟨k,[],[],.nil,.nil,.nil,.nil,.nil,.nil,qu⟩=e at eE
 generalize hd0:decide (qu.l.length=1)=d0 at h4 ⊢
 unfold row_st at hH1
 unfold StP.row at eE hH0
 unfold rst3 c35
 have lr:=fun x=>hf x
 rcases hk with h | h
 all_goals
  simp only at h
  subst h
  cases d0 with
  | false=>simp only [go_sem,reduceIte,rA,rB,rC,rD,h1,h3,h4,hH0,hH1,Int.reduceEq,hd0]
  | true =>
   have hl1:qu.l.length=1:=of_decide_eq_true hd0
   have hin:(0:Int) ≤ 0 ∧ (0:Int) < (qu.l.length:Int):=⟨by decide,by omega⟩
   have hq0:=q_at hf (l:=qu.l) (i:=0) (by omega)
   have e0:Int.toNat 0=0:=rfl
   have e9:=rV _ (ha.qu _ (getD_mem (l:=qu.l) (j:=0) default (by omega)))
   generalize vq (qu.l.getD 0 default)=rq at e9 ⊢
   simp only [go_sem,reduceIte,rA,rB,rC,rD,h1,h3,h4,hH0,hH1,Int.reduceEq,hd0,(q_ags hf).ia,hin,e0,hq0]
   refine WC_p rfl (by rw [pure_st]; rfl) e9 ?_
   cases rq with
   | false=>simp only [go_sem,reduceIte,rA,rB,rC,rD,h1,h3,h4,hH0,hH1,Int.reduceEq,hd0]
   | true =>
    simp only [go_sem,reduceIte,rA,rB,rC,rD,h1,h3,h4,hH0,hH1,Int.reduceEq,hd0]
    refine WC_p rfl (by rw [pure_st,pure_st]; rfl) eE ?_
    simp only [go_sem,reduceIte,rA,rB,rC,rD,h1,h3,h4,hH0,hH1,Int.reduceEq,hd0]
include hS in
set_option maxHeartbeats 4000000 in
theorem rs2 (a:StP Q) (ha:wfStP w a) (hk:a.k=2) (T:Nat→PV) (H:Ob) (n:Nat) (h1:T 1 = .ptr 0 0) (h3:T 4 = .ptr 10 0) (h4:T 3 = .bool (decide (a.qu.l.length=1))) (hH0:H 0 = .box 57 ((StP.row f a).map .s)) (hH1:H 10 = .box 57 ((row_st a.k).map .s)):WP EE rst3 T H n (Fin [.t 2] (.bool (vStm q vq a))):=by
 obtain ⟨k,nm,tb,co,ke,ns,ro,se,wh,qu⟩:=a
 have eE:=stmt_same hf hS _ ⟨k,nm,[],co,ke,.nil,.nil,.nil,.nil,.nil⟩ ha
 have hs:vStm q vq ⟨k,nm,tb,co,ke,ns,ro,se,wh,qu⟩=((nameV nm && decide (0 < co.l.length) && ke.l.all nameV && co.l.all vCol) && eqStP q ⟨k,nm,tb,co,ke,ns,ro,se,wh,qu⟩ ⟨k,nm,[],co,ke,.nil,.nil,.nil,.nil,.nil⟩):=by unfold vStm okS wantS; simp only at hk; subst hk; rfl
 rw [hs]
 generalize eqStP q ⟨k,nm,tb,co,ke,ns,ro,se,wh,qu⟩ ⟨k,nm,[],co,ke,.nil,.nil,.nil,.nil,.nil⟩=e at eE
 have e1:=refName_ok nm
 have e2:=refCols_ok co ha.lco
 have e3:=refNames_ok ke ha.lke
 generalize nameV nm=r1 at e1
 generalize ke.l.all nameV=r2 at e3
 generalize co.l.all vCol=r3 at e2
 generalize hd1:decide (0 < co.l.length)=d1 at e2 ⊢
 unfold row_st at hH1
 unfold StP.row at eE hH0
 unfold rst3 c35
 have lr:=fun x=>hf x
 simp only at hk
 subst hk
 simp only [go_sem,reduceIte,rA,rB,rC,rD,h1,h3,h4,hH0,hH1,Int.reduceEq,hd1]
 refine WC_p rfl rfl e1 ?_
 cases r1 with
 | false=>simp only [go_sem,reduceIte,rA,rB,rC,rD,h1,h3,h4,hH0,hH1,Int.reduceEq,hd1]
 | true =>
  simp only [go_sem,reduceIte,rA,rB,rC,rD,h1,h3,h4,hH0,hH1,Int.reduceEq,hd1]
  refine WC_p rfl rfl e2 ?_
  cases d1 with
  | false=>simp only [go_sem,reduceIte,rA,rB,rC,rD,h1,h3,h4,hH0,hH1,Int.reduceEq,hd1]
  | true =>
   cases r3 with
   | false=>simp only [go_sem,reduceIte,rA,rB,rC,rD,h1,h3,h4,hH0,hH1,Int.reduceEq,hd1]
   | true =>
    simp only [go_sem,reduceIte,rA,rB,rC,rD,h1,h3,h4,hH0,hH1,Int.reduceEq,hd1]
    refine WC_p rfl rfl e3 ?_
    cases r2 with
    | false=>simp only [go_sem,reduceIte,rA,rB,rC,rD,h1,h3,h4,hH0,hH1,Int.reduceEq,hd1]
    | true =>
     simp only [go_sem,reduceIte,rA,rB,rC,rD,h1,h3,h4,hH0,hH1,Int.reduceEq,hd1]
     refine WC_p rfl (by rw [pure_st,pure_st]; rfl) eE ?_
     simp only [go_sem,reduceIte,rA,rB,rC,rD,h1,h3,h4,hH0,hH1,Int.reduceEq,hd1]
include hS in
set_option maxHeartbeats 4000000 in
theorem rs3 (a:StP Q) (ha:wfStP w a) (hk:a.k=3) (T:Nat→PV) (H:Ob) (n:Nat) (h1:T 1 = .ptr 0 0) (h3:T 4 = .ptr 10 0) (h4:T 3 = .bool (decide (a.qu.l.length=1))) (hH0:H 0 = .box 57 ((StP.row f a).map .s)) (hH1:H 10 = .box 57 ((row_st a.k).map .s)):WP EE rst3 T H n (Fin [.t 2] (.bool (vStm q vq a))):=by
 obtain ⟨k,nm,tb,co,ke,ns,ro,se,wh,qu⟩:=a
 have eE:=stmt_same hf hS _ ⟨k,nm,tb,.nil,.nil,ns,.nil,.nil,.nil,.nil⟩ ha
 have hs:vStm q vq ⟨k,nm,tb,co,ke,ns,ro,se,wh,qu⟩=((nameV nm && nameV tb && decide (0 < ns.l.length) && ns.l.all nameV) && eqStP q ⟨k,nm,tb,co,ke,ns,ro,se,wh,qu⟩ ⟨k,nm,tb,.nil,.nil,ns,.nil,.nil,.nil,.nil⟩):=by unfold vStm okS wantS; simp only at hk; subst hk; rfl
 rw [hs]
 generalize eqStP q ⟨k,nm,tb,co,ke,ns,ro,se,wh,qu⟩ ⟨k,nm,tb,.nil,.nil,ns,.nil,.nil,.nil,.nil⟩=e at eE
 have e1:=refName_ok nm
 have e2:=refName_ok tb
 have e3:=refNames_ok ns ha.lns
 generalize nameV nm=r1 at e1
 generalize nameV tb=r2 at e2
 generalize ns.l.all nameV=r3 at e3
 generalize hd1:decide (0 < ns.l.length)=d1
 unfold row_st at hH1
 unfold StP.row at eE hH0
 unfold rst3 c35
 have lr:=fun x=>hf x
 simp only at hk
 subst hk
 simp only [go_sem,reduceIte,rA,rB,rC,rD,h1,h3,h4,hH0,hH1,Int.reduceEq,hd1]
 refine WC_p rfl rfl e1 ?_
 cases r1 with
 | false=>simp only [go_sem,reduceIte,rA,rB,rC,rD,h1,h3,h4,hH0,hH1,Int.reduceEq,hd1]
 | true =>
  simp only [go_sem,reduceIte,rA,rB,rC,rD,h1,h3,h4,hH0,hH1,Int.reduceEq,hd1]
  refine WC_p rfl rfl e2 ?_
  cases r2 with
  | false=>simp only [go_sem,reduceIte,rA,rB,rC,rD,h1,h3,h4,hH0,hH1,Int.reduceEq,hd1]
  | true =>
   cases d1 with
   | false=>simp only [go_sem,reduceIte,rA,rB,rC,rD,h1,h3,h4,hH0,hH1,Int.reduceEq,hd1]
   | true =>
    simp only [go_sem,reduceIte,rA,rB,rC,rD,h1,h3,h4,hH0,hH1,Int.reduceEq,hd1]
    refine WC_p rfl rfl e3 ?_
    cases r3 with
    | false=>simp only [go_sem,reduceIte,rA,rB,rC,rD,h1,h3,h4,hH0,hH1,Int.reduceEq,hd1]
    | true =>
     simp only [go_sem,reduceIte,rA,rB,rC,rD,h1,h3,h4,hH0,hH1,Int.reduceEq,hd1]
     refine WC_p rfl (by rw [pure_st,pure_st]; rfl) eE ?_
     simp only [go_sem,reduceIte,rA,rB,rC,rD,h1,h3,h4,hH0,hH1,Int.reduceEq,hd1]
include hS rV in
set_option maxHeartbeats 4000000 in
theorem rs4 (a:StP Q) (ha:wfStP w a) (hk:a.k=4 ∨ a.k=5) (T:Nat→PV) (H:Ob) (n:Nat) (h1:T 1 = .ptr 0 0) (h3:T 4 = .ptr 10 0) (h4:T 3 = .bool (decide (a.qu.l.length=1))) (hH0:H 0 = .box 57 ((StP.row f a).map .s)) (hH1:H 10 = .box 57 ((row_st a.k).map .s)):WP EE rst3 T H n (Fin [.t 2] (.bool (vStm q vq a))):=by
 obtain ⟨k,nm,tb,co,ke,ns,ro,se,wh,qu⟩:=a
 have eE:=stmt_same hf hS _ ⟨k,nm,[],.nil,.nil,.nil,.nil,.nil,.nil,qu⟩ ha
 have hs:vStm q vq ⟨k,nm,tb,co,ke,ns,ro,se,wh,qu⟩=((nameV nm && (decide (qu.l.length=1) && vq (qu.l.getD 0 default))) && eqStP q ⟨k,nm,tb,co,ke,ns,ro,se,wh,qu⟩ ⟨k,nm,[],.nil,.nil,.nil,.nil,.nil,.nil,qu⟩):=by unfold vStm okS wantS; rcases hk with h | h <;> (simp only at h; subst h; rfl)
 rw [hs]
 generalize eqStP q ⟨k,nm,tb,co,ke,ns,ro,se,wh,qu⟩ ⟨k,nm,[],.nil,.nil,.nil,.nil,.nil,.nil,qu⟩=e at eE
 have e1:=refName_ok nm
 generalize nameV nm=r1 at e1
 generalize hd0:decide (qu.l.length=1)=d0 at h4 ⊢
 unfold row_st at hH1
 unfold StP.row at eE hH0
 unfold rst3 c35
 have lr:=fun x=>hf x
 rcases hk with h | h
 all_goals
  simp only at h
  subst h
  simp only [go_sem,reduceIte,rA,rB,rC,rD,h1,h3,h4,hH0,hH1,Int.reduceEq,hd0]
  refine WC_p rfl rfl e1 ?_
  cases r1 with
  | false=>simp only [go_sem,reduceIte,rA,rB,rC,rD,h1,h3,h4,hH0,hH1,Int.reduceEq,hd0]
  | true =>
   cases d0 with
   | false=>simp only [go_sem,reduceIte,rA,rB,rC,rD,h1,h3,h4,hH0,hH1,Int.reduceEq,hd0]
   | true =>
    have hl1:qu.l.length=1:=of_decide_eq_true hd0
    have hin:(0:Int) ≤ 0 ∧ (0:Int) < (qu.l.length:Int):=⟨by decide,by omega⟩
    have hq0:=q_at hf (l:=qu.l) (i:=0) (by omega)
    have e0:Int.toNat 0=0:=rfl
    have e9:=rV _ (ha.qu _ (getD_mem (l:=qu.l) (j:=0) default (by omega)))
    generalize vq (qu.l.getD 0 default)=rq at e9 ⊢
    simp only [go_sem,reduceIte,rA,rB,rC,rD,h1,h3,h4,hH0,hH1,Int.reduceEq,hd0,(q_ags hf).ia,hin,e0,hq0]
    refine WC_p rfl (by rw [pure_st]; rfl) e9 ?_
    cases rq with
    | false=>simp only [go_sem,reduceIte,rA,rB,rC,rD,h1,h3,h4,hH0,hH1,Int.reduceEq,hd0]
    | true =>
     simp only [go_sem,reduceIte,rA,rB,rC,rD,h1,h3,h4,hH0,hH1,Int.reduceEq,hd0]
     refine WC_p rfl (by rw [pure_st,pure_st]; rfl) eE ?_
     simp only [go_sem,reduceIte,rA,rB,rC,rD,h1,h3,h4,hH0,hH1,Int.reduceEq,hd0]
include hS in
set_option maxHeartbeats 4000000 in
theorem rs6 (a:StP Q) (ha:wfStP w a) (hk:a.k=6) (T:Nat→PV) (H:Ob) (n:Nat) (h1:T 1 = .ptr 0 0) (h3:T 4 = .ptr 10 0) (h4:T 3 = .bool (decide (a.qu.l.length=1))) (hH0:H 0 = .box 57 ((StP.row f a).map .s)) (hH1:H 10 = .box 57 ((row_st a.k).map .s)):WP EE rst3 T H n (Fin [.t 2] (.bool (vStm q vq a))):=by
 obtain ⟨k,nm,tb,co,ke,ns,ro,se,wh,qu⟩:=a
 have eE:=stmt_same hf hS _ ⟨k,nm,[],.nil,.nil,.nil,.nil,.nil,.nil,.nil⟩ ha
 have hs:vStm q vq ⟨k,nm,tb,co,ke,ns,ro,se,wh,qu⟩=((nameV nm) && eqStP q ⟨k,nm,tb,co,ke,ns,ro,se,wh,qu⟩ ⟨k,nm,[],.nil,.nil,.nil,.nil,.nil,.nil,.nil⟩):=by unfold vStm okS wantS; simp only at hk; subst hk; rfl
 rw [hs]
 generalize eqStP q ⟨k,nm,tb,co,ke,ns,ro,se,wh,qu⟩ ⟨k,nm,[],.nil,.nil,.nil,.nil,.nil,.nil,.nil⟩=e at eE
 have e1:=refName_ok nm
 generalize nameV nm=r1 at e1
 unfold row_st at hH1
 unfold StP.row at eE hH0
 unfold rst3 c35
 have lr:=fun x=>hf x
 simp only at hk
 subst hk
 simp only [go_sem,reduceIte,rA,rB,rC,rD,h1,h3,h4,hH0,hH1,Int.reduceEq]
 refine WC_p rfl rfl e1 ?_
 cases r1 with
 | false=>simp only [go_sem,reduceIte,rA,rB,rC,rD,h1,h3,h4,hH0,hH1,Int.reduceEq]
 | true =>
  simp only [go_sem,reduceIte,rA,rB,rC,rD,h1,h3,h4,hH0,hH1,Int.reduceEq]
  refine WC_p rfl (by rw [pure_st,pure_st]; rfl) eE ?_
  simp only [go_sem,reduceIte,rA,rB,rC,rD,h1,h3,h4,hH0,hH1,Int.reduceEq]
include hS in
set_option maxHeartbeats 4000000 in
theorem rs7 (a:StP Q) (ha:wfStP w a) (hk:a.k=7) (T:Nat→PV) (H:Ob) (n:Nat) (h1:T 1 = .ptr 0 0) (h3:T 4 = .ptr 10 0) (h4:T 3 = .bool (decide (a.qu.l.length=1))) (hH0:H 0 = .box 57 ((StP.row f a).map .s)) (hH1:H 10 = .box 57 ((row_st a.k).map .s)):WP EE rst3 T H n (Fin [.t 2] (.bool (vStm q vq a))):=by
 obtain ⟨k,nm,tb,co,ke,ns,ro,se,wh,qu⟩:=a
 have eE:=stmt_same hf hS _ ⟨k,[],tb,.nil,.nil,ns,ro,.nil,.nil,.nil⟩ ha
 have hs:vStm q vq ⟨k,nm,tb,co,ke,ns,ro,se,wh,qu⟩=((nameV tb && ns.l.all nameV && decide (0 < ro.l.length) && ro.l.all vRow) && eqStP q ⟨k,nm,tb,co,ke,ns,ro,se,wh,qu⟩ ⟨k,[],tb,.nil,.nil,ns,ro,.nil,.nil,.nil⟩):=by unfold vStm okS wantS; simp only at hk; subst hk; rfl
 rw [hs]
 generalize eqStP q ⟨k,nm,tb,co,ke,ns,ro,se,wh,qu⟩ ⟨k,[],tb,.nil,.nil,ns,ro,.nil,.nil,.nil⟩=e at eE
 have e1:=refName_ok tb
 have e2:=refNames_ok ns ha.lns
 have e3:=refRows_ok ro ha.lro ha.ro
 generalize nameV tb=r1 at e1
 generalize ns.l.all nameV=r2 at e2
 generalize ro.l.all vRow=r3 at e3
 generalize hd1:decide (0 < ro.l.length)=d1 at e3 ⊢
 unfold row_st at hH1
 unfold StP.row at eE hH0
 unfold rst3 c35
 have lr:=fun x=>hf x
 simp only at hk
 subst hk
 simp only [go_sem,reduceIte,rA,rB,rC,rD,h1,h3,h4,hH0,hH1,Int.reduceEq,hd1]
 refine WC_p rfl rfl e1 ?_
 cases r1 with
 | false=>simp only [go_sem,reduceIte,rA,rB,rC,rD,h1,h3,h4,hH0,hH1,Int.reduceEq,hd1]
 | true =>
  simp only [go_sem,reduceIte,rA,rB,rC,rD,h1,h3,h4,hH0,hH1,Int.reduceEq,hd1]
  refine WC_p rfl rfl e2 ?_
  cases r2 with
  | false=>simp only [go_sem,reduceIte,rA,rB,rC,rD,h1,h3,h4,hH0,hH1,Int.reduceEq,hd1]
  | true =>
   simp only [go_sem,reduceIte,rA,rB,rC,rD,h1,h3,h4,hH0,hH1,Int.reduceEq,hd1]
   refine WC_p rfl rfl e3 ?_
   cases d1 with
   | false=>simp only [go_sem,reduceIte,rA,rB,rC,rD,h1,h3,h4,hH0,hH1,Int.reduceEq,hd1]
   | true =>
    cases r3 with
    | false=>simp only [go_sem,reduceIte,rA,rB,rC,rD,h1,h3,h4,hH0,hH1,Int.reduceEq,hd1]
    | true =>
     simp only [go_sem,reduceIte,rA,rB,rC,rD,h1,h3,h4,hH0,hH1,Int.reduceEq,hd1]
     refine WC_p rfl (by rw [pure_st,pure_st]; rfl) eE ?_
     simp only [go_sem,reduceIte,rA,rB,rC,rD,h1,h3,h4,hH0,hH1,Int.reduceEq,hd1]
include hS in
set_option maxHeartbeats 4000000 in
theorem rs8 (a:StP Q) (ha:wfStP w a) (hk:a.k=8) (T:Nat→PV) (H:Ob) (n:Nat) (h1:T 1 = .ptr 0 0) (h3:T 4 = .ptr 10 0) (h4:T 3 = .bool (decide (a.qu.l.length=1))) (hH0:H 0 = .box 57 ((StP.row f a).map .s)) (hH1:H 10 = .box 57 ((row_st a.k).map .s)):WP EE rst3 T H n (Fin [.t 2] (.bool (vStm q vq a))):=by
 obtain ⟨k,nm,tb,co,ke,ns,ro,se,wh,qu⟩:=a
 have eE:=stmt_same hf hS _ ⟨k,[],tb,.nil,.nil,.nil,.nil,se,wh,.nil⟩ ha
 have hs:vStm q vq ⟨k,nm,tb,co,ke,ns,ro,se,wh,qu⟩=((nameV tb && decide (0 < se.l.length) && (decide (wh.l.length ≤ 1) && wh.l.all vld) && se.l.all vStg) && eqStP q ⟨k,nm,tb,co,ke,ns,ro,se,wh,qu⟩ ⟨k,[],tb,.nil,.nil,.nil,.nil,se,wh,.nil⟩):=by unfold vStm okS wantS; simp only at hk; subst hk; rfl
 rw [hs]
 generalize eqStP q ⟨k,nm,tb,co,ke,ns,ro,se,wh,qu⟩ ⟨k,[],tb,.nil,.nil,.nil,.nil,se,wh,.nil⟩=e at eE
 have e1:=refName_ok tb
 have e2:=refSets_ok se ha.lse ha.se
 have e3:=evs_ok wh ha.lwh ha.wh
 generalize nameV tb=r1 at e1
 generalize wh.l.all vld=r2 at e3
 generalize se.l.all vStg=r3 at e2
 generalize hd1:decide (0 < se.l.length)=d1 at e2 ⊢
 generalize hd2:decide (wh.l.length ≤ 1)=d2
 unfold row_st at hH1
 unfold StP.row at eE hH0
 unfold rst3 c35
 have lr:=fun x=>hf x
 simp only at hk
 subst hk
 simp only [go_sem,reduceIte,rA,rB,rC,rD,h1,h3,h4,hH0,hH1,Int.reduceEq,hd1,hd2]
 refine WC_p rfl rfl e1 ?_
 cases r1 with
 | false=>simp only [go_sem,reduceIte,rA,rB,rC,rD,h1,h3,h4,hH0,hH1,Int.reduceEq,hd1,hd2]
 | true =>
  simp only [go_sem,reduceIte,rA,rB,rC,rD,h1,h3,h4,hH0,hH1,Int.reduceEq,hd1,hd2]
  refine WC_p rfl rfl e2 ?_
  cases d1 with
  | false=>simp only [go_sem,reduceIte,rA,rB,rC,rD,h1,h3,h4,hH0,hH1,Int.reduceEq,hd1,hd2]
  | true =>
   cases r3 with
   | false=>simp only [go_sem,reduceIte,rA,rB,rC,rD,h1,h3,h4,hH0,hH1,Int.reduceEq,hd1,hd2]
   | true =>
    cases d2 with
    | false=>simp only [go_sem,reduceIte,rA,rB,rC,rD,h1,h3,h4,hH0,hH1,Int.reduceEq,hd1,hd2]
    | true =>
     simp only [go_sem,reduceIte,rA,rB,rC,rD,h1,h3,h4,hH0,hH1,Int.reduceEq,hd1,hd2]
     refine WC_p rfl rfl e3 ?_
     cases r2 with
     | false=>simp only [go_sem,reduceIte,rA,rB,rC,rD,h1,h3,h4,hH0,hH1,Int.reduceEq,hd1,hd2]
     | true =>
      simp only [go_sem,reduceIte,rA,rB,rC,rD,h1,h3,h4,hH0,hH1,Int.reduceEq,hd1,hd2]
      refine WC_p rfl (by rw [pure_st,pure_st]; rfl) eE ?_
      simp only [go_sem,reduceIte,rA,rB,rC,rD,h1,h3,h4,hH0,hH1,Int.reduceEq,hd1,hd2]
include hS in
set_option maxHeartbeats 4000000 in
theorem rs9 (a:StP Q) (ha:wfStP w a) (hk:a.k=9) (T:Nat→PV) (H:Ob) (n:Nat) (h1:T 1 = .ptr 0 0) (h3:T 4 = .ptr 10 0) (h4:T 3 = .bool (decide (a.qu.l.length=1))) (hH0:H 0 = .box 57 ((StP.row f a).map .s)) (hH1:H 10 = .box 57 ((row_st a.k).map .s)):WP EE rst3 T H n (Fin [.t 2] (.bool (vStm q vq a))):=by
 obtain ⟨k,nm,tb,co,ke,ns,ro,se,wh,qu⟩:=a
 have eE:=stmt_same hf hS _ ⟨k,[],tb,.nil,.nil,.nil,.nil,.nil,wh,.nil⟩ ha
 have hs:vStm q vq ⟨k,nm,tb,co,ke,ns,ro,se,wh,qu⟩=((nameV tb && (decide (wh.l.length ≤ 1) && wh.l.all vld)) && eqStP q ⟨k,nm,tb,co,ke,ns,ro,se,wh,qu⟩ ⟨k,[],tb,.nil,.nil,.nil,.nil,.nil,wh,.nil⟩):=by unfold vStm okS wantS; simp only at hk; subst hk; rfl
 rw [hs]
 generalize eqStP q ⟨k,nm,tb,co,ke,ns,ro,se,wh,qu⟩ ⟨k,[],tb,.nil,.nil,.nil,.nil,.nil,wh,.nil⟩=e at eE
 have e1:=refName_ok tb
 have e2:=evs_ok wh ha.lwh ha.wh
 generalize nameV tb=r1 at e1
 generalize wh.l.all vld=r2 at e2
 generalize hd2:decide (wh.l.length ≤ 1)=d2
 unfold row_st at hH1
 unfold StP.row at eE hH0
 unfold rst3 c35
 have lr:=fun x=>hf x
 simp only at hk
 subst hk
 simp only [go_sem,reduceIte,rA,rB,rC,rD,h1,h3,h4,hH0,hH1,Int.reduceEq,hd2]
 refine WC_p rfl rfl e1 ?_
 cases r1 with
 | false=>simp only [go_sem,reduceIte,rA,rB,rC,rD,h1,h3,h4,hH0,hH1,Int.reduceEq,hd2]
 | true =>
  cases d2 with
  | false=>simp only [go_sem,reduceIte,rA,rB,rC,rD,h1,h3,h4,hH0,hH1,Int.reduceEq,hd2]
  | true =>
   simp only [go_sem,reduceIte,rA,rB,rC,rD,h1,h3,h4,hH0,hH1,Int.reduceEq,hd2]
   refine WC_p rfl rfl e2 ?_
   cases r2 with
   | false=>simp only [go_sem,reduceIte,rA,rB,rC,rD,h1,h3,h4,hH0,hH1,Int.reduceEq,hd2]
   | true =>
    simp only [go_sem,reduceIte,rA,rB,rC,rD,h1,h3,h4,hH0,hH1,Int.reduceEq,hd2]
    refine WC_p rfl (by rw [pure_st,pure_st]; rfl) eE ?_
    simp only [go_sem,reduceIte,rA,rB,rC,rD,h1,h3,h4,hH0,hH1,Int.reduceEq,hd2]
include hS in
set_option maxHeartbeats 4000000 in
theorem rs10 (a:StP Q) (ha:wfStP w a) (hk:a.k=10 ∨ a.k=11 ∨ a.k=12) (T:Nat→PV) (H:Ob) (n:Nat) (h1:T 1 = .ptr 0 0) (h3:T 4 = .ptr 10 0) (h4:T 3 = .bool (decide (a.qu.l.length=1))) (hH0:H 0 = .box 57 ((StP.row f a).map .s)) (hH1:H 10 = .box 57 ((row_st a.k).map .s)):WP EE rst3 T H n (Fin [.t 2] (.bool (vStm q vq a))):=by
 obtain ⟨k,nm,tb,co,ke,ns,ro,se,wh,qu⟩:=a
 have eE:=stmt_same hf hS _ ⟨k,[],[],.nil,.nil,.nil,.nil,.nil,.nil,.nil⟩ ha
 have hs:vStm q vq ⟨k,nm,tb,co,ke,ns,ro,se,wh,qu⟩=eqStP q ⟨k,nm,tb,co,ke,ns,ro,se,wh,qu⟩ ⟨k,[],[],.nil,.nil,.nil,.nil,.nil,.nil,.nil⟩:=by unfold vStm okS wantS; rcases hk with h | h | h <;> (simp only at h; subst h; rfl)
 rw [hs]
 generalize eqStP q ⟨k,nm,tb,co,ke,ns,ro,se,wh,qu⟩ ⟨k,[],[],.nil,.nil,.nil,.nil,.nil,.nil,.nil⟩=e at eE
 unfold row_st at hH1
 unfold StP.row at eE hH0
 unfold rst3 c35
 rcases hk with h | h | h
 all_goals
  simp only at h
  subst h
  simp only [go_sem,reduceIte,rA,rB,rC,rD,h1,h3,h4,hH0,hH1,Int.reduceEq]
  refine WC_p rfl (by rw [pure_st,pure_st]; rfl) eE ?_
  simp only [go_sem,reduceIte,rA,rB,rC,rD,h1,h3,h4,hH0,hH1,Int.reduceEq]
omit hf in
set_option maxHeartbeats 4000000 in
theorem rs13 (a:StP Q) (hk:a.k < 0 ∨ 12 < a.k) (T:Nat→PV) (H:Ob) (n:Nat) (h1:T 1 = .ptr 0 0) (h3:T 4 = .ptr 10 0) (h4:T 3 = .bool (decide (a.qu.l.length=1))) (hH0:H 0 = .box 57 ((StP.row f a).map .s)) (hH1:H 10 = .box 57 ((row_st a.k).map .s)):WP EE rst3 T H n (Fin [.t 2] (.bool (vStm q vq a))):=by
 have hs:vStm q vq a=false:=by
  unfold vStm okS
  rw [if_neg (by omega),if_neg (by omega),if_neg (by omega),if_neg (by omega),if_neg (by omega),if_neg (by omega),if_neg (by omega),if_neg (by omega),decide_eq_false (by omega),decide_eq_false (by omega),decide_eq_false (by omega)]
  rfl
 rw [hs]
 have d0:decide (a.k=0)=false:=decide_eq_false (by omega)
 have d1:decide (a.k=1)=false:=decide_eq_false (by omega)
 have d2:decide (a.k=2)=false:=decide_eq_false (by omega)
 have d3:decide (a.k=3)=false:=decide_eq_false (by omega)
 have d4:decide (a.k=4)=false:=decide_eq_false (by omega)
 have d5:decide (a.k=5)=false:=decide_eq_false (by omega)
 have d6:decide (a.k=6)=false:=decide_eq_false (by omega)
 have d7:decide (a.k=7)=false:=decide_eq_false (by omega)
 have d8:decide (a.k=8)=false:=decide_eq_false (by omega)
 have d9:decide (a.k=9)=false:=decide_eq_false (by omega)
 have d10:decide (a.k=10)=false:=decide_eq_false (by omega)
 have d11:decide (a.k=11)=false:=decide_eq_false (by omega)
 have d12:decide (a.k=12)=false:=decide_eq_false (by omega)
 unfold row_st at hH1
 unfold StP.row at hH0
 unfold rst3 c35
 simp only [go_sem,reduceIte,rA,rB,rC,rD,h1,h3,h4,hH0,hH1,Int.reduceEq,d0,d1,d2,d3,d4,d5,d6,d7,d8,d9,d10,d11,d12]
include hS rV in
theorem rs_all (a:StP Q) (ha:wfStP w a) (T:Nat→PV) (H:Ob) (n:Nat) (h1:T 1 = .ptr 0 0) (h3:T 4 = .ptr 10 0) (h4:T 3 = .bool (decide (a.qu.l.length=1))) (hH0:H 0 = .box 57 ((StP.row f a).map .s)) (hH1:H 10 = .box 57 ((row_st a.k).map .s)):WP EE rst3 T H n (Fin [.t 2] (.bool (vStm q vq a))):=by
 by_cases k0:a.k=0 ∨ a.k=1
 ·exact rs0 hf hS rV a ha k0 T H n h1 h3 h4 hH0 hH1
 by_cases k2:a.k=2
 ·exact rs2 hf hS a ha k2 T H n h1 h3 h4 hH0 hH1
 by_cases k3:a.k=3
 ·exact rs3 hf hS a ha k3 T H n h1 h3 h4 hH0 hH1
 by_cases k4:a.k=4 ∨ a.k=5
 ·exact rs4 hf hS rV a ha k4 T H n h1 h3 h4 hH0 hH1
 by_cases k6:a.k=6
 ·exact rs6 hf hS a ha k6 T H n h1 h3 h4 hH0 hH1
 by_cases k7:a.k=7
 ·exact rs7 hf hS a ha k7 T H n h1 h3 h4 hH0 hH1
 by_cases k8:a.k=8
 ·exact rs8 hf hS a ha k8 T H n h1 h3 h4 hH0 hH1
 by_cases k9:a.k=9
 ·exact rs9 hf hS a ha k9 T H n h1 h3 h4 hH0 hH1
 by_cases k10:a.k=10 ∨ a.k=11 ∨ a.k=12
 ·exact rs10 hf hS a ha k10 T H n h1 h3 h4 hH0 hH1
 exact rs13 a (by omega) T H n h1 h3 h4 hH0 hH1
end
end Go.Vm
