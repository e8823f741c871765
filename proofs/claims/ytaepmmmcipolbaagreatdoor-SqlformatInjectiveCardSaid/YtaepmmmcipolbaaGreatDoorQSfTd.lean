/- Chapter 24: texts of queries as data; their lengths. -/
import Derived.Test.YtaepmmmcipolbaaGreatDoorQSfTx
import Derived.Test.YtaepmmmcipolbaaGreatDoorQSfMb
set_option linter.unusedVariables false
set_option linter.unusedSimpArgs false
set_option maxRecDepth 100000
namespace Go.Vm
open List renaming length_append→lA,length_cons→lB,length_nil→lC
open Go
abbrev cmW:List UInt8:=[44,32]
abbrev anW:List UInt8:=[32,65,78,68,32]
def seW:List UInt8:=[83,69,76,69,67,84,32]
def diW:List UInt8:=[68,73,83,84,73,78,67,84,32]
def frW:List UInt8:=[32,70,82,79,77,32]
def whW:List UInt8:=[32,87,72,69,82,69,32]
def grW:List UInt8:=[32,71,82,79,85,80,32,66,89,32]
def haW:List UInt8:=[32,72,65,86,73,78,71,32]
def exW:List UInt8:=[69,88,73,83,84,83,32]
def inW:List UInt8:=[73,78,32]
def wiW:List UInt8:=[87,73,84,72,32,82,69,67,85,82,83,73,86,69,32]
def asP:List UInt8:=[41,32,65,83,32,40]
def opsT:List (List UInt8):=[[],[85,78,73,79,78,32,65,76,76],[85,78,73,79,78],[69,88,67,69,80,84,32,65,76,76],[69,88,67,69,80,84],[73,78,84,69,82,83,69,67,84]]
def par (s:List UInt8):List UInt8:=40 :: (s ++ [41])
def ntT (no:Bool):List UInt8:=if no=true then notT else []
def itT (x:Itm):List UInt8:=if x.star=true then [42] else txt x.e ++ asT x.alias
def hvT (x:Hv):List UInt8:=txt x.c ++ [32] ++ symT.getD x.op.toNat [] ++ [32] ++ fmtV x.b
def whT (e:Tr):List UInt8:=atP (lvl e,txt e) 2
section
variable {Q:Type} [Inhabited Q] (tq:Q→List UInt8) (kd:Q→Int)
def frT (x:FrP Q):List UInt8:=if x.q.l.length=0 then x.name ++ asT x.alias else par (tq (x.q.l.getD 0 default)) ++ asT x.alias
def mbT (x:MbP Q):List UInt8:=if x.ex.l.length=0 then ntT x.no ++ exW ++ par (tq x.q) else if x.ex.l.length=1 then atP (lvl (x.ex.l.getD 0 default),txt (x.ex.l.getD 0 default)) 5 ++ [32] ++ ntT x.no ++ inW ++ par (tq x.q) else par (Lib.join (x.ex.l.map txt) cmW) ++ [32] ++ ntT x.no ++ inW ++ par (tq x.q)
def cnds (q:QP Q):List (List UInt8):=q.wh.l.map whT ++ q.mb.l.map (mbT tq)
def selA (q:QP Q):List UInt8:=(if q.ds=true then seW ++ diW else seW) ++ Lib.join (q.it.l.map itT) cmW ++ frW ++ Lib.join (q.fr.l.map (frT tq)) cmW
def selB (q:QP Q):List UInt8:=if (cnds tq q).length=0 then [] else whW ++ Lib.join (cnds tq q) anW
def selC (q:QP Q):List UInt8:=if q.gb.l.length=0 then [] else grW ++ Lib.join (q.gb.l.map txt) cmW
def selD (q:QP Q):List UInt8:=if q.hv.l.length=0 then [] else haW ++ Lib.join (q.hv.l.map hvT) anW
def selT (q:QP Q):List UInt8:=selA tq q ++ selB tq q ++ selC q ++ selD q
def rgT (a:Q):List UInt8:=if kd a=0 then tq a else par (tq a)
def setT (k:Int) (a b:Q):List UInt8:=tq a ++ [32] ++ opsT.getD k.toNat [] ++ [32] ++ rgT tq kd b
def bodT (q:QP Q):List UInt8:=if q.k=0 then selT tq q else setT tq kd q.k (q.ar.l.getD 0 default) (q.ar.l.getD 1 default)
def cmT (x:CmP Q):List UInt8:=x.name ++ [32,40] ++ Lib.join x.cols.l cmW ++ asP ++ setT tq kd 2 x.base x.step ++ [41]
def qryT (q:QP Q):List UInt8:=if q.wi.l.length=0 then bodT tq kd q else wiW ++ Lib.join (q.wi.l.map (cmT tq kd)) cmW ++ [32] ++ bodT tq kd q
end
theorem par_len (s:List UInt8):(par s).length=s.length + 2:=by unfold par; simp
theorem txt_len2 {t:Tr} (hw:wf t) (h:vld t=true ∨ cal t=true):(txt t).length ≤ 600 * cnt t:=by
 rcases h with h | h
 ·exact txt_len t hw h
 ·cases t with
  | mk k v tb nm op fn fl xs =>
   obtain ⟨h1,h2,h3,h4,h5,h6,_⟩:=cal_cases h
   rw [wf] at hw
   have hp:=ptx_len xs hw.2.2 h5
   rw [txt,cnt]
   unfold txtB
   rw [if_neg (by omega),if_neg (by omega),if_pos h1]
   have hf:=fn_le fn.toNat
   have hs:∀ ps:List (Int × List UInt8),(match ps with | []=>[40,42,41] | p :: _=>40 :: (p.2 ++ [41]):List UInt8).length ≤ sumL ps + 3:=by
    intro ps
    cases ps with
    | nil=>simp
    | cons p r=>simp only [List.length_cons,List.length_append,List.length_nil,sumL]; omega
   rw [List.length_append]
   refine Nat.le_trans (Nat.add_le_add hf (hs (ptx xs))) ?_
   omega
theorem as_len {s:List UInt8} (h:optV s=true):(asT s).length ≤ 35:=by
 have:=opt_len h
 unfold asT asW
 split
 ·simp
 ·simp only [lA,lB,lC]; omega
theorem at_len2 (t:Tr) (q:Int):(atP (lvl t,txt t) q).length ≤ (txt t).length + 2:=at_len (lvl t,txt t) q
theorem sum_le {α:Type} {g c:α→Nat} {K:Nat}:∀ {l:List α},(∀ x ∈ l,g x ≤ K * c x)→(l.map g).sum ≤ K * (l.map c).sum
 | [],_=>Nat.zero_le _
 | a :: r,h=>by
  have h1:=h a (List.mem_cons_self ..)
  have h2:=sum_le (l:=r) fun x hx=>h x (List.mem_cons_of_mem _ hx)
  rw [List.map_cons,List.map_cons,List.sum_cons,List.sum_cons,Nat.mul_add]
  omega
theorem join_le {α:Type} {t:α→List UInt8} {c:α→Nat} {K:Nat} {sep:List UInt8} {l:List α} (h:∀ x ∈ l,(t x).length + sep.length ≤ K * c x):(Lib.join (l.map t) sep).length ≤ K * (l.map c).sum:=by
 refine Nat.le_trans (jn_sum _) ?_
 rw [List.map_map]
 exact sum_le (g:=fun x=>(t x).length + sep.length) h
theorem len_sum {α:Type} {c:α→Nat}:∀ {l:List α},(∀ x ∈ l,1 ≤ c x)→l.length ≤ (l.map c).sum
 | [],_=>Nat.zero_le _
 | a :: r,h=>by
  have h1:=h a (List.mem_cons_self ..)
  have h2:=len_sum (l:=r) fun x hx=>h x (List.mem_cons_of_mem _ hx)
  rw [List.length_cons,List.map_cons,List.sum_cons]
  omega
theorem its_ok {l:List Itm} (h:vIts l=true):∀ x ∈ l,x.star=true ∨ vItm x=true:=by
 unfold vIts at h
 split at h
 ·rename_i hs
  intro x hx
  match l,hs.1,hx with
  | [a],_,hx =>
   have:x=a:=by simpa using hx
   subst this
   exact .inl hs.2
 ·simp only [Bool.and_eq_true] at h
  exact fun x hx => .inr (List.all_eq_true.1 h.2 x hx)
theorem it_tlen {x:Itm} (hw:wf x.e) (h:x.star=true ∨ vItm x=true):(itT x).length + 2 ≤ 1000 * cnt x.e:=by
 have h1:=cnt_pos x.e
 unfold itT
 split
 ·simp only [List.length_cons,List.length_nil]; omega
 ·rename_i hs
  rcases h with h | h
  ·exact absurd h hs
  ·unfold vItm at h
   simp only [Bool.and_eq_true,Bool.or_eq_true] at h
   have:=txt_len2 hw h.2
   have:=as_len h.1.2
   rw [List.length_append]
   omega
theorem hv_tlen {x:Hv} (hw:wf x.c ∧ bigV x.b) (h:vHv x=true):(hvT x).length + 5 ≤ 1000 * (1 + cnt x.c):=by
 unfold vHv at h
 simp only [Bool.and_eq_true] at h
 have h1:=txt_len2 hw.1 (.inr h.1.1.1)
 have h2:=fmt_len hw.2 h.2
 have h3:=sym_le x.op.toNat
 unfold hvT
 simp only [lA,lB,lC]
 omega
theorem wh_tlen {e:Tr} (hw:wf e) (h:vld e=true):(whT e).length + 5 ≤ 1000 * cnt e:=by
 have h1:=txt_len e hw h
 have h2:=at_len2 e 2
 have h3:=cnt_pos e
 unfold whT
 omega
theorem ex_tlen {e:Tr} (hw:wf e) (h:vld e=true):(txt e).length + 2 ≤ 1000 * cnt e:=by
 have h1:=txt_len e hw h
 have h3:=cnt_pos e
 omega
theorem ops_len (n:Nat):(opsT.getD n []).length ≤ 10:=by
 by_cases h:n < 6
 ·match n,h with
  | 0,_=>decide
  | 1,_=>decide
  | 2,_=>decide
  | 3,_=>decide
  | 4,_=>decide
  | 5,_=>decide
 ·rw [List.getD_eq_getElem?_getD,List.getElem?_eq_none (by show 6 ≤ n; omega)]
  simp
section
variable {Q:Type} [Inhabited Q] {tq:Q→List UInt8} {kd:Q→Int} {c:Q→Nat} {vq vb:Q→Bool} {w:Q→Prop}
 (hL:∀ a,w a→(vq a=true ∨ vb a=true)→(tq a).length + 100 ≤ 1000 * c a)
include hL
theorem fr_tlen {x:FrP Q} (hw:wfFr w x) (h:vFr vq x=true):(frT tq x).length + 2 ≤ 1000 * cntFr c x:=by
 unfold vFr at h
 unfold frT cntFr
 split at h
 ·rename_i h0
  simp only [Bool.and_eq_true] at h
  rw [if_pos h0,List.length_append]
  have:=name_len h.1
  have:=as_len h.2
  omega
 ·rename_i h0
  simp only [Bool.and_eq_true] at h
  rw [if_neg h0,List.length_append,par_len]
  have hm:=getD_mem (l:=x.q.l) (j:=0) default (by omega)
  have:=hL _ (hw.2 _ hm) (.inl h.2)
  have:=sum_mem (g:=c) hm
  have:=as_len (show optV x.alias=true by unfold optV; rw [h.1.1.2]; simp)
  omega
omit [Inhabited Q] in
theorem mb_tlen {x:MbP Q} (hw:wfMb w x) (h:vMb vq x=true):(mbT tq x).length + 5 ≤ 1000 * cntMb c x:=by
 unfold vMb at h
 simp only [Bool.and_eq_true] at h
 have hq:=hL _ hw.2.2 (.inl h.2)
 have hj:=join_le (t:=txt) (c:=cnt) (K:=1000) (sep:=cmW) (l:=x.ex.l) fun e he=>ex_tlen (hw.2.1 e he) (List.all_eq_true.1 h.1 e he)
 have hn:(ntT x.no).length ≤ 4:=by unfold ntT notT; split <;> simp
 unfold mbT cntMb
 have e1:exW.length=7:=rfl
 have e2:inW.length=3:=rfl
 split
 ·simp only [List.length_append,par_len,e1]; omega
 ·rename_i h0
  split
  ·rename_i h1'
   have hm:=getD_mem (l:=x.ex.l) (j:=0) default (by omega)
   have k1:=ex_tlen (hw.2.1 _ hm) (List.all_eq_true.1 h.1 _ hm)
   have k2:=at_len2 (x.ex.l.getD 0 default) 5
   have k3:=sum_mem (g:=cnt) hm
   simp only [List.length_append,par_len,e2,List.length_cons,List.length_nil]
   omega
  ·simp only [List.length_append,par_len,e2,List.length_cons,List.length_nil]
   omega
omit [Inhabited Q] in
theorem set_tlen {k:Int} {a b:Q} (ha:w a) (hb:w b) (va:vb a=true) (vbb:vb b=true):(setT tq kd k a b).length + 180 ≤ 1000 * (c a + c b):=by
 have k1:=hL _ ha (.inr va)
 have k2:=hL _ hb (.inr vbb)
 have k3:=ops_len k.toNat
 have k4:(rgT tq kd b).length ≤ (tq b).length + 2:=by
  unfold rgT
  split
  ·omega
  ·rw [par_len]; omega
 unfold setT
 simp only [lA,lB,lC]
 omega
omit [Inhabited Q] in
theorem cm_tlen {x:CmP Q} (hw:wfCm w x) (h:vCm vb x=true):(cmT tq kd x).length + 2 ≤ 1000 * cntCm c x:=by
 unfold vCm at h
 simp only [Bool.and_eq_true] at h
 obtain ⟨⟨⟨⟨g1,g2⟩,g3⟩,g4⟩,g5⟩:=h
 have k1:=name_len g1
 have k2:=set_tlen (kd:=kd) hL (k:=2) hw.2.1 hw.2.2 g4 g5
 have k3:(Lib.join x.cols.l cmW).length ≤ 33 * x.cols.l.length:=by
  have:=join_le (t:=fun s:List UInt8=>s) (c:=fun _=>1) (K:=33) (sep:=cmW) (l:=x.cols.l) fun s hs=>by
   have:=name_len (List.all_eq_true.1 g3 s hs)
   show s.length + 2 ≤ 33 * 1
   omega
  have e:(x.cols.l.map fun _=>1).sum=x.cols.l.length:=by
   generalize x.cols.l=l
   induction l with
   | nil=>rfl
   | cons a r ih=>rw [List.map_cons,List.sum_cons,ih,List.length_cons]; omega
  rw [e,List.map_id'] at this
  exact this
 have e1:asP.length=6:=rfl
 unfold cmT cntCm
 simp only [lA,lB,lC,e1]
 omega
structure SelOk (vq:Q→Bool) (q:QP Q):Prop where
 it:∀ x ∈ q.it.l,x.star=true ∨ vItm x=true
 fr:∀ x ∈ q.fr.l,vFr vq x=true
 wh:∀ x ∈ q.wh.l,vld x=true
 mb:∀ x ∈ q.mb.l,vMb vq x=true
 gb:∀ x ∈ q.gb.l,vld x=true
 hv:∀ x ∈ q.hv.l,vHv x=true
omit hL in
theorem sel_parts {q:QP Q} (h:vSel vq q=true):SelOk vq q:=by
 unfold vSel at h
 simp only [Bool.and_eq_true] at h
 obtain ⟨⟨⟨⟨⟨⟨⟨⟨_,g1⟩,_⟩,g2⟩,_⟩,g3⟩,g4⟩,g5⟩,g6⟩:=h
 exact ⟨its_ok g1,List.all_eq_true.1 g2,List.all_eq_true.1 g3,List.all_eq_true.1 g4,List.all_eq_true.1 g5,List.all_eq_true.1 g6⟩
theorem cnds_len {q:QP Q} (hw:wfQP w q) (h:SelOk vq q):((cnds tq q).map fun a=>a.length + anW.length).sum ≤ 1000 * ((q.wh.l.map cnt).sum + (q.mb.l.map (cntMb c)).sum):=by
 unfold cnds
 rw [List.map_append,List.sum_append,List.map_map,List.map_map,Nat.mul_add]
 refine Nat.add_le_add (sum_le (g:=fun e=>(whT e).length + anW.length) fun e he=>wh_tlen (hw.wh e he) (h.wh e he)) (sum_le (g:=fun x=>(mbT tq x).length + anW.length) fun x hx=>mb_tlen hL (hw.mb x hx) (h.mb x hx))
theorem sel_tlen {q:QP Q} (hw:wfQP w q) (h:SelOk vq q):(selT tq q).length + 500 ≤ 1000 * cntQP c q:=by
 have k1:=join_le (t:=itT) (c:=fun x:Itm=>cnt x.e) (K:=1000) (sep:=cmW) (l:=q.it.l) fun x hx=>it_tlen (hw.it x hx) (h.it x hx)
 have k2:=join_le (t:=frT tq) (c:=cntFr c) (K:=1000) (sep:=cmW) (l:=q.fr.l) fun x hx=>fr_tlen hL (hw.fr x hx) (h.fr x hx)
 have k3:=jn_sum (sep:=anW) (cnds tq q)
 have k4:=cnds_len hL hw h
 have k5:=join_le (t:=txt) (c:=cnt) (K:=1000) (sep:=cmW) (l:=q.gb.l) fun e he=>ex_tlen (hw.gb e he) (h.gb e he)
 have k6:=join_le (t:=hvT) (c:=fun x:Hv=>1 + cnt x.c) (K:=1000) (sep:=anW) (l:=q.hv.l) fun x hx=>hv_tlen (hw.hv x hx) (h.hv x hx)
 have a1:(selA tq q).length ≤ 22 + (Lib.join (q.it.l.map itT) cmW).length + (Lib.join (q.fr.l.map (frT tq)) cmW).length:=by
  unfold selA
  have e:(if q.ds=true then seW ++ diW else seW).length ≤ 16:=by split <;> decide
  have e2:frW.length=6:=rfl
  simp only [List.length_append]
  omega
 have a2:(selB tq q).length ≤ 7 + (Lib.join (cnds tq q) anW).length:=by
  unfold selB
  have e2:whW.length=7:=rfl
  split
  ·simp
  ·rw [List.length_append,e2]; omega
 have a3:(selC q).length ≤ 10 + (Lib.join (q.gb.l.map txt) cmW).length:=by
  unfold selC
  have e2:grW.length=10:=rfl
  split
  ·simp
  ·rw [List.length_append,e2]; omega
 have a4:(selD q).length ≤ 8 + (Lib.join (q.hv.l.map hvT) anW).length:=by
  unfold selD
  have e2:haW.length=8:=rfl
  split
  ·simp
  ·rw [List.length_append,e2]; omega
 unfold selT cntQP
 simp only [List.length_append,Nat.mul_add]
 omega
theorem bod_tlen {q:QP Q} (hw:wfQP w q) (h:vBody vq vb q=true):(bodT tq kd q).length + 500 ≤ 1000 * cntQP c q:=by
 unfold vBody at h
 unfold bodT
 rw [Bool.and_eq_true] at h
 by_cases hk:q.k=0
 ·rw [if_pos hk] at h ⊢
  exact sel_tlen hL hw (sel_parts h.2)
 ·rw [if_neg hk] at h ⊢
  have h2:=h.2
  unfold vSet at h2
  simp only [Bool.and_eq_true,decide_eq_true_eq] at h2
  obtain ⟨⟨⟨⟨⟨g1,g2⟩,g3⟩,g4⟩,g5⟩,g6⟩:=h2
  have m0:=getD_mem (l:=q.ar.l) (j:=0) default (by omega)
  have m1:=getD_mem (l:=q.ar.l) (j:=1) default (by omega)
  have k:=set_tlen (kd:=kd) hL (k:=q.k) (hw.ar _ m0) (hw.ar _ m1) g5 g6
  have s:(q.ar.l.map c).sum=c (q.ar.l.getD 0 default) + c (q.ar.l.getD 1 default):=by
   generalize q.ar.l=l at g3
   match l,g3 with
   | [a,b],_=>rfl
  unfold cntQP
  rw [s]
  simp only [Nat.mul_add] at k ⊢
  omega
omit [Inhabited Q] hL in
theorem cnt_noW (q:QP Q):cntQP c q=cntQP c (noW q) + (q.wi.l.map (cntCm c)).sum:=by
 obtain ⟨k,wi,ds,it,fr,wh,mb,gb,hv,ar⟩:=q
 unfold noW cntQP
 dsimp only
 have e:(Slc.nil:Slc (CmP Q)).l=[]:=rfl
 rw [e]
 simp only [List.map_nil,List.sum_nil]
 omega
omit hL in
theorem bod_noW (q:QP Q):bodT tq kd (noW q)=bodT tq kd q:=rfl
theorem qry_tlen {q:QP Q} (hw:wfQP w q) (h:vQry vq vb q=true ∨ vBody vq vb q=true):(qryT tq kd q).length + 100 ≤ 1000 * cntQP c q:=by
 unfold qryT
 split
 ·rename_i h0
  rcases h with h | h
  ·unfold vQry at h
   rw [Bool.and_eq_true] at h
   have:=bod_tlen (kd:=kd) hL (noW_wf q hw) h.2
   rw [bod_noW] at this
   have:=cnt_noW (c:=c) q
   omega
  ·have:=bod_tlen (kd:=kd) hL hw h
   omega
 ·rename_i h0
  rcases h with h | h
  ·unfold vQry at h
   rw [Bool.and_eq_true] at h
   have k1:=bod_tlen (kd:=kd) hL (noW_wf q hw) h.2
   rw [bod_noW] at k1
   have k2:=cnt_noW (c:=c) q
   have k3:=join_le (t:=cmT tq kd) (c:=cntCm c) (K:=1000) (sep:=cmW) (l:=q.wi.l) fun x hx=>cm_tlen hL (hw.wi x hx) (List.all_eq_true.1 h.1 x hx)
   have e1:wiW.length=15:=rfl
   rw [k2,Nat.mul_add]
   simp only [lA,lB,lC,e1]
   omega
  ·exfalso
   unfold vBody at h
   rw [Bool.and_eq_true,decide_eq_true_eq] at h
   exact h0 h.1
end
end Go.Vm
