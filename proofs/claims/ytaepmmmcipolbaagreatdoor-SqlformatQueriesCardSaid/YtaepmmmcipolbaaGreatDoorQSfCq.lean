/- Chapter 24: what a budget says of a query's size. -/
import Derived.Test.YtaepmmmcipolbaaGreatDoorQSfMb
set_option linter.unusedVariables false
set_option linter.unusedSimpArgs false
set_option maxRecDepth 100000
namespace Go.Vm
open Go
theorem cntL_sum:∀ l:List Tr,cntL l=(l.map cnt).sum
 | []=>by rw [cntL]; rfl
 | a :: r=>by rw [cntL,cntL_sum r]; rfl
def Stp {α:Type} (g:α→Int→Int) (c:α→Nat) (x:α):Prop:=∀ b,0 ≤ b→b ≤ 1000000 → -1000000000000000 - b ≤ g x b ∧ g x b ≤ b ∧ (0 ≤ g x b→(c x:Int) + g x b ≤ b)
def Chn (F:Int→Int) (s:Nat):Prop:=∀ b,b ≤ 1000000→(b < 0→F b=b) ∧ (0 ≤ b → -1000000000000000 - b ≤ F b ∧ F b ≤ b ∧ (0 ≤ F b→(s:Int) + F b ≤ b))
theorem fB_chn {α:Type} {g:α→Int→Int} {c:α→Nat}:∀ {l:List α},(∀ x ∈ l,Stp g c x)→Chn (fB g l) (l.map c).sum
 | [],_=>fun b hb=>⟨fun _=>rfl,fun h=>⟨by show _ ≤ b; omega,Int.le_refl _,fun _=>by show ((0:Nat):Int) + b ≤ b; omega⟩⟩
 | a :: r,h=>fun b hb=>⟨fun hn=>fB_neg hn,fun h0=>by
   obtain ⟨k1,k2,k3⟩:=h a (List.mem_cons_self ..) b h0 hb
   obtain ⟨m1,m2⟩:=fB_chn (l:=r) (fun x hx=>h x (List.mem_cons_of_mem _ hx)) (g a b) (by omega)
   rw [fB,if_neg (by omega),List.map_cons,List.sum_cons]
   by_cases hn:g a b < 0
   ·rw [m1 hn]
    exact ⟨k1,k2,fun h=>by omega⟩
   ·obtain ⟨n1,n2,n3⟩:=m2 (by omega)
    exact ⟨by omega,by omega,fun h=>by have:=n3 h; have:=k3 (by omega); omega⟩⟩
theorem chn_comp {F G:Int→Int} {s t:Nat} (hF:Chn F s) (hG:Chn G t):Chn (fun b=>G (F b)) (s + t):=fun b hb=>by
 obtain ⟨f1,f2⟩:=hF b hb
 refine ⟨fun hn => ?_,fun h0 => ?_⟩
 ·show G (F b)=b
  rw [f1 hn]
  exact (hG b hb).1 hn
 ·obtain ⟨k1,k2,k3⟩:=f2 h0
  obtain ⟨g1,g2⟩:=hG (F b) (by omega)
  show _ ≤ G (F b) ∧ G (F b) ≤ b ∧ (0 ≤ G (F b)→((s + t:Nat):Int) + G (F b) ≤ b)
  by_cases hn:F b < 0
  ·rw [g1 hn]
   exact ⟨k1,k2,fun h=>by omega⟩
  ·obtain ⟨n1,n2,n3⟩:=g2 (by omega)
   exact ⟨by omega,by omega,fun h=>by have:=n3 h; have:=k3 (by omega); omega⟩
theorem quo_rb {n:Nat} (h:n ≤ RB):IntKind.i64.wrap ((n:Int).tdiv 40)=((n / 40:Nat):Int) ∧ ((n / 40:Nat):Int) ≤ 4000000000000:=by
 have hRB:RB=140737488351232:=rfl
 rw [Int.tdiv_eq_ediv_of_nonneg (by omega)]
 have e:(n:Int) / 40=((n / 40:Nat):Int):=by omega
 rw [e,wrap_in (by omega) (by omega)]
 exact ⟨rfl,by omega⟩
theorem nod_stp {t:Tr} (h:rc t):Stp nod cnt t:=fun b h0 h1=>by
 obtain ⟨k1,k2,k3⟩:=nod_rc t h b (by omega) h1
 exact ⟨by omega,by omega,k3⟩
section
variable {Q:Type} (c:Q→Nat)
def cntCm (x:CmP Q):Nat:=1 + x.cols.l.length + c x.base + c x.step
def cntFr (x:FrP Q):Nat:=1 + (x.q.l.map c).sum
def cntMb (x:MbP Q):Nat:=(x.ex.l.map cnt).sum + c x.q
def cntQP (q:QP Q):Nat:=1 + ((q.wi.l.map (cntCm c)).sum + (q.it.l.map fun x=>cnt x.e).sum + (q.fr.l.map (cntFr c)).sum + (q.wh.l.map cnt).sum + (q.gb.l.map cnt).sum + (q.mb.l.map (cntMb c)).sum + (q.hv.l.map fun x=>1 + cnt x.c).sum + (q.ar.l.map c).sum)
end
def CQ {Q:Type} (n:Q→Int→Int) (c:Q→Nat) (x:Q):Prop:=Stp n c x ∧ ∀ b,-2000000000000000 ≤ b→b < 0→n x b=b - 1
section
variable {Q:Type} {n:Q→Int→Int} {c:Q→Nat} {w:Q→Prop} (hC:∀ x,w x→CQ n c x)
include hC
theorem cm_stp {x:CmP Q} (hw:wfCm w x) (h1:x.name.length ≤ RB) (h2:x.cols.l.length ≤ RB):Stp (nodCm n) (cntCm c) x:=fun b h0 hb=>by
 obtain ⟨q1,q2⟩:=quo_rb h1
 have hRB:RB=140737488351232:=rfl
 obtain ⟨s1,s2⟩:=hC _ hw.2.1
 obtain ⟨t1,t2⟩:=hC _ hw.2.2
 unfold nodCm cntCm
 rw [q1,wrap_in (x:=b - 1) (by omega) (by omega),wrap_in (x:=b - 1 - (x.cols.l.length:Int)) (by omega) (by omega),wrap_in (by omega) (by omega)]
 have hq0:(0:Int) ≤ ((x.name.length / 40:Nat):Int):=Int.natCast_nonneg _
 generalize ((x.name.length / 40:Nat):Int)=u at q2 hq0
 by_cases hn:b - 1 - (x.cols.l.length:Int) - u < 0
 ·rw [s2 _ (by omega) hn,t2 _ (by omega) (by omega)]
  exact ⟨by omega,by omega,fun h=>by omega⟩
 ·obtain ⟨k1,k2,k3⟩:=s1 (b - 1 - (x.cols.l.length:Int) - u) (by omega) (by omega)
  generalize n x.base (b - 1 - (x.cols.l.length:Int) - u)=r at k1 k2 k3
  by_cases hr:r < 0
  ·rw [t2 _ (by omega) hr]
   exact ⟨by omega,by omega,fun h=>by omega⟩
  ·obtain ⟨m1,m2,m3⟩:=t1 r (by omega) (by omega)
   exact ⟨by omega,by omega,fun h=>by have:=m3 h; have:=k3 (by omega); omega⟩
theorem fr_stp {x:FrP Q} (hw:wfFr w x) (h1:x.name.length ≤ RB):Stp (nodFr n) (cntFr c) x:=fun b h0 hb=>by
 obtain ⟨q1,q2⟩:=quo_rb h1
 unfold nodFr cntFr
 have hq0:(0:Int) ≤ ((x.name.length / 40:Nat):Int):=Int.natCast_nonneg _
 rw [q1]
 generalize ((x.name.length / 40:Nat):Int)=u at q2 hq0
 rw [wrap_in (x:=1 + u) (by omega) (by omega),wrap_in (by omega) (by omega)]
 have hch:=fB_chn (g:=n) (c:=c) (l:=x.q.l) (fun y hy=>(hC y (hw.2 y hy)).1) (b - (1 + u)) (by omega)
 by_cases hn:b - (1 + u) < 0
 ·rw [hch.1 hn]
  exact ⟨by omega,by omega,fun h=>by omega⟩
 ·obtain ⟨k1,k2,k3⟩:=hch.2 (by omega)
  exact ⟨by omega,by omega,fun h=>by have:=k3 h; omega⟩
theorem mb_stp {x:MbP Q} (hw:wfMb w x) (h1:∀ t ∈ x.ex.l,rc t):Stp (nodMb n) (cntMb c) x:=fun b h0 hb=>by
 unfold nodMb cntMb
 rw [← nodL_fB,← cntL_sum]
 obtain ⟨k1,k2,k3⟩:=nodL_rc x.ex.l (rcL_of h1) b (by omega) hb
 obtain ⟨t1,t2⟩:=hC _ hw.2.2
 generalize nodL x.ex.l b=r at k1 k2 k3
 by_cases hr:r < 0
 ·rw [t2 _ (by omega) hr]
  exact ⟨by omega,by omega,fun h=>by omega⟩
 ·obtain ⟨m1,m2,m3⟩:=t1 r (by omega) (by omega)
  exact ⟨by omega,by omega,fun h=>by have:=m3 h; have:=k3 (by omega); omega⟩
omit hC in
theorem it_stp {x:Itm} (h1:rc x.e) (h2:x.alias.length ≤ RB):Stp nodItm (fun x:Itm=>cnt x.e) x:=fun b h0 hb=>by
 obtain ⟨q1,q2⟩:=quo_rb h2
 unfold nodItm
 have hq0:(0:Int) ≤ ((x.alias.length / 40:Nat):Int):=Int.natCast_nonneg _
 rw [q1]
 generalize ((x.alias.length / 40:Nat):Int)=u at q2 hq0
 rw [wrap_in (by omega) (by omega)]
 obtain ⟨k1,k2,k3⟩:=nod_rc x.e h1 (b - u) (by omega) (by omega)
 exact ⟨by omega,by omega,fun h=>by have:=k3 h; show (cnt x.e:Int) + _ ≤ _; omega⟩
omit hC in
theorem hv_stp {x:Hv} (h1:rc x.c):Stp nodHv (fun x:Hv=>1 + cnt x.c) x:=fun b h0 hb=>by
 unfold nodHv
 rw [wrap_in (by omega) (by omega)]
 obtain ⟨k1,k2,k3⟩:=nod_rc x.c h1 (b - 1) (by omega) (by omega)
 exact ⟨by omega,by omega,fun h=>by have:=k3 h; show ((1 + cnt x.c:Nat):Int) + _ ≤ _; omega⟩
theorem qp_cq {q:QP Q} (hw:wfQP w q):CQ (nodQP n) (cntQP c) q:=by
 have h:=chn_comp (chn_comp (chn_comp (chn_comp (chn_comp (chn_comp (chn_comp
  (fB_chn (g:=nodCm n) (c:=cntCm c) (l:=q.wi.l) fun x hx=>cm_stp hC (hw.wi x hx) (hw.rwi x hx).1 (hw.rwi x hx).2)
  (fB_chn (g:=nodItm) (c:=fun x:Itm=>cnt x.e) (l:=q.it.l) fun x hx=>it_stp (hw.rit x hx).1 (hw.rit x hx).2))
  (fB_chn (g:=nodFr n) (c:=cntFr c) (l:=q.fr.l) fun x hx=>fr_stp hC (hw.fr x hx) (hw.rfr x hx)))
  (fB_chn (g:=nod) (c:=cnt) (l:=q.wh.l) fun x hx=>nod_stp (hw.rwh x hx)))
  (fB_chn (g:=nod) (c:=cnt) (l:=q.gb.l) fun x hx=>nod_stp (hw.rgb x hx)))
  (fB_chn (g:=nodMb n) (c:=cntMb c) (l:=q.mb.l) fun x hx=>mb_stp hC (hw.mb x hx) (hw.rmb x hx)))
  (fB_chn (g:=nodHv) (c:=fun x:Hv=>1 + cnt x.c) (l:=q.hv.l) fun x hx=>hv_stp (hw.rhv x hx)))
  (fB_chn (g:=n) (c:=c) (l:=q.ar.l) fun x hx=>(hC x (hw.ar x hx)).1)
 refine ⟨fun b h0 hb => ?_,fun b h0 hn => ?_⟩
 ·obtain ⟨k1,k2⟩:=h (b - 1) (by omega)
  unfold nodQP cntQP
  rw [wrap_in (x:=b - 1) (by omega) (by omega)]
  by_cases hb0:b - 1 < 0
  ·have e:=k1 hb0
   simp only at e
   rw [e]
   exact ⟨by omega,by omega,fun h=>by omega⟩
  ·obtain ⟨m1,m2,m3⟩:=k2 (by omega)
   simp only at m1 m2 m3
   exact ⟨by omega,by omega,fun h=>by have:=m3 h; omega⟩
 ·obtain ⟨k1,_⟩:=h (b - 1) (by omega)
  have e:=k1 (by omega)
  simp only at e
  unfold nodQP
  rw [wrap_in (x:=b - 1) (by omega) (by omega),e]
end
def QN.cnt:∀ n,QN n→Nat
 | 0,_=>1
 | n + 1,q=>cntQP (QN.cnt n) q
theorem qn_cq:∀ (n:Nat) (a:QN n),QN.wf n a→CQ (QN.nod n) (QN.cnt n) a
 | 0,_,_=>⟨fun b h0 hb=>by
   show _ ≤ IntKind.i64.wrap (b - 1) ∧ IntKind.i64.wrap (b - 1) ≤ b ∧ (0 ≤ IntKind.i64.wrap (b - 1)→((1:Nat):Int) + IntKind.i64.wrap (b - 1) ≤ b)
   rw [wrap_in (x:=b - 1) (by omega) (by omega)]
   exact ⟨by omega,by omega,fun _=>by omega⟩,fun b h0 hn=>by
   show IntKind.i64.wrap (b - 1)=b - 1
   exact wrap_in (by omega) (by omega)⟩
 | n + 1,a,h=>qp_cq (qn_cq n) h
theorem few_query {n:Nat} {a:QN n} (hw:QN.wf n a) {m:Int} (h0:0 ≤ m) (h1:m ≤ 1000000) (h:0 ≤ QN.nod n a m):(QN.cnt n a:Int) ≤ m:=by
 obtain ⟨_,_,k3⟩:=(qn_cq n a hw).1 m h0 h1
 have:=k3 h
 omega
end Go.Vm
