/- Chapter 24: texts joined. -/
import Derived.Test.YtaepmmmcipolbaaGreatDoorQSfVc
import Derived.Test.YtaepmmmcipolbaaGreatDoorQSfW
import Derived.Test.YtaepmmmcipolbaaGreatDoorQSfAt
section
set_option linter.unusedVariables false
set_option linter.unusedSimpArgs false
set_option maxRecDepth 100000
namespace Go.Vm
open Nat renaming reduceEqDiff→rA,reduceAdd→rB,reduceLeDiff→rC,reduceLT→rD
open Go
theorem jt_cons {sep a:List UInt8} {r:List (List UInt8)}:Lib.joinTail sep (a :: r)=sep ++ a ++ Lib.joinTail sep r:=rfl
theorem jn_sum {sep:List UInt8}:∀ l:List (List UInt8),(Lib.join l sep).length ≤ (l.map fun a=>a.length + sep.length).sum
 | []=>Nat.zero_le _
 | a :: r=>by
  have:∀ r:List (List UInt8),(Lib.joinTail sep r).length=(r.map fun a=>a.length + sep.length).sum:=by
   intro r
   induction r with
   | nil=>rfl
   | cons b r ih =>
    rw [jt_cons,List.length_append,List.length_append,ih,List.map_cons,List.sum_cons]
    omega
  rw [Lib.join_cons,List.length_append,this,List.map_cons,List.sum_cons]
  omega
theorem strsOf_map:∀ l:List (List UInt8),strsOf (l.map txRow)=some l
 | []=>rfl
 | s :: l=>by
  have e:strsOf ((s :: l).map txRow)=bnd (strsOf (l.map txRow)) fun q=>some (s :: q):=rfl
  rw [e,strsOf_map l]
  rfl
theorem join_cal (s:Slc (List UInt8)) (sep:List UInt8) (hl:s.l.length ≤ 1000000) (hj:(Lib.join s.l sep).length ≤ 1000000000):calL EE 107 [.s (s.sv txRow),.str sep] []=some (.ret (.str (Lib.join s.l sep)),[]):=by
 refine ext_cal (g:=joinX) (v := .str (Lib.join s.l sep)) rfl ?_ own_s
 have hr:rowsS (s.sv txRow)=some (s.l.map txRow):=by cases s <;> rfl
 unfold joinX
 simp only [hr,bnd_some,strsOf_map]
 rw [if_pos ⟨by omega,by omega⟩]
theorem lendL_app {H:Ob} {post:List PV}:∀ {pre:List PV},pureA pre=true→lendL H (pre ++ post)=bnd (lendL H post) fun b=>some (pre ++ b.1,b.2)
 | [],_=>by rw [List.nil_append]; cases lendL H post <;> rfl
 | p :: r,h=>by
  have h1:pureA [p]=true ∧ pureA r=true:=by
   cases p with
   | s v=>exact ⟨rfl,h⟩
   | agg l=>simp only [pureA,Bool.and_eq_true] at h ⊢; exact ⟨⟨h.1,trivial⟩,h.2⟩
   | _=>cases h
  have e1:=(pure_lend (H:=H) h1.1).1
  rw [lendL_cons] at e1
  cases hp:lend H p with
  | none=>rw [hp] at e1; cases e1
  | some a =>
   rw [hp,bnd_some,lendL_nil,bnd_some] at e1
   injection e1 with e1
   injection e1 with e2 e3
   injection e2 with e2 _
   rw [List.cons_append,lendL_cons,hp,bnd_some,e3,lendL_app h1.2,e2]
   cases lendL H post <;> rfl
theorem idbL_app {a b:List PV} (ha:idbL a=0) (hb:idbL b=0):idbL (a ++ b)=0:=by
 induction a with
 | nil=>exact hb
 | cons p a ih =>
  simp only [idbL] at ha
  simp only [List.cons_append,idbL]
  have:=ih (by omega)
  omega
theorem WC_own1m {E:Env} {α:Type} {f:α→List SV} {l:List α} {lo e sz H n0 p} {g:FuncId} {v:PV} {n d T r Q} (pre post:List PV) (h:Own lo e sz H n0 p (l.map f)) (hr:E.ref g=false) (hp:pureA pre=true) (hq:pureA post=true)
  (hc:∀ s:Slc α,s.l=l→calL E g (pre ++ .s (s.sv f) :: post) []=some (.ret v,[]))
  (hk:∀ H',Own lo e sz H' n0 p (l.map f)→(∀ j,Off p j→H' j=H j)→WS E false r (putT T d v) H' n Q):WCs E false g (pre ++ p :: post) H n d T r Q:=by
 obtain ⟨s,H',h1,h2,h3,h4⟩:=h.lend
 refine WC_lend hr (a:=pre ++ .s (s.sv f) :: post) (H1:=H') ?_ ?_ (fun h=>by cases h) (hc s h2) (hk H' h3 h4)
 ·rw [lendL_app hp,lendL_cons,h1,bnd_some,(pure_lend hq).1]; rfl
 ·refine idbL_app (pure_lend (H:=H) hp).2.1 ?_
  simp only [idbL,idb,(pure_lend (H:=H) hq).2.1]
  rfl
theorem list_func {α:Type} [Inhabited α] {sz:Nat} {f:α→List SV} (h:Ags sz f) {g k:FuncId} {D:List Nat} {ty:Nat} {z:List SV} (hz:z.length=sz) (hf:sF EE k D=some ⟨29,[.t 6],cLI sz ty z⟩) (x:Slc α) (hx:x.l.length ≤ 1000000) (sep:List UInt8) (hr:EE.ref g=false) (t:α→List UInt8)
  (hj:(Lib.join (x.l.map t) sep).length ≤ 1000000000)
  (hq:∀ a ∈ x.l,calL EE g [.st (f a)] []=some (.ret (.str (t a)),[])):calL EE k [.s (x.sv f),.str sep,.s (.func g)] []=some (.ret (.str (Lib.join (x.l.map t) sep)),[]):=by
 have hrj:EE.ref 107=false:=rfl
 refine fn_ok hf (by simp) ?_
 unfold cLI
 simp only [go_sem,reduceIte,rA,rB,rC,rD]
 have hm:mksM 9 1 [SV.str []] (Ob.of []) 3 (PV.s (SV.int IntKind.i64 0)) (PV.i64 x.l.length)=some (.hsl 3 0 0 0,(Ob.of []).set 3 (.sarr 9 1 0 false true [])):=by
  unfold mksM
  simp only [PV.i64]
  rw [if_pos ⟨by omega,by omega,by omega⟩]
  rfl
 rw [hm,WX_some]
 refine WP_scan rfl 15 x.l.length (fun _=>True) (fun j T H n=>Own 0 9 1 H n (T 7) (((x.l.take j).map t).map txRow)) rfl (.inr (.inr ⟨3,0,false,by omega,by omega,rfl,rfl⟩)) ?_ ?_
 ·rintro j T' H' n' hlt hf' hi ho _
  have g1:T' 2 = .s (.func g):=hf' 2 rfl
  have g13:T' 13 = .s (x.sv f):=hf' 13 rfl
  have g14:T' 14 = .i64 x.l.length:=hf' 14 rfl
  clear hf'
  have hji:(j:Int) < x.l.length:=by omega
  have hj0:(0:Int) ≤ j:=by omega
  have hwj:=wrap_suc (j:=j) (by omega)
  have hnx:((x.l.take (j + 1)).map t).map txRow=((x.l.take j).map t).map txRow ++ [txRow (t (x.l.getD j default))]:=by
   rw [take_step default hlt,List.map_append,List.map_append]; rfl
  rw [hnx]
  have hle:(((x.l.take j).map t).map txRow).length ≤ 1000000:=by rw [List.length_map,List.length_map,List.length_take]; omega
  generalize ((x.l.take j).map t).map txRow=rows at ho hle ⊢
  have hld:=fun HH=>h.load (l:=x.l) (j:=j) (H:=HH) hlt
  have hcall:=hq _ (getD_mem (l:=x.l) default hlt)
  generalize x.l.getD j default=X at hld hcall ⊢
  have lx:=h.len X
  have hps:=h.pos
  simp only [go_sem,reduceIte,rA,rB,rC,rD,g1,g13,g14,hi,hji,hj0,and_self,decide_true,h.ia,Int.toNat_natCast,hld]
  refine ⟨⟨lx,by omega⟩,by rw [setCells_len]; omega,?_⟩
  rw [setCells_all (by rw [hz,lx]),List.take_of_length_le (by omega)]
  refine WV_s (WC_p hr (by rw [pure_st]; rfl) hcall ?_)
  simp only [go_sem,reduceIte,rA,rB,rC,rD]
  have ho1:∀ zz,Own 0 9 1 (H'.set (n' + 1 + 2) zz) n' (T' 7) rows:=fun zz=>ho.kept (Nat.le_refl _) (fun j _ hj=>by unfold Ob.set; rw [if_neg (by omega)])
  refine WX_app (ho1 _) rows_slice (by simp) (by simp; omega) (by omega) (by omega) ?_
  intro p1 H2 ho2 hfr2 hof2
  simp only [go_sem,reduceIte,rA,rB,rC,rD,hi,hwj]
  exact ho2.kept (by omega) (fun _ _ _=>rfl)
 ·rintro T' H' n' hf' hi ho _
  have g14:T' 14 = .i64 x.l.length:=hf' 14 rfl
  have g1:T' 1 = .str sep:=hf' 1 rfl
  clear hf'
  rw [List.take_length] at ho
  simp only [go_sem,reduceIte,rA,rB,rC,rD,g1,g14,hi,Int.lt_irrefl,decide_false]
  refine WC_own1m (v := .str (Lib.join (x.l.map t) sep)) [] [.s (.str sep)] ho hrj rfl rfl (fun s hs => ?_) ?_
  ·have:=join_cal s sep (by rw [hs,List.length_map]; omega) (by rw [hs]; exact hj)
   rw [hs] at this
   exact this
  ·intro H2 ho2 hof
   simp only [go_sem,reduceIte,rA,rB,rC,rD]
end Go.Vm
end
section
set_option linter.unusedVariables false
set_option linter.unusedSimpArgs false
set_option maxRecDepth 100000
namespace Go.Vm
open Nat renaming reduceEqDiff→rA,reduceAdd→rB,reduceLeDiff→rC,reduceLT→rD
open Go
theorem sum_mem {α:Type} {g:α→Nat}:∀ {l:List α} {a:α},a ∈ l→g a ≤ (l.map g).sum
 | b :: r,a,h=>by
  rw [List.map_cons,List.sum_cons]
  rcases List.mem_cons.1 h with rfl | h
  ·omega
  ·have:=sum_mem (g:=g) h; omega
def asW:List UInt8:=[32,65,83,32]
def asT (s:List UInt8):List UInt8:=if s=[] then [] else asW ++ s
theorem aliased_ok (s al:List UInt8) (h:s.length ≤ 100000000) (h2:al.length ≤ 1000000):calL EE 221 [.str s,.str al] []=some (.ret (.str (s ++ asT al)),[]):=by
 refine fn_ok f221 (by simp) ?_
 unfold c221 asT
 by_cases hs:al=[]
 ·have d:decide (al=[])=true:=decide_eq_true hs
  rw [if_pos hs,List.append_nil]
  simp only [go_sem,reduceIte,rA,rB,rC,rD,d]
 ·have d:decide (al=[])=false:=decide_eq_false hs
  rw [if_neg hs]
  simp only [go_sem,reduceIte,rA,rB,rC,rD,d,List.length_append,List.length_cons,List.length_nil]
  exact ⟨⟨by omega,by omega⟩,by rw [List.append_assoc]; rfl⟩
end Go.Vm
end
