/- Chapter 24: queries as arguments. -/
import Derived.Test.YtaepmmmcipolbaaGreatDoorQSfY
import Derived.Test.YtaepmmmcipolbaaGreatDoorQSfL
import Derived.SevenTiedAt
section
set_option linter.unusedVariables false
set_option linter.unusedSimpArgs false
set_option maxRecDepth 100000
namespace Go.Vm
open Go.Proofs Go.Proofs.YtaepmmmcipolbaaGreatDoor Go.RowKit Go.Shelf
theorem slc_of {α:Type} {f:α→List SV} {W:α→Prop} {P:Program} {n:Nat} {t e:TypeId} {xs:List SV} (hu:P.underlying t=some (.slice e)) (h:typed P n t xs) (he:∀ k c,k < n→typed P k e c→∃ x,c=f x ∧ W x):∃ s:Slc α,xs=[s.sv f] ∧ s.l.length ≤ RB ∧ ∀ x ∈ s.l,W x:=by
 cases n with
 | zero=>exact h.elim
 | succ n =>
  rcases ty_elems hu h with e1 | ⟨es,e1,hle,hes⟩
  ·exact ⟨.nil,e1,by show (0:Nat) ≤ RB; omega,fun x hx=>by cases hx⟩
  ·obtain ⟨l,rfl,hq⟩:=list_of (f:=f) (Q:=W) fun c hc=>he n c (Nat.lt_succ_self n) (hes c hc).2
   rw [List.length_map] at hle
   exact ⟨.mk l false,e1,hle,hq⟩
theorem txt_of {n:Nat} {xs:List SV} (h:typed Tryz.prog n 9 xs):∃ l:List UInt8,xs=txRow l ∧ True:=by
 obtain ⟨l,e,_⟩:=ty_str Tryz.underlying9 h
 exact ⟨l,e,trivial⟩
theorem z_expr:Tryz.prog.cellsOf 26=9:=by kernel_rfl
theorem z_val:Tryz.prog.cellsOf 23=3:=by kernel_rfl
theorem z_int:Tryz.prog.cellsOf 3=1:=by kernel_rfl
theorem z_bool:Tryz.prog.cellsOf 4=1:=by kernel_rfl
theorem z_str:Tryz.prog.cellsOf 9=1:=by kernel_rfl
theorem z_query:Tryz.prog.cellsOf 38=10:=by kernel_rfl
theorem z_item:Tryz.prog.cellsOf 65=11:=by kernel_rfl
theorem z_hv:Tryz.prog.cellsOf 85=13:=by kernel_rfl
theorem z_cm:Tryz.prog.cellsOf 80=22:=by kernel_rfl
theorem z_fr:Tryz.prog.cellsOf 67=3:=by kernel_rfl
theorem z_mb:Tryz.prog.cellsOf 70=12:=by kernel_rfl
theorem z_s1:Tryz.prog.cellsOf 53=1:=by kernel_rfl
theorem z_s2:Tryz.prog.cellsOf 24=1:=by kernel_rfl
theorem z_s3:Tryz.prog.cellsOf 36=1:=by kernel_rfl
theorem z_s4:Tryz.prog.cellsOf 31=1:=by kernel_rfl
theorem z_s5:Tryz.prog.cellsOf 32=1:=by kernel_rfl
theorem z_s6:Tryz.prog.cellsOf 33=1:=by kernel_rfl
theorem z_s7:Tryz.prog.cellsOf 34=1:=by kernel_rfl
theorem z_s8:Tryz.prog.cellsOf 35=1:=by kernel_rfl
theorem item_of {n:Nat} {xs:List SV} (h:typed Tryz.prog n 65 xs):∃ x:Itm,xs=x.row ∧ wf x.e ∧ rc x.e ∧ x.alias.length ≤ RB:=by
 cases n with
 | zero=>exact h.elim
 | succ n =>
  obtain ⟨hl,hf⟩:=ty_fields Tryz.underlying65 h
  rw [z_item] at hl
  simp only [List.forall_mem_cons,z_bool,z_expr,z_str] at hf
  match xs,hl with
  | [a0,a1,a2,a3,a4,a5,a6,a7,a8,a9,a10],_ =>
   obtain ⟨h1,h2,h3,_⟩:=hf
   obtain ⟨b,e1⟩:=ty_bool Tryz.underlying4 h1
   obtain ⟨t,e2,hw,hr⟩:=expr_of n _ h2
   obtain ⟨al,e3,ha⟩:=ty_str Tryz.underlying9 h3
   simp only [List.drop_succ_cons,List.drop_zero,List.take_succ_cons,List.take_zero] at e1 e2 e3
   refine ⟨⟨b,t,al⟩,?_,hw,hr,ha⟩
   injection e1 with e1; subst e1
   injection e3 with e3; subst e3
   show _=SV.bool b :: (t.row ++ [.str al])
   rw [← e2]
   rfl
theorem having_of {n:Nat} {xs:List SV} (h:typed Tryz.prog n 85 xs):∃ x:Hv,xs=x.row ∧ (wf x.c ∧ bigV x.b) ∧ rc x.c:=by
 cases n with
 | zero=>exact h.elim
 | succ n =>
  obtain ⟨hl,hf⟩:=ty_fields Tryz.underlying85 h
  rw [z_hv] at hl
  simp only [List.forall_mem_cons,z_int,z_expr,z_val] at hf
  match xs,hl with
  | [a0,a1,a2,a3,a4,a5,a6,a7,a8,a9,a10,a11,a12],_ =>
   obtain ⟨h1,h2,h3,_⟩:=hf
   obtain ⟨t,e1,hw,hr⟩:=expr_of n _ h1
   obtain ⟨o,e2,_⟩:=ty_int Tryz.underlying3 h2
   obtain ⟨v,e3,hv,_⟩:=val_of h3
   simp only [List.drop_succ_cons,List.drop_zero,List.take_succ_cons,List.take_zero] at e1 e2 e3
   refine ⟨⟨t,o,v⟩,?_,⟨hw,hv⟩,hr⟩
   injection e2 with e2; subst e2
   show _=t.row ++ (.int .i64 o :: v.row)
   rw [← e1,← e3]
   rfl
theorem query_of (n:Nat):∀ xs:List SV,typed Tryz.prog n 38 xs→∀ m,n ≤ m→∃ q:QN m,xs=QN.row m q ∧ QN.wf m q:=by
 induction n using Nat.strongRecOn with
 | _ n ih =>
  intro xs h m hm
  cases n with
  | zero=>exact h.elim
  | succ n =>
   cases m with
   | zero=>omega
   | succ m =>
    have iq:∀ k c,k ≤ n→typed Tryz.prog k 38 c→∃ x:QN m,c=QN.row m x ∧ QN.wf m x:=fun k c hk hc=>ih k (by omega) c hc m (by omega)
    have icm:∀ k c,k < n→typed Tryz.prog k 80 c→∃ x:CmP (QN m),c=CmP.row (QN.row m) x ∧ wfCm (QN.wf m) x ∧ x.name.length ≤ RB ∧ x.cols.l.length ≤ RB:=by
     intro k c hk hc
     cases k with
     | zero=>exact hc.elim
     | succ k =>
      obtain ⟨hl,hf⟩:=ty_fields Tryz.underlying80 hc
      rw [z_cm] at hl
      simp only [List.forall_mem_cons,z_str,z_s1,z_query] at hf
      match c,hl with
      | [a0,a1,b0,b1,b2,b3,b4,b5,b6,b7,b8,b9,c0,c1,c2,c3,c4,c5,c6,c7,c8,c9],_ =>
       obtain ⟨h1,h2,h3,h4,_⟩:=hf
       obtain ⟨nm,e1,hnm⟩:=ty_str Tryz.underlying9 h1
       obtain ⟨co,e2,hc2,_⟩:=slc_of (f:=txRow) (W:=fun _=>True) Tryz.underlying53 h2 fun k c _ hc=>txt_of hc
       obtain ⟨b,e3,w3⟩:=iq k _ (by omega) h3
       obtain ⟨s,e4,w4⟩:=iq k _ (by omega) h4
       simp only [List.drop_succ_cons,List.drop_zero,List.take_succ_cons,List.take_zero] at e1 e2 e3 e4
       refine ⟨⟨nm,co,b,s⟩,?_,⟨Nat.le_trans hc2 (by decide),w3,w4⟩,hnm,hc2⟩
       injection e1 with e1; subst e1
       injection e2 with e2; subst e2
       show _=SV.str nm :: co.sv txRow :: (QN.row m b ++ QN.row m s)
       rw [← e3,← e4]
       rfl
    have ifr:∀ k c,k < n→typed Tryz.prog k 67 c→∃ x:FrP (QN m),c=FrP.row (QN.row m) x ∧ wfFr (QN.wf m) x ∧ x.name.length ≤ RB:=by
     intro k c hk hc
     cases k with
     | zero=>exact hc.elim
     | succ k =>
      obtain ⟨hl,hf⟩:=ty_fields Tryz.underlying67 hc
      rw [z_fr] at hl
      simp only [List.forall_mem_cons,z_str,z_s3] at hf
      match c,hl with
      | [a0,a1,a2],_ =>
       obtain ⟨h1,h2,h3,_⟩:=hf
       obtain ⟨nm,e1,hnm⟩:=ty_str Tryz.underlying9 h1
       obtain ⟨al,e2,_⟩:=ty_str Tryz.underlying9 h2
       obtain ⟨qs,e3,l3,w3⟩:=slc_of (f:=QN.row m) (W:=QN.wf m) Tryz.underlying36 h3 fun j c hj hc=>iq j c (by omega) hc
       simp only [List.drop_succ_cons,List.drop_zero,List.take_succ_cons,List.take_zero] at e1 e2 e3
       refine ⟨⟨nm,al,qs⟩,?_,⟨Nat.le_trans l3 (by decide),w3⟩,hnm⟩
       injection e1 with e1; subst e1
       injection e2 with e2; subst e2
       injection e3 with e3; subst e3
       rfl
    have imb:∀ k c,k < n→typed Tryz.prog k 70 c→∃ x:MbP (QN m),c=MbP.row (QN.row m) x ∧ wfMb (QN.wf m) x ∧ ∀ t ∈ x.ex.l,rc t:=by
     intro k c hk hc
     cases k with
     | zero=>exact hc.elim
     | succ k =>
      obtain ⟨hl,hf⟩:=ty_fields Tryz.underlying70 hc
      rw [z_mb] at hl
      simp only [List.forall_mem_cons,z_bool,z_s2,z_query] at hf
      match c,hl with
      | [a0,a1,b0,b1,b2,b3,b4,b5,b6,b7,b8,b9],_ =>
       obtain ⟨h1,h2,h3,_⟩:=hf
       obtain ⟨no,e1⟩:=ty_bool Tryz.underlying4 h1
       obtain ⟨ex,e2,l2,w2⟩:=slc_of (f:=Tr.row) (W:=fun t=>wf t ∧ rc t) Tryz.underlying24 h2 fun j c _ hc=>expr_of j c hc
       obtain ⟨q,e3,w3⟩:=iq k _ (by omega) h3
       simp only [List.drop_succ_cons,List.drop_zero,List.take_succ_cons,List.take_zero] at e1 e2 e3
       refine ⟨⟨no,ex,q⟩,?_,⟨Nat.le_trans l2 (by decide),fun t ht=>(w2 t ht).1,w3⟩,fun t ht=>(w2 t ht).2⟩
       injection e1 with e1; subst e1
       injection e2 with e2; subst e2
       show _=SV.bool no :: ex.sv Tr.row :: QN.row m q
       rw [← e3]
    obtain ⟨hl,hf⟩:=ty_fields Tryz.underlying38 h
    rw [z_query] at hl
    simp only [List.forall_mem_cons,z_int,z_bool,z_s2,z_s3,z_s4,z_s5,z_s6,z_s7,z_s8] at hf
    match xs,hl with
    | [a0,a1,a2,a3,a4,a5,a6,a7,a8,a9],_ =>
     obtain ⟨h0,h1,h2,h3,h4,h5,h6,h7,h8,h9,_⟩:=hf
     obtain ⟨k,e0,_⟩:=ty_int Tryz.underlying3 h0
     obtain ⟨wi,e1,l1,w1⟩:=slc_of Tryz.underlying31 h1 icm
     obtain ⟨ds,e2⟩:=ty_bool Tryz.underlying4 h2
     obtain ⟨it,e3,l3,w3⟩:=slc_of (f:=Itm.row) (W:=fun x=>wf x.e ∧ rc x.e ∧ x.alias.length ≤ RB) Tryz.underlying32 h3 fun j c _ hc=>item_of hc
     obtain ⟨fr,e4,l4,w4⟩:=slc_of Tryz.underlying33 h4 ifr
     obtain ⟨wh,e5,l5,w5⟩:=slc_of (f:=Tr.row) (W:=fun t=>wf t ∧ rc t) Tryz.underlying24 h5 fun j c _ hc=>expr_of j c hc
     obtain ⟨mb,e6,l6,w6⟩:=slc_of Tryz.underlying34 h6 imb
     obtain ⟨gb,e7,l7,w7⟩:=slc_of (f:=Tr.row) (W:=fun t=>wf t ∧ rc t) Tryz.underlying24 h7 fun j c _ hc=>expr_of j c hc
     obtain ⟨hv,e8,l8,w8⟩:=slc_of (f:=Hv.row) (W:=fun x=>(wf x.c ∧ bigV x.b) ∧ rc x.c) Tryz.underlying35 h8 fun j c _ hc=>having_of hc
     obtain ⟨ar,e9,l9,w9⟩:=slc_of (f:=QN.row m) (W:=QN.wf m) Tryz.underlying36 h9 fun j c hj hc=>iq j c (by omega) hc
     simp only [List.drop_succ_cons,List.drop_zero,List.take_succ_cons,List.take_zero] at e0 e1 e2 e3 e4 e5 e6 e7 e8 e9
     refine ⟨(⟨k,wi,ds,it,fr,wh,mb,gb,hv,ar⟩:QP (QN m)),?_,(⟨Nat.le_trans l1 (by decide),fun x hx=>(w1 x hx).1,Nat.le_trans l3 (by decide),fun x hx=>(w3 x hx).1,Nat.le_trans l4 (by decide),fun x hx=>(w4 x hx).1,Nat.le_trans l5 (by decide),fun x hx=>(w5 x hx).1,Nat.le_trans l6 (by decide),fun x hx=>(w6 x hx).1,Nat.le_trans l7 (by decide),fun x hx=>(w7 x hx).1,Nat.le_trans l8 (by decide),fun x hx=>(w8 x hx).1,Nat.le_trans l9 (by decide),w9,fun x hx=>(w1 x hx).2,fun x hx=>(w3 x hx).2,fun x hx=>(w4 x hx).2,fun x hx=>(w5 x hx).2,fun x hx=>(w6 x hx).2,fun x hx=>(w7 x hx).2,fun x hx=>(w8 x hx).2,l3,l4,l5,l6,l7,l8⟩:wfQP (QN.wf m) _)⟩
     injection e0 with e0; subst e0
     injection e1 with e1; subst e1
     injection e2 with e2; subst e2
     injection e3 with e3; subst e3
     injection e4 with e4; subst e4
     injection e5 with e5; subst e5
     injection e6 with e6; subst e6
     injection e7 with e7; subst e7
     injection e8 with e8; subst e8
     injection e9 with e9; subst e9
     rfl
def typesQ:List TypeId:=[3,2,4,5,9,23,26,24,53,38,36,80,31,65,32,67,33,70,34,85,35]
theorem oktypesQ:okT Tryz.prog typesQ=true:=by kernel_rfl
theorem arg_query {p:PV} (h:argT Tryz.prog 38 p):∃ n,∀ m,n ≤ m→∃ q:QN m,p = .st (QN.row m q) ∧ QN.wf m q:=by
 obtain ⟨n,xs,h1,rfl⟩:=arg_struct Tryz.underlying38 h
 refine ⟨n,fun m hm => ?_⟩
 obtain ⟨q,rfl,hw⟩:=query_of n xs h1 m hm
 exact ⟨q,rfl,hw⟩
theorem stand_38:Tryz.prog.wantsStandIn 38=false:=by kernel_rfl
end Go.Vm
end
section
set_option linter.unusedVariables false
set_option linter.unusedSimpArgs false
set_option maxRecDepth 100000
namespace Go.Vm
open Go.Proofs Go.Proofs.YtaepmmmcipolbaaGreatDoor Go.RowKit
theorem grown_add (P:Program):∀ a b s,P.grown (a + b) s=P.grown b (P.grown a s)
 | 0,b,s=>by rw [Nat.zero_add]; rfl
 | a + 1,b,s=>by
  rw [show a + 1 + b=a + b + 1 by omega]
  show P.grown (a + b) (P.grow s)=P.grown b (P.grown a (P.grow s))
  exact grown_add P a b (P.grow s)
theorem grown_fix {P:Program} {L:List TypeId} (h:P.grow L=L):∀ n,P.grown n L=L
 | 0=>rfl
 | n + 1=>by
  show P.grown n (P.grow L)=L
  rw [h]
  exact grown_fix h n
theorem book_of {P:Program} {t:TypeId} {L:List TypeId} (k:Nat) (hk:k ≤ P.types.size) (h1:P.grown k [t]=L) (h2:P.grow L=L):P.book t=L:=by
 unfold Program.book
 obtain ⟨d,hd⟩:=Nat.le.dest hk
 rw [← hd,grown_add,h1,grown_fix h2]
theorem loops_of {P:Program} {t u v:TypeId} (hu:(P.book t).contains u=true) (hv:(P.partsOf u).contains v=true) (hm:(P.book v).contains u=true):P.loopsFrom t=true:=by
 unfold Program.loopsFrom
 rw [List.any_eq_true]
 refine ⟨u,by simpa using hu,?_⟩
 rw [List.any_eq_true]
 exact ⟨v,by simpa using hv,hm⟩
theorem any_loops {c:Bool} {l:List TypeId} {P:Program} (t:TypeId) (hc:c=true) (ht:l.contains t=true) (h:P.loopsFrom t=true):(c == l.any (P.loopsFrom ·))=true:=by
 rw [hc,List.any_eq_true.2 ⟨t,by simpa using ht,h⟩]
 rfl
theorem book_query:Tryz.prog.book 38=[38,3,31,4,32,33,24,34,35,36,80,65,67,26,70,85,9,53,23,2]:=book_of 6 (of_decide_eq_true (by kernel_rfl)) (by kernel_rfl) (by kernel_rfl)
theorem book_queries:Tryz.prog.book 36=[36,38,3,31,4,32,33,24,34,35,80,65,67,26,70,85,9,53,23,2]:=book_of 6 (of_decide_eq_true (by kernel_rfl)) (by kernel_rfl) (by kernel_rfl)
theorem loops_38:Tryz.prog.loopsFrom 38=true:=loops_of (u:=38) (v:=36) (by rw [book_query]; kernel_rfl) (by kernel_rfl) (by rw [book_queries]; kernel_rfl)
end Go.Vm
end
