/- Chapter 24: what the listed variables give, a world that meets the conditions, what the arguments are. -/
import Derived.Test.YtaepmmmcipolbaaGreatDoorQSfZ
import Derived.Test.YtaepmmmcipolbaaGreatDoorQSfD
import Derived.Test.YtaepmmmcipolbaaGreatDoorQVmGJ
import Derived.Test.YtaepmmmcipolbaaGreatDoorTie
import Derived.Test.YtaepmmmcipolbaaGreatDoorCards
import Derived.Shelf.Vars
set_option linter.unusedVariables false
set_option linter.unusedSimpArgs false
set_option maxRecDepth 100000
namespace Go.Vm
open Go.Proofs Go.Proofs.YtaepmmmcipolbaaGreatDoor Go.RowKit Go.Shelf
abbrev laid24:List (String × DataW Unit):=Rows.sqlformatExprsRow.laid
structure Tabs (W:World):Prop where
 sym:TxtIs Tryz.prog W "lineage/sqlformat.symbols" symT
 fn:TxtIs Tryz.prog W "lineage/sqlformat.functions" fnT
 op:TxtIs Tryz.prog W "lineage/sqlformat.operations" [[],[85,78,73,79,78,32,65,76,76],[85,78,73,79,78],[69,88,67,69,80,84,32,65,76,76],[69,88,67,69,80,84],[73,78,84,69,82,83,69,67,84]]
 lv:Lib.TabIs Tryz.prog W "lineage/sqlformat.levels" .i64 [5,5,6,7,5,4,4,4,4,4,4,2,1,3]
theorem glob24 {W:World} (h:laidMetH Tryz.prog laid24 W) (hsh:W.ShapedOpen Tryz.prog):Glob W:=by
 have hL:laidMet Tryz.prog laid24 W:=h
 refine ⟨?_,?_,?_,?_⟩
 ·exact cell_of_shapedOpen_int (g:=5) (k := .i64) (zero := #[.int .i64 0]) hsh (of_decide_eq_true (by kernel_rfl)) (by kernel_rfl) (by kernel_rfl) (by kernel_rfl) (by kernel_rfl) Tryz.underlying3
 ·exact Lib.tabIs_of_head (g:=4) (t:=212) (e:=5) (n:=256) (by kernel_rfl) (by kernel_rfl) Tryz.underlying212 Tryz.underlying5 (by kernel_rfl) (by kernel_rfl) hL.tail.tail.tail.tail.tail
 ·exact Lib.tabIs_of_head (g:=9) (t:=234) (e:=204) (n:=20) (by kernel_rfl) (by kernel_rfl) Tryz.underlying234 Tryz.underlying204 (by kernel_rfl) (by kernel_rfl) hL.tail.tail
 ·obtain ⟨⟨z,t⟩,hz⟩:=Option.isSome_iff_exists.1 (show (((begin Tryz.prog (fun _ _=>0) default).world.heap[(12:Nat)]?).bind Obj.row?).isSome=true by kernel_rfl)
  obtain ⟨cs,hh,_⟩:=hsh.1 12 z t (of_decide_eq_true (by kernel_rfl)) hz
  apply Classical.byContradiction
  intro hn
  have:W.heap[(12:Nat)]? = none:=Array.getElem?_eq_none (by omega)
  rw [this] at hh
  cases hh
theorem tabs24 {W:World} (h:laidMetH Tryz.prog laid24 W):Tabs W:=by
 have hL:laidMet Tryz.prog laid24 W:=h
 refine ⟨?_,?_,?_,?_⟩
 ·exact txtIs_of_head (g:=1) (t:=133) (e:=9) (n:=14) (by kernel_rfl) (by kernel_rfl) Tryz.underlying133 Tryz.underlying9 (by kernel_rfl) (by kernel_rfl) hL.tail.tail.tail.tail.tail.tail
 ·exact txtIs_of_head (g:=0) (t:=132) (e:=9) (n:=4) (by kernel_rfl) (by kernel_rfl) Tryz.underlying132 Tryz.underlying9 (by kernel_rfl) (by kernel_rfl) hL.tail.tail.tail.tail.tail.tail.tail.tail
 ·exact txtIs_of_head (g:=2) (t:=147) (e:=9) (n:=6) (by kernel_rfl) (by kernel_rfl) Tryz.underlying147 Tryz.underlying9 (by kernel_rfl) (by kernel_rfl) hL.tail.tail.tail.tail.tail.tail.tail.tail.tail
 ·exact Lib.tabIs_of_head (g:=3) (t:=178) (e:=3) (n:=14) (by kernel_rfl) (by kernel_rfl) Tryz.underlying178 Tryz.underlying3 (by kernel_rfl) (by kernel_rfl) hL.tail.tail.tail.tail.tail.tail.tail
theorem gok24 {W:World} (h:Tabs W):GOk EE (fixOf W):=by
 intro g p hg C hB
 have hF:∀ b o v,fixOf W b o=some v→C.F b o=some v:=hB
 simp only [EE,globL] at hg
 split at hg
 ·rename_i e; subst e; injection hg with hg; subst hg
  exact ptr_txt h.fn (by kernel_rfl) hF
 ·split at hg
  ·rename_i e; subst e; injection hg with hg; subst hg
   exact ptr_txt h.sym (by kernel_rfl) hF
  ·split at hg
   ·rename_i e; subst e; injection hg with hg; subst hg
    exact ptr_txt h.op (by kernel_rfl) hF
   ·split at hg
    ·rename_i e; subst e; injection hg with hg; subst hg
     exact ptr_num h.lv (by kernel_rfl) hF
    ·cases hg
theorem own24:ownKnob Tryz.prog.godebug=none:=by kernel_rfl
theorem laidOut24:laidOutB Tryz.prog=true:=by kernel_rfl
theorem mixed24:Tryz.prog.follows .mixedOrders=true:=by kernel_rfl
theorem laidWorld_met (os:Os) (args:Array Value):laidMetH Tryz.prog laid24 ((World.laidAll Tryz.prog os laid24).forCall (fun _ _=>0) ⟨#[],args,[]⟩).memory :=
 laidMet_laidAll args (by kernel_rfl) (by kernel_rfl)
theorem ty_fields {P:Program} {n:Nat} {t:TypeId} {xs:List SV} {fs:Array Field} (hu:P.underlying t=some (.struct fs)) (h:typed P (n + 1) t xs):xs.length=P.cellsOf t ∧ ∀ f ∈ fs.toList,typed P n f.type ((xs.drop f.offset).take (P.cellsOf f.type)):=by
 simpa only [typed,hu] using h
theorem ty_elems {P:Program} {n:Nat} {t e:TypeId} {xs:List SV} (hu:P.underlying t=some (.slice e)) (h:typed P (n + 1) t xs):xs=[.nils] ∨ ∃ es,xs=[.slice es false] ∧ es.length ≤ reachBytes ∧ ∀ c ∈ es,c.length=P.cellsOf e ∧ typed P n e c:=by
 simpa only [typed,hu] using h
theorem val_of {n:Nat} {xs:List SV} (h1:typed Tryz.prog n 23 xs):∃ v:Val,xs=v.row ∧ bigV v ∧ v.text.length ≤ RB:=by
 obtain ⟨hl,m,hf⟩:=ty_struct Tryz.underlying23 h1
 have z1:Tryz.prog.cellsOf 23=3:=by kernel_rfl
 have z2:Tryz.prog.cellsOf 3=1:=by kernel_rfl
 have z3:Tryz.prog.cellsOf 9=1:=by kernel_rfl
 have z4:Tryz.prog.cellsOf 2=1:=by kernel_rfl
 rw [z1] at hl
 simp only [List.forall_mem_cons,z2,z3,z4] at hf
 match xs,hl with
 | [a,b,d],_ =>
  obtain ⟨h1,h2,h3,_⟩:=hf
  obtain ⟨i,e1,_⟩:=ty_int Tryz.underlying3 h1
  obtain ⟨j,e2,j1,j2⟩:=ty_int Tryz.underlying2 h2
  obtain ⟨l,e3,hl3⟩:=ty_str Tryz.underlying9 h3
  simp at e1 e2 e3
  subst e1; subst e2; subst e3
  exact ⟨⟨i,j,l⟩,rfl,⟨j1,j2⟩,hl3⟩
theorem list_of {α:Type} {f:α→List SV} {Q:α→Prop}:∀ {es:List (List SV)},(∀ c ∈ es,∃ x,c=f x ∧ Q x)→∃ l:List α,es=l.map f ∧ ∀ x ∈ l,Q x
 | [],_=>⟨[],rfl,fun _ h=>by simp at h⟩
 | c :: es,h=>by
  obtain ⟨x,rfl,hx⟩:=h c (List.mem_cons_self ..)
  obtain ⟨l,rfl,hl⟩:=list_of (fun c hc=>h c (List.mem_cons_of_mem _ hc))
  exact ⟨x :: l,rfl,fun y hy=>by
   rcases List.mem_cons.1 hy with rfl | hy
   ·exact hx
   ·exact hl y hy⟩
theorem wfL_of:∀ {l:List Tr},(∀ x ∈ l,wf x)→wfL l
 | [],_=>by rw [wfL]; trivial
 | a :: r,h=>by rw [wfL]; exact ⟨h a (List.mem_cons_self ..),wfL_of fun x hx=>h x (List.mem_cons_of_mem _ hx)⟩
theorem expr_of (n:Nat):∀ xs:List SV,typed Tryz.prog n 26 xs→∃ t:Tr,xs=t.row ∧ wf t ∧ rc t:=by
 induction n using Nat.strongRecOn with
 | _ n ih =>
  intro xs h
  cases n with
  | zero=>exact h.elim
  | succ n =>
   obtain ⟨hl,hf⟩:=ty_fields Tryz.underlying26 h
   have z0:Tryz.prog.cellsOf 26=9:=by kernel_rfl
   have z1:Tryz.prog.cellsOf 23=3:=by kernel_rfl
   have z2:Tryz.prog.cellsOf 3=1:=by kernel_rfl
   have z3:Tryz.prog.cellsOf 9=1:=by kernel_rfl
   have z4:Tryz.prog.cellsOf 24=1:=by kernel_rfl
   rw [z0] at hl
   simp only [List.forall_mem_cons,z1,z2,z3,z4] at hf
   match xs,hl with
   | [a0,a1,a2,a3,a4,a5,a6,a7,a8],_ =>
    obtain ⟨h1,h2,h3,h4,h5,h6,h7,_⟩:=hf
    obtain ⟨k,e1,_⟩:=ty_int Tryz.underlying3 h1
    obtain ⟨v,e2,hv,hvt⟩:=val_of h2
    obtain ⟨tb,e3,htb⟩:=ty_str Tryz.underlying9 h3
    obtain ⟨nm,e4,hnm⟩:=ty_str Tryz.underlying9 h4
    obtain ⟨op,e5,_⟩:=ty_int Tryz.underlying3 h5
    obtain ⟨fn,e6,_⟩:=ty_int Tryz.underlying3 h6
    simp [Val.row] at e1 e2 e3 e4 e5 e6
    obtain ⟨e2a,e2b,e2c⟩:=e2
    subst e1; subst e2a; subst e2b; subst e2c; subst e3; subst e4; subst e5; subst e6
    cases n with
    | zero=>exact h7.elim
    | succ n =>
     rcases ty_elems Tryz.underlying24 h7 with e7 | ⟨es,e7,hle,hes⟩
     ·simp at e7
      subst e7
      refine ⟨.mk k v tb nm op fn none [],by rw [row_mk]; rfl,?_,?_⟩
      ·rw [wf]
       exact ⟨hv,by simp,trivial⟩
      ·rw [rc]
       exact ⟨hvt,htb,hnm,trivial⟩
     ·simp at e7
      subst e7
      obtain ⟨l,rfl,hq⟩:=list_of (f:=Tr.row) (Q:=fun t=>wf t ∧ rc t) fun c hc=>ih n (by omega) c (hes c hc).2
      rw [List.length_map] at hle
      refine ⟨.mk k v tb nm op fn (some false) l,by rw [row_mk]; rfl,?_,?_⟩
      ·rw [wf]
       exact ⟨hv,Nat.le_trans hle (by decide),wfL_of fun x hx=>(hq x hx).1⟩
      ·rw [rc]
       exact ⟨hvt,htb,hnm,rcL_of fun x hx=>(hq x hx).2⟩
theorem arg_expr {p:PV} (h:argT Tryz.prog 26 p):∃ t:Tr,p = .st t.row ∧ wf t:=by
 obtain ⟨n,xs,h1,rfl⟩:=arg_struct Tryz.underlying26 h
 obtain ⟨t,rfl,hw,_⟩:=expr_of n xs h1
 exact ⟨t,rfl,hw⟩
theorem stand_26:Tryz.prog.wantsStandIn 26=false:=by kernel_rfl
end Go.Vm
