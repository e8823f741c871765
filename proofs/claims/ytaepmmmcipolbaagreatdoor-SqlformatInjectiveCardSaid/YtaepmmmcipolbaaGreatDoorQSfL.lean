/- Chapter 24: queries as data, level by level; when they are equal. -/
import Derived.Test.YtaepmmmcipolbaaGreatDoorQSfO
import Derived.Test.YtaepmmmcipolbaaGreatDoorQSfD
set_option linter.unusedVariables false
set_option linter.unusedSimpArgs false
set_option maxRecDepth 100000
namespace Go.Vm
open Go
abbrev mxL:Nat:=9223372036854775807
structure Itm where
 star:Bool
 e:Tr
 alias:List UInt8
 deriving Inhabited
def Itm.row (x:Itm):List SV := .bool x.star :: (x.e.row ++ [.str x.alias])
structure Hv where
 c:Tr
 op:Int
 b:Val
 deriving Inhabited
def Hv.row (x:Hv):List SV:=x.c.row ++ (.int .i64 x.op :: x.b.row)
structure CmP (Q:Type) where
 name:List UInt8
 cols:Slc (List UInt8)
 base:Q
 step:Q
 deriving Inhabited
structure FrP (Q:Type) where
 name:List UInt8
 alias:List UInt8
 q:Slc Q
 deriving Inhabited
structure MbP (Q:Type) where
 no:Bool
 ex:Slc Tr
 q:Q
 deriving Inhabited
structure QP (Q:Type) where
 k:Int
 wi:Slc (CmP Q)
 ds:Bool
 it:Slc Itm
 fr:Slc (FrP Q)
 wh:Slc Tr
 mb:Slc (MbP Q)
 gb:Slc Tr
 hv:Slc Hv
 ar:Slc Q
 deriving Inhabited
section
variable {Q:Type} (f:Q→List SV)
def CmP.row (x:CmP Q):List SV := .str x.name :: x.cols.sv txRow :: (f x.base ++ f x.step)
def FrP.row (x:FrP Q):List SV:=[.str x.name,.str x.alias,x.q.sv f]
def MbP.row (x:MbP Q):List SV := .bool x.no :: x.ex.sv Tr.row :: f x.q
def QP.row (q:QP Q):List SV:=[.int .i64 q.k,q.wi.sv (CmP.row f),.bool q.ds,q.it.sv Itm.row,q.fr.sv (FrP.row f),q.wh.sv Tr.row,q.mb.sv (MbP.row f),q.gb.sv Tr.row,q.hv.sv Hv.row,q.ar.sv f]
end
def qzRow:List SV:=[.int .i64 0,.nils,.bool false,.nils,.nils,.nils,.nils,.nils,.nils,.nils]
theorem itm_len (x:Itm):x.row.length=11:=by
 unfold Itm.row
 have:=row_len x.e
 simp [this]
theorem hv_len (x:Hv):x.row.length=13:=by
 unfold Hv.row Val.row
 have:=row_len x.c
 simp [this]
theorem itm_ags:Ags 11 Itm.row:=⟨itm_len,by decide⟩
theorem hv_ags:Ags 13 Hv.row:=⟨hv_len,by decide⟩
section
variable {Q:Type} {f:Q→List SV} (hf:∀ x,(f x).length=10)
include hf
theorem cm_len (x:CmP Q):(CmP.row f x).length=22:=by
 unfold CmP.row
 simp [hf]
theorem mb_len (x:MbP Q):(MbP.row f x).length=12:=by
 unfold MbP.row
 simp [hf]
omit hf in
theorem fr_len (x:FrP Q):(FrP.row f x).length=3:=rfl
theorem cm_ags:Ags 22 (CmP.row f):=⟨cm_len hf,by decide⟩
theorem mb_ags:Ags 12 (MbP.row f):=⟨mb_len hf,by decide⟩
omit hf in
theorem fr_ags:Ags 3 (FrP.row f):=⟨fr_len,by decide⟩
theorem q_ags:Ags 10 f:=⟨hf,by decide⟩
end
def eqN (a b:List UInt8):Bool:=decide (a=b)
def eqItm (a b:Itm):Bool:=(a.star == b.star) && decide (a.alias=b.alias) && eqT a.e b.e
def eqHv (a b:Hv):Bool:=decide (a.op=b.op) && decide (a.b=b.b) && eqT a.c b.c
section
variable {Q:Type} (q:Q→Q→Bool)
def eqCm (a b:CmP Q):Bool:=decide (a.name=b.name) && eqF eqN a.cols.l b.cols.l && q a.base b.base && q a.step b.step
def eqFr (a b:FrP Q):Bool:=decide (a.name=b.name) && decide (a.alias=b.alias) && eqF q a.q.l b.q.l
def eqMb (a b:MbP Q):Bool:=(a.no == b.no) && eqF eqT a.ex.l b.ex.l && q a.q b.q
def eqQP (a b:QP Q):Bool:=decide (a.k=b.k) && (a.ds == b.ds) && eqF (eqCm q) a.wi.l b.wi.l && eqF eqItm a.it.l b.it.l && eqF (eqFr q) a.fr.l b.fr.l && eqF eqT a.wh.l b.wh.l && eqF (eqMb q) a.mb.l b.mb.l && eqF eqT a.gb.l b.gb.l && eqF eqHv a.hv.l b.hv.l && eqF q a.ar.l b.ar.l
end
section
variable {Q:Type} (w:Q→Prop)
def wfCm (x:CmP Q):Prop:=x.cols.l.length ≤ mxL ∧ w x.base ∧ w x.step
def wfFr (x:FrP Q):Prop:=x.q.l.length ≤ mxL ∧ ∀ y ∈ x.q.l,w y
def wfMb (x:MbP Q):Prop:=x.ex.l.length ≤ mxL ∧ (∀ t ∈ x.ex.l,wf t) ∧ w x.q
structure wfQP (q:QP Q):Prop where
 lwi:q.wi.l.length ≤ mxL
 wi:∀ x ∈ q.wi.l,wfCm w x
 lit:q.it.l.length ≤ mxL
 it:∀ x ∈ q.it.l,wf x.e
 lfr:q.fr.l.length ≤ mxL
 fr:∀ x ∈ q.fr.l,wfFr w x
 lwh:q.wh.l.length ≤ mxL
 wh:∀ x ∈ q.wh.l,wf x
 lmb:q.mb.l.length ≤ mxL
 mb:∀ x ∈ q.mb.l,wfMb w x
 lgb:q.gb.l.length ≤ mxL
 gb:∀ x ∈ q.gb.l,wf x
 lhv:q.hv.l.length ≤ mxL
 hv:∀ x ∈ q.hv.l,wf x.c ∧ bigV x.b
 lar:q.ar.l.length ≤ mxL
 ar:∀ x ∈ q.ar.l,w x
 rwi:∀ x ∈ q.wi.l,x.name.length ≤ RB ∧ x.cols.l.length ≤ RB
 rit:∀ x ∈ q.it.l,rc x.e ∧ x.alias.length ≤ RB
 rfr:∀ x ∈ q.fr.l,x.name.length ≤ RB
 rwh:∀ x ∈ q.wh.l,rc x
 rmb:∀ x ∈ q.mb.l,∀ t ∈ x.ex.l,rc t
 rgb:∀ x ∈ q.gb.l,rc x
 rhv:∀ x ∈ q.hv.l,rc x.c
 rln:q.it.l.length ≤ RB ∧ q.fr.l.length ≤ RB ∧ q.wh.l.length ≤ RB ∧ q.mb.l.length ≤ RB ∧ q.gb.l.length ≤ RB ∧ q.hv.l.length ≤ RB
end
def QN:Nat→Type
 | 0=>Unit
 | n + 1=>QP (QN n)
def QN.dflt:∀ n,QN n
 | 0=>()
 | _ + 1=>⟨0,.nil,false,.nil,.nil,.nil,.nil,.nil,.nil,.nil⟩
instance (n:Nat):Inhabited (QN n):=⟨QN.dflt n⟩
def QN.row:∀ n,QN n→List SV
 | 0,_=>qzRow
 | n + 1,q=>QP.row (QN.row n) q
def QN.eq:∀ n,QN n→QN n→Bool
 | 0,_,_=>true
 | n + 1,a,b=>eqQP (QN.eq n) a b
def QN.wf:∀ n,QN n→Prop
 | 0,_=>True
 | n + 1,q=>wfQP (QN.wf n) q
theorem qn_len:∀ n (x:QN n),(QN.row n x).length=10
 | 0,_=>rfl
 | _ + 1,_=>rfl
theorem eqF_refl {α:Type} {q:α→α→Bool} (h:∀ a,q a a=true):∀ l:List α,eqF q l l=true
 | []=>rfl
 | a :: r=>by rw [eqF,h,eqF_refl h r]; rfl
theorem eqQP_refl {Q:Type} {q:Q→Q→Bool} (h:∀ a,q a a=true) (a:QP Q):eqQP q a a=true:=by
 have hn:∀ a,eqN a a=true:=fun a=>decide_eq_true rfl
 have hi:∀ a,eqItm a a=true:=fun a=>by unfold eqItm; rw [eqT_self]; simp
 have hh:∀ a,eqHv a a=true:=fun a=>by unfold eqHv; rw [eqT_self]; simp
 have hc:∀ a,eqCm q a a=true:=fun a=>by unfold eqCm; rw [eqF_refl hn,h,h]; simp
 have hr:∀ a,eqFr q a a=true:=fun a=>by unfold eqFr; rw [eqF_refl h]; simp
 have hm:∀ a,eqMb q a a=true:=fun a=>by unfold eqMb; rw [eqF_refl eqT_self,h]; simp
 unfold eqQP
 rw [eqF_refl hc,eqF_refl hi,eqF_refl hr,eqF_refl eqT_self,eqF_refl hm,eqF_refl eqT_self,eqF_refl hh,eqF_refl h]
 simp
theorem qn_refl:∀ n (a:QN n),QN.eq n a a=true
 | 0,_=>rfl
 | n + 1,a=>eqQP_refl (qn_refl n) a
end Go.Vm
