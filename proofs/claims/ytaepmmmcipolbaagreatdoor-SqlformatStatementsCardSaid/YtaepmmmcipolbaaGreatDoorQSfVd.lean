/- Chapter 24: which statements are valid. -/
import Derived.Test.YtaepmmmcipolbaaGreatDoorQSfVs
import Derived.Test.YtaepmmmcipolbaaGreatDoorQSfTq
set_option linter.unusedVariables false
set_option linter.unusedSimpArgs false
set_option maxRecDepth 100000
namespace Go.Vm
open Go
section
variable {Q:Type} [Inhabited Q] (q:Q→Q→Bool) (vq:Q→Bool)
def one (s:StP Q):Bool:=decide (s.qu.l.length=1) && vq (s.qu.l.getD 0 default)
def okS (s:StP Q):Bool:=if s.k=0 ∨ s.k=1 then one vq s else if s.k=2 then nameV s.nm && decide (0 < s.co.l.length) && s.ke.l.all nameV && s.co.l.all vCol else if s.k=3 then nameV s.nm && nameV s.tb && decide (0 < s.ns.l.length) && s.ns.l.all nameV else if s.k=4 ∨ s.k=5 then nameV s.nm && one vq s else if s.k=6 then nameV s.nm else if s.k=7 then nameV s.tb && s.ns.l.all nameV && decide (0 < s.ro.l.length) && s.ro.l.all vRow else if s.k=8 then nameV s.tb && decide (0 < s.se.l.length) && vWh s.wh.l && s.se.l.all vStg else if s.k=9 then nameV s.tb && vWh s.wh.l else decide (s.k=10) || decide (s.k=11) || decide (s.k=12)
def wantS (s:StP Q):StP Q:=if s.k=0 ∨ s.k=1 then ⟨s.k,[],[],.nil,.nil,.nil,.nil,.nil,.nil,s.qu⟩ else if s.k=2 then ⟨s.k,s.nm,[],s.co,s.ke,.nil,.nil,.nil,.nil,.nil⟩ else if s.k=3 then ⟨s.k,s.nm,s.tb,.nil,.nil,s.ns,.nil,.nil,.nil,.nil⟩ else if s.k=4 ∨ s.k=5 then ⟨s.k,s.nm,[],.nil,.nil,.nil,.nil,.nil,.nil,s.qu⟩ else if s.k=6 then ⟨s.k,s.nm,[],.nil,.nil,.nil,.nil,.nil,.nil,.nil⟩ else if s.k=7 then ⟨s.k,[],s.tb,.nil,.nil,s.ns,s.ro,.nil,.nil,.nil⟩ else if s.k=8 then ⟨s.k,[],s.tb,.nil,.nil,.nil,.nil,s.se,s.wh,.nil⟩ else if s.k=9 then ⟨s.k,[],s.tb,.nil,.nil,.nil,.nil,.nil,s.wh,.nil⟩ else ⟨s.k,[],[],.nil,.nil,.nil,.nil,.nil,.nil,.nil⟩
def vStm (s:StP Q):Bool:=okS vq s && eqStP q s (wantS s)
end
def hd3 (m:Nat) (a b c:PV):Bool:=disj ([a].flatMap heads) (m :: [b,c].flatMap heads)
theorem held_eq {T:Nat→PV} {n0 k x i d v:Nat}:heldX T n0 (k,1,[.t x],i,2,[.t d,.t v])=hd3 (n0 + i) (T x) (T d) (T v):=rfl
theorem hd3_ok {m o0 j o1:Nat} {v0:SV}:hd3 (m + 1) (.ptr 0 o0) (.ptr (j + 1) o1) (.s v0)=true:=by
 unfold hd3 disj
 simp [heads_ptr,heads_s]
def row_st (k:Int):List SV:=[.int .i64 k,.str [],.str [],.nils,.nils,.nils,.nils,.nils,.nils,.nils]
def vst3:SC:=tailS 3 c34
theorem vst_e:c34 = .seq (headS 0 c34) (.seq (headS 1 c34) (.seq (headS 2 c34) vst3)):=rfl
def rst3:SC:=tailS 3 c35
theorem rst_e:c35 = .seq (headS 0 c35) (.seq (headS 1 c35) (.seq (headS 2 c35) rst3)):=rfl
end Go.Vm
