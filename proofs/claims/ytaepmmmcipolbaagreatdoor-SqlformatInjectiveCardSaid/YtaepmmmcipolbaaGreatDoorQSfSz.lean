/- Chapter 24: sizes of expressions; what a query's size is. -/
import Derived.Test.YtaepmmmcipolbaaGreatDoorQSfMb
import Derived.Test.YtaepmmmcipolbaaGreatDoorQSfAv
set_option linter.unusedVariables false
set_option linter.unusedSimpArgs false
set_option maxRecDepth 100000
namespace Go.Vm
open Go
section
variable {Q:Type} (z:Q→Nat)
def szIt (x:Itm):Nat:=if x.star=true then 0 else cnt x.e
def szCm (x:CmP Q):Nat:=z x.base + z x.step
def szFr (x:FrP Q):Nat:=(x.q.l.map z).sum
def szMb (x:MbP Q):Nat:=cntL x.ex.l + z x.q
def szQP (q:QP Q):Nat:=1 + (cntL q.wh.l + cntL q.gb.l + (q.wi.l.map (szCm z)).sum + (q.it.l.map szIt).sum + (q.fr.l.map (szFr z)).sum + (q.mb.l.map (szMb z)).sum + (q.hv.l.map fun x=>cnt x.c).sum + (q.ar.l.map z).sum)
end
end Go.Vm
