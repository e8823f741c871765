/- Chapter 24: statements as data; how they are compared. -/
import Derived.Test.YtaepmmmcipolbaaGreatDoorQSfM
set_option linter.unusedVariables false
set_option linter.unusedSimpArgs false
set_option maxRecDepth 100000
namespace Go.Vm
open Go
structure Col where
 name:List UInt8
 ty:Int
 deriving Inhabited,DecidableEq
def Col.row (c:Col):List SV:=[.str c.name,.int .i64 c.ty]
structure Stg where
 name:List UInt8
 e:Tr
 deriving Inhabited
def Stg.row (x:Stg):List SV := .str x.name :: x.e.row
def rwRow (x:Slc Tr):List SV:=[x.sv Tr.row]
structure StP (Q:Type) where
 k:Int
 nm:List UInt8
 tb:List UInt8
 co:Slc Col
 ke:Slc (List UInt8)
 ns:Slc (List UInt8)
 ro:Slc (Slc Tr)
 se:Slc Stg
 wh:Slc Tr
 qu:Slc Q
 deriving Inhabited
def StP.row {Q:Type} (f:Q→List SV) (s:StP Q):List SV:=[.int .i64 s.k,.str s.nm,.str s.tb,s.co.sv Col.row,s.ke.sv txRow,s.ns.sv txRow,s.ro.sv rwRow,s.se.sv Stg.row,s.wh.sv Tr.row,s.qu.sv f]
structure wfStP {Q:Type} (w:Q→Prop) (s:StP Q):Prop where
 lco:s.co.l.length ≤ mxL
 lke:s.ke.l.length ≤ mxL
 lns:s.ns.l.length ≤ mxL
 lro:s.ro.l.length ≤ mxL
 ro:∀ x ∈ s.ro.l,x.l.length ≤ mxL ∧ ∀ t ∈ x.l,wf t
 lse:s.se.l.length ≤ mxL
 se:∀ x ∈ s.se.l,wf x.e
 lwh:s.wh.l.length ≤ mxL
 wh:∀ x ∈ s.wh.l,wf x
 lqu:s.qu.l.length ≤ mxL
 qu:∀ x ∈ s.qu.l,w x
 rst:s.nm.length ≤ RB ∧ s.tb.length ≤ RB
 rln:s.co.l.length ≤ RB ∧ s.ke.l.length ≤ RB ∧ s.ns.l.length ≤ RB ∧ s.ro.l.length ≤ RB ∧ s.se.l.length ≤ RB
 rro:∀ x ∈ s.ro.l,∀ t ∈ x.l,rc t
 rse:∀ x ∈ s.se.l,rc x.e
 rwh:∀ x ∈ s.wh.l,rc x
end Go.Vm
