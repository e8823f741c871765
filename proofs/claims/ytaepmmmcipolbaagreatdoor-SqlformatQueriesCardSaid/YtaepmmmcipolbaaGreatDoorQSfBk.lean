/- Chapter 24: the types that a query and a statement lead to, reckoned once. -/
import Derived.Test.YtaepmmmcipolbaaGreatDoorQSfYq
import Derived.SevenTiedAt
set_option linter.unusedVariables false
set_option linter.unusedSimpArgs false
set_option maxRecDepth 100000
namespace Go.Vm
open Go.Proofs Go.Proofs.YtaepmmmcipolbaaGreatDoor Go.RowKit
theorem grown_add (P:Program):∀ a b s,P.grown (a + b) s=P.grown b (P.grown a s)
 | 0,b,s=>by rw [Nat.zero_add]; rfl
 | a + 1,b,s=>by
  rw [show a + 1 + b=a + b + 1 by omega]
  show P.grown (a + b) (P.grow s)=P.grown b (P.grown a (P.grow s))
  exact grown_add P a b (P.grow s)
theorem grown_fix {P:Program} {L:List TypeId} (h:P.grow L=L):∀ n,P.grown n L=L
 | 0=>rfl
 | n + 1=>by
  show P.grown n (P.grow L)=L
  rw [h]
  exact grown_fix h n
theorem book_of {P:Program} {t:TypeId} {L:List TypeId} (k:Nat) (hk:k ≤ P.types.size) (h1:P.grown k [t]=L) (h2:P.grow L=L):P.book t=L:=by
 unfold Program.book
 obtain ⟨d,hd⟩:=Nat.le.dest hk
 rw [← hd,grown_add,h1,grown_fix h2]
theorem loops_of {P:Program} {t u v:TypeId} (hu:(P.book t).contains u=true) (hv:(P.partsOf u).contains v=true) (hm:(P.book v).contains u=true):P.loopsFrom t=true:=by
 unfold Program.loopsFrom
 rw [List.any_eq_true]
 refine ⟨u,by simpa using hu,?_⟩
 rw [List.any_eq_true]
 exact ⟨v,by simpa using hv,hm⟩
theorem any_loops {c:Bool} {l:List TypeId} {P:Program} (t:TypeId) (hc:c=true) (ht:l.contains t=true) (h:P.loopsFrom t=true):(c == l.any (P.loopsFrom ·))=true:=by
 rw [hc,List.any_eq_true.2 ⟨t,by simpa using ht,h⟩]
 rfl
theorem book_query:Tryz.prog.book 38=[38,3,31,4,32,33,24,34,35,36,80,65,67,26,70,85,9,53,23,2]:=book_of 6 (of_decide_eq_true (by kernel_rfl)) (by kernel_rfl) (by kernel_rfl)
theorem book_queries:Tryz.prog.book 36=[36,38,3,31,4,32,33,24,34,35,80,65,67,26,70,85,9,53,23,2]:=book_of 6 (of_decide_eq_true (by kernel_rfl)) (by kernel_rfl) (by kernel_rfl)
theorem loops_38:Tryz.prog.loopsFrom 38=true:=loops_of (u:=38) (v:=36) (by rw [book_query]; kernel_rfl) (by kernel_rfl) (by rw [book_queries]; kernel_rfl)
end Go.Vm
