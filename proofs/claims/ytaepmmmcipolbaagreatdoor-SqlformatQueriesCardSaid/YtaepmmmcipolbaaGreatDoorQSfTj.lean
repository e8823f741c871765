/- Chapter 24: joins, lists of texts, aliases. -/
import Derived.Test.YtaepmmmcipolbaaGreatDoorQSfTx
set_option linter.unusedVariables false
set_option linter.unusedSimpArgs false
set_option maxRecDepth 100000
namespace Go.Vm
open Go
theorem sum_take {α:Type} {g:α→Nat}:∀ (l:List α) (j:Nat),((l.take j).map g).sum ≤ (l.map g).sum
 | [],j=>by rw [List.take_nil]; exact Nat.le_refl _
 | a :: r,0=>Nat.zero_le _
 | a :: r,j + 1=>by
  have:=sum_take (g:=g) r j
  rw [List.take_succ_cons,List.map_cons,List.map_cons,List.sum_cons,List.sum_cons]
  omega
theorem sum_mem {α:Type} {g:α→Nat}:∀ {l:List α} {a:α},a ∈ l→g a ≤ (l.map g).sum
 | b :: r,a,h=>by
  rw [List.map_cons,List.sum_cons]
  rcases List.mem_cons.1 h with rfl | h
  ·omega
  ·have:=sum_mem (g:=g) h; omega
theorem refJoin_ok (s:Slc (List UInt8)) (sep:List UInt8) (hl:s.l.length ≤ 1000000) (hb:(s.l.map fun a=>a.length + sep.length).sum ≤ 100000000) (hs:sep.length ≤ 10):calL EE 113 [.s (s.sv txRow),.str sep] []=some (.ret (.str (Lib.join s.l sep)),[]):=by
 refine fn_ok f113 (by simp) ?_
 unfold c113
 simp only [go_sem,reduceIte,Nat.reduceEqDiff,Nat.reduceAdd,Nat.reduceLeDiff,Nat.reduceLT]
 refine WP_scan rfl 6 s.l.length (fun _=>True) (fun j T _ _=>T 5 = .str (Lib.join (s.l.take j) sep)) rfl rfl ?_ ?_
 ·rintro j T' H' n' hlt hf' hi h5 _
  have h0:T' 0 = .s (s.sv txRow):=hf' 0 rfl
  have h1:T' 1 = .str sep:=hf' 1 rfl
  clear hf'
  have hji:(j:Int) < s.l.length:=by omega
  have hj0:(0:Int) ≤ j:=by omega
  have hwj:=wrap_suc (j:=j) (by omega)
  have hx1:=fun HH=>tx_load (H:=HH) hlt
  have hle:=jn_sum (sep:=sep) (s.l.take j)
  have hle2:=sum_take (g:=fun a:List UInt8=>a.length + sep.length) s.l j
  have hle3:=sum_mem (g:=fun a:List UInt8=>a.length + sep.length) (getD_mem (l:=s.l) (j:=j) [] hlt)
  have hnx:Lib.join (s.l.take (j + 1)) sep=if j=0 then s.l.getD j [] else Lib.join (s.l.take j) sep ++ sep ++ s.l.getD j []:=by
   rw [take_step [] hlt,jn_snoc,List.length_take]
   by_cases hj:j=0
   ·rw [if_pos hj,if_pos (by omega)]
   ·rw [if_neg hj,if_neg (by omega)]
  have h00:j=0→Lib.join (s.l.take j) sep=[]:=fun h=>by rw [h,List.take_zero]; rfl
  rw [hnx]
  generalize s.l.getD j []=a at hx1 hle3 ⊢
  generalize Lib.join (s.l.take j) sep=b at h5 hle h00 ⊢
  have hle3:a.length + sep.length ≤ 100000000:=Nat.le_trans hle3 hb
  by_cases hj:j=0
  ·have d:decide ((0:Int) < (j:Int))=false:=decide_eq_false (by omega)
   rw [if_pos hj]
   have:=h00 hj
   subst this
   simp only [go_sem,reduceIte,Nat.reduceEqDiff,Nat.reduceAdd,Nat.reduceLeDiff,Nat.reduceLT,h0,h1,h5,hi,d,hji,hj0,and_self,decide_true,ia_tx,Int.toNat_natCast,hx1,hwj]
   exact ⟨by omega,rfl⟩
  ·have d:decide ((0:Int) < (j:Int))=true:=decide_eq_true (by omega)
   rw [if_neg hj]
   simp only [go_sem,reduceIte,Nat.reduceEqDiff,Nat.reduceAdd,Nat.reduceLeDiff,Nat.reduceLT,h0,h1,h5,hi,d,hji,hj0,and_self,decide_true,ia_tx,Int.toNat_natCast,hx1,hwj]
   exact ⟨by omega,by rw [List.length_append]; omega⟩
 ·rintro T' H' n' hf' hi h5 _
  have h0:T' 0 = .s (s.sv txRow):=hf' 0 rfl
  clear hf'
  rw [List.take_length] at h5
  simp only [go_sem,reduceIte,Nat.reduceEqDiff,Nat.reduceAdd,Nat.reduceLeDiff,Nat.reduceLT,h0,h5,hi,Int.lt_irrefl,decide_false]
theorem refTexts_ok (x:Slc Tr) (hx:x.l.length ≤ 1000000) (hq:∀ a ∈ x.l,calL EE 55 [.st a.row] []=some (.ret (.str (txt a)),[])):∃ v,calL EE 114 [.s (x.sv Tr.row)] []=some (.ret v,[]) ∧ ∃ s:Slc (List UInt8),v = .s (s.sv txRow) ∧ s.l=x.l.map txt:=by
 refine fn_ex f114 (by simp) ?_
 unfold c114
 simp only [go_sem,reduceIte,Nat.reduceEqDiff,Nat.reduceAdd,Nat.reduceLeDiff,Nat.reduceLT]
 refine WP_scan rfl 4 x.l.length (fun _=>True) (fun j T H n=>Own 0 9 1 H n (T 3) (((x.l.take j).map txt).map txRow)) rfl .lit ?_ ?_
 ·rintro j T' H' n' hlt hf' hi ho _
  have h0:T' 0 = .s (x.sv Tr.row):=hf' 0 rfl
  clear hf'
  have hji:(j:Int) < x.l.length:=by omega
  have hj0:(0:Int) ≤ j:=by omega
  have hwj:=wrap_suc (j:=j) (by omega)
  have hnx:((x.l.take (j + 1)).map txt).map txRow=((x.l.take j).map txt).map txRow ++ [txRow (txt (x.l.getD j default))]:=by
   rw [take_step default hlt,List.map_append,List.map_append]; rfl
  rw [hnx]
  have hle:(((x.l.take j).map txt).map txRow).length ≤ 1000000:=by rw [List.length_map,List.length_map,List.length_take]; omega
  generalize ((x.l.take j).map txt).map txRow=rows at ho hle ⊢
  have hld:=fun HH=>tr_ags.load (l:=x.l) (j:=j) (H:=HH) hlt
  have hcall:=hq _ (getD_mem (l:=x.l) default hlt)
  generalize x.l.getD j default=X at hld hcall ⊢
  simp only [go_sem,reduceIte,Nat.reduceEqDiff,Nat.reduceAdd,Nat.reduceLeDiff,Nat.reduceLT,h0,hi,hji,hj0,and_self,decide_true,tr_ags.ia,Int.toNat_natCast,hld]
  refine WC_p rfl (by rw [pure_st]; rfl) hcall ?_
  simp only [go_sem,reduceIte,Nat.reduceEqDiff,Nat.reduceAdd,Nat.reduceLeDiff,Nat.reduceLT]
  refine WX_app ho rows_slice (by simp) (by simp; omega) (by omega) (by omega) ?_
  intro p1 H2 ho2 hfr2 hof2
  simp only [go_sem,reduceIte,Nat.reduceEqDiff,Nat.reduceAdd,Nat.reduceLeDiff,Nat.reduceLT,hi,hwj]
  exact ho2.kept (by omega) (fun _ _ _=>rfl)
 ·rintro T' H' n' hf' hi ho _
  have h0:T' 0 = .s (x.sv Tr.row):=hf' 0 rfl
  clear hf'
  rw [List.take_length] at ho
  simp only [go_sem,reduceIte,Nat.reduceEqDiff,Nat.reduceAdd,Nat.reduceLeDiff,Nat.reduceLT,h0,hi,Int.lt_irrefl,decide_false]
  obtain ⟨s,h1,h2⟩:=ho.back
  rw [h1,WX_some]
  exact ⟨s,rfl,h2⟩
def asW:List UInt8:=[32,65,83,32]
def asT (s:List UInt8):List UInt8:=if s=[] then [] else asW ++ s
theorem as_ok (s:List UInt8) (h:s.length ≤ 1000000):calL EE 197 [.str s] []=some (.ret (.str (asT s)),[]):=by
 refine fn_ok f197 (by simp) ?_
 unfold c197 asT
 by_cases hs:s=[]
 ·have d:decide (s=[])=true:=decide_eq_true hs
  rw [if_pos hs]
  simp only [go_sem,reduceIte,Nat.reduceEqDiff,Nat.reduceAdd,Nat.reduceLeDiff,Nat.reduceLT,d]
 ·have d:decide (s=[])=false:=decide_eq_false hs
  rw [if_neg hs]
  simp only [go_sem,reduceIte,Nat.reduceEqDiff,Nat.reduceAdd,Nat.reduceLeDiff,Nat.reduceLT,d,List.length_cons,List.length_nil]
  exact ⟨by omega,rfl⟩
theorem aliased_ok (s al:List UInt8) (h:s.length ≤ 100000000) (h2:al.length ≤ 1000000):calL EE 221 [.str s,.str al] []=some (.ret (.str (s ++ asT al)),[]):=by
 refine fn_ok f221 (by simp) ?_
 unfold c221 asT
 by_cases hs:al=[]
 ·have d:decide (al=[])=true:=decide_eq_true hs
  rw [if_pos hs,List.append_nil]
  simp only [go_sem,reduceIte,Nat.reduceEqDiff,Nat.reduceAdd,Nat.reduceLeDiff,Nat.reduceLT,d]
 ·have d:decide (al=[])=false:=decide_eq_false hs
  rw [if_neg hs]
  simp only [go_sem,reduceIte,Nat.reduceEqDiff,Nat.reduceAdd,Nat.reduceLeDiff,Nat.reduceLT,d,List.length_append,List.length_cons,List.length_nil]
  exact ⟨⟨by omega,by omega⟩,by rw [List.append_assoc]; rfl⟩
end Go.Vm
