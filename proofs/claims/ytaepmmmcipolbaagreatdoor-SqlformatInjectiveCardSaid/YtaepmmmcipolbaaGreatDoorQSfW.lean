/- Chapter 24: the reference's texts; Expr; the law's walk. -/
import Derived.Test.YtaepmmmcipolbaaGreatDoorQSfU
set_option linter.unusedVariables false
set_option linter.unusedSimpArgs false
set_option maxRecDepth 100000
namespace Go.Vm
open Nat renaming reduceEqDiff→rA,reduceAdd→rB,reduceLeDiff→rC,reduceLT→rD
open Go
theorem text_ok (n:Nat):∀ t:Tr,cnt t ≤ n→n ≤ 10000→wf t→(vld t=true ∨ cal t=true)→calL EE 53 [.st t.row] []=some (.ret (.str (txt t)),[]):=by
 induction n with
 | zero=>intro t h _; have:=cnt_pos t; omega
 | succ n ih =>
  intro t h hn hw hv
  cases t with
  | mk k v tb nm op fn fl xs =>
   have hw':=hw
   rw [wf] at hw'
   rw [cnt] at h
   have hx:vldL xs=true→∀ a,a ∈ xs→txOk 53 a:=by
    intro hv a ha
    rw [vldL_all] at hv
    have h1:=List.all_eq_true.1 hv a ha
    have h2:=cnt_mem ha
    have h3:=wfL_mem hw'.2.2 ha
    have h4:=txt_len a h3 h1
    exact ⟨h1,by omega,ih a (by omega) (by omega) h3 (.inl h1)⟩
   rcases hv with hv | hv
   ·have hv':=hv
    have hs:=vld_sm _ hv
    rw [vld] at hv'
    rw [sm] at hs
    rcases vld_cases hv' with ⟨e,_⟩ | ⟨e,_⟩ | ⟨e,_,_,_,h5,_⟩
    ·exact text0 k v tb nm op fn fl xs hw'.1 hs.1 e
    ·exact text1 k v tb nm op fn fl xs (by omega) (by omega) (by omega) e
    ·exact text2 k v tb nm op fn fl xs e hv (hx h5)
   ·have hc:=cal_cases hv
    exact text3 k v tb nm op fn fl xs hc.1 hv fun a ha=>(hx hc.2.2.2.2.1 a ha).2
theorem at_ok (t:Tr) (req:Int) (hn:cnt t ≤ 10000) (hw:wf t) (hv:vld t=true):calL EE 123 [.st t.row,.i64 req] []=some (.ret (.str (atP (lvl t,txt t) req)),[]) :=
 atX t req (.inl hv) (by have:=txt_len t hw hv; omega) (text_ok _ t hn (Nat.le_refl _) hw (.inl hv))
theorem expr_ok (t:Tr) (hw:wf t) (hn:vld t=true ∨ cal t=true→cnt t ≤ 10000):calL EE 14 [.st t.row] []=some (.ret (.str (exprV t)),[]):=by
 refine fn_ok f14 (by simp) ?_
 unfold c14 exprV
 have lr:=row_len t
 have htk:List.take 9 t.row=t.row:=List.take_of_length_le (by omega)
 simp only [go_sem,reduceIte,rA,rB,rC,rD,htk]
 refine ⟨by omega,WC_p rfl (by rw [pure_st]; rfl) (valid_ok _ t (Nat.le_refl _) hw) ?_⟩
 cases hv:vld t with
 | true =>
  simp only [go_sem,reduceIte,rA,rB,rC,rD,htk]
  refine ⟨by omega,WC_p rfl (by rw [pure_st]; rfl) (text_ok _ t (hn (.inl hv)) (Nat.le_refl _) hw (.inl hv)) ?_⟩
  simp only [go_sem,reduceIte,rA,rB,rC,rD,if_true]
 | false =>
  simp only [go_sem,reduceIte,rA,rB,rC,rD,htk]
  refine ⟨by omega,WC_p rfl (by rw [pure_st]; rfl) (isCall_ok t hw) ?_⟩
  cases hc:cal t with
  | true =>
   simp only [go_sem,reduceIte,rA,rB,rC,rD,htk]
   refine ⟨by omega,WC_p rfl (by rw [pure_st]; rfl) (text_ok _ t (hn (.inr hc)) (Nat.le_refl _) hw (.inr hc)) ?_⟩
   simp only [go_sem,reduceIte,rA,rB,rC,rD,if_true]
  | false=>simp only [go_sem,reduceIte,rA,rB,rC,rD,if_false]
end Go.Vm
