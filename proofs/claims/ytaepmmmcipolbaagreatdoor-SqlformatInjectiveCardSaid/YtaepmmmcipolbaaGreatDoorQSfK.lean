/- Chapter 24: the reference's keywords. -/
import Derived.Test.YtaepmmmcipolbaaGreatDoorQSfZ
import Derived.Test.YtaepmmmcipolbaaGreatDoorQSfD
section
set_option linter.unusedVariables false
set_option linter.unusedSimpArgs false
set_option maxRecDepth 100000
namespace Go.Vm
open Go
end Go.Vm
end
section
set_option linter.unusedVariables false
set_option linter.unusedSimpArgs false
set_option maxRecDepth 100000
namespace Go.Vm
open Nat renaming reduceEqDiff→rA,reduceAdd→rB,reduceLeDiff→rC,reduceLT→rD
open Go
def nmC:List UInt8:=[97,98,99,100,101,102,103,104,105,106,107,108,109,110,111,112,113,114,115,116,117,118,119,120,121,122,48,49,50,51,52,53,54,55,56,57,95]
theorem nm_has (b:UInt8):nmC.contains b=nmB b:=by
 refine forall_u8 (P:=fun b=>nmC.contains b=nmB b) ?_ b
 have h:((List.range 256).all fun n=>nmC.contains (UInt8.ofNat n) == nmB (UInt8.ofNat n))=true:=by kernel_rfl
 intro n hn
 exact eq_of_beq (List.all_eq_true.1 h n (List.mem_range.2 hn))
theorem trim_nm (l:List UInt8):Lib.trimS l nmC=[] ↔ l.all nmB=true:=by
 have e:(fun b=>nmC.contains b)=nmB:=funext nm_has
 unfold Lib.trimS Lib.trimLeftS Lib.trimRightS
 rw [show (nmC.contains ·)=nmB from e,dw_nil]
 constructor
 ·intro h
  cases hr:l.reverse.dropWhile nmB with
  | nil =>
   have:=dw_nil.1 hr
   rwa [List.all_reverse] at this
  | cons x xs =>
   exfalso
   rw [hr,List.all_reverse,List.all_cons,dw_head hr] at h
   cases h
 ·intro h
  have:l.reverse.dropWhile nmB=[]:=dw_nil.2 (by rw [List.all_reverse]; exact h)
  rw [this]
  rfl
theorem ext_trim (s:List UInt8) (h:s.length ≤ 1000000):calL EE 117 [.str s,.str nmC] []=some (.ret (.str (Lib.trimS s nmC)),[]):=by
 refine ext_cal (g:=trimX) (v := .str (Lib.trimS s nmC)) rfl ?_ own_s
 unfold trimX
 simp only
 rw [if_pos ⟨by omega,by decide,by decide⟩]
def preN (s:List UInt8):Bool := !decide (s=[]) && decide (s.length ≤ 31) && isLow (s.getD 0 0)
theorem nameV_pre (s:List UInt8):nameV s=(preN s && !isKw s && s.all nmB):=rfl
theorem pre_eq (s:List UInt8):(decide (s=[]) || decide ((31:Int) < s.length) || decide (((s.getD (Int.toNat 0) 0).toNat:Int) < 97) || decide ((122:Int) < ((s.getD (Int.toNat 0) 0).toNat:Int))) = !preN s:=by
 unfold preN isLow
 rw [show Int.toNat 0=0 from rfl,Bool.eq_iff_iff]
 simp only [Bool.or_eq_true,decide_eq_true_eq,Bool.not_eq_true',Bool.and_eq_false_iff,decide_eq_false_iff_not,Bool.not_eq_false']
 by_cases h:s=[]
 ·simp [h]
 ·simp only [h,false_or]
  omega
theorem bnd_name (s:List UInt8):(∀ x:Bool,(decide (s=[]) || x)=true ∨ (0:Int) ≤ 0 ∧ (0:Int) < s.length) ∧ (∀ x:Bool,(decide ((s.length:Int) < 1) || x)=true ∨ (0:Int) ≤ 0 ∧ (0:Int) < s.length):=by
 cases s with
 | nil=>exact ⟨fun x => .inl (by simp),fun x => .inl (by simp)⟩
 | cons b r=>exact ⟨fun x => .inr ⟨Int.le_refl _,by simp only [List.length_cons]; omega⟩,fun x => .inr ⟨Int.le_refl _,by simp only [List.length_cons]; omega⟩⟩
theorem name_ok (s:List UInt8):calL EE 42 [.str s] []=some (.ret (.bool (nameV s)),[]):=by
 refine fn_ok f42 (by simp) ?_
 unfold c42
 have em:([97,98,99,100,101,102,103,104,105,106,107,108,109,110,111,112,113,114,115,116,117,118,119,120,121,122,48,49,50,51,52,53,54,55,56,57,95]:List UInt8)=nmC:=rfl
 have hp:=pre_eq s
 rw [nameV_pre]
 cases hq:preN s with
 | false =>
  rw [hq] at hp
  simp only [go_sem,reduceIte,rA,rB,rC,rD,em,hp]
  exact ⟨(bnd_name s).1 _,by rw [Bool.or_assoc]; exact (bnd_name s).1 _⟩
 | true =>
  rw [hq] at hp
  have hl:s.length ≤ 31:=by
   unfold preN at hq
   simp only [Bool.and_eq_true,decide_eq_true_eq] at hq
   exact hq.1.2
  simp only [go_sem,reduceIte,rA,rB,rC,rD,em,hp]
  refine ⟨⟨(bnd_name s).1 _,?_⟩,?_⟩
  ·rw [Bool.or_assoc]; exact (bnd_name s).1 _
  refine WC_p rfl rfl (isKw_ok s (by omega)) ?_
  cases hk:isKw s with
  | true =>
   simp only [go_sem,reduceIte,rA,rB,rC,rD,hp]
  | false =>
   simp only [go_sem,reduceIte,rA,rB,rC,rD,hp]
   refine WC_p rfl rfl (ext_trim s (by omega)) ?_
   simp only [go_sem,reduceIte,rA,rB,rC,rD]
   have:decide (Lib.trimS s nmC=[])=s.all nmB:=by rw [Bool.eq_iff_iff,decide_eq_true_eq,trim_nm]
   rw [this]
theorem opt_ok (s:List UInt8):calL EE 43 [.str s] []=some (.ret (.bool (optV s)),[]):=by
 refine fn_ok f43 (by simp) ?_
 unfold c43 optV
 simp only [go_sem,reduceIte,rA,rB,rC,rD]
 cases h:decide (s=[]) with
 | true=>simp only [go_sem,reduceIte,rA,rB,rC,rD,h]
 | false =>
  simp only [go_sem,reduceIte,rA,rB,rC,rD,h]
  refine WC_p rfl rfl (name_ok s) ?_
  simp only [go_sem,reduceIte,rA,rB,rC,rD,h]
end Go.Vm
end
section
set_option linter.unusedVariables false
set_option linter.unusedSimpArgs false
set_option maxRecDepth 100000
namespace Go.Vm
open Nat renaming reduceEqDiff→rA,reduceAdd→rB,reduceLeDiff→rC,reduceLT→rD
open Go
def idxF {α:Type} (q:α→Bool) (l:List α):Int:=match l.findIdx? q with
 | some i=>i
 | none => -1
structure Els {α:Type} (agg:Bool) (sz:Nat) (f:α→List SV) (el:α→PV):Prop where
 len:∀ x,(f x).length=sz
 pos:0 < sz
 load:∀ x,loadS agg sz (f x) 0=some (el x)
section
variable {α:Type} [Inhabited α] {agg:Bool} {sz:Nat} {f:α→List SV} {el:α→PV}
omit [Inhabited α] in
theorem Els.ia (h:Els agg sz f el) {s:Slc α} {H:Ob} {k:IntKind} {i:Int}:indexAM (.sl sz) H (.s (s.sv f)) (.s (.int k i))=gd (0 ≤ i ∧ i < s.l.length) (.eptr (s.l.map f) i.toNat 0):=ia_sv h.len h.pos
theorem findIdx_none {q:α→Bool} {l:List α} (h:∀ m,m < l.length→q (l.getD m default)=false):l.findIdx? q=none:=by
 rw [List.findIdx?_eq_none_iff]
 intro x hx
 obtain ⟨j,hj,e⟩:=List.getElem_of_mem hx
 have:=h j hj
 rw [List.getD_eq_getElem?_getD,List.getElem?_eq_getElem hj] at this
 simpa [e] using this
theorem findIdx_some {q:α→Bool} {l:List α} {j:Nat} (hj:j < l.length) (h:∀ m,m < j→q (l.getD m default)=false) (hq:q (l.getD j default)=true):l.findIdx? q=some j:=by
 rw [List.findIdx?_eq_some_iff_getElem]
 refine ⟨hj,?_,fun m hm => ?_⟩
 ·rw [List.getD_eq_getElem?_getD,List.getElem?_eq_getElem hj] at hq
  exact hq
 ·have:=h m hm
  rw [List.getD_eq_getElem?_getD,List.getElem?_eq_getElem (by omega)] at this
  simpa using this
def Calls1 (dr:Bool) (fv:PV) (H:Ob) (n:Nat) (x v:PV):Prop:=∀ H1 n1,n ≤ n1→(∀ i,i < n→H1 i=H i)→∃ c,callee fv=some c ∧ CF EE dr c.1 (c.2.1 ++ [x] ++ c.2.2) H1 n1 v
theorem idx_func (h:Els agg sz f el) {g:FuncId} {D:List Nat} (hg:EE.ref g=true) (hf:sF EE g D=some ⟨19,[.t 4],cIF agg sz⟩) (s:Slc α) (hs:s.l.length ≤ 9223372036854775807) (fv:PV) (q:α→Bool) (H:Ob) (n:Nat)
  (hc:∀ j,j < s.l.length→Calls1 false fv H n (el (s.l.getD j default)) (.bool (q (s.l.getD j default)))):CF EE false g [.s (s.sv f),fv] H n (.i64 (idxF q s.l)):=by
 refine fn_ref hg hf (by simp) ?_
 unfold cIF
 simp only [go_sem,reduceIte,rA,rB,rC,rD]
 refine WP_scan rfl 8 s.l.length (fun j=>q (s.l.getD j default)=false) (fun _ _ H1 n1=>n ≤ n1 ∧ ∀ i,i < n→H1 i=H i) rfl ⟨by omega,fun _ _=>rfl⟩ ?_ ?_
 ·rintro j T' H' n' hlt hf hi ⟨hn,hH⟩ hp
  have h0:T' 0 = .s (s.sv f):=hf 0 rfl
  have h1:T' 1=fv:=hf 1 rfl
  have h7:T' 7 = .i64 s.l.length:=hf 7 rfl
  clear hf
  simp only [go_sem,reduceIte,rA,rB,rC,rD,h0,h1,h7,hi,h.ia,h.load,Int.ofNat_lt,hlt,decide_true]
  obtain ⟨c,hcc,hcf⟩:=hc j hlt H' (n' + 1 + 2 + 5 + 1) (by omega) hH
  refine WV_cf hcc hcf ?_
  intro H1 n1 hn1 hH1
  simp only [go_sem,reduceIte,rA,rB,rC,rD,hi,wrap_suc (show j < 9223372036854775807 by omega)]
  split
  ·rename_i hq
   refine ⟨?_,by omega,fun i hi=>(hH1 i (by omega)).trans (hH i hi)⟩
   unfold idxF
   rw [findIdx_some hlt hp hq]
  ·rename_i hq
   exact ⟨by simpa using hq,by omega,fun i hi=>(hH1 i (by omega)).trans (hH i hi)⟩
 ·rintro T' H' n' hf hi ⟨hn,hH⟩ hp
  have h7:T' 7 = .i64 s.l.length:=hf 7 rfl
  clear hf
  simp only [go_sem,reduceIte,rA,rB,rC,rD,h7,hi,Int.lt_irrefl,decide_false]
  refine ⟨?_,by omega,hH⟩
  unfold idxF
  rw [findIdx_none hp]
omit [Inhabited α] in
theorem idxF_nonneg {q:α→Bool} {l:List α}:decide (0 ≤ idxF q l)=l.any q:=by
 unfold idxF
 cases h:l.findIdx? q with
 | none =>
  rw [List.findIdx?_eq_none_iff] at h
  rw [Bool.eq_iff_iff,decide_eq_true_eq,List.any_eq_true]
  constructor
  ·intro h; simp at h
  ·rintro ⟨x,hx,hq⟩
   rw [h x hx] at hq
   cases hq
 | some i =>
  rw [List.findIdx?_eq_some_iff_getElem] at h
  obtain ⟨hi,hq,_⟩:=h
  rw [Bool.eq_iff_iff,decide_eq_true_eq,List.any_eq_true]
  constructor
  ·intro _; exact ⟨_,List.getElem_mem hi,hq⟩
  ·intro _; exact Int.natCast_nonneg i
theorem contains_func (h:Els agg sz f el) {g g2:FuncId} {D D2:List Nat} (hg:EE.ref g=true) (hf:sF EE g D=some ⟨9,[.t 4],cCF g2⟩) (hg2:EE.ref g2=true) (hf2:sF EE g2 D2=some ⟨19,[.t 4],cIF agg sz⟩) (s:Slc α) (hs:s.l.length ≤ 9223372036854775807) (fv:PV) (q:α→Bool) (H:Ob) (n:Nat)
  (hc:∀ j,j < s.l.length→Calls1 false fv H n (el (s.l.getD j default)) (.bool (q (s.l.getD j default)))):CF EE false g [.s (s.sv f),fv] H n (.bool (s.l.any q)):=by
 refine fn_ref hg hf (by simp) ?_
 unfold cCF
 simp only [go_sem,reduceIte,rA,rB,rC,rD]
 refine WC_cf (idx_func h hg2 hf2 s hs fv q H (n + 1 + 2 + 1) (fun j hj H1 n1 hn hH=>hc j hj H1 n1 (by omega) (fun i hi=>hH i (by omega)))) ?_
 intro H1 n1 hn hH
 simp only [go_sem,reduceIte,rA,rB,rC,rD,idxF_nonneg]
 exact ⟨by omega,fun i hi=>hH i (by omega)⟩
end
end Go.Vm
end
