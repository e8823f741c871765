/- Chapter 24: the reference's keywords. -/
import Derived.Test.YtaepmmmcipolbaaGreatDoorQSfZ
import Derived.Test.YtaepmmmcipolbaaGreatDoorQSfD
section
set_option linter.unusedVariables false
set_option linter.unusedSimpArgs false
set_option maxRecDepth 100000
namespace Go.Vm
open Nat renaming reduceEqDiff→rA,reduceAdd→rB,reduceLeDiff→rC,reduceLT→rD
open Go
theorem refUpper_ok (s:List UInt8) (hs:s.length ≤ 1000000):calL EE 174 [.str s] []=some (.ret (.str (s.map (mapB 97 65))),[]):=by
 refine fn_ok f174 (by simp) ?_
 unfold c174
 simp only [go_sem,reduceIte,rA,rB,rC,rD,conv_bytes]
 refine ⟨by omega,?_⟩
 refine WP_scan rfl 4 s.length (fun _=>True) (fun j T H _=>H 2 = .sarr 5 1 0 false false (((s.take j).map (mapB 97 65) ++ s.drop j).map bR)) rfl rfl ?_ ?_
 ·rintro j T' H' n' hlt hk hi hH _
  have h3:T' 3 = .hsl 2 0 0 s.length:=hk 3 rfl
  clear hk
  have hlen:((s.take j).map (mapB 97 65) ++ s.drop j).length=s.length:=by
   rw [List.length_append,List.length_map,List.length_take,List.length_drop]; omega
  have hget:((s.take j).map (mapB 97 65) ++ s.drop j).getD j 0=s.getD j 0:=by
   rw [List.getD_eq_getElem?_getD,List.getD_eq_getElem?_getD,List.getElem?_append_right (by rw [List.length_map,List.length_take]; omega),List.length_map,List.length_take,List.getElem?_drop,show j + (j - min j s.length)=j by omega]
  simp only [go_sem,reduceIte,rA,rB,rC,rD,h3,hi,Int.ofNat_lt,hlt,decide_true,lenH_sarr,len_hsl,ia_hsl,hH,iaH_sarr,load_aptr,loadH_map,List.length_map,hlen,Int.toNat_natCast,bR,wrap_suc (show j < 9223372036854775807 by omega),Nat.zero_add,true_and,and_true,hget,u8_default,Nat.le_refl,Bool.and_eq_true,decide_eq_true_eq]
  have hnext:(s.take (j + 1)).map (mapB 97 65) ++ s.drop (j + 1)=(((s.take j).map (mapB 97 65) ++ s.drop j)).set j (mapB 97 65 (s.getD j 0)):=by
   rw [List.set_append_right _ _ (by rw [List.length_map,List.length_take]; omega),List.length_map,List.length_take,show j - min j s.length=0 by omega,drop_get hlt,List.set_cons_zero,take_step 0 hlt,List.map_append]
   simp
  by_cases hc:97 ≤ (s.getD j 0).toNat ∧ (s.getD j 0).toNat < 97 + 26
  ·have hv:IntKind.u8.wrap (((s.getD j 0).toNat:Int) - 32)=((mapB 97 65 (s.getD j 0)).toNat:Int):=by
    unfold mapB
    rw [if_pos hc,UInt8.toNat_ofNat',IntWalk.u8_in _ (by omega)]
    omega
   rw [if_pos ⟨by omega,by omega⟩,store_aptr,hH,storeA_map,WX_gd]
   refine ⟨⟨rfl,by rw [hlen]; exact hlt⟩,?_⟩
   rw [hv,set_map,hnext]
   rfl
  ·rw [if_neg (by omega),hnext]
   have:mapB 97 65 (s.getD j 0)=((s.take j).map (mapB 97 65) ++ s.drop j).getD j 0:=by
    rw [hget]; unfold mapB; rw [if_neg hc]
   rw [this,set_getD]
 ·rintro T' H' n' hk hi hH _
  have h3:T' 3 = .hsl 2 0 0 s.length:=hk 3 rfl
  clear hk
  rw [List.take_length,List.drop_length,List.append_nil] at hH
  simp only [go_sem,reduceIte,rA,rB,rC,rD,h3,hi,len_hsl,hH,lenH_sarr,Int.lt_irrefl,decide_false,conv_hsl hH (show s.length=(s.map (mapB 97 65)).length by simp)]
theorem ia_txl {l:List (List UInt8)} {H:Ob} {k:IntKind} {i:Int}:indexAM (.sl 1) H (.s (.slice (l.map txRow) true)) (.s (.int k i))=gd (0 ≤ i ∧ i < l.length) (.eptr (l.map txRow) i.toNat 0):=ia_sv (f:=txRow) (s := .mk l true) (size:=1) (fun _=>rfl) (by omega)
theorem refIn_ok (l:List (List UInt8)) (x:List UInt8) (hl:l.length ≤ 1000000):calL EE 172 [.s (.slice (l.map txRow) true),.str x] []=some (.ret (.bool (decide (x ∈ l))),[]):=by
 refine fn_ok f172 (by simp) ?_
 unfold c172
 simp only [go_sem,reduceIte,rA,rB,rC,rD]
 refine WP_scan rfl 5 l.length (fun j=>l.getD j [] ≠ x) (fun _ _ _ _=>True) rfl trivial ?_ ?_
 ·rintro j T' H' n' hlt hf hi _ _
  have h0:T' 0 = .s (.slice (l.map txRow) true):=hf 0 rfl
  have h1:T' 1 = .str x:=hf 1 rfl
  clear hf
  have hd:l.getD j default=l.getD j []:=rfl
  simp only [go_sem,reduceIte,rA,rB,rC,rD,h0,h1,hi,len_slice,List.length_map,Int.ofNat_lt,hlt,decide_true,ia_txl,load_eptr,txRow,hd,wrap_suc (show j < 9223372036854775807 by omega),Int.toNat_natCast,decide_eq_true_eq]
  split
  ·rename_i e
   rw [decide_eq_true (show x ∈ l from by rw [← e]; exact getD_mem [] hlt)]
  ·rename_i e
   exact e
 ·rintro T' H' n' hf hi _ hp
  have h0:T' 0 = .s (.slice (l.map txRow) true):=hf 0 rfl
  clear hf
  have hno:¬ x ∈ l:=fun h=>by
   obtain ⟨j,hj,e⟩:=List.getElem_of_mem h
   refine hp j hj ?_
   rw [List.getD_eq_getElem?_getD,List.getElem?_eq_getElem hj]
   exact e
  simp only [go_sem,reduceIte,rA,rB,rC,rD,h0,hi,len_slice,List.length_map,Int.lt_irrefl,decide_false,hno]
theorem refKw_all:calL EE 173 [] []=some (.ret (.s (.slice (kwL.map txRow) true)),[]):=cal_run (n:=100) (by kernel_rfl)
theorem refKw_ok (s:List UInt8) (hs:s.length ≤ 1000000):calL EE 120 [.str s] []=some (.ret (.bool (isKw s)),[]):=by
 refine fn_ok f120 (by simp) ?_
 unfold c120
 simp only [go_sem,reduceIte,rA,rB,rC,rD]
 refine WC_p rfl rfl refKw_all ?_
 simp only [go_sem,reduceIte,rA,rB,rC,rD]
 refine WC_p rfl rfl (refUpper_ok s hs) ?_
 simp only [go_sem,reduceIte,rA,rB,rC,rD]
 refine WC_p rfl rfl (refIn_ok kwL _ (by rw [kw_len]; omega)) ?_
 simp only [go_sem,reduceIte,rA,rB,rC,rD,isKw]
end Go.Vm
end
section
set_option linter.unusedVariables false
set_option linter.unusedSimpArgs false
set_option maxRecDepth 100000
namespace Go.Vm
open Nat renaming reduceEqDiff→rA,reduceAdd→rB,reduceLeDiff→rC,reduceLT→rD
open Go
def nmC:List UInt8:=[97,98,99,100,101,102,103,104,105,106,107,108,109,110,111,112,113,114,115,116,117,118,119,120,121,122,48,49,50,51,52,53,54,55,56,57,95]
theorem nm_has (b:UInt8):nmC.contains b=nmB b:=by
 refine forall_u8 (P:=fun b=>nmC.contains b=nmB b) ?_ b
 have h:((List.range 256).all fun n=>nmC.contains (UInt8.ofNat n) == nmB (UInt8.ofNat n))=true:=by kernel_rfl
 intro n hn
 exact eq_of_beq (List.all_eq_true.1 h n (List.mem_range.2 hn))
theorem trim_nm (l:List UInt8):Lib.trimS l nmC=[] ↔ l.all nmB=true:=by
 have e:(fun b=>nmC.contains b)=nmB:=funext nm_has
 unfold Lib.trimS Lib.trimLeftS Lib.trimRightS
 rw [show (nmC.contains ·)=nmB from e,dw_nil]
 constructor
 ·intro h
  cases hr:l.reverse.dropWhile nmB with
  | nil =>
   have:=dw_nil.1 hr
   rwa [List.all_reverse] at this
  | cons x xs =>
   exfalso
   rw [hr,List.all_reverse,List.all_cons,dw_head hr] at h
   cases h
 ·intro h
  have:l.reverse.dropWhile nmB=[]:=dw_nil.2 (by rw [List.all_reverse]; exact h)
  rw [this]
  rfl
theorem ext_trim (s:List UInt8) (h:s.length ≤ 1000000):calL EE 117 [.str s,.str nmC] []=some (.ret (.str (Lib.trimS s nmC)),[]):=by
 refine ext_cal (g:=trimX) (v := .str (Lib.trimS s nmC)) rfl ?_ own_s
 unfold trimX
 simp only
 rw [if_pos ⟨by omega,by decide,by decide⟩]
def preN (s:List UInt8):Bool := !decide (s=[]) && decide (s.length ≤ 31) && isLow (s.getD 0 0)
theorem nameV_pre (s:List UInt8):nameV s=(preN s && !isKw s && s.all nmB):=rfl
theorem pre_eq (s:List UInt8):(decide (s=[]) || decide ((31:Int) < s.length) || decide (((s.getD (Int.toNat 0) 0).toNat:Int) < 97) || decide ((122:Int) < ((s.getD (Int.toNat 0) 0).toNat:Int))) = !preN s:=by
 unfold preN isLow
 rw [show Int.toNat 0=0 from rfl,Bool.eq_iff_iff]
 simp only [Bool.or_eq_true,decide_eq_true_eq,Bool.not_eq_true',Bool.and_eq_false_iff,decide_eq_false_iff_not,Bool.not_eq_false']
 by_cases h:s=[]
 ·simp [h]
 ·simp only [h,false_or]
  omega
theorem pre_eq2 (s:List UInt8):(decide ((s.length:Int) < 1) || decide ((31:Int) < s.length) || decide (((s.getD (Int.toNat 0) 0).toNat:Int) < 97) || decide ((122:Int) < ((s.getD (Int.toNat 0) 0).toNat:Int))) = !preN s:=by
 rw [← pre_eq]
 congr 3
 rw [decide_eq_decide]
 constructor
 ·intro h; exact List.length_eq_zero_iff.1 (by omega)
 ·rintro rfl; simp
theorem bnd_name (s:List UInt8):(∀ x:Bool,(decide (s=[]) || x)=true ∨ (0:Int) ≤ 0 ∧ (0:Int) < s.length) ∧ (∀ x:Bool,(decide ((s.length:Int) < 1) || x)=true ∨ (0:Int) ≤ 0 ∧ (0:Int) < s.length):=by
 cases s with
 | nil=>exact ⟨fun x => .inl (by simp),fun x => .inl (by simp)⟩
 | cons b r=>exact ⟨fun x => .inr ⟨Int.le_refl _,by simp only [List.length_cons]; omega⟩,fun x => .inr ⟨Int.le_refl _,by simp only [List.length_cons]; omega⟩⟩
theorem nm_dec (b:UInt8):(decide ((97:Int) ≤ (b.toNat:Int)) && decide ((b.toNat:Int) ≤ 122) || decide ((48:Int) ≤ (b.toNat:Int)) && decide ((b.toNat:Int) ≤ 57) || decide ((b.toNat:Int)=95))=nmB b:=by
 unfold nmB isLow isDig
 rw [show decide ((b.toNat:Int)=95)=decide (b=95) from u8d (k:=95) (by omega),show decide ((97:Int) ≤ (b.toNat:Int))=decide (97 ≤ b.toNat) from decide_eq_decide.2 (by omega),show decide ((b.toNat:Int) ≤ 122)=decide (b.toNat ≤ 122) from decide_eq_decide.2 (by omega),show decide ((48:Int) ≤ (b.toNat:Int))=decide (48 ≤ b.toNat) from decide_eq_decide.2 (by omega),show decide ((b.toNat:Int) ≤ 57)=decide (b.toNat ≤ 57) from decide_eq_decide.2 (by omega)]
theorem name_ok (s:List UInt8):calL EE 42 [.str s] []=some (.ret (.bool (nameV s)),[]):=by
 refine fn_ok f42 (by simp) ?_
 unfold c42
 have em:([97,98,99,100,101,102,103,104,105,106,107,108,109,110,111,112,113,114,115,116,117,118,119,120,121,122,48,49,50,51,52,53,54,55,56,57,95]:List UInt8)=nmC:=rfl
 have hp:=pre_eq s
 rw [nameV_pre]
 cases hq:preN s with
 | false =>
  rw [hq] at hp
  simp only [go_sem,reduceIte,rA,rB,rC,rD,em,hp]
  exact ⟨(bnd_name s).1 _,by rw [Bool.or_assoc]; exact (bnd_name s).1 _⟩
 | true =>
  rw [hq] at hp
  have hl:s.length ≤ 31:=by
   unfold preN at hq
   simp only [Bool.and_eq_true,decide_eq_true_eq] at hq
   exact hq.1.2
  simp only [go_sem,reduceIte,rA,rB,rC,rD,em,hp]
  refine ⟨⟨(bnd_name s).1 _,?_⟩,?_⟩
  ·rw [Bool.or_assoc]; exact (bnd_name s).1 _
  refine WC_p rfl rfl (isKw_ok s (by omega)) ?_
  cases hk:isKw s with
  | true =>
   simp only [go_sem,reduceIte,rA,rB,rC,rD,hp]
  | false =>
   simp only [go_sem,reduceIte,rA,rB,rC,rD,hp]
   refine WC_p rfl rfl (ext_trim s (by omega)) ?_
   simp only [go_sem,reduceIte,rA,rB,rC,rD]
   have:decide (Lib.trimS s nmC=[])=s.all nmB:=by rw [Bool.eq_iff_iff,decide_eq_true_eq,trim_nm]
   rw [this]
theorem refName_ok (s:List UInt8):calL EE 48 [.str s] []=some (.ret (.bool (nameV s)),[]):=by
 refine fn_ok f48 (by simp) ?_
 unfold c48
 have hp:=pre_eq2 s
 rw [nameV_pre]
 cases hq:preN s with
 | false =>
  rw [hq] at hp
  simp only [go_sem,reduceIte,rA,rB,rC,rD,hp]
  exact ⟨(bnd_name s).2 _,by rw [Bool.or_assoc]; exact (bnd_name s).2 _⟩
 | true =>
  rw [hq] at hp
  have hl:s.length ≤ 31:=by
   unfold preN at hq
   simp only [Bool.and_eq_true,decide_eq_true_eq] at hq
   exact hq.1.2
  simp only [go_sem,reduceIte,rA,rB,rC,rD,hp]
  refine ⟨⟨(bnd_name s).2 _,?_⟩,?_⟩
  ·rw [Bool.or_assoc]; exact (bnd_name s).2 _
  refine WC_p rfl rfl (refKw_ok s (by omega)) ?_
  cases hk:isKw s with
  | true =>
   simp only [go_sem,reduceIte,rA,rB,rC,rD,hp]
  | false =>
   simp only [go_sem,reduceIte,rA,rB,rC,rD,hp]
   refine WP_scan rfl 3 s.length (fun j=>nmB (s.getD j 0)=true) (fun _ _ _ _=>True) rfl trivial ?_ ?_
   ·rintro j T' H' n' hlt hf hi _ _
    have h0:T' 0 = .str s:=hf 0 rfl
    clear hf
    have hji:(j:Int) < s.length:=by omega
    have hwj:=wrap_suc (j:=j) (by omega)
    simp only [go_sem,reduceIte,rA,rB,rC,rD,h0,hi,hji,decide_true,Int.toNat_natCast,hwj,nm_dec]
    cases hb:nmB (s.getD j 0) with
    | true=>rw [if_neg (by simp)]
    | false=>rw [if_pos (by simp),all_not 0 hlt hb]
   ·rintro T' H' n' hf hi _ hpp
    have h0:T' 0 = .str s:=hf 0 rfl
    clear hf
    have hall:s.all nmB=true:=by
     rw [List.all_eq_true]
     intro x hx
     obtain ⟨j,hj,e⟩:=List.getElem_of_mem hx
     have:=hpp j hj
     rw [List.getD_eq_getElem?_getD,List.getElem?_eq_getElem hj] at this
     rw [← e]; exact this
    simp only [go_sem,reduceIte,rA,rB,rC,rD,h0,hi,Int.lt_irrefl,decide_false,hall]
theorem opt_ok (s:List UInt8):calL EE 43 [.str s] []=some (.ret (.bool (optV s)),[]):=by
 refine fn_ok f43 (by simp) ?_
 unfold c43 optV
 simp only [go_sem,reduceIte,rA,rB,rC,rD]
 cases h:decide (s=[]) with
 | true=>simp only [go_sem,reduceIte,rA,rB,rC,rD,h]
 | false =>
  simp only [go_sem,reduceIte,rA,rB,rC,rD,h]
  refine WC_p rfl rfl (name_ok s) ?_
  simp only [go_sem,reduceIte,rA,rB,rC,rD,h]
theorem alias_ok (s:List UInt8):calL EE 49 [.str s] []=some (.ret (.bool (optV s)),[]):=by
 refine fn_ok f49 (by simp) ?_
 unfold c49 optV
 simp only [go_sem,reduceIte,rA,rB,rC,rD]
 cases h:decide (s=[]) with
 | true=>simp only [go_sem,reduceIte,rA,rB,rC,rD,h]
 | false =>
  simp only [go_sem,reduceIte,rA,rB,rC,rD,h]
  refine WC_p rfl rfl (refName_ok s) ?_
  simp only [go_sem,reduceIte,rA,rB,rC,rD,h]
end Go.Vm
end
section
set_option linter.unusedVariables false
set_option linter.unusedSimpArgs false
set_option maxRecDepth 100000
namespace Go.Vm
open Nat renaming reduceEqDiff→rA,reduceAdd→rB,reduceLeDiff→rC,reduceLT→rD
open Go
def idxF {α:Type} (q:α→Bool) (l:List α):Int:=match l.findIdx? q with
 | some i=>i
 | none => -1
structure Els {α:Type} (agg:Bool) (sz:Nat) (f:α→List SV) (el:α→PV):Prop where
 len:∀ x,(f x).length=sz
 pos:0 < sz
 load:∀ x,loadS agg sz (f x) 0=some (el x)
section
variable {α:Type} [Inhabited α] {agg:Bool} {sz:Nat} {f:α→List SV} {el:α→PV}
omit [Inhabited α] in
theorem Els.ia (h:Els agg sz f el) {s:Slc α} {H:Ob} {k:IntKind} {i:Int}:indexAM (.sl sz) H (.s (s.sv f)) (.s (.int k i))=gd (0 ≤ i ∧ i < s.l.length) (.eptr (s.l.map f) i.toNat 0):=ia_sv h.len h.pos
theorem findIdx_none {q:α→Bool} {l:List α} (h:∀ m,m < l.length→q (l.getD m default)=false):l.findIdx? q=none:=by
 rw [List.findIdx?_eq_none_iff]
 intro x hx
 obtain ⟨j,hj,e⟩:=List.getElem_of_mem hx
 have:=h j hj
 rw [List.getD_eq_getElem?_getD,List.getElem?_eq_getElem hj] at this
 simpa [e] using this
theorem findIdx_some {q:α→Bool} {l:List α} {j:Nat} (hj:j < l.length) (h:∀ m,m < j→q (l.getD m default)=false) (hq:q (l.getD j default)=true):l.findIdx? q=some j:=by
 rw [List.findIdx?_eq_some_iff_getElem]
 refine ⟨hj,?_,fun m hm => ?_⟩
 ·rw [List.getD_eq_getElem?_getD,List.getElem?_eq_getElem hj] at hq
  exact hq
 ·have:=h m hm
  rw [List.getD_eq_getElem?_getD,List.getElem?_eq_getElem (by omega)] at this
  simpa using this
def Calls1 (dr:Bool) (fv:PV) (H:Ob) (n:Nat) (x v:PV):Prop:=∀ H1 n1,n ≤ n1→(∀ i,i < n→H1 i=H i)→∃ c,callee fv=some c ∧ CF EE dr c.1 (c.2.1 ++ [x] ++ c.2.2) H1 n1 v
theorem idx_func (h:Els agg sz f el) {g:FuncId} {D:List Nat} (hg:EE.ref g=true) (hf:sF EE g D=some ⟨19,[.t 4],cIF agg sz⟩) (s:Slc α) (hs:s.l.length ≤ 9223372036854775807) (fv:PV) (q:α→Bool) (H:Ob) (n:Nat)
  (hc:∀ j,j < s.l.length→Calls1 false fv H n (el (s.l.getD j default)) (.bool (q (s.l.getD j default)))):CF EE false g [.s (s.sv f),fv] H n (.i64 (idxF q s.l)):=by
 refine fn_ref hg hf (by simp) ?_
 unfold cIF
 simp only [go_sem,reduceIte,rA,rB,rC,rD]
 refine WP_scan rfl 8 s.l.length (fun j=>q (s.l.getD j default)=false) (fun _ _ H1 n1=>n ≤ n1 ∧ ∀ i,i < n→H1 i=H i) rfl ⟨by omega,fun _ _=>rfl⟩ ?_ ?_
 ·rintro j T' H' n' hlt hf hi ⟨hn,hH⟩ hp
  have h0:T' 0 = .s (s.sv f):=hf 0 rfl
  have h1:T' 1=fv:=hf 1 rfl
  have h7:T' 7 = .i64 s.l.length:=hf 7 rfl
  clear hf
  simp only [go_sem,reduceIte,rA,rB,rC,rD,h0,h1,h7,hi,h.ia,h.load,Int.ofNat_lt,hlt,decide_true]
  obtain ⟨c,hcc,hcf⟩:=hc j hlt H' (n' + 1 + 2 + 5 + 1) (by omega) hH
  refine WV_cf hcc hcf ?_
  intro H1 n1 hn1 hH1
  simp only [go_sem,reduceIte,rA,rB,rC,rD,hi,wrap_suc (show j < 9223372036854775807 by omega)]
  split
  ·rename_i hq
   refine ⟨?_,by omega,fun i hi=>(hH1 i (by omega)).trans (hH i hi)⟩
   unfold idxF
   rw [findIdx_some hlt hp hq]
  ·rename_i hq
   exact ⟨by simpa using hq,by omega,fun i hi=>(hH1 i (by omega)).trans (hH i hi)⟩
 ·rintro T' H' n' hf hi ⟨hn,hH⟩ hp
  have h7:T' 7 = .i64 s.l.length:=hf 7 rfl
  clear hf
  simp only [go_sem,reduceIte,rA,rB,rC,rD,h7,hi,Int.lt_irrefl,decide_false]
  refine ⟨?_,by omega,hH⟩
  unfold idxF
  rw [findIdx_none hp]
omit [Inhabited α] in
theorem idxF_nonneg {q:α→Bool} {l:List α}:decide (0 ≤ idxF q l)=l.any q:=by
 unfold idxF
 cases h:l.findIdx? q with
 | none =>
  rw [List.findIdx?_eq_none_iff] at h
  rw [Bool.eq_iff_iff,decide_eq_true_eq,List.any_eq_true]
  constructor
  ·intro h; simp at h
  ·rintro ⟨x,hx,hq⟩
   rw [h x hx] at hq
   cases hq
 | some i =>
  rw [List.findIdx?_eq_some_iff_getElem] at h
  obtain ⟨hi,hq,_⟩:=h
  rw [Bool.eq_iff_iff,decide_eq_true_eq,List.any_eq_true]
  constructor
  ·intro _; exact ⟨_,List.getElem_mem hi,hq⟩
  ·intro _; exact Int.natCast_nonneg i
theorem contains_func (h:Els agg sz f el) {g g2:FuncId} {D D2:List Nat} (hg:EE.ref g=true) (hf:sF EE g D=some ⟨9,[.t 4],cCF g2⟩) (hg2:EE.ref g2=true) (hf2:sF EE g2 D2=some ⟨19,[.t 4],cIF agg sz⟩) (s:Slc α) (hs:s.l.length ≤ 9223372036854775807) (fv:PV) (q:α→Bool) (H:Ob) (n:Nat)
  (hc:∀ j,j < s.l.length→Calls1 false fv H n (el (s.l.getD j default)) (.bool (q (s.l.getD j default)))):CF EE false g [.s (s.sv f),fv] H n (.bool (s.l.any q)):=by
 refine fn_ref hg hf (by simp) ?_
 unfold cCF
 simp only [go_sem,reduceIte,rA,rB,rC,rD]
 refine WC_cf (idx_func h hg2 hf2 s hs fv q H (n + 1 + 2 + 1) (fun j hj H1 n1 hn hH=>hc j hj H1 n1 (by omega) (fun i hi=>hH i (by omega)))) ?_
 intro H1 n1 hn hH
 simp only [go_sem,reduceIte,rA,rB,rC,rD,idxF_nonneg]
 exact ⟨by omega,fun i hi=>hH i (by omega)⟩
end
end Go.Vm
end
