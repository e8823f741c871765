/- Chapter 24: the further loops over slices, once for every kind of element. -/
import Derived.Test.YtaepmmmcipolbaaGreatDoorQSfK
set_option linter.unusedVariables false
set_option linter.unusedSimpArgs false
set_option maxRecDepth 100000
namespace Go.Vm
open Nat renaming reduceEqDiff→rA,reduceAdd→rB,reduceLeDiff→rC,reduceLT→rD
open Go
def eqF {α:Type} (q:α→α→Bool):List α→List α→Bool
 | [],[]=>true
 | a :: r,b :: r'=>q a b && eqF q r r'
 | [],_ :: _=>false
 | _ :: _,[]=>false
theorem eqF_len {α:Type} {q:α→α→Bool}:∀ {l m:List α},eqF q l m=true→l.length=m.length
 | [],[],_=>rfl
 | a :: r,b :: r',h=>by
  rw [eqF,Bool.and_eq_true] at h
  rw [List.length_cons,List.length_cons,eqF_len h.2]
theorem eqF_no {α:Type} {q:α→α→Bool} {l m:List α} (h:¬ l.length=m.length):eqF q l m=false:=by
 cases hq:eqF q l m with
 | false=>rfl
 | true=>exact absurd (eqF_len hq) h
section
variable {α:Type} [Inhabited α]
theorem eqF_bad {q:α→α→Bool}:∀ {l m:List α} {j:Nat},l.length=m.length→j < l.length→q (l.getD j default) (m.getD j default)=false→eqF q l m=false
 | [],_,j,_,h,_=>by simp at h
 | a :: r,[],j,h,_,_=>by simp at h
 | a :: r,b :: r',0,_,_,h=>by
  rw [eqF]
  have h:q a b=false:=h
  rw [h,Bool.false_and]
 | a :: r,b :: r',j + 1,hl,hj,h=>by
  rw [eqF,eqF_bad (l:=r) (m:=r') (j:=j) (by simpa using hl) (by simpa using hj) (by simpa using h),Bool.and_false]
theorem eqF_good {q:α→α→Bool}:∀ {l m:List α},l.length=m.length→(∀ j,j < l.length→q (l.getD j default) (m.getD j default)=true)→eqF q l m=true
 | [],[],_,_=>rfl
 | [],b :: r',h,_=>by simp at h
 | a :: r,[],h,_=>by simp at h
 | a :: r,b :: r',hl,h=>by
  rw [eqF,eqF_good (l:=r) (m:=r') (by simpa using hl) (fun j hj=>by simpa using h (j + 1) (by simpa using hj)),Bool.and_true]
  exact h 0 (by simp)
variable {sz:Nat} {f:α→List SV}
structure Ags (sz:Nat) (f:α→List SV):Prop where
 len:∀ x,(f x).length=sz
 pos:0 < sz
omit [Inhabited α] in
theorem Ags.ia (h:Ags sz f) {s:Slc α} {H:Ob} {k:IntKind} {i:Int}:indexAM (.sl sz) H (.s (s.sv f)) (.s (.int k i))=gd (0 ≤ i ∧ i < s.l.length) (.eptr (s.l.map f) i.toNat 0):=ia_sv h.len h.pos
theorem Ags.load (h:Ags sz f) {l:List α} {j:Nat} {H:Ob} (hj:j < l.length):loadM true sz H (.eptr (l.map f) j 0)=some (.st (f (l.getD j default))):=by
 rw [load_eptr,if_pos hj,loadS_t,if_pos (by rw [h.len]; omega),List.drop_zero,List.take_of_length_le (by rw [h.len]; omega)]
omit [Inhabited α] in
theorem Ags.store (h:Ags sz f) {x:α} {H:Ob} {id:Nat} {ty:TypeId} {z:List SV} (hz:z.length=sz) (hH:H id = .box ty (z.map .s)):storeM sz H (.ptr id 0) (.st (f x))=some (H.set id (.box ty ((f x).map .s))):=by
 rw [store_ptr,hH,storeB_st,if_pos ⟨h.len x,by omega⟩,setCells_all (by rw [hz,h.len])]
omit [Inhabited α] in
theorem Ags.back (h:Ags sz f) {x:α} {H:Ob} {id:Nat} {ty:TypeId} (hH:H id = .box ty ((f x).map .s)):loadM true sz H (.ptr id 0)=some (.st (f x)):=by
 rw [load_ptr,hH,loadB_box,loadP_ts,if_pos (by rw [h.len]; omega),List.drop_zero,List.take_of_length_le (by rw [h.len]; omega)]
omit [Inhabited α] in
theorem pure_st {l:List SV} {r:List PV}:pureA (.st l :: r)=pureA r:=by
 have:((l.map PV.s).all fun p=>match p with | .s _=>true | _=>false)=true:=by simp
 rw [show pureA (.st l :: r)=(((l.map PV.s).all fun p=>match p with | .s _=>true | _=>false) && pureA r) from rfl,this,Bool.true_and]
theorem eq_func (h:Ags sz f) {g:FuncId} {D:List Nat} {nt:Nat} {ty:Nat} {z:List SV} (hz:z.length=sz) (hf:sF EE g D=some ⟨nt,[.t 6],cEF sz ty z⟩) (hn:3 ≤ nt) (x y:Slc α) (hx:x.l.length ≤ 9223372036854775807) (fn:FuncId) (hr:EE.ref fn=false) (q:α→α→Bool)
  (hq:∀ j,j < x.l.length→j < y.l.length→calL EE fn [.st (f (x.l.getD j default)),.st (f (y.l.getD j default))] []=some (.ret (.bool (q (x.l.getD j default) (y.l.getD j default))),[])):calL EE g [.s (x.sv f),.s (y.sv f),.s (.func fn)] []=some (.ret (.bool (eqF q x.l y.l)),[]):=by
 refine fn_ok hf (by simpa using hn) ?_
 unfold cEF
 by_cases hl:x.l.length=y.l.length
 ·have hd:decide ((x.l.length:Int)=(y.l.length:Int))=true:=decide_eq_true (by omega)
  simp only [go_sem,reduceIte,rA,rB,rC,rD,hd]
  refine WP_scan rfl 17 x.l.length (fun j=>q (x.l.getD j default) (y.l.getD j default)=true) (fun _ _ _ _=>True) rfl trivial ?_ ?_
  ·rintro j T' H' n' hlt hf hi _ _
   have h1:T' 1 = .s (y.sv f):=hf 1 rfl
   have h2:T' 2 = .s (.func fn):=hf 2 rfl
   have h15:T' 15 = .s (x.sv f):=hf 15 rfl
   have h16:T' 16 = .i64 x.l.length:=hf 16 rfl
   clear hf
   have hly:j < y.l.length:=by omega
   have hji:(j:Int) < x.l.length:=by omega
   have hjy:(j:Int) < y.l.length:=by omega
   have hj0:(0:Int) ≤ j:=by omega
   have hwj:=wrap_suc (j:=j) (by omega)
   have hx1:=fun HH=>h.load (H:=HH) hlt
   have hy1:=fun HH=>h.load (H:=HH) hly
   simp only [go_sem,reduceIte,rA,rB,rC,rD,h1,h2,h15,h16,hi,hji,hjy,hj0,and_self,decide_true,h.ia,Int.toNat_natCast,hx1,hy1]
   have lx:=h.len (x.l.getD j default)
   have ly:=h.len (y.l.getD j default)
   refine ⟨⟨lx,by omega⟩,⟨ly,by omega⟩,⟨by rw [setCells_len]; omega,by rw [setCells_len]; omega⟩,?_⟩
   rw [setCells_all (by rw [hz,lx]),setCells_all (by rw [hz,ly]),List.take_of_length_le (by omega),List.take_of_length_le (by omega)]
   refine WV_s (WC_p hr (by rw [pure_st,pure_st]; rfl) (hq j hlt hly) ?_)
   cases hb:q (x.l.getD j default) (y.l.getD j default) with
   | true=>simp only [go_sem,reduceIte,rA,rB,rC,rD,hi,hwj,hb]
   | false=>simp only [go_sem,reduceIte,rA,rB,rC,rD,hi,hwj,hb,eqF_bad hl hlt hb]
  ·rintro T' H' n' hf hi _ hp
   have h16:T' 16 = .i64 x.l.length:=hf 16 rfl
   clear hf
   simp only [go_sem,reduceIte,rA,rB,rC,rD,h16,hi,Int.lt_irrefl,decide_false,eqF_good hl hp]
 ·have hd:decide ((x.l.length:Int)=(y.l.length:Int))=false:=decide_eq_false (by omega)
  simp only [go_sem,reduceIte,rA,rB,rC,rD,hd,eqF_no hl]
omit [Inhabited α] in
theorem any_not {q:α→Bool} {l:List α}:(!(l.any fun x => !q x))=l.all q:=by
 rw [List.all_eq_not_any_not]
theorem box_s {H:Ob} {n:Nat} {t:TypeId} {v:SV}:boxO H n t (.s v)=some (.ptr n 0,H.set n (.box t ([v].map .s))):=rfl
omit [Inhabited α] in
theorem clo_ok (h:Ags sz f) {g cl:FuncId} {D4:List Nat} {n2 ft ty:Nat} (hcl:EE.ref cl=true) (h4:sF EE cl D4=some ⟨n2,[.t 3],cA1 ty sz⟩) (hn2:2 ≤ n2) (hr:EE.ref g=false) (x:α) (b:Bool)
  (hq:calL EE g [.st (f x)] []=some (.ret (.bool b),[])) (id n:Nat) (H:Ob) (hid:id < n) (hH:H id = .box ft ([SV.func g].map .s)):CF EE false cl [.st (f x),.ptr id 0] H n (.bool (!b)):=by
 refine fn_ref hcl h4 (by simpa using hn2) ?_
 unfold cA1
 have hne:(id=n)=False:=eq_false (by omega)
 have lx:=h.len x
 simp only [go_sem,reduceIte,rA,rB,rC,rD,hH,hne]
 refine ⟨by omega,?_⟩
 rw [List.take_of_length_le (by omega)]
 refine WV_s (WC_p hr (by rw [pure_st]; rfl) hq ?_)
 simp only [go_sem,reduceIte,rA,rB,rC,rD]
 exact ⟨by omega,fun j hj=>if_neg (by omega)⟩
theorem all_func (h:Ags sz f) {g k ca ix cl:FuncId} {D1 D2 D3 D4:List Nat} {n1 n2:Nat} {ft ty:Nat}
  (h1:sF EE k D1=some ⟨n1,[.t 4],cAL ft ca cl⟩) (hn1:2 ≤ n1) (hca:EE.ref ca=true) (h2:sF EE ca D2=some ⟨9,[.t 4],cCF ix⟩) (hix:EE.ref ix=true) (h3:sF EE ix D3=some ⟨19,[.t 4],cIF true sz⟩)
  (hcl:EE.ref cl=true) (h4:sF EE cl D4=some ⟨n2,[.t 3],cA1 ty sz⟩) (hn2:2 ≤ n2) (x:Slc α) (hx:x.l.length ≤ 9223372036854775807) (hr:EE.ref g=false) (q:α→Bool)
  (hq:∀ j,j < x.l.length→calL EE g [.st (f (x.l.getD j default))] []=some (.ret (.bool (q (x.l.getD j default))),[])):calL EE k [.s (x.sv f),.s (.func g)] []=some (.ret (.bool (x.l.all q)),[]):=by
 refine fn_ok h1 (by simpa using hn1) ?_
 unfold cAL
 simp only [go_sem,reduceIte,rA,rB,rC,rD]
 have hels:Els true sz f (fun x=>PV.st (f x)):=⟨h.len,h.pos,fun x=>by rw [loadS_t,if_pos (by rw [h.len]; omega),List.drop_zero,List.take_of_length_le (by rw [h.len]; omega)]⟩
 rw [box_s,WX_some]
 refine WC_cf (contains_func hels hca h2 hix h3 x hx (.func cl [] [.ptr 0 0]) (fun y => !q y) _ _ (fun j hj H1 n1 hn hH=>⟨(cl,[],[.ptr 0 0]),rfl,clo_ok (ft:=ft) h hcl h4 hn2 hr _ _ (hq j hj) 0 n1 H1 (by omega) ((hH 0 (by omega)).trans rfl)⟩)) ?_
 intro H1 n1 hn hH
 simp only [go_sem,reduceIte,rA,rB,rC,rD,any_not]
end
end Go.Vm
