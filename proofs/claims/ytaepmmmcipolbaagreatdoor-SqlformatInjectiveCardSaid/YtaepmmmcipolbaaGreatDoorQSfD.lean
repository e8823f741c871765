/- Chapter 24: expressions as data; which are valid, what their texts are. -/
import Derived.Test.YtaepmmmcipolbaaGreatDoorQSfT
section
set_option linter.unusedVariables false
set_option linter.unusedSimpArgs false
set_option maxRecDepth 100000
namespace Go.Vm
open Go
inductive Tr where
 | mk (k:Int) (v:Val) (tb nm:List UInt8) (op fn:Int) (fl:Option Bool) (xs:List Tr)
instance:Inhabited Tr:=⟨.mk 0 ⟨0,0,[]⟩ [] [] 0 0 none []⟩
def slSV:Option Bool→List (List SV)→SV
 | none,[] => .nils
 | none,c :: r => .slice (c :: r) false
 | some b,r => .slice r b
mutual
def Tr.row:Tr→List SV
 | .mk k v tb nm op fn fl xs=>[.int .i64 k,.int .i64 v.kind,.int .i64 v.n,.str v.text,.str tb,.str nm,.int .i64 op,.int .i64 fn,slSV fl (Tr.rows xs)]
def Tr.rows:List Tr→List (List SV)
 | []=>[]
 | t :: r=>t.row :: Tr.rows r
end
theorem rows_map:∀ l:List Tr,Tr.rows l=l.map Tr.row
 | []=>by rw [Tr.rows]; rfl
 | t :: r=>by rw [Tr.rows,rows_map r]; rfl
def mkS {α:Type}:Option Bool→List α→Slc α
 | none,[] => .nil
 | none,c :: r => .mk (c :: r) false
 | some b,r => .mk r b
theorem mkS_l {α:Type} (fl:Option Bool) (l:List α):(mkS fl l).l=l:=by
 cases fl with
 | none=>cases l <;> rfl
 | some b=>rfl
theorem mkS_sv {α:Type} {f:α→List SV} (fl:Option Bool) (l:List α):(mkS fl l).sv f=slSV fl (l.map f):=by
 cases fl with
 | none=>cases l <;> rfl
 | some b=>rfl
theorem row_mk {k v tb nm op fn fl xs}:(Tr.mk k v tb nm op fn fl xs).row=[.int .i64 k,.int .i64 v.kind,.int .i64 v.n,.str v.text,.str tb,.str nm,.int .i64 op,.int .i64 fn,(mkS fl xs).sv Tr.row]:=by
 rw [Tr.row,rows_map,mkS_sv]
def Tr.args:Tr→List Tr
 | .mk _ _ _ _ _ _ _ xs=>xs
mutual
def eqT:Tr→Tr→Bool
 | .mk k v tb nm op fn _ xs,.mk k' v' tb' nm' op' fn' _ xs'=>decide (k=k') && decide (v=v') && decide (tb=tb') && decide (nm=nm') && decide (op=op') && decide (fn=fn') && eqL xs xs'
def eqL:List Tr→List Tr→Bool
 | [],[]=>true
 | a :: r,b :: r'=>eqT a b && eqL r r'
 | [],_ :: _=>false
 | _ :: _,[]=>false
end
def isLow (b:UInt8):Bool:=decide (97 ≤ b.toNat) && decide (b.toNat ≤ 122)
def nmB (b:UInt8):Bool:=isLow b || isDig b || decide (b=95)
def nameV (s:List UInt8):Bool := !decide (s=[]) && decide (s.length ≤ 31) && isLow (s.getD 0 0) && !isKw s && s.all nmB
def optV (s:List UInt8):Bool:=decide (s=[]) || nameV s
def arI (op:Int):Nat:=if op=3 ∨ op=13 then 1 else 2
def vldB (k:Int) (v:Val) (tb nm:List UInt8) (op fn:Int) (n:Nat) (va:Bool):Bool :=
 if k=0 then validV v && decide (0 ≤ v.n) && decide (tb=[]) && decide (nm=[]) && decide (op=0) && decide (fn=0) && decide (n=0)
 else if k=1 then nameV nm && optV tb && decide (v=vz) && decide (op=0) && decide (fn=0) && decide (n=0)
 else if k=2 then decide (0 ≤ op) && decide (op ≤ 13) && decide (n=arI op) && va && decide (v=vz) && decide (tb=[]) && decide (nm=[]) && decide (fn=0)
 else false
mutual
def vld:Tr→Bool
 | .mk k v tb nm op fn _ xs=>vldB k v tb nm op fn xs.length (vldL xs)
def vldL:List Tr→Bool
 | []=>true
 | a :: r=>vld a && vldL r
end
theorem vldL_all:∀ l:List Tr,vldL l=l.all vld
 | []=>by rw [vldL]; rfl
 | a :: r=>by rw [vldL,vldL_all r,List.all_cons]
def cal:Tr→Bool
 | .mk k v tb nm op fn _ xs=>decide (k=3) && decide (0 ≤ fn) && decide (fn ≤ 3) && decide (xs.length ≤ 1) && vldL xs && (decide (xs.length=1) || decide (fn=0)) && decide (v=vz) && decide (tb=[]) && decide (nm=[]) && decide (op=0)
def lvO (op:Int):Int:=if op=12 then 1 else if op=11 then 2 else if op=13 then 3 else if op=0 ∨ op=1 ∨ op=4 then 5 else if op=2 then 6 else if op=3 then 7 else 4
def lvl:Tr→Int
 | .mk k _ _ _ op _ _ _=>if k=2 then lvO op else 8
def symT:List (List UInt8):=[[43],[45],[42],[45],[124,124],[61],[60,62],[60],[60,61],[62],[62,61],[65,78,68],[79,82],[78,79,84]]
def fnT:List (List UInt8):=[[67,79,85,78,84],[83,85,77],[77,73,78],[77,65,88]]
def atP (p:Int × List UInt8) (req:Int):List UInt8:=if p.1 < req then 40 :: (p.2 ++ [41]) else p.2
def notT:List UInt8:=[78,79,84,32]
def opT (op:Int) (ps:List (Int × List UInt8)):List UInt8 :=
 if op=13 then notT ++ atP (ps.getD 0 (0,[])) (lvO op) else if op=3 then 45 :: atP (ps.getD 0 (0,[])) 8 else
 atP (ps.getD 0 (0,[])) (if lvO op=4 then 5 else lvO op) ++ [32] ++ symT.getD op.toNat [] ++ [32] ++ atP (ps.getD 1 (0,[])) (lvO op + 1)
def txtB (k:Int) (v:Val) (tb nm:List UInt8) (op fn:Int) (ps:List (Int × List UInt8)):List UInt8 :=
 if k=0 then fmtV v else if k=1 then (if tb=[] then nm else tb ++ [46] ++ nm) else
 if k=3 then fnT.getD fn.toNat [] ++ (match ps with
  | []=>[40,42,41]
  | p :: _=>40 :: (p.2 ++ [41])) else opT op ps
mutual
def txt:Tr→List UInt8
 | .mk k v tb nm op fn _ xs=>txtB k v tb nm op fn (ptx xs)
def ptx:List Tr→List (Int × List UInt8)
 | []=>[]
 | a :: r=>(lvl a,txt a) :: ptx r
end
theorem ptx_map:∀ l:List Tr,ptx l=l.map fun a=>(lvl a,txt a)
 | []=>by rw [ptx]; rfl
 | a :: r=>by rw [ptx,ptx_map r]; rfl
def exprV (t:Tr):List UInt8:=if vld t || cal t then txt t else []
mutual
def cnt:Tr→Nat
 | .mk _ _ _ _ _ _ _ xs=>cntL xs + 1
def cntL:List Tr→Nat
 | []=>0
 | a :: r=>cnt a + cntL r
end
theorem cnt_pos (t:Tr):1 ≤ cnt t:=by cases t; rw [cnt]; omega
theorem cnt_mem:∀ {l:List Tr} {a:Tr},a ∈ l→cnt a ≤ cntL l
 | b :: r,a,h=>by
  rw [cntL]
  rcases List.mem_cons.1 h with rfl | h
  ·omega
  ·have:=cnt_mem h; omega
def nodeC (v:Val) (tb nm:List UInt8) (b:Int):Int:=IntKind.i64.wrap (b - IntKind.i64.wrap (1 + (IntKind.i64.wrap (IntKind.i64.wrap ((nm.length:Int) + tb.length) + v.text.length)).tdiv 40))
mutual
def nod:Tr→Int→Int
 | .mk _ v tb nm _ _ _ xs,b=>nodL xs (nodeC v tb nm b)
def nodL:List Tr→Int→Int
 | [],b=>b
 | a :: r,b=>if b < 0 then b else nodL r (nod a b)
end
end Go.Vm
end
section
set_option linter.unusedVariables false
set_option linter.unusedSimpArgs false
set_option maxRecDepth 100000
namespace Go.Vm
open List renaming length_append→lA,length_cons→lB,length_nil→lC
open Go
mutual
theorem eqT_self:∀ t:Tr,eqT t t=true
 | .mk k v tb nm op fn fl xs=>by rw [eqT,eqL_self xs]; simp
theorem eqL_self:∀ l:List Tr,eqL l l=true
 | []=>by rw [eqL]
 | a :: r=>by rw [eqL,eqT_self a,eqL_self r]; rfl
end
theorem eqL_nil (l:List Tr):eqL l []=decide (l.length=0):=by
 cases l with
 | nil=>rw [eqL]; rfl
 | cons a r=>rw [eqL]; rfl
theorem val_pos {v:Val} (h:validV v=true):v.kind ≠ 0→0 ≤ v.n:=by
 intro h0
 unfold validV at h
 rw [if_neg h0] at h
 split at h
 ·simp only [Bool.and_eq_true,decide_eq_true_eq] at h; omega
 ·split at h
  ·simp only [Bool.and_eq_true,Bool.or_eq_true,decide_eq_true_eq] at h; omega
  ·cases h
mutual
def wf:Tr→Prop
 | .mk _ v _ _ _ _ _ xs=>bigV v ∧ xs.length ≤ 9223372036854775807 ∧ wfL xs
def wfL:List Tr→Prop
 | []=>True
 | a :: r=>wf a ∧ wfL r
end
mutual
def sm:Tr→Prop
 | .mk _ v tb nm _ _ _ xs=>v.text.length ≤ 255 ∧ tb.length ≤ 31 ∧ nm.length ≤ 31 ∧ smL xs
def smL:List Tr→Prop
 | []=>True
 | a :: r=>sm a ∧ smL r
end
theorem name_len {s:List UInt8} (h:nameV s=true):s.length ≤ 31:=by
 unfold nameV at h
 simp only [Bool.and_eq_true,decide_eq_true_eq] at h
 exact h.1.1.1.2
theorem opt_len {s:List UInt8} (h:optV s=true):s.length ≤ 31:=by
 unfold optV at h
 rw [Bool.or_eq_true,decide_eq_true_eq] at h
 rcases h with rfl | h
 ·simp
 ·exact name_len h
theorem val_len {v:Val} (h:validV v=true):v.text.length ≤ 255:=by
 unfold validV at h
 split at h
 ·simp only [decide_eq_true_eq] at h; rw [h]; simp
 ·split at h
  ·simp only [Bool.and_eq_true,decide_eq_true_eq] at h; exact h.2
  ·split at h
   ·simp only [Bool.and_eq_true,decide_eq_true_eq] at h; rw [h.2]; simp
   ·cases h
theorem vld_cases {k:Int} {v:Val} {tb nm:List UInt8} {op fn:Int} {n:Nat} {va:Bool} (h:vldB k v tb nm op fn n va=true) :
  (k=0 ∧ validV v=true ∧ 0 ≤ v.n ∧ tb=[] ∧ nm=[] ∧ op=0 ∧ fn=0 ∧ n=0) ∨ (k=1 ∧ nameV nm=true ∧ optV tb=true ∧ v=vz ∧ op=0 ∧ fn=0 ∧ n=0) ∨
  (k=2 ∧ 0 ≤ op ∧ op ≤ 13 ∧ n=arI op ∧ va=true ∧ v=vz ∧ tb=[] ∧ nm=[] ∧ fn=0):=by
 unfold vldB at h
 split at h
 ·rename_i hk
  simp only [Bool.and_eq_true,decide_eq_true_eq] at h
  obtain ⟨⟨⟨⟨⟨⟨h1,h2⟩,h3⟩,h4⟩,h5⟩,h6⟩,h7⟩:=h
  exact .inl ⟨hk,h1,h2,h3,h4,h5,h6,h7⟩
 ·split at h
  ·rename_i hk
   simp only [Bool.and_eq_true,decide_eq_true_eq] at h
   obtain ⟨⟨⟨⟨⟨h1,h2⟩,h3⟩,h4⟩,h5⟩,h6⟩:=h
   exact .inr (.inl ⟨hk,h1,h2,h3,h4,h5,h6⟩)
  ·split at h
   ·rename_i hk
    simp only [Bool.and_eq_true,decide_eq_true_eq] at h
    obtain ⟨⟨⟨⟨⟨⟨⟨h1,h2⟩,h3⟩,h4⟩,h5⟩,h6⟩,h7⟩,h8⟩:=h
    exact .inr (.inr ⟨hk,h1,h2,h3,h4,h5,h6,h7,h8⟩)
   ·cases h
theorem cal_cases {k:Int} {v:Val} {tb nm:List UInt8} {op fn:Int} {fl:Option Bool} {xs:List Tr} (h:cal (.mk k v tb nm op fn fl xs)=true) :
  k=3 ∧ 0 ≤ fn ∧ fn ≤ 3 ∧ xs.length ≤ 1 ∧ vldL xs=true ∧ (xs.length=1 ∨ fn=0) ∧ v=vz ∧ tb=[] ∧ nm=[] ∧ op=0:=by
 rw [cal] at h
 simp only [Bool.and_eq_true,Bool.or_eq_true,decide_eq_true_eq] at h
 obtain ⟨⟨⟨⟨⟨⟨⟨⟨⟨h1,h2⟩,h3⟩,h4⟩,h5⟩,h6⟩,h7⟩,h8⟩,h9⟩,h10⟩:=h
 exact ⟨h1,h2,h3,h4,h5,h6,h7,h8,h9,h10⟩
theorem nilL {α:Type} {l:List α} (h:l.length=0):l=[]:=List.length_eq_zero_iff.1 h
mutual
theorem vld_sm:∀ t:Tr,vld t=true→sm t
 | .mk k v tb nm op fn fl xs,h=>by
  rw [vld] at h
  rw [sm]
  rcases vld_cases h with ⟨_,h1,_,h3,h4,_,_,h7⟩ | ⟨_,h1,h2,h3,_,_,h7⟩ | ⟨_,_,_,_,h5,h6,h7,h8,_⟩
  ·subst h3; subst h4
   rw [nilL h7]
   exact ⟨val_len h1,by simp,by simp,trivial⟩
  ·subst h3
   rw [nilL h7]
   exact ⟨by show ([]:List UInt8).length ≤ 255; simp,opt_len h2,name_len h1,trivial⟩
  ·subst h6; subst h7; subst h8
   exact ⟨by show ([]:List UInt8).length ≤ 255; simp,by simp,by simp,vldL_sm xs h5⟩
theorem vldL_sm:∀ l:List Tr,vldL l=true→smL l
 | [],_=>by rw [smL]; trivial
 | a :: r,h=>by
  rw [vldL,Bool.and_eq_true] at h
  rw [smL]
  exact ⟨vld_sm a h.1,vldL_sm r h.2⟩
end
theorem cal_sm:∀ t:Tr,cal t=true→sm t
 | .mk k v tb nm op fn fl xs,h=>by
  obtain ⟨_,_,_,_,h5,_,h7,h8,h9,_⟩:=cal_cases h
  rw [sm]
  subst h7; subst h8; subst h9
  exact ⟨by show ([]:List UInt8).length ≤ 255; simp,by simp,by simp,vldL_sm xs h5⟩
theorem nodeC_of {v:Val} {tb nm:List UInt8} {b:Int} (h1:v.text.length ≤ 255) (h2:tb.length ≤ 31) (h3:nm.length ≤ 31) (hb : -100 ≤ b ∧ b ≤ 1000000):b - 10 ≤ nodeC v tb nm b ∧ nodeC v tb nm b ≤ b - 1:=by
 unfold nodeC
 rw [wrap_in (x:=(nm.length:Int) + tb.length) (by omega) (by omega),wrap_in (x:=(nm.length:Int) + tb.length + v.text.length) (by omega) (by omega)]
 have e:((nm.length:Int) + tb.length + v.text.length).tdiv 40=(((nm.length + tb.length + v.text.length) / 40:Nat):Int):=by
  rw [Int.tdiv_eq_ediv_of_nonneg (by omega)]; omega
 have hq:(((nm.length + tb.length + v.text.length) / 40:Nat):Int) ≤ 9:=by omega
 rw [e]
 generalize (((nm.length + tb.length + v.text.length) / 40:Nat):Int)=q at hq e
 have hq0:0 ≤ q:=by rw [← e]; exact Int.tdiv_nonneg (by omega) (by omega)
 rw [wrap_in (x:=1 + q) (by omega) (by omega),wrap_in (by omega) (by omega)]
 omega
mutual
theorem nod_cnt:∀ (t:Tr) (b:Int),sm t → -100 ≤ b→b ≤ 1000000→0 ≤ b → -100 ≤ nod t b ∧ nod t b ≤ b ∧ (0 ≤ nod t b→cnt t + nod t b ≤ b)
 | .mk k v tb nm op fn fl xs,b,h,h1,h2,h3=>by
  rw [sm] at h
  obtain ⟨g1,g2,g3,g4⟩:=h
  have hc:=nodeC_of g1 g2 g3 (b:=b) ⟨h1,h2⟩
  obtain ⟨k1,k2,k3⟩:=nodL_cnt xs (nodeC v tb nm b) g4 (by omega) (by omega)
  rw [nod,cnt]
  exact ⟨k1,by omega,fun h=>by have:=k3 h; omega⟩
theorem nodL_cnt:∀ (l:List Tr) (b:Int),smL l → -100 ≤ b→b ≤ 1000000 → -100 ≤ nodL l b ∧ nodL l b ≤ b ∧ (0 ≤ nodL l b→cntL l + nodL l b ≤ b)
 | [],b,_,h1,h2=>by rw [nodL,cntL]; exact ⟨h1,Int.le_refl _,fun _=>by omega⟩
 | a :: r,b,h,h1,h2=>by
  rw [smL] at h
  rw [nodL,cntL]
  split
  ·exact ⟨h1,Int.le_refl _,fun _=>by omega⟩
  ·obtain ⟨k1,k2,k3⟩:=nod_cnt a b h.1 h1 h2 (by omega)
   obtain ⟨m1,m2,m3⟩:=nodL_cnt r (nod a b) h.2 k1 (by omega)
   exact ⟨m1,by omega,fun h=>by have:=m3 h; have:=k3 (by omega); omega⟩
end
def sumL:List (Int × List UInt8)→Nat
 | []=>0
 | p :: r=>p.2.length + sumL r
theorem at_len (p:Int × List UInt8) (q:Int):(atP p q).length ≤ p.2.length + 2:=by
 unfold atP
 split
 ·simp
 ·omega
theorem two_sum:∀ ps:List (Int × List UInt8),(ps.getD 0 (0,[])).2.length + (ps.getD 1 (0,[])).2.length ≤ sumL ps
 | []=>Nat.le_refl _
 | [p]=>by simp [sumL]
 | p :: q :: r=>by simp [sumL]
theorem sym_le (n:Nat):(symT.getD n []).length ≤ 3:=by
 have h:((List.range 14).all fun i=>decide ((symT.getD i []).length ≤ 3))=true:=by kernel_rfl
 by_cases hi:n < 14
 ·exact of_decide_eq_true (List.all_eq_true.1 h n (List.mem_range.2 hi))
 ·rw [List.getD_eq_getElem?_getD,List.getElem?_eq_none (by show 14 ≤ n; omega)]; simp
theorem fn_le (n:Nat):(fnT.getD n []).length ≤ 5:=by
 have h:((List.range 4).all fun i=>decide ((fnT.getD i []).length ≤ 5))=true:=by kernel_rfl
 by_cases hi:n < 4
 ·exact of_decide_eq_true (List.all_eq_true.1 h n (List.mem_range.2 hi))
 ·rw [List.getD_eq_getElem?_getD,List.getElem?_eq_none (by show 4 ≤ n; omega)]; simp
theorem op_len (op:Int) (ps:List (Int × List UInt8)):(opT op ps).length ≤ sumL ps + 20:=by
 have h:=two_sum ps
 unfold opT
 split
 ·have:=at_len (ps.getD 0 (0,[])) (lvO op)
  rw [List.length_append]
  have:notT.length=4:=rfl
  omega
 ·split
  ·have:=at_len (ps.getD 0 (0,[])) 8
   rw [List.length_cons]
   omega
  ·have h1:=at_len (ps.getD 0 (0,[])) (if lvO op=4 then 5 else lvO op)
   have h2:=at_len (ps.getD 1 (0,[])) (lvO op + 1)
   have h3:=sym_le op.toNat
   simp only [lA,lB,lC]
   omega
theorem fmt_len {v:Val} (hb:bigV v) (h:validV v=true):(fmtV v).length ≤ 520:=by
 have hl:=val_len h
 unfold fmtV
 rw [if_neg (by rw [h]; simp)]
 split
 ·unfold bigV at hb
  by_cases hn:v.n < 0
  ·rw [itoa_neg hn]
   have:=dec_len' v.n.natAbs (by omega)
   simp only [List.length_cons]
   omega
  ·rw [itoa_pos hn]
   have:=dec_len' v.n.toNat (by omega)
   omega
 ·split
  ·have:=q2_len v.text
   simp only [List.length_cons,List.length_append,List.length_nil]
   omega
  ·split
   ·simp
   ·simp
mutual
theorem txt_len:∀ t:Tr,wf t→vld t=true→(txt t).length ≤ 600 * cnt t
 | .mk k v tb nm op fn fl xs,hw,h=>by
  rw [wf] at hw
  rw [vld] at h
  rw [txt,cnt]
  rcases vld_cases h with ⟨rfl,h1,_⟩ | ⟨rfl,h1,h2,_⟩ | ⟨rfl,_,_,_,h5,_⟩
  ·unfold txtB
   rw [if_pos rfl]
   have:=fmt_len hw.1 h1
   omega
  ·unfold txtB
   rw [if_neg (by decide),if_pos rfl]
   have k1:=name_len h1
   have k2:=opt_len h2
   split
   ·omega
   ·simp only [lA,lB,lC]; omega
  ·unfold txtB
   rw [if_neg (by decide),if_neg (by decide),if_neg (by decide)]
   have k1:=op_len op (ptx xs)
   have k2:=ptx_len xs hw.2.2 h5
   omega
theorem ptx_len:∀ l:List Tr,wfL l→vldL l=true→sumL (ptx l) ≤ 600 * cntL l
 | [],_,_=>by rw [ptx]; exact Nat.zero_le _
 | a :: r,hw,h=>by
  rw [wfL] at hw
  rw [vldL,Bool.and_eq_true] at h
  rw [ptx,sumL,cntL]
  have k1:=txt_len a hw.1 h.1
  have k2:=ptx_len r hw.2 h.2
  show (txt a).length + _ ≤ _
  omega
end
end Go.Vm
end
section
set_option linter.unusedVariables false
set_option linter.unusedSimpArgs false
set_option maxRecDepth 100000
namespace Go.Vm
open Go
abbrev RB:Nat:=140737488351232
mutual
def rc:Tr→Prop
 | .mk _ v tb nm _ _ _ xs=>v.text.length ≤ RB ∧ tb.length ≤ RB ∧ nm.length ≤ RB ∧ rcL xs
def rcL:List Tr→Prop
 | []=>True
 | a :: r=>rc a ∧ rcL r
end
theorem rcL_of:∀ {l:List Tr},(∀ x ∈ l,rc x)→rcL l
 | [],_=>by rw [rcL]; trivial
 | a :: r,h=>by rw [rcL]; exact ⟨h a (List.mem_cons_self ..),rcL_of fun x hx=>h x (List.mem_cons_of_mem _ hx)⟩
theorem nodeC_rc {v:Val} {tb nm:List UInt8} {b:Int} (h1:v.text.length ≤ RB) (h2:tb.length ≤ RB) (h3:nm.length ≤ RB) (hb : -1000000000000000 ≤ b ∧ b ≤ 1000000):b - 100000000000000 ≤ nodeC v tb nm b ∧ nodeC v tb nm b ≤ b - 1:=by
 unfold nodeC
 have hRB:RB=140737488351232:=rfl
 rw [wrap_in (x:=(nm.length:Int) + tb.length) (by omega) (by omega),wrap_in (x:=(nm.length:Int) + tb.length + v.text.length) (by omega) (by omega)]
 have e:((nm.length:Int) + tb.length + v.text.length).tdiv 40=(((nm.length + tb.length + v.text.length) / 40:Nat):Int):=by
  rw [Int.tdiv_eq_ediv_of_nonneg (by omega)]; omega
 have hq:(((nm.length + tb.length + v.text.length) / 40:Nat):Int) ≤ 20000000000000:=by omega
 rw [e]
 generalize (((nm.length + tb.length + v.text.length) / 40:Nat):Int)=q at hq e
 have hq0:0 ≤ q:=by rw [← e]; exact Int.tdiv_nonneg (by omega) (by omega)
 rw [wrap_in (x:=1 + q) (by omega) (by omega),wrap_in (by omega) (by omega)]
 omega
mutual
theorem nod_rc:∀ (t:Tr),rc t→∀ b:Int,-100000000000000 ≤ b→b ≤ 1000000 → -300000000000000 ≤ nod t b ∧ nod t b ≤ b - 1 ∧ (0 ≤ nod t b→(cnt t:Int) + nod t b ≤ b)
 | .mk k v tb nm op fn fl xs,h,b,h1,h2=>by
  rw [rc] at h
  obtain ⟨g1,g2,g3,g4⟩:=h
  have hc:=nodeC_rc g1 g2 g3 (b:=b) ⟨by omega,h2⟩
  obtain ⟨k1,k2,k3⟩:=nodL_rc xs g4 (nodeC v tb nm b) (by omega) (by omega)
  rw [nod,cnt]
  exact ⟨k1,by omega,fun h=>by have:=k3 h; omega⟩
theorem nodL_rc:∀ (l:List Tr),rcL l→∀ b:Int,-300000000000000 ≤ b→b ≤ 1000000 → -300000000000000 ≤ nodL l b ∧ nodL l b ≤ b ∧ (0 ≤ nodL l b→(cntL l:Int) + nodL l b ≤ b)
 | [],_,b,h1,h2=>by rw [nodL,cntL]; exact ⟨h1,Int.le_refl _,fun _=>by omega⟩
 | a :: r,h,b,h1,h2=>by
  rw [rcL] at h
  rw [nodL,cntL]
  split
  ·exact ⟨h1,Int.le_refl _,fun _=>by omega⟩
  ·obtain ⟨k1,k2,k3⟩:=nod_rc a h.1 b (by omega) h2
   obtain ⟨m1,m2,m3⟩:=nodL_rc r h.2 (nod a b) k1 (by omega)
   exact ⟨m1,by omega,fun h=>by have:=m3 h; have:=k3 (by omega); omega⟩
end
end Go.Vm
end
