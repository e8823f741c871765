/- The machine over chapter 24's program: its code is served; the example of the chapter. -/
import Derived.Test.YtaepmmmcipolbaaGreatDoorQSfA
import Derived.Test.YtaepmmmcipolbaaGreatDoorQSfE
section
set_option linter.unusedVariables false
set_option linter.unusedSimpArgs false
set_option maxRecDepth 100000
namespace Go.Vm
open Go.Proofs Go.RowKit
theorem codes24:codesB EE useL=true:=by kernel_rfl
theorem codesOk24:CodesOk EE:=codes_of codes24 (fun f hf=>by simpa [EE] using hf)
theorem awake24:calL EE 11 [] []=some (.ret (.bool true),[]):=cal_run (n:=400) (by kernel_rfl)
end Go.Vm
end
section
set_option linter.unusedVariables false
set_option linter.unusedSimpArgs false
set_option maxRecDepth 100000
namespace Go.Vm
open Nat renaming reduceEqDiff→rA,reduceAdd→rB,reduceLeDiff→rC,reduceLT→rD
open Go
theorem WV_s {E:Env} {dr:Bool} {g:FuncId} {args:List PV} {H:Ob} {n:Nat} {d T r Q} (h:WCs E dr g args H n d T r Q):WVs E dr (.s (.func g)) args H n d T r Q:=by
 obtain ⟨v,H1,n1,h1,h2⟩:=h
 exact ⟨(g,[],[]),rfl,v,H1,n1,by simpa using h1,h2⟩
theorem wrap_suc {j:Nat} (h:j < 9223372036854775807):IntKind.i64.wrap ((j:Int) + 1)=((j + 1:Nat):Int):=by
 rw [wrap_in (by omega) (by omega)]
 omega
theorem wrap_add {i j:Nat} (h:i + j ≤ 9223372036854775807):IntKind.i64.wrap ((i:Int) + (j:Int))=((i + j:Nat):Int):=by
 rw [wrap_in (by omega) (by omega)]
 omega
theorem drop_get {m:List UInt8} {i:Nat} (hi:i < m.length):m.drop i=m.getD i 0 :: m.drop (i + 1):=by
 rw [List.drop_eq_getElem_cons hi,List.getD_eq_getElem?_getD,List.getElem?_eq_getElem hi]; rfl
abbrev u8 (b:UInt8):PV := .s (.int .u8 (b.toNat:Int))
theorem forall_u8 {P:UInt8→Prop} (h:∀ n:Nat,n < 256→P (UInt8.ofNat n)) (b:UInt8):P b:=by
 have:=h b.toNat (by have:=b.toNat_lt; omega)
 rwa [UInt8.ofNat_toNat] at this
def isLet (b:UInt8):Bool:=(decide (65 ≤ b.toNat) && decide (b.toNat ≤ 90)) || (decide (97 ≤ b.toNat) && decide (b.toNat ≤ 122))
def isDig (b:UInt8):Bool:=decide (48 ≤ b.toNat) && decide (b.toNat ≤ 57)
def isWd (b:UInt8):Bool:=isLet b || isDig b || decide (b=95)
def mapB (f t:Nat) (b:UInt8):UInt8:=if f ≤ b.toNat ∧ b.toNat < f + 26 then UInt8.ofNat (b.toNat - f + t) else b
def bR (b:UInt8):List SV:=[.int .u8 b.toNat]
def storeA (ver i:Nat) (v:SV) (H:Ob) (id:Nat):HObj→Option Ob
 | .sarr ty sz v' false ap es=>if v'=ver then match es[i]? with
   | some c=>if 1 ≤ c.length then some (H.set id (.sarr ty sz v' false ap (es.set i (setCells c 0 [v])))) else none
   | none=>none
  else none
 | _=>none
theorem store_aptr {id ver i:Nat} {v:SV} {H:Ob}:storeM 1 H (.aptr id ver i 0) (.s v)=storeA ver i v H id (H id):=by
 simp only [storeM]
 cases H id with
 | sarr ty sz v' fz ap es =>
  cases fz with
  | true=>rfl
  | false =>
   simp only [storeA,PV.cells,toSVs,List.length_cons,List.length_nil,Nat.zero_add,and_true]
   by_cases h:v'=ver
   ·simp only [h,if_true]; cases es[i]? <;> rfl
   ·simp only [h,if_false]
 | _=>rfl
theorem storeA_map {ver i:Nat} {v:SV} {H:Ob} {id ty sz v':Nat} {ap:Bool} {l:List UInt8}:storeA ver i v H id (.sarr ty sz v' false ap (l.map bR))=gd (v'=ver ∧ i < l.length) (H.set id (.sarr ty sz v' false ap ((l.map bR).set i [v]))):=by
 simp only [storeA,List.getElem?_map]
 by_cases h:v'=ver
 ·by_cases h2:i < l.length
  ·simp [h,h2,List.getElem?_eq_getElem h2,gd,bR,setCells]
  ·simp [h,h2,List.getElem?_eq_none (Nat.le_of_not_lt h2),gd]
 ·simp [h,gd]
theorem bytesOf_map:∀ {l:List UInt8},bytesOf (l.map bR)=some l
 | []=>rfl
 | b :: l=>by
  have:bytesOf ((b :: l).map bR)=match bytesOf (l.map bR) with
   | some q=>some (UInt8.ofNat ((b.toNat:Int)).toNat :: q)
   | none=>none:=rfl
  rw [this,bytesOf_map]
  simp
theorem conv_hsl {H:Ob} {k id n:Nat} {ty sz ver:Nat} {fz ap:Bool} {l:List UInt8} (h:H id = .sarr ty sz ver fz ap (l.map bR)) (hn:n=l.length):convM (.str true) H k (.hsl id ver 0 n)=some (.s (.str l),H):=by
 have hr:rowsOf H (.hsl id ver 0 n)=some (l.map bR):=by
  simp only [rowsOf,h,hn,List.length_map,Nat.zero_add,Nat.le_refl,and_self,if_true,List.drop_zero]
  rw [List.take_of_length_le (by simp)]
 simp only [convM,hr,bytesOf_map]
theorem set_map {l:List UInt8} {i:Nat} {b:UInt8}:(l.map bR).set i [.int .u8 b.toNat]=(l.set i b).map bR:=by
 rw [List.map_set]; rfl
theorem mapB_val {f t:Nat} (b:UInt8) (hf:f + 26 ≤ 256) (ht:t + 26 ≤ 256) (h:f ≤ b.toNat ∧ b.toNat < f + 26):IntKind.u8.wrap (IntKind.u8.wrap ((b.toNat:Int) - f) + t)=((mapB f t b).toNat:Int):=by
 unfold mapB
 have e1:IntKind.u8.wrap ((b.toNat:Int) - f)=(b.toNat:Int) - f:=IntWalk.u8_in _ (by omega)
 rw [if_pos h,UInt8.toNat_ofNat',e1,IntWalk.u8_in _ (by omega)]
 omega
theorem set_getD:∀ {l:List UInt8} {j:Nat},l.set j (l.getD j 0)=l
 | [],_=>rfl
 | b :: l,0=>rfl
 | b :: l,j + 1=>by
  rw [List.set_cons_succ]
  exact congrArg _ set_getD
theorem mapped_ok {f t:Nat} (hf:f + 26 ≤ 255) (ht:t + 26 ≤ 255) (s:List UInt8) (hs:s.length ≤ 1000000):calL EE 163 [.str s,.s (.int .u8 f),.s (.int .u8 t)] []=some (.ret (.str (s.map (mapB f t))),[]):=by
 refine fn_ok f163 (by simp) ?_
 unfold c163
 simp only [go_sem,reduceIte,rA,rB,rC,rD,conv_bytes]
 refine ⟨by omega,?_⟩
 refine WP_scan rfl 14 s.length (fun _=>True) (fun j T H _=>H 2 = .sarr 5 1 0 false false (((s.take j).map (mapB f t) ++ s.drop j).map bR)) rfl rfl ?_ ?_
 ·rintro j T' H' n' hlt hk hi hH _
  have h1:T' 1 = .s (.int .u8 f):=hk 1 rfl
  have h2:T' 2 = .s (.int .u8 t):=hk 2 rfl
  have h7:T' 7 = .hsl 2 0 0 s.length:=hk 7 rfl
  have h12:T' 12 = .hsl 2 0 0 s.length:=hk 12 rfl
  have h13:T' 13 = .i64 s.length:=hk 13 rfl
  clear hk
  have hlen:((s.take j).map (mapB f t) ++ s.drop j).length=s.length:=by
   rw [List.length_append,List.length_map,List.length_take,List.length_drop]; omega
  have hget:((s.take j).map (mapB f t) ++ s.drop j).getD j 0=s.getD j 0:=by
   rw [List.getD_eq_getElem?_getD,List.getD_eq_getElem?_getD,List.getElem?_append_right (by rw [List.length_map,List.length_take]; omega),List.length_map,List.length_take,List.getElem?_drop,show j + (j - min j s.length)=j by omega]
  have hnext:(s.take (j + 1)).map (mapB f t) ++ s.drop (j + 1)=(((s.take j).map (mapB f t) ++ s.drop j)).set j (mapB f t (s.getD j 0)):=by
   rw [List.set_append_right _ _ (by rw [List.length_map,List.length_take]; omega),List.length_map,List.length_take,show j - min j s.length=0 by omega,drop_get hlt,List.set_cons_zero,take_step 0 hlt,List.map_append]
   simp
  have w26:IntKind.u8.wrap ((f:Int) + 26)=((f + 26:Nat):Int):=by rw [IntWalk.u8_in _ (by omega)]; omega
  simp only [go_sem,reduceIte,rA,rB,rC,rD,h1,h2,h7,h12,h13,hi,Int.ofNat_lt,hlt,decide_true,ia_hsl,hH,iaH_sarr,load_aptr,loadH_map,List.length_map,hlen,Int.toNat_natCast,hget,bR,wrap_suc (show j < 9223372036854775807 by omega),Nat.zero_add,true_and,and_true,w26,hget,u8_default,Nat.le_refl,Bool.and_eq_true,decide_eq_true_eq]
  by_cases hc:f ≤ (s.getD j 0).toNat ∧ (s.getD j 0).toNat < f + 26
  ·rw [if_pos ⟨by omega,by omega⟩]
   rw [store_aptr,hH,storeA_map,WX_gd]
   refine ⟨⟨rfl,by rw [hlen]; exact hlt⟩,?_⟩
   rw [mapB_val _ (by omega) (by omega) hc,set_map,hnext]
   rfl
  ·rw [if_neg (by omega),hnext]
   have:mapB f t (s.getD j 0)=((s.take j).map (mapB f t) ++ s.drop j).getD j 0:=by
    rw [hget]; unfold mapB; rw [if_neg hc]
   rw [this,set_getD]
 ·rintro T' H' n' hk hi hH _
  have h7:T' 7 = .hsl 2 0 0 s.length:=hk 7 rfl
  have h13:T' 13 = .i64 s.length:=hk 13 rfl
  clear hk
  rw [List.take_length,List.drop_length,List.append_nil] at hH
  simp only [go_sem,reduceIte,rA,rB,rC,rD,h7,h13,hi,Int.lt_irrefl,decide_false,conv_hsl hH (show s.length=(s.map (mapB f t)).length by simp)]
def kwL:List (List UInt8):=[[65,76,76],[65,78,68],[65,83],[66,69,71,73,78],[66,79,79,76,69,65,78],[66,89],[67,79,77,77,73,84],[67,79,85,78,84],[67,82,69,65,84,69],[68,69,76,69,84,69],[68,73,83,84,73,78,67,84],[68,82,79,80],[69,88,67,69,80,84],[69,88,73,83,84,83],[69,88,80,76,65,73,78],[70,65,76,83,69],[70,82,79,77],[71,82,79,85,80],[72,65,86,73,78,71],[73,78],[73,78,68,69,88],[73,78,83,69,82,84],[73,78,84,69,71,69,82],[73,78,84,69,82,83,69,67,84],[73,78,84,79],[75,69,89],[77,65,84,69,82,73,65,76,73,90,69,68],[77,65,88],[77,73,78],[78,79,84],[79,78],[79,82],[80,82,73,77,65,82,89],[82,69,67,85,82,83,73,86,69],[82,79,76,76,66,65,67,75],[83,69,76,69,67,84],[83,69,84],[83,85,77],[84,65,66,76,69],[84,69,88,84],[84,82,85,69],[85,78,73,79,78],[85,80,68,65,84,69],[86,65,76,85,69,83],[86,73,69,87],[87,72,69,82,69],[87,73,84,72]]
theorem kw_ok:calL EE 162 [] []=some (.ret (.s (.slice (kwL.map txRow) true)),[]):=cal_run (n:=100) (by kernel_rfl)
theorem kw_len:kwL.length=47:=rfl
theorem lt_cons {x y:UInt8} {a b:List UInt8}:bytesLt (x :: a) (y :: b)=(decide (x < y) || (x == y && bytesLt a b)):=rfl
theorem lt_trans:∀ {a b c:List UInt8},bytesLt a b=true→bytesLt b c=true→bytesLt a c=true
 | [],_,[],h1,h2=>by
  rename_i b
  cases b with
  | nil=>exact h2
  | cons y b=>cases h2
 | [],_,z :: c,h1,h2=>rfl
 | x :: a,[],c,h1,h2=>by cases h1
 | x :: a,y :: b,[],h1,h2=>by cases h2
 | x :: a,y :: b,z :: c,h1,h2=>by
  rw [lt_cons,Bool.or_eq_true,Bool.and_eq_true,decide_eq_true_eq,beq_iff_eq] at h1 h2 ⊢
  have e:∀ p q:UInt8,p < q ↔ p.toNat < q.toNat:=fun _ _=>Iff.rfl
  simp only [e] at h1 h2 ⊢
  rcases h1 with h1 | ⟨rfl,h1⟩
  ·rcases h2 with h2 | ⟨rfl,h2⟩
   ·exact .inl (by omega)
   ·exact .inl h1
  ·rcases h2 with h2 | ⟨rfl,h2⟩
   ·exact .inl h2
   ·exact .inr ⟨rfl,lt_trans h1 h2⟩
theorem lt_self:∀ {a:List UInt8},bytesLt a a=false
 | []=>rfl
 | x :: a=>by
  rw [lt_cons,lt_self,Bool.and_false,Bool.or_false,decide_eq_false_iff_not]
  exact fun h=>absurd (show x.toNat < x.toNat from h) (Nat.lt_irrefl _)
theorem kw_next:∀ i,i + 1 < 47→bytesLt (kwL.getD i []) (kwL.getD (i + 1) [])=true:=by
 have h:((List.range 46).all fun i=>bytesLt (kwL.getD i []) (kwL.getD (i + 1) []))=true:=by kernel_rfl
 intro i hi
 exact List.all_eq_true.1 h i (List.mem_range.2 (by omega))
theorem kw_lt {i:Nat}:∀ {j:Nat},i < j→j < 47→bytesLt (kwL.getD i []) (kwL.getD j [])=true
 | 0,h,_=>by omega
 | j + 1,h,hj=>by
  by_cases e:i=j
  ·subst e; exact kw_next i hj
  ·exact lt_trans (kw_lt (by omega) (by omega)) (kw_next j hj)
theorem less_ok (a b:List UInt8):calL EE 205 [.str a,.str b] []=some (.ret (.bool (bytesLt a b)),[]):=by
 have hn:∀ a:List UInt8,calL EE 224 [.str a] []=some (.ret (.bool false),[]):=by
  intro a
  refine fn_ok f224 (by simp) ?_
  unfold c224
  simp only [go_sem,reduceIte,rA,rB,rC,rD,decide_true]
 refine fn_ok f205 (by simp) ?_
 unfold c205
 simp only [go_sem,reduceIte,rA,rB,rC,rD]
 refine WC_p rfl rfl (hn a) ?_
 simp only [go_sem,reduceIte,rA,rB,rC,rD]
theorem nan_ok (a:List UInt8):calL EE 206 [.str a] []=some (.ret (.bool false),[]):=by
 refine fn_ok f206 (by simp) ?_
 unfold c206
 simp only [go_sem,reduceIte,rA,rB,rC,rD,decide_true]
theorem ia_kw {H:Ob} {k:IntKind} {i:Int}:indexAM (.sl 1) H (.s (.slice (kwL.map txRow) true)) (.s (.int k i))=gd (0 ≤ i ∧ i < 47) (.eptr (kwL.map txRow) i.toNat 0):=by
 have:=ia_sv (f:=txRow) (s := .mk kwL true) (size:=1) (H:=H) (k:=k) (i:=i) (fun _=>rfl) (by omega)
 exact this
theorem len_kw {H:Ob}:lenM (.sl 0) H (.s (.slice (kwL.map txRow) true))=some (.i64 47):=by
 have:=len_slice (es:=kwL.map txRow) (full:=true) (k:=0) (H:=H)
 rw [List.length_map,kw_len] at this
 exact this
theorem load_kw {i:Nat} {H:Ob}:loadM false 1 H (.eptr (kwL.map txRow) i 0)=gd (i < 47) (.str (kwL.getD i [])):=by
 rw [load_eptr,kw_len]
 rfl
theorem bi_shr1 {k':IntKind} {a:Int}:binM .shr .num (.s (.int .u64 a)) (.s (.int k' 1))=some (.s (.int .u64 (a.fdiv 2))):=by
 have e:((2:Int) ^ (min (Int.toNat 1) IntKind.u64.bits))=2:=rfl
 simp only [binM,binInt]
 rw [e]
 rfl
theorem half_nat {n:Nat} (h:n ≤ 1000000):IntKind.i64.wrap (Int.fdiv (IntKind.u64.wrap (n:Int)) 2)=((n / 2:Nat):Int):=by
 rw [IntWalk.u64_in _ (by omega),Int.fdiv_eq_ediv_of_nonneg _ (by omega)]
 have e:(n:Int) / 2=((n / 2:Nat):Int):=by omega
 rw [e,wrap_in (by omega) (by omega)]
theorem bs_ok (x:List UInt8):∃ v,calL EE 161 [.s (.slice (kwL.map txRow) true),.str x] []=some (.ret v,[]) ∧ ∃ i:Int,v = .tuple [.i64 i,.bool (decide (x ∈ kwL))]:=by
 refine fn_ex f161 (by simp) ?_
 unfold c161
 simp only [go_sem,reduceIte,rA,rB,rC,rD,len_kw]
 refine WP_loop rfl (fun k T H n=>∃ lo hi:Nat,lo + k=hi ∧ hi ≤ 47 ∧ T 7 = .i64 lo ∧ T 8 = .i64 hi ∧ (∀ j,j < lo→bytesLt (kwL.getD j []) x=true) ∧ (∀ j,hi ≤ j→j < 47→bytesLt (kwL.getD j []) x=false)) (k0:=47) ⟨0,47,rfl,Nat.le_refl _,rfl,rfl,fun j h=>by omega,fun j h h2=>by omega⟩ ?_
 rintro k T' H' n' hf ⟨lo,hi,hk,hle,h7,h8,hlo,hhi⟩
 have h0:T' 0 = .s (.slice (kwL.map txRow) true):=hf 0 rfl
 have h1:T' 1 = .str x:=hf 1 rfl
 have h6:T' 6 = .i64 47:=hf 6 rfl
 clear hf
 by_cases hlt:lo < hi
 ·have hw:=half_nat (n:=lo + hi) (by omega)
  have hg:0 ≤ (((lo + hi) / 2:Nat):Int) ∧ (((lo + hi) / 2:Nat):Int) < 47:=⟨by omega,by omega⟩
  simp only [go_sem,reduceIte,rA,rB,rC,rD,h0,h1,h7,h8,Int.ofNat_lt,hlt,decide_true,bi_shr1,wrap_add (show lo + hi ≤ 9223372036854775807 by omega),hw,ia_kw,load_kw,Int.toNat_natCast]
  refine ⟨⟨by omega,by omega⟩,?_⟩
  refine WC_p rfl rfl (less_ok _ _) ?_
  cases hb:bytesLt (kwL.getD ((lo + hi) / 2) []) x with
  | true =>
   simp only [go_sem,reduceIte,rA,rB,rC,rD,wrap_suc (show (lo + hi) / 2 < 9223372036854775807 by omega),h8]
   refine ⟨hi - ((lo + hi) / 2 + 1),by omega,(lo + hi) / 2 + 1,hi,by omega,hle,rfl,rfl,fun j hj => ?_,hhi⟩
   by_cases e:j=(lo + hi) / 2
   ·rw [e]; exact hb
   ·exact lt_trans (kw_lt (by omega) (by omega)) hb
  | false =>
   simp only [go_sem,reduceIte,rA,rB,rC,rD,h7]
   refine ⟨(lo + hi) / 2 - lo,by omega,lo,(lo + hi) / 2,by omega,by omega,rfl,rfl,hlo,fun j hj hj2 => ?_⟩
   by_cases e:j=(lo + hi) / 2
   ·rw [e]; exact hb
   ·cases hc:bytesLt (kwL.getD j []) x with
    | false=>rfl
    | true=>rw [lt_trans (kw_lt (by omega) hj2) hc] at hb; cases hb
 ·have e:lo=hi:=by omega
  subst e
  simp only [go_sem,reduceIte,rA,rB,rC,rD,h0,h1,h6,h7,h8,Int.lt_irrefl,decide_false,ia_kw,load_kw,Int.toNat_natCast]
  have hmem:∀ {y:List UInt8},y ∈ kwL→∃ j,j < 47 ∧ kwL.getD j []=y:=by
   intro y hy
   obtain ⟨j,hj,e⟩:=List.getElem_of_mem hy
   refine ⟨j,hj,?_⟩
   rw [List.getD_eq_getElem?_getD,List.getElem?_eq_getElem hj]
   exact e
  have hno:∀ {y:List UInt8},y=x→(lo < 47→kwL.getD lo [] ≠ x)→¬ y ∈ kwL:=by
   rintro y rfl hne hy
   obtain ⟨j,hj,e⟩:=hmem hy
   by_cases h1:j < lo
   ·have:=hlo j h1
    rw [e,lt_self] at this
    cases this
   ·by_cases h2:j=lo
    ·exact hne (by omega) (by rw [← h2]; exact e)
    ·have h3:=kw_lt (i:=lo) (j:=j) (by omega) hj
     rw [e,hhi lo (Nat.le_refl _) (by omega)] at h3
     cases h3
  by_cases h47:lo < 47
  ·have hd:decide ((lo:Int) < 47)=true:=decide_eq_true (by omega)
   have h47':(lo:Int) < 47:=by omega
   by_cases hx:kwL.getD lo []=x
   ·have hin:x ∈ kwL:=by rw [← hx]; exact getD_mem [] h47
    simp only [go_sem,reduceIte,rA,rB,rC,rD,h47,h47',hd,hx,decide_true,hin]
    exact ⟨_,rfl⟩
   ·have hin:¬ x ∈ kwL:=hno rfl (fun _=>hx)
    simp only [go_sem,reduceIte,rA,rB,rC,rD,h47,h47',hd,hx,decide_false,true_and,and_true]
    refine WC_p rfl rfl (nan_ok _) ?_
    simp only [go_sem,reduceIte,rA,rB,rC,rD,h1,h6,h7,h47,h47',hd,hx,decide_false,hin]
    exact ⟨_,rfl⟩
  ·have hd:decide ((lo:Int) < 47)=false:=decide_eq_false (by omega)
   have hin:¬ x ∈ kwL:=hno rfl (fun h=>absurd h h47)
   simp only [go_sem,reduceIte,rA,rB,rC,rD,hd,hin,decide_false]
   exact ⟨_,rfl⟩
def isKw (s:List UInt8):Bool:=decide (s.map (mapB 97 65) ∈ kwL)
theorem isKw_ok (s:List UInt8) (hs:s.length ≤ 1000000):calL EE 116 [.str s] []=some (.ret (.bool (isKw s)),[]):=by
 refine fn_ok f116 (by simp) ?_
 unfold c116
 simp only [go_sem,reduceIte,rA,rB,rC,rD]
 refine WC_p rfl rfl kw_ok ?_
 simp only [go_sem,reduceIte,rA,rB,rC,rD]
 refine WC_p rfl rfl (mapped_ok (f:=97) (t:=65) (by omega) (by omega) s hs) ?_
 simp only [go_sem,reduceIte,rA,rB,rC,rD]
 obtain ⟨v,hv,i,rfl⟩:=bs_ok (s.map (mapB 97 65))
 refine WC_p rfl rfl hv ?_
 simp only [go_sem,reduceIte,rA,rB,rC,rD,isKw,extractV,List.getElem?_cons_succ,List.getElem?_cons_zero]
end Go.Vm
end
