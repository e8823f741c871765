/- Chapter 24: equal expressions have equal texts; both ways together; lists of things that are told apart by their tokens. -/
import Derived.Test.YtaepmmmcipolbaaGreatDoorQSfIa
import Derived.Test.YtaepmmmcipolbaaGreatDoorQSfH
import Derived.Test.YtaepmmmcipolbaaGreatDoorQSfTd
section
set_option linter.unusedVariables false
set_option linter.unusedSimpArgs false
set_option maxRecDepth 100000
namespace Go.Vm
open Go
theorem lvl_can (x:Tr):lvl (canT x)=lvl x:=by
 cases x
 rw [canT]
 rfl
mutual
theorem txt_can:∀ x:Tr,txt (canT x)=txt x
 | .mk k v tb nm op fn fl xs=>by
  rw [canT,txt,txt,ptx_can xs]
theorem ptx_can:∀ l:List Tr,ptx (canL l)=ptx l
 | []=>by rw [canL]
 | a :: r=>by
  rw [canL,ptx,ptx,lvl_can a,txt_can a,ptx_can r]
end
theorem txt_eq {x y:Tr} (h:eqT x y=true):txt x=txt y:=by
 rw [← txt_can x,(eqT_can x y).1 h,txt_can]
theorem txt_iff {x y:Tr} (hx:vld x=true) (hy:vld y=true):decide (txt x=txt y)=eqT x y:=by
 rw [Bool.eq_iff_iff,decide_eq_true_eq]
 exact ⟨txt_inj hx hy,txt_eq⟩
def PF {α:Type} (F:List Tok→Prop) (V:α→Prop) (t:α→List Tok) (q:α→α→Bool):Prop:=∀ x y,V x→V y→∀ r r',F r→F r'→t x ++ r=t y ++ r'→q x y=true ∧ r=r'
def joinK {α:Type} (s:Tok) (t:α→List Tok):List α→List Tok
 | []=>[]
 | [a]=>t a
 | a :: b :: l=>t a ++ s :: joinK s t (b :: l)
theorem pf_list {α:Type} {F G:List Tok→Prop} {V:α→Prop} {t:α→List Tok} {q:α→α→Bool} {s:Tok} (h:PF F V t q) (hs:∀ r,F (s :: r)) (hg:∀ r,G r→F r ∧ ∀ r',¬ r=s :: r') :
  ∀ l l':List α,¬ l=[]→¬ l'=[]→(∀ x ∈ l,V x)→(∀ x ∈ l',V x)→∀ r r',G r→G r'→joinK s t l ++ r=joinK s t l' ++ r'→eqF q l l'=true ∧ r=r'
 | [],_,h0,_,_,_,_,_,_,_,_=>absurd rfl h0
 | _ :: _,[],_,h0,_,_,_,_,_,_,_=>absurd rfl h0
 | [a],[b],_,_,ha,hb,r,r',g,g',e=>by
  obtain ⟨k1,k2⟩:=h a b (ha a (by simp)) (hb b (by simp)) r r' (hg r g).1 (hg r' g').1 e
  exact ⟨by rw [eqF,k1]; rfl,k2⟩
 | [a],b :: c :: l',_,_,ha,hb,r,r',g,g',e=>by
  rw [joinK,joinK,List.append_assoc] at e
  obtain ⟨_,k2⟩:=h a b (ha a (by simp)) (hb b (by simp)) r _ (hg r g).1 (hs _) e
  exact absurd k2 ((hg r g).2 _)
 | a :: c :: l,[b],_,_,ha,hb,r,r',g,g',e=>by
  rw [joinK,joinK,List.append_assoc] at e
  obtain ⟨_,k2⟩:=h a b (ha a (by simp)) (hb b (by simp)) _ r' (hs _) (hg r' g').1 e
  exact absurd k2.symm ((hg r' g').2 _)
 | a :: c :: l,b :: d :: l',_,_,ha,hb,r,r',g,g',e=>by
  rw [joinK,joinK,List.append_assoc,List.append_assoc] at e
  obtain ⟨k1,k2⟩:=h a b (ha a (by simp)) (hb b (by simp)) _ _ (hs _) (hs _) e
  injection k2 with _ k2
  obtain ⟨m1,m2⟩:=pf_list h hs hg (c :: l) (d :: l') nofun nofun (fun x hx=>ha x (List.mem_cons_of_mem _ hx)) (fun x hx=>hb x (List.mem_cons_of_mem _ hx)) r r' g g' k2
  exact ⟨by rw [eqF,k1,m1]; rfl,m2⟩
end Go.Vm
end
section
set_option linter.unusedVariables false
set_option linter.unusedSimpArgs false
set_option maxRecDepth 100000
namespace Go.Vm
open Go
def wdO (w:List UInt8):Prop:=nameV w=true ∨ w.all isDig=true ∨ w=txT ∨ w=txF
def hdE (t:Tok):Prop:=t = .sym 40 ∨ t = .opr [45] ∨ (∃ s,t = .str s) ∨ ∃ w,t = .run w ∧ (wdO w ∨ w=[78,79,84])
theorem val_hd {v:Val} (h:validV v=true) (hn:0 ≤ v.n) {r:List Tok} {t:Tok} {q:List Tok} (e:valK v ++ r=t :: q):hdE t:=by
 rcases val_tok h hn with ⟨_,_,a⟩ | ⟨_,_,a⟩ | ⟨_,_,_,a⟩ | ⟨_,_,_,a⟩ <;> (rw [a] at e; injection e with e _; subst e)
 ·exact .inr (.inr (.inr ⟨_,rfl,.inl (.inr (.inl (dec_all _)))⟩))
 ·exact .inr (.inr (.inl ⟨_,rfl⟩))
 ·exact .inr (.inr (.inr ⟨_,rfl,.inl (.inr (.inr (.inl rfl)))⟩))
 ·exact .inr (.inr (.inr ⟨_,rfl,.inl (.inr (.inr (.inr rfl)))⟩))
theorem heads_e:∀ (N:Nat) (x:Tr),cnt x ≤ N→vld x=true→∀ (n:Int) (r:List Tok) (t:Tok) (q:List Tok),aK x n ++ r=t :: q→hdE t:=by
 intro N
 induction N with
 | zero=>intro x h _; have:=cnt_pos x; omega
 | succ N ih =>
  intro x hc hx n r t q e
  by_cases hl:lvl x < n
  ·unfold aK atK at e
   rw [if_pos hl] at e
   injection e with e _
   exact .inl e.symm
  ·rw [aK_top hl] at e
   rcases vld_inv hx with ⟨v,fl,rfl,h1,h2⟩ | ⟨tb,nm,fl,rfl,h1,h2⟩ | ⟨op,fl,a,ho,rfl,va⟩ | ⟨op,fl,a,c,ho,rfl,va,vc⟩
   ·rw [tk_lit] at e
    exact val_hd h1 h2 e
   ·rw [tk_col] at e
    obtain ⟨w,q',k,hw⟩:=col_head h1 h2
    rw [k] at e
    injection e with e _
    exact .inr (.inr (.inr ⟨w,e.symm,.inl (.inl hw)⟩))
   ·rcases ho with rfl | rfl
    ·rw [tk_not] at e
     injection e with e _
     exact .inr (.inr (.inr ⟨_,e.symm,.inr rfl⟩))
    ·rw [tk_neg] at e
     injection e with e _
     exact .inr (.inl e.symm)
   ·rw [tk_bin ho,List.append_assoc] at e
    rw [cnt_b] at hc
    exact ih a (by have:=cnt_pos c; omega) va _ _ _ _ e
theorem cal_inv {x:Tr} (h:cal x=true):∃ fn fl,0 ≤ fn ∧ fn ≤ 3 ∧ ((fn=0 ∧ x = .mk 3 vz [] [] 0 fn fl [] ∧ tk x = .run (fnT.getD fn.toNat []) :: [.sym 40,.opr [42],.sym 41]) ∨ ∃ a,vld a=true ∧ x = .mk 3 vz [] [] 0 fn fl [a] ∧ tk x = .run (fnT.getD fn.toNat []) :: .sym 40 :: (tk a ++ [.sym 41])):=by
 obtain ⟨k,v,tb,nm,op,fn,fl,xs⟩:=x
 obtain ⟨rfl,f0,f1,hl,h5,hf,rfl,rfl,rfl,rfl⟩:=cal_cases h
 refine ⟨fn,fl,f0,f1,?_⟩
 cases xs with
 | nil =>
  refine .inl ⟨by simpa using hf,rfl,?_⟩
  rw [tk,ptk]
  rfl
 | cons a rest =>
  have hr0:rest=[]:=nilL (by rw [List.length_cons] at hl; omega)
  subst hr0
  rw [vldL_all,List.all_eq_true] at h5
  refine .inr ⟨a,h5 a (by simp),rfl,?_⟩
  rw [tk,ptk,ptk]
  rfl
theorem fn_inj {a b:Int} (a0:0 ≤ a) (a1:a ≤ 3) (b0:0 ≤ b) (b1:b ≤ 3) (h:fnT.getD a.toNat []=fnT.getD b.toNat []):a=b:=by
 have k:∀ x ∈ [(0:Int),1,2,3],∀ y ∈ [(0:Int),1,2,3],fnT.getD x.toNat []=fnT.getD y.toNat []→x=y:=by decide
 exact k a (by simp; omega) b (by simp; omega) h
theorem not_star {x:Tr} (h:vld x=true) {r q:List Tok}:¬ tk x ++ r = .opr [42] :: q:=by
 intro e
 rw [← aK_top (x:=x) (n:=1) (by have:=lvl_pos h; omega)] at e
 rcases heads_e _ x (Nat.le_refl _) h 1 r _ _ e with k | k | ⟨s,k⟩ | ⟨w,k,_⟩
 ·cases k
 ·exact absurd k (by decide)
 ·cases k
 ·cases k
theorem cal_inj {x y:Tr} (hx:cal x=true) (hy:cal y=true) {r r':List Tok} (h:tk x ++ r=tk y ++ r'):canT x=canT y ∧ r=r':=by
 obtain ⟨fn,fl,a0,a1,hx⟩:=cal_inv hx
 obtain ⟨fn',fl',b0,b1,hy⟩:=cal_inv hy
 rcases hx with ⟨hz,rfl,tx⟩ | ⟨a,va,rfl,tx⟩ <;> rcases hy with ⟨hz',rfl,ty⟩ | ⟨b,vb,rfl,ty⟩ <;> rw [tx,ty] at h <;> obtain ⟨k1,k2⟩:=run_inj h <;> have:=fn_inj a0 a1 b0 b1 k1 <;> subst this
 ·refine ⟨by rw [canT,canT],?_⟩
  injection k2 with _ k2
  injection k2 with _ k2
  injection k2
 ·injection k2 with _ k2
  have k2 : .opr [42] :: .sym 41 :: r=(tk b ++ [.sym 41]) ++ r':=k2
  rw [List.append_assoc] at k2
  exact absurd k2.symm (not_star vb)
 ·injection k2 with _ k2
  have k2:(tk a ++ [.sym 41]) ++ r = .opr [42] :: .sym 41 :: r':=k2
  rw [List.append_assoc] at k2
  exact absurd k2 (not_star va)
 ·injection k2 with _ k2
  have k2:(tk a ++ [.sym 41]) ++ r=(tk b ++ [.sym 41]) ++ r':=k2
  rw [List.append_assoc,List.append_assoc] at k2
  have pa:=lvl_pos va
  have pb:=lvl_pos vb
  rw [← aK_top (x:=a) (n:=1) (by omega),← aK_top (x:=b) (n:=1) (by omega)] at k2
  obtain ⟨m1,m2⟩:=pp _ 1 (by omega) (by omega) a b va vb (Nat.le_refl _) _ _ fol_par fol_par nd_par nd_par k2
  injection m2 with _ m2
  exact ⟨by rw [canT,canT,canL,canL,canL,canL,m1],m2⟩
end Go.Vm
end
section
set_option linter.unusedVariables false
set_option linter.unusedSimpArgs false
set_option maxRecDepth 100000
namespace Go.Vm
open Go
def EC (x:Tr):Prop:=vld x=true ∨ cal x=true
theorem wd_fn {w:List UInt8} (h:wdO w) {fn:Int} (a0:0 ≤ fn) (a1:fn ≤ 3):¬ fnT.getD fn.toNat []=w:=by
 intro e
 have k1:isLow ((fnT.getD fn.toNat []).getD 0 0)=false ∧ (fnT.getD fn.toNat []).all isDig=false ∧ ¬ fnT.getD fn.toNat []=txT ∧ ¬ fnT.getD fn.toNat []=txF:=by
  rcases (by omega:fn=0 ∨ fn=1 ∨ fn=2 ∨ fn=3) with rfl | rfl | rfl | rfl <;> decide
 obtain ⟨k1,k2,k3,k4⟩:=k1
 rcases h with h | h | h | h
 ·have:=name_low h
  rw [← e,k1] at this
  cases this
 ·rw [← e,k2] at h
  cases h
 ·exact k3 (e.trans h)
 ·exact k4 (e.trans h)
theorem vld_cal {x y:Tr} (hx:vld x=true) (hy:cal y=true) {r r':List Tok}:¬ tk x ++ r=tk y ++ r':=by
 intro e
 obtain ⟨fn,fl,a0,a1,h⟩:=cal_inv hy
 obtain ⟨q,k⟩:∃ q,tk y ++ r' = .run (fnT.getD fn.toNat []) :: q:=by
  rcases h with ⟨_,_,t⟩ | ⟨a,_,_,t⟩
  ·exact ⟨_,by rw [t]; rfl⟩
  ·exact ⟨_,by rw [t]; rfl⟩
 rw [k,← aK_top (x:=x) (n:=1) (by have:=lvl_pos hx; omega)] at e
 rcases heads_e _ x (Nat.le_refl _) hx 1 r _ _ e with k | k | ⟨s,k⟩ | ⟨w,k,hw⟩
 ·cases k
 ·cases k
 ·cases k
 ·injection k with k
  rcases hw with hw | hw
  ·exact wd_fn hw a0 a1 k
  ·have:¬ fnT.getD fn.toNat []=[78,79,84]:=by
    rcases (by omega:fn=0 ∨ fn=1 ∨ fn=2 ∨ fn=3) with rfl | rfl | rfl | rfl <;> decide
   exact this (k.trans hw)
theorem ec_inj {x y:Tr} (hx:EC x) (hy:EC y) {r r':List Tok} (hr:Fol 1 r) (hr':Fol 1 r') (hd:Nd r) (hd':Nd r') (h:tk x ++ r=tk y ++ r'):eqT x y=true ∧ r=r':=by
 rw [eqT_can]
 rcases hx with hx | hx <;> rcases hy with hy | hy
 ·rw [← aK_top (x:=x) (n:=1) (by have:=lvl_pos hx; omega),← aK_top (x:=y) (n:=1) (by have:=lvl_pos hy; omega)] at h
  exact pp _ 1 (by omega) (by omega) x y hx hy (Nat.le_refl _) r r' hr hr' hd hd' h
 ·exact absurd h (vld_cal hx hy)
 ·exact absurd h.symm (vld_cal hy hx)
 ·exact cal_inj hx hy h
theorem par_head:∀ (N:Nat) (x:Tr),cnt x ≤ N→vld x=true→∀ (n:Int) (r q:List Tok),aK x n ++ r = .sym 40 :: q→∃ e q',vld e=true ∧ q=tk e ++ .sym 41 :: q':=by
 intro N
 induction N with
 | zero=>intro x h _; have:=cnt_pos x; omega
 | succ N ih =>
  intro x hc hx n r q e
  by_cases hl:lvl x < n
  ·unfold aK atK at e
   rw [if_pos hl] at e
   injection e with _ e
   have e:(tk x ++ [.sym 41]) ++ r=q:=e
   rw [List.append_assoc] at e
   exact ⟨x,r,hx,e.symm⟩
  ·rw [aK_top hl] at e
   rcases vld_inv hx with ⟨v,fl,rfl,h1,h2⟩ | ⟨tb,nm,fl,rfl,h1,h2⟩ | ⟨op,fl,a,ho,rfl,va⟩ | ⟨op,fl,a,c,ho,rfl,va,vc⟩
   ·rw [tk_lit] at e
    rcases val_head h1 h2 e with ⟨w,k,_⟩ | ⟨s,k⟩ <;> cases k
   ·rw [tk_col] at e
    obtain ⟨w,q',k,hw⟩:=col_head h1 h2
    rw [k] at e
    injection e with e _
    cases e
   ·rcases ho with rfl | rfl
    ·rw [tk_not] at e; injection e with e _; cases e
    ·rw [tk_neg] at e; injection e with e _; cases e
   ·rw [tk_bin ho,List.append_assoc] at e
    rw [cnt_b] at hc
    exact ih a (by have:=cnt_pos c; omega) va _ _ _ e
end Go.Vm
end
section
set_option linter.unusedVariables false
set_option linter.unusedSimpArgs false
set_option maxRecDepth 100000
namespace Go.Vm
open Go
def asK (s:List UInt8):List Tok:=if s=[] then [] else [.run [65,83],.run s]
def itK (x:Itm):List Tok:=if x.star=true then [.opr [42]] else tk x.e ++ asK x.alias
def hvK (x:Hv):List Tok:=tk x.c ++ opTk x.op :: valK x.b
theorem lex_ec {x:Tr} (h:EC x):Lx x:=lex_ok _ x (Nat.le_refl _) h
theorem lex_as {s:List UInt8} (h:optV s=true) {r:List UInt8} (hr:Stop r):lex .idle (asT s ++ r)=asK s ++ lex .idle r ∧ Stop (asT s ++ r):=by
 unfold asT asK
 by_cases h0:s=[]
 ·rw [if_pos h0,if_pos h0]
  exact ⟨rfl,hr⟩
 ·rw [if_neg h0,if_neg h0]
  unfold optV at h
  rw [decide_eq_false h0,Bool.false_or] at h
  obtain ⟨n0,n1⟩:=name_al h
  refine ⟨?_,stop_c (.inl rfl)⟩
  show lex .idle (32 :: ([65,83] ++ (32 :: (s ++ r))))=_
  rw [lex_blank,lex_word (by decide) (by decide) (nx_cons (by decide)),lex_blank,lex_word n0 n1 (nx_al hr)]
  rfl
theorem lex_it {x:Itm} (h:x.star=true ∨ vItm x=true) {r:List UInt8} (hr:Stop r):lex .idle (itT x ++ r)=itK x ++ lex .idle r:=by
 unfold itT itK
 by_cases hs:x.star=true
 ·rw [if_pos hs,if_pos hs,lex_op (by decide) (by decide) (nx_op hr)]
  rfl
 ·rw [if_neg hs,if_neg hs]
  have h:=h.resolve_left hs
  unfold vItm at h
  simp only [Bool.and_eq_true,Bool.or_eq_true] at h
  obtain ⟨k1,k2⟩:=lex_as h.1.2 hr
  rw [List.append_assoc,lex_ec h.2 _ k2,k1,List.append_assoc]
theorem lex_hv {x:Hv} (h:vHv x=true) {r:List UInt8} (hr:Stop r):lex .idle (hvT x ++ r)=hvK x ++ lex .idle r:=by
 unfold vHv at h
 simp only [Bool.and_eq_true,decide_eq_true_eq] at h
 obtain ⟨⟨⟨h1,h2⟩,h3⟩,h4⟩:=h
 unfold hvT hvK
 have e:txt x.c ++ [32] ++ symT.getD x.op.toNat [] ++ [32] ++ fmtV x.b ++ r=txt x.c ++ (32 :: (symT.getD x.op.toNat [] ++ 32 :: (fmtV x.b ++ r))):=by simp
 rw [e,lex_ec (.inr h1) _ (stop_c (.inl rfl)),lex_blank,lex_optk (by omega) (by omega) (by omega),lex_val h4 hr]
 simp
theorem bnd_inj {v w:Val} (hv:validV v=true) (hw:validV w=true) {r r':List Tok} (h:valK v ++ r=valK w ++ r'):v=w ∧ r=r':=by
 by_cases a:0 ≤ v.n <;> by_cases b:0 ≤ w.n
 ·exact val_inj hv a hw b h
 all_goals
  have neg:∀ u:Val,validV u=true→¬ 0 ≤ u.n→u.kind=0 ∧ u.text=[] ∧ valK u=[.opr [45],.run (Lib.decDigits u.n.natAbs)]:=fun u hu hn=>by
   unfold validV at hu
   split at hu
   ·rename_i h0
    simp only [decide_eq_true_eq] at hu
    exact ⟨h0,hu,by unfold valK; rw [if_pos h0,if_pos (by omega)]⟩
   ·split at hu
    ·simp only [Bool.and_eq_true,decide_eq_true_eq] at hu; omega
    ·split at hu
     ·simp only [Bool.and_eq_true,Bool.or_eq_true,decide_eq_true_eq] at hu; omega
     ·cases hu
 ·obtain ⟨_,_,k⟩:=neg w hw b
  rw [k] at h
  rcases val_head hv a h with ⟨w,k,_⟩ | ⟨s,k⟩ <;> cases k
 ·obtain ⟨_,_,k⟩:=neg v hv a
  rw [k] at h
  rcases val_head hw b h.symm with ⟨w,k,_⟩ | ⟨s,k⟩ <;> cases k
 ·obtain ⟨k1,k2,k3⟩:=neg v hv a
  obtain ⟨j1,j2,j3⟩:=neg w hw b
  rw [k3,j3] at h
  injection h with _ h
  obtain ⟨m1,m2⟩:=run_inj h
  have:=dec_inj m1
  exact ⟨val_ext (by rw [k1,j1]) (by omega) (by rw [k2,j2]),m2⟩
end Go.Vm
end
section
set_option linter.unusedVariables false
set_option linter.unusedSimpArgs false
set_option maxRecDepth 100000
namespace Go.Vm
open Go
structure Nas (r:List Tok):Prop where
 f:Fol 1 r
 d:Nd r
 a:∀ r',¬ r = .run [65,83] :: r'
theorem opTk_run {op:Int} (h:bop op) {w:List UInt8} (h1:¬ w=[65,78,68]) (h2:¬ w=[79,82]):¬ opTk op = .run w:=by
 unfold opTk
 split
 ·rename_i ho
  intro e
  injection e with e
  rcases ho with rfl | rfl
  ·exact h1 e.symm
  ·exact h2 e.symm
 ·nofun
theorem as_inj {s s':List UInt8} {r r':List Tok} (hr:∀ q,¬ r = .run [65,83] :: q) (hr':∀ q,¬ r' = .run [65,83] :: q) (h:asK s ++ r=asK s' ++ r'):s=s' ∧ r=r':=by
 unfold asK at h
 by_cases h0:s=[] <;> by_cases h1:s'=[]
 ·rw [if_pos h0,if_pos h1] at h
  exact ⟨h0.trans h1.symm,h⟩
 ·rw [if_pos h0,if_neg h1] at h
  exact absurd h (hr _)
 ·rw [if_neg h0,if_pos h1] at h
  exact absurd h.symm (hr' _)
 ·rw [if_neg h0,if_neg h1] at h
  injection h with _ h
  exact run_inj h
theorem as_fol {s:List UInt8} {r:List Tok} (h:Nas r):Fol 1 (asK s ++ r) ∧ Nd (asK s ++ r):=by
 unfold asK
 by_cases h0:s=[]
 ·rw [if_pos h0]
  exact ⟨h.f,h.d⟩
 ·rw [if_neg h0]
  refine ⟨fun op r' hb _ e => ?_,fun r' e => ?_⟩
  ·injection e with e _
   exact opTk_run hb (by decide) (by decide) e.symm
  ·injection e with e _
   cases e
theorem it_inj {x y:Itm} (hx:vItm x=true) (hy:vItm y=true) {r r':List Tok} (hr:Nas r) (hr':Nas r') (h:itK x ++ r=itK y ++ r'):eqT x.e y.e=true ∧ x.star=y.star ∧ x.alias=y.alias ∧ r=r':=by
 unfold vItm at hx hy
 simp only [Bool.and_eq_true,Bool.or_eq_true,Bool.not_eq_true'] at hx hy
 unfold itK at h
 rw [if_neg (by rw [hx.1.1]; exact Bool.false_ne_true),if_neg (by rw [hy.1.1]; exact Bool.false_ne_true),List.append_assoc,List.append_assoc] at h
 obtain ⟨k1,k2⟩:=ec_inj hx.2 hy.2 (as_fol hr).1 (as_fol hr').1 (as_fol hr).2 (as_fol hr').2 h
 obtain ⟨m1,m2⟩:=as_inj hr.a hr'.a k2
 exact ⟨k1,hx.1.1.trans hy.1.1.symm,m1,m2⟩
theorem hv_inj {x y:Hv} (hx:vHv x=true) (hy:vHv y=true) {r r':List Tok} (h:hvK x ++ r=hvK y ++ r'):eqT x.c y.c=true ∧ x.op=y.op ∧ x.b=y.b ∧ r=r':=by
 unfold vHv at hx hy
 simp only [Bool.and_eq_true,decide_eq_true_eq] at hx hy
 unfold hvK at h
 rw [List.append_assoc,List.append_assoc] at h
 obtain ⟨k1,k2⟩:=cal_inj hx.1.1.1 hy.1.1.1 h
 injection k2 with k2 k3
 have e:=opTk_inj (a:=x.op) (b:=y.op) ⟨by omega,by omega,by omega⟩ ⟨by omega,by omega,by omega⟩ k2
 obtain ⟨m1,m2⟩:=bnd_inj hx.2 hy.2 k3
 exact ⟨(eqT_can _ _).2 k1,e,m1,m2⟩
end Go.Vm
end
section
set_option linter.unusedVariables false
set_option linter.unusedSimpArgs false
set_option maxRecDepth 100000
namespace Go.Vm
open Go
theorem fol_run {n:Int} {w:List UInt8} {q:List Tok} (h1:¬ w=[65,78,68]) (h2:¬ w=[79,82]):Fol n (.run w :: q) ∧ Nd (.run w :: q):=by
 refine ⟨fun op r' hb _ e => ?_,fun r' e => ?_⟩
 ·injection e with e _
  exact opTk_run hb h1 h2 e.symm
 ·injection e with e _
  cases e
theorem bin_of {x:Tr} (h:vld x=true) (h4:lvl x=4):∃ op fl a b,bop op ∧ lvO op=4 ∧ x=nodeB op fl a b ∧ vld a=true ∧ vld b=true:=by
 rcases vld_inv h with ⟨v,fl,rfl,_⟩ | ⟨tb,nm,fl,rfl,_⟩ | ⟨op,fl,a,ho,rfl,va⟩ | ⟨op,fl,a,c,ho,rfl,va,vc⟩
 ·exact absurd (show (8:Int)=4 from h4) (by decide)
 ·exact absurd (show (8:Int)=4 from h4) (by decide)
 ·rw [lvl_u] at h4; have:=lv_un ho; omega
 ·exact ⟨op,fl,a,c,ho,h4,rfl,va,vc⟩
theorem lv3_in {x e:Tr} (hx:vld x=true) (he:vld e=true) {r q:List Tok} {w:List UInt8} (hr:Fol 3 r) (hd:Nd r) (h1:¬ w=[65,78,68]) (h2:¬ w=[79,82]) (h:aK x 3 ++ r=aK e 5 ++ .run w :: q):r = .run w :: q:=by
 obtain ⟨f5,d5⟩:=fol_run (n:=5) (q:=q) h1 h2
 by_cases k3:lvl x=3
 ·obtain ⟨fl,a,rfl,va⟩:=not_of hx k3
  rw [aK_top (by omega),tk_not] at h
  exact absurd h.symm (not_head _ e (Nat.le_refl _) he 5 (by omega) (by omega) _ _)
 ·by_cases k4:lvl x=4
  ·obtain ⟨op,fl,a,b,ho,hl,rfl,va,vb⟩:=bin_of hx k4
   rw [aK_top (by omega),tk_bin ho,List.append_assoc] at h
   unfold lq at h
   rw [if_pos hl] at h
   obtain ⟨_,k⟩:=pp _ 5 (by omega) (by omega) a e va he (Nat.le_refl _) _ _ (fol_op ho (by omega)) f5 nd_op d5 h
   injection k with k _
   exact absurd k (opTk_run ho h1 h2)
  ·rw [aK_same k3,show (3:Int) + 1=4 from rfl,aK_same k4] at h
   exact (pp _ 5 (by omega) (by omega) x e hx he (Nat.le_refl _) _ _ (fol_mono hr (by omega)) f5 hd d5 h).2
theorem one_list {e a:Tr} (he:vld e=true) (ha:vld a=true) {r q:List Tok}:¬ aK e 5 ++ r = .sym 40 :: (tk a ++ .sym 44 :: q):=by
 intro h
 obtain ⟨b,q',vb,k⟩:=par_head _ e (Nat.le_refl _) he 5 r _ h
 rw [← aK_top (x:=a) (n:=1) (by have:=lvl_pos ha; omega),← aK_top (x:=b) (n:=1) (by have:=lvl_pos vb; omega)] at k
 have f:∀ q:List Tok,Fol 1 (.sym 44 :: q):=fun q op r' hb _ e=>by
  injection e with e _
  exact opTk_sym e.symm
 have d:∀ q:List Tok,Nd (.sym 44 :: q):=fun q r' e=>by
  injection e with e _
  injection e with e
  exact absurd e (by decide)
 obtain ⟨_,m⟩:=pp _ 1 (by omega) (by omega) a b ha vb (Nat.le_refl _) _ _ (f _) fol_par (d _) nd_par k
 injection m with m _
 injection m with m
 exact absurd m (by decide)
end Go.Vm
end
section
set_option linter.unusedVariables false
set_option linter.unusedSimpArgs false
set_option maxRecDepth 100000
namespace Go.Vm
open Go
def wEX:List UInt8:=[69,88,73,83,84,83]
def wIN:List UInt8:=[73,78]
def wNO:List UInt8:=[78,79,84]
def ntK (no:Bool):List Tok:=if no=true then [.run wNO] else []
def mbK {Q:Type} (tkq:Q→List Tok) (x:MbP Q):List Tok :=
 if x.ex.l.length=0 then ntK x.no ++ .run wEX :: .sym 40 :: (tkq x.q ++ [.sym 41]) else
 if x.ex.l.length=1 then aK (x.ex.l.getD 0 default) 5 ++ (ntK x.no ++ .run wIN :: .sym 40 :: (tkq x.q ++ [.sym 41])) else
 .sym 40 :: (joinK (.sym 44) tk x.ex.l ++ .sym 41 :: (ntK x.no ++ .run wIN :: .sym 40 :: (tkq x.q ++ [.sym 41])))
theorem nt_inj {a b:Bool} {w:List UInt8} (hw:¬ w=wNO) {r r':List Tok} (h:ntK a ++ .run w :: r=ntK b ++ .run w :: r'):a=b ∧ r=r':=by
 unfold ntK at h
 cases a <;> cases b
 ·injection h with _ h; exact ⟨rfl,h⟩
 ·injection h with h _; injection h with h; exact absurd h hw
 ·injection h with h _; injection h with h; exact absurd h.symm hw
 ·injection h with _ h; injection h with _ h; exact ⟨rfl,h⟩
theorem nt_head {a:Bool} {r:List Tok}:∃ w q,ntK a ++ .run wIN :: r = .run w :: q ∧ ¬ w=[65,78,68] ∧ ¬ w=[79,82]:=by
 cases a
 ·exact ⟨wIN,r,rfl,by decide,by decide⟩
 ·exact ⟨wNO,_,rfl,by decide,by decide⟩
theorem ex_head {e:Tr} (he:vld e=true) {no:Bool} {r q:List Tok}:¬ aK e 5 ++ r=ntK no ++ .run wEX :: q:=by
 intro h
 cases no with
 | true=>exact not_head _ e (Nat.le_refl _) he 5 (by omega) (by omega) _ _ h
 | false =>
  have h:aK e 5 ++ r = .run wEX :: q:=h
  rcases heads_e _ e (Nat.le_refl _) he 5 r _ _ h with k | k | ⟨s,k⟩ | ⟨w,k,hw⟩
  ·cases k
  ·cases k
  ·cases k
  ·injection k with k
   subst k
   rcases hw with (hw | hw | hw | hw) | hw
   ·exact absurd (name_low hw) (by decide)
   ·exact absurd hw (by decide)
   ·exact absurd hw (by decide)
   ·exact absurd hw (by decide)
   ·exact absurd hw (by decide)
end Go.Vm
end
section
set_option linter.unusedVariables false
set_option linter.unusedSimpArgs false
set_option maxRecDepth 100000
namespace Go.Vm
open Go
theorem several {l:List Tr} (h0:¬ l.length=0) (h1:¬ l.length=1) (hv:∀ x ∈ l,vld x=true) {r:List Tok}:∃ a q,vld a=true ∧ joinK (.sym 44) tk l ++ r=tk a ++ .sym 44 :: q:=by
 match l,h0,h1 with
 | a :: b :: l,_,_=>exact ⟨a,joinK (.sym 44) tk (b :: l) ++ r,hv a (by simp),by rw [joinK,List.append_assoc]; rfl⟩
theorem pf_ex:PF (fun r=>Fol 1 r ∧ Nd r) (fun x=>vld x=true) tk eqT:=fun x y hx hy r r' f f' h=>ec_inj (.inl hx) (.inl hy) f.1 f'.1 f.2 f'.2 h
theorem fd_sym {c:UInt8} (h:¬ c=46) {r:List Tok}:Fol 1 (.sym c :: r) ∧ Nd (.sym c :: r):=by
 refine ⟨fun op r' hb _ e => ?_,fun r' e => ?_⟩
 ·injection e with e _
  exact opTk_sym e.symm
 ·injection e with e _
  injection e with e
  exact h e
theorem nt_40 {a:Bool} {w:List UInt8} {q z:List Tok}:¬ ntK a ++ .run w :: q = .sym 40 :: z:=by
 cases a <;> nofun
theorem mb_inj {Q Q':Type} {tkq:Q→List Tok} {tkq':Q'→List Tok} {q:Q→Q'→Prop} {vq:Q→Bool} {vq':Q'→Bool} (hP:∀ a b,vq a=true→vq' b=true→∀ r r',tkq a ++ .sym 41 :: r=tkq' b ++ .sym 41 :: r'→q a b ∧ r=r') {x:MbP Q} {y:MbP Q'} (hx:x.ex.l.all vld=true ∧ vq x.q=true) (hy:y.ex.l.all vld=true ∧ vq' y.q=true)
  {r r':List Tok} (h:mbK tkq x ++ r=mbK tkq' y ++ r'):x.no=y.no ∧ eqF eqT x.ex.l y.ex.l=true ∧ q x.q y.q ∧ r=r':=by
 have vx:=List.all_eq_true.1 hx.1
 have vy:=List.all_eq_true.1 hy.1
 have qd:∀ {a b:List Tok},Tok.sym 40 :: (tkq x.q ++ [.sym 41]) ++ r=Tok.sym 40 :: (tkq' y.q ++ [.sym 41]) ++ r'→q x.q y.q ∧ r=r':=fun e=>by
  injection e with _ e
  have e:(tkq x.q ++ [.sym 41]) ++ r=(tkq' y.q ++ [.sym 41]) ++ r':=e
  rw [List.append_assoc,List.append_assoc] at e
  exact hP _ _ hx.2 hy.2 _ _ e
 unfold mbK at h
 by_cases x0:x.ex.l.length=0
 ·rw [if_pos x0] at h
  by_cases y0:y.ex.l.length=0
  ·rw [if_pos y0,List.append_assoc,List.append_assoc] at h
   obtain ⟨k1,k2⟩:=nt_inj (by decide) h
   obtain ⟨m1,m2⟩:=qd (a:=[]) (b:=[]) k2
   rw [nilL x0,nilL y0]
   exact ⟨k1,rfl,m1,m2⟩
  ·rw [if_neg y0] at h
   by_cases y1:y.ex.l.length=1
   ·rw [if_pos y1,List.append_assoc,List.append_assoc] at h
    exact absurd h.symm (ex_head (vy _ (at_mem (i:=0) (by omega))))
   ·rw [if_neg y1] at h
    rw [List.append_assoc] at h
    exact absurd h nt_40
 ·rw [if_neg x0] at h
  by_cases y0:y.ex.l.length=0
  ·rw [if_pos y0] at h
   by_cases x1:x.ex.l.length=1
   ·rw [if_pos x1,List.append_assoc,List.append_assoc,List.append_assoc] at h
    exact absurd h (ex_head (vx _ (at_mem (i:=0) (by omega))))
   ·rw [if_neg x1] at h
    have h:=h.symm
    rw [List.append_assoc] at h
    exact absurd h nt_40
  ·rw [if_neg y0] at h
   by_cases x1:x.ex.l.length=1 <;> by_cases y1:y.ex.l.length=1
   ·rw [if_pos x1,if_pos y1,List.append_assoc,List.append_assoc,List.append_assoc,List.append_assoc] at h
    obtain ⟨w,z,e1,a1,a2⟩:=nt_head (a:=x.no) (r:=Tok.sym 40 :: (tkq x.q ++ [.sym 41]) ++ r)
    obtain ⟨w',z',e1',a1',a2'⟩:=nt_head (a:=y.no) (r:=Tok.sym 40 :: (tkq' y.q ++ [.sym 41]) ++ r')
    have f:=fol_run (n:=5) (q:=z) a1 a2
    have f':=fol_run (n:=5) (q:=z') a1' a2'
    rw [← e1] at f
    rw [← e1'] at f'
    obtain ⟨k1,k2⟩:=pp _ 5 (by omega) (by omega) _ _ (vx _ (at_mem (i:=0) (by omega))) (vy _ (at_mem (i:=0) (by omega))) (Nat.le_refl _) _ _ f.1 f'.1 f.2 f'.2 h
    obtain ⟨m1,m2⟩:=nt_inj (by decide) k2
    obtain ⟨j1,j2⟩:=qd (a:=[]) (b:=[]) m2
    refine ⟨m1,?_,j1,j2⟩
    match hxl:x.ex.l,hyl:y.ex.l,x1,y1 with
    | [a],[b],_,_ =>
     rw [hxl,hyl] at k1
     rw [eqF,(eqT_can a b).2 k1]
     rfl
   ·rw [if_pos x1,if_neg y1,List.append_assoc] at h
    obtain ⟨a,z,va,e⟩:=several y0 y1 vy (r := .sym 41 :: (ntK y.no ++ .run wIN :: .sym 40 :: (tkq' y.q ++ [.sym 41])) ++ r')
    have h:aK (x.ex.l.getD 0 default) 5 ++ _ = .sym 40 :: ((joinK (.sym 44) tk y.ex.l ++ .sym 41 :: (ntK y.no ++ .run wIN :: .sym 40 :: (tkq' y.q ++ [.sym 41]))) ++ r'):=h
    rw [← List.append_assoc] at e
    rw [e] at h
    exact absurd h (one_list (vx _ (at_mem (i:=0) (by omega))) va)
   ·rw [if_neg x1,if_pos y1] at h
    obtain ⟨a,z,va,e⟩:=several x0 x1 vx (r := .sym 41 :: (ntK x.no ++ .run wIN :: .sym 40 :: (tkq x.q ++ [.sym 41])) ++ r)
    have h : .sym 40 :: ((joinK (.sym 44) tk x.ex.l ++ .sym 41 :: (ntK x.no ++ .run wIN :: .sym 40 :: (tkq x.q ++ [.sym 41]))) ++ r)=_:=h
    rw [← List.append_assoc] at e
    rw [e,List.append_assoc] at h
    exact absurd h.symm (one_list (vy _ (at_mem (i:=0) (by omega))) va)
   ·rw [if_neg x1,if_neg y1] at h
    injection h with _ h
    have h:(joinK (.sym 44) tk x.ex.l ++ .sym 41 :: (ntK x.no ++ .run wIN :: .sym 40 :: (tkq x.q ++ [.sym 41]))) ++ r=(joinK (.sym 44) tk y.ex.l ++ .sym 41 :: (ntK y.no ++ .run wIN :: .sym 40 :: (tkq' y.q ++ [.sym 41]))) ++ r':=h
    rw [List.append_assoc,List.append_assoc] at h
    obtain ⟨k1,k2⟩:=pf_list (G:=fun r=>∃ z,r = .sym 41 :: z) pf_ex (fun r=>fd_sym (by decide)) (fun r g=>by obtain ⟨z,rfl⟩:=g; exact ⟨fd_sym (by decide),fun r' e=>by injection e with e _; injection e with e; exact absurd e (by decide)⟩) x.ex.l y.ex.l (fun e=>x0 (by rw [e]; rfl)) (fun e=>y0 (by rw [e]; rfl)) vx vy _ _ ⟨_,rfl⟩ ⟨_,rfl⟩ h
    injection k2 with _ k2
    have k2:(ntK x.no ++ .run wIN :: .sym 40 :: (tkq x.q ++ [.sym 41])) ++ r=(ntK y.no ++ .run wIN :: .sym 40 :: (tkq' y.q ++ [.sym 41])) ++ r':=k2
    rw [List.append_assoc,List.append_assoc] at k2
    obtain ⟨m1,m2⟩:=nt_inj (by decide) k2
    obtain ⟨j1,j2⟩:=qd (a:=[]) (b:=[]) m2
    exact ⟨m1,k1,j1,j2⟩
end Go.Vm
end
