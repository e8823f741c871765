/- Chapter 24: lists of two kinds side by side; what may follow a clause; sources are told apart by their tokens. -/
import Derived.Test.YtaepmmmcipolbaaGreatDoorQSfIi
import Derived.Test.YtaepmmmcipolbaaGreatDoorQSfTr
section
set_option linter.unusedVariables false
set_option linter.unusedSimpArgs false
set_option maxRecDepth 100000
namespace Go.Vm
open Go
def A2 {α β:Type} (q:α→β→Prop):List α→List β→Prop
 | [],[]=>True
 | a :: l,b :: m=>q a b ∧ A2 q l m
 | [],_ :: _=>False
 | _ :: _,[]=>False
theorem a2_mono {α β:Type} {q q':α→β→Prop} (h:∀ a b,q a b→q' a b):∀ {l:List α} {m:List β},A2 q l m→A2 q' l m
 | [],[],_=>trivial
 | a :: l,b :: m,k=>⟨h a b k.1,a2_mono h k.2⟩
theorem a2_eqF {α:Type} {q:α→α→Bool}:∀ {l m:List α},A2 (fun a b=>q a b=true) l m→eqF q l m=true
 | [],[],_=>rfl
 | a :: l,b :: m,k=>by rw [eqF,k.1,a2_eqF k.2]; rfl
theorem a2_snoc {α β:Type} {q:α→β→Prop} {a:α} {b:β}:∀ {l:List α} {m:List β},A2 q (l ++ [a]) (m ++ [b])→A2 q l m ∧ q a b
 | [],[],h=>⟨trivial,h.1⟩
 | [],[c],h=>h.2.elim
 | [],c :: d :: m,h=>h.2.elim
 | [c],[],h=>h.2.elim
 | c :: d :: l,[],h=>h.2.elim
 | c :: l,d :: m,h=>by
  obtain ⟨k1,k2⟩:=a2_snoc (l:=l) (m:=m) h.2
  exact ⟨⟨h.1,k1⟩,k2⟩
theorem a2_len {α β:Type} {q:α→β→Prop}:∀ {l:List α} {m:List β},A2 q l m→l.length=m.length
 | [],[],_=>rfl
 | a :: l,b :: m,k=>by rw [List.length_cons,List.length_cons,a2_len k.2]
def tlK {α:Type} (s:Tok) (t:α→List Tok):List α→List Tok→List Tok
 | [],r=>r
 | a :: l,r=>s :: (t a ++ tlK s t l r)
theorem join_tl {α:Type} {s:Tok} {t:α→List Tok} {r:List Tok}:∀ (l:List α) (a:α),joinK s t (a :: l) ++ r=t a ++ tlK s t l r
 | [],a=>rfl
 | b :: l,a=>by
  rw [joinK,List.append_assoc]
  show t a ++ (s :: (joinK s t (b :: l) ++ r))=_
  rw [join_tl l b]
  rfl
theorem tl_app {α:Type} {s:Tok} {t:α→List Tok} {r:List Tok} {m:List α}:∀ l:List α,tlK s t (l ++ m) r=tlK s t l (tlK s t m r)
 | []=>rfl
 | a :: l=>by
  show s :: (t a ++ tlK s t (l ++ m) r)=_
  rw [tl_app l]
  rfl
theorem tl_congr {α:Type} {s:Tok} {t u:α→List Tok} {r:List Tok}:∀ {l:List α},(∀ a ∈ l,t a=u a)→tlK s t l r=tlK s u l r
 | [],_=>rfl
 | a :: l,h=>by
  show s :: (t a ++ tlK s t l r)=s :: (u a ++ tlK s u l r)
  rw [h a (by simp),tl_congr (l:=l) fun x hx=>h x (List.mem_cons_of_mem _ hx)]
theorem pf_two {α β:Type} {F G:List Tok→Prop} {V:α→Prop} {V':β→Prop} {t:α→List Tok} {t':β→List Tok} {q:α→β→Prop} {s:Tok}
  (h:∀ x y,V x→V' y→∀ r r',F r→F r'→t x ++ r=t' y ++ r'→q x y ∧ r=r') (hs:∀ r,F (s :: r)) (hg:∀ r,G r→F r ∧ ∀ r',¬ r=s :: r') :
  ∀ (l:List α) (m:List β),¬ l=[]→¬ m=[]→(∀ x ∈ l,V x)→(∀ x ∈ m,V' x)→∀ r r',G r→G r'→joinK s t l ++ r=joinK s t' m ++ r'→A2 q l m ∧ r=r'
 | [],_,h0,_,_,_,_,_,_,_,_=>absurd rfl h0
 | _ :: _,[],_,h0,_,_,_,_,_,_,_=>absurd rfl h0
 | [a],[b],_,_,ha,hb,r,r',g,g',e=>by
  obtain ⟨k1,k2⟩:=h a b (ha a (by simp)) (hb b (by simp)) r r' (hg r g).1 (hg r' g').1 e
  exact ⟨⟨k1,trivial⟩,k2⟩
 | [a],b :: c :: l',_,_,ha,hb,r,r',g,g',e=>by
  rw [joinK,joinK,List.append_assoc] at e
  obtain ⟨_,k2⟩:=h a b (ha a (by simp)) (hb b (by simp)) r _ (hg r g).1 (hs _) e
  exact absurd k2 ((hg r g).2 _)
 | a :: c :: l,[b],_,_,ha,hb,r,r',g,g',e=>by
  rw [joinK,joinK,List.append_assoc] at e
  obtain ⟨_,k2⟩:=h a b (ha a (by simp)) (hb b (by simp)) _ r' (hs _) (hg r' g').1 e
  exact absurd k2.symm ((hg r' g').2 _)
 | a :: c :: l,b :: d :: l',_,_,ha,hb,r,r',g,g',e=>by
  rw [joinK,joinK,List.append_assoc,List.append_assoc] at e
  obtain ⟨k1,k2⟩:=h a b (ha a (by simp)) (hb b (by simp)) _ _ (hs _) (hs _) e
  injection k2 with _ k2
  obtain ⟨m1,m2⟩:=pf_two h hs hg (c :: l) (d :: l') nofun nofun (fun x hx=>ha x (List.mem_cons_of_mem _ hx)) (fun x hx=>hb x (List.mem_cons_of_mem _ hx)) r r' g g' k2
  exact ⟨⟨k1,m1⟩,m2⟩
theorem opt_two {a b:Nat} {s:Tok} {T T' r r':List Tok} {q:Prop} (hr:∀ z,¬ r=s :: z) (hr':∀ z,¬ r'=s :: z) (h0:a=0→b=0→q) (h1:¬ a=0→¬ b=0→T ++ r=T' ++ r'→q ∧ r=r')
  (e:(if a=0 then [] else s :: T) ++ r=(if b=0 then [] else s :: T') ++ r'):q ∧ r=r':=by
 by_cases ha:a=0 <;> by_cases hb:b=0
 ·rw [if_pos ha,if_pos hb] at e
  exact ⟨h0 ha hb,e⟩
 ·rw [if_pos ha,if_neg hb] at e
  exact absurd e (hr _)
 ·rw [if_neg ha,if_pos hb] at e
  exact absurd e.symm (hr' _)
 ·rw [if_neg ha,if_neg hb] at e
  injection e with _ e
  exact h1 ha hb e
def Kf (S:List (List UInt8)) (r:List Tok):Prop:=r=[] ∨ (∃ z,r = .sym 41 :: z) ∨ ∃ w z,r = .run w :: z ∧ w ∈ S
theorem kf_par {S:List (List UInt8)} {z:List Tok}:Kf S (.sym 41 :: z) := .inr (.inl ⟨z,rfl⟩)
theorem kf_run {S:List (List UInt8)} {w:List UInt8} {z:List Tok} (h:w ∈ S):Kf S (.run w :: z) := .inr (.inr ⟨w,z,rfl,h⟩)
theorem kf_mono {S S':List (List UInt8)} {r:List Tok} (h:Kf S r) (hs:∀ w ∈ S,w ∈ S'):Kf S' r:=by
 rcases h with h | h | ⟨w,z,h,k⟩
 ·exact .inl h
 ·exact .inr (.inl h)
 ·exact .inr (.inr ⟨w,z,h,hs w k⟩)
theorem kf_no {S:List (List UInt8)} {r:List Tok} (h:Kf S r) {w:List UInt8} (hw:¬ w ∈ S) (z:List Tok):¬ r = .run w :: z:=by
 rintro rfl
 rcases h with h | ⟨z',h⟩ | ⟨w',z',h,k⟩
 ·cases h
 ·cases h
 ·injection h with h _
  injection h with h
  subst h
  exact hw k
theorem kf_sym {S:List (List UInt8)} {r:List Tok} (h:Kf S r) {c:UInt8} (hc:¬ c=41) (z:List Tok):¬ r = .sym c :: z:=by
 rintro rfl
 rcases h with h | ⟨z',h⟩ | ⟨w',z',h,k⟩
 ·cases h
 ·injection h with h _
  injection h with h
  exact hc h
 ·cases h
theorem kf_fol {S:List (List UInt8)} {r:List Tok} (h:Kf S r) {n:Int} (h1:¬ [65,78,68] ∈ S) (h2:¬ [79,82] ∈ S):Fol n r ∧ Nd r:=by
 rcases h with rfl | ⟨z,rfl⟩ | ⟨w,z,rfl,k⟩
 ·exact ⟨fun op r' _ _ e=>(by cases e),fun r' e=>(by cases e)⟩
 ·exact ⟨fol_par,nd_par⟩
 ·exact fol_run (fun e=>h1 (e ▸ k)) (fun e=>h2 (e ▸ k))
theorem kf_nas {S:List (List UInt8)} {r:List Tok} (h:Kf S r) (h1:¬ [65,78,68] ∈ S) (h2:¬ [79,82] ∈ S) (h3:¬ [65,83] ∈ S):Nas r :=
 ⟨(kf_fol h h1 h2).1,(kf_fol h (n:=1) h1 h2).2,fun z=>kf_no h h3 z⟩
theorem nas_sym {c:UInt8} (h:¬ c=46) {r:List Tok}:Nas (.sym c :: r):=⟨(fd_sym h).1,(fd_sym h).2,fun z e=>by injection e with e _; cases e⟩
section
variable {Q Q':Type} [Inhabited Q] [Inhabited Q']
def frK (tkq:Q→List Tok) (x:FrP Q):List Tok:=if x.q.l.length=0 then .run x.name :: asK x.alias else .sym 40 :: (tkq (x.q.l.getD 0 default) ++ .sym 41 :: asK x.alias)
structure RFr (q:Q→Q'→Prop) (x:FrP Q) (y:FrP Q'):Prop where
 name:x.name=y.name
 alias:x.alias=y.alias
 q:A2 q x.q.l y.q.l
theorem one_of {α:Type} [Inhabited α] {l:List α} (h:l.length=1):l=[l.getD 0 default]:=by
 match l,h with
 | [a],_=>rfl
theorem fr_inj {tkq:Q→List Tok} {tkq':Q'→List Tok} {q:Q→Q'→Prop} {vq:Q→Bool} {vq':Q'→Bool} (hP:∀ a b,vq a=true→vq' b=true→∀ r r',tkq a ++ .sym 41 :: r=tkq' b ++ .sym 41 :: r'→q a b ∧ r=r')
  {x:FrP Q} {y:FrP Q'} (hx:vFr vq x=true) (hy:vFr vq' y=true) {r r':List Tok} (hr:∀ z,¬ r = .run [65,83] :: z) (hr':∀ z,¬ r' = .run [65,83] :: z) (h:frK tkq x ++ r=frK tkq' y ++ r'):RFr q x y ∧ r=r':=by
 unfold vFr at hx hy
 unfold frK at h
 by_cases hx0:x.q.l.length=0 <;> by_cases hy0:y.q.l.length=0
 ·rw [if_pos hx0,if_pos hy0] at h
  obtain ⟨k1,k2⟩:=run_inj h
  obtain ⟨m1,m2⟩:=as_inj hr hr' k2
  exact ⟨⟨k1,m1,by rw [nilL hx0,nilL hy0]; trivial⟩,m2⟩
 ·rw [if_pos hx0,if_neg hy0] at h
  injection h with h _
  cases h
 ·rw [if_neg hx0,if_pos hy0] at h
  injection h with h _
  cases h
 ·rw [if_neg hx0] at hx
  rw [if_neg hy0] at hy
  rw [if_neg hx0,if_neg hy0] at h
  simp only [Bool.and_eq_true,decide_eq_true_eq] at hx hy
  injection h with _ h
  have h:(tkq (x.q.l.getD 0 default) ++ .sym 41 :: asK x.alias) ++ r=(tkq' (y.q.l.getD 0 default) ++ .sym 41 :: asK y.alias) ++ r':=h
  rw [List.append_assoc,List.append_assoc] at h
  obtain ⟨k1,k2⟩:=hP _ _ hx.2 hy.2 _ _ h
  obtain ⟨m1,m2⟩:=as_inj hr hr' k2
  refine ⟨⟨hx.1.1.1.trans hy.1.1.1.symm,m1,?_⟩,m2⟩
  rw [one_of hx.1.2,one_of hy.1.2]
  exact ⟨k1,trivial⟩
end
theorem its_inv {l:List Itm} (h:vIts l=true):¬ l=[] ∧ ((∃ x,l=[x] ∧ x.star=true ∧ eqT x.e eT0=true ∧ x.alias=[]) ∨ ∀ x ∈ l,vItm x=true):=by
 unfold vIts at h
 split at h
 ·rename_i k
  simp only [Bool.and_eq_true,decide_eq_true_eq] at h
  rw [one_of k.1]
  exact ⟨nofun,.inl ⟨_,rfl,k.2,h.1,h.2⟩⟩
 ·simp only [Bool.and_eq_true,decide_eq_true_eq] at h
  exact ⟨fun e=>by rw [e] at h; exact absurd h.1 (Nat.lt_irrefl _),.inr (List.all_eq_true.1 h.2)⟩
theorem it_star {x:Itm} (h:vItm x=true) {r z:List Tok}:¬ itK x ++ r = .opr [42] :: z:=by
 unfold vItm at h
 simp only [Bool.and_eq_true,Bool.or_eq_true,Bool.not_eq_true'] at h
 unfold itK
 rw [if_neg (by rw [h.1.1]; exact Bool.false_ne_true),List.append_assoc]
 rcases h.2 with k | k
 ·exact not_star k
 ·obtain ⟨fn,fl,_,_,⟨_,_,e⟩ | ⟨a,_,_,e⟩⟩:=cal_inv k <;> rw [e] <;> (intro e; injection e with e _; cases e)
theorem its_inj {l m:List Itm} (hl:vIts l=true) (hm:vIts m=true) {r r':List Tok} (hr:Kf [[70,82,79,77]] r) (hr':Kf [[70,82,79,77]] r') (h:joinK (.sym 44) itK l ++ r=joinK (.sym 44) itK m ++ r'):eqF eqItm l m=true ∧ r=r':=by
 have st:∀ (x:Itm) (l:List Itm) (r r':List Tok),x.star=true→¬ l=[]→(∀ y ∈ l,vItm y=true)→¬ joinK (.sym 44) itK l ++ r=joinK (.sym 44) itK [x] ++ r':=by
  intro x l r r' hs h0 hv e
  rw [show joinK (.sym 44) itK [x]=[.opr [42]] by show itK x=_; unfold itK; rw [if_pos hs]] at e
  cases l with
  | nil=>exact h0 rfl
  | cons a l =>
   rw [join_tl] at e
   exact it_star (hv a (by simp)) e
 obtain ⟨hl0,hl⟩:=its_inv hl
 obtain ⟨hm0,hm⟩:=its_inv hm
 rcases hl with ⟨x,rfl,s1,s2,s3⟩ | hl <;> rcases hm with ⟨y,rfl,t1,t2,t3⟩ | hm
 ·have e1:joinK (.sym 44) itK [x]=[.opr [42]]:=by show itK x=_; unfold itK; rw [if_pos s1]
  have e2:joinK (.sym 44) itK [y]=[.opr [42]]:=by show itK y=_; unfold itK; rw [if_pos t1]
  rw [e1,e2] at h
  injection h with _ h
  refine ⟨?_,h⟩
  rw [eqF,eqF]
  unfold eqItm
  rw [s1,t1,s3,t3,(eqT_can x.e y.e).2 (((eqT_can _ _).1 s2).trans ((eqT_can _ _).1 t2).symm)]
  rfl
 ·exact absurd h.symm (st x m r' r s1 hm0 hm)
 ·exact absurd h (st y l r r' t1 hl0 hl)
 ·obtain ⟨k1,k2⟩:=pf_two (F:=Nas) (G:=Kf [[70,82,79,77]]) (q:=fun x y=>eqItm x y=true) (fun x y hx hy r r' f f' e=>by
   obtain ⟨k1,k2,k3,k4⟩:=it_inj hx hy f f' e
   refine ⟨?_,k4⟩
   unfold eqItm
   rw [k1,k2,k3]
   simp) (fun r=>nas_sym (by decide)) (fun r g=>⟨kf_nas g (by decide) (by decide) (by decide),fun z=>kf_sym g (by decide) z⟩) l m hl0 hm0 hl hm r r' hr hr' h
  exact ⟨a2_eqF k1,k2⟩
end Go.Vm
end
section
set_option linter.unusedVariables false
set_option linter.unusedSimpArgs false
set_option maxRecDepth 100000
namespace Go.Vm
open Go
abbrev kAN:List UInt8:=[65,78,68]
def cdK {Q:Type} (tkq:Q→List Tok) (n:Int):Tr ⊕ MbP Q→List Tok
 | .inl e=>aK e n
 | .inr m=>mbK tkq m
structure Fcd (r:List Tok):Prop where
 f:Fol 3 r
 d:Nd r
 i:∀ z,¬ r = .run wIN :: z
 n:∀ z,¬ r = .run wNO :: z
theorem opTk_and:opTk 11 = .run kAN:=rfl
theorem fcd_and {r:List Tok}:Fcd (.run kAN :: r):=by
 refine ⟨?_,?_,?_,?_⟩
 ·rw [← opTk_and]
  exact fol_op ⟨by decide,by decide,by decide⟩ (by decide)
 ·rw [← opTk_and]
  exact nd_op
 ·intro z e
  exact absurd (run_inj e).1 (by decide)
 ·intro z e
  exact absurd (run_inj e).1 (by decide)
theorem fcd_kf {S:List (List UInt8)} {r:List Tok} (h:Kf S r) (h1:¬ [65,78,68] ∈ S) (h2:¬ [79,82] ∈ S) (h3:¬ wIN ∈ S) (h4:¬ wNO ∈ S):Fcd r :=
 ⟨(kf_fol h h1 h2).1,(kf_fol h (n:=1) h1 h2).2,fun z=>kf_no h h3 z,fun z=>kf_no h h4 z⟩
theorem cd_mb {Q:Type} {tkq:Q→List Tok} {x:Tr} {y:MbP Q} (hx:vld x=true) (hy:y.ex.l.all vld=true) {r r':List Tok} (hr:Fcd r):¬ aK x 3 ++ r=mbK tkq y ++ r':=by
 intro h
 have vy:=List.all_eq_true.1 hy
 unfold mbK at h
 by_cases y0:y.ex.l.length=0
 ·rw [if_pos y0,List.append_assoc] at h
  cases hn:y.no with
  | false =>
   rw [hn] at h
   have h:aK x 3 ++ r = .run wEX :: _:=h
   rcases heads_e _ x (Nat.le_refl _) hx 3 r _ _ h with k | k | ⟨s,k⟩ | ⟨w,k,hw⟩
   ·cases k
   ·cases k
   ·cases k
   ·injection k with k
    subst k
    rcases hw with (hw | hw | hw | hw) | hw
    ·exact absurd (name_low hw) (by decide)
    ·exact absurd hw (by decide)
    ·exact absurd hw (by decide)
    ·exact absurd hw (by decide)
    ·exact absurd hw (by decide)
  | true =>
   rw [hn] at h
   have h:aK x 3 ++ r = .run [78,79,84] :: (.run wEX :: _):=h
   by_cases k3:lvl x=3
   ·obtain ⟨fl,a,rfl,va⟩:=not_of hx k3
    rw [aK_top (by omega),tk_not] at h
    injection h with _ h
    have h:aK a 3 ++ r = .run wEX :: _:=h
    rcases heads_e _ a (Nat.le_refl _) va 3 r _ _ h with k | k | ⟨s,k⟩ | ⟨w,k,hw⟩
    ·cases k
    ·cases k
    ·cases k
    ·injection k with k
     subst k
     rcases hw with (hw | hw | hw | hw) | hw
     ·exact absurd (name_low hw) (by decide)
     ·exact absurd hw (by decide)
     ·exact absurd hw (by decide)
     ·exact absurd hw (by decide)
     ·exact absurd hw (by decide)
   ·rw [aK_same k3] at h
    exact not_head _ x (Nat.le_refl _) hx 4 (by omega) (by omega) _ _ h
 ·rw [if_neg y0] at h
  by_cases y1:y.ex.l.length=1
  ·rw [if_pos y1,List.append_assoc,List.append_assoc] at h
   have vb:=vy _ (at_mem (i:=0) (by omega))
   have fin:∀ (w:List UInt8) (z:List Tok),(w=wIN ∨ w=wNO)→ntK y.no ++ (.run wIN :: .sym 40 :: (tkq y.q ++ [.sym 41]) ++ r') = .run w :: z→False:=by
    intro w z hw e
    rw [e] at h
    have k:=lv3_in hx vb hr.f hr.d (by rcases hw with rfl | rfl <;> decide) (by rcases hw with rfl | rfl <;> decide) h
    rcases hw with rfl | rfl
    ·exact hr.i _ k
    ·exact hr.n _ k
   cases hn:y.no with
   | false=>exact fin wIN _ (.inl rfl) (by rw [hn]; rfl)
   | true=>exact fin wNO _ (.inr rfl) (by rw [hn]; rfl)
  ·rw [if_neg y1] at h
   obtain ⟨a,z,va,e⟩:=several y0 y1 vy (r := .sym 41 :: (ntK y.no ++ .run wIN :: .sym 40 :: (tkq y.q ++ [.sym 41])) ++ r')
   have h:aK x 3 ++ r = .sym 40 :: ((joinK (.sym 44) tk y.ex.l ++ .sym 41 :: (ntK y.no ++ .run wIN :: .sym 40 :: (tkq y.q ++ [.sym 41]))) ++ r'):=h
   rw [← List.append_assoc] at e
   rw [e] at h
   obtain ⟨b,q',vb,k⟩:=par_head _ x (Nat.le_refl _) hx 3 r _ h
   rw [← aK_top (x:=a) (n:=1) (by have:=lvl_pos va; omega),← aK_top (x:=b) (n:=1) (by have:=lvl_pos vb; omega)] at k
   obtain ⟨_,m⟩:=pp _ 1 (by omega) (by omega) a b va vb (Nat.le_refl _) _ _ (fd_sym (by decide)).1 fol_par (fd_sym (by decide)).2 nd_par k
   injection m with m _
   injection m with m
   exact absurd m (by decide)
structure RMb {Q Q':Type} (q:Q→Q'→Prop) (x:MbP Q) (y:MbP Q'):Prop where
 no:x.no=y.no
 ex:eqF eqT x.ex.l y.ex.l=true
 q:q x.q y.q
def RCd {Q Q':Type} (q:Q→Q'→Prop):Tr ⊕ MbP Q→Tr ⊕ MbP Q'→Prop
 | .inl x,.inl y=>canT x=canT y
 | .inr x,.inr y=>RMb q x y
 | _,_=>False
def vCd {Q:Type} (vq:Q→Bool):Tr ⊕ MbP Q→Prop
 | .inl x=>vld x=true
 | .inr x=>vMb vq x=true
theorem a2_cd {Q Q':Type} {q:Q→Q'→Prop} {m:List (MbP Q)} {m':List (MbP Q')}:∀ {L L':List Tr},A2 (RCd q) (L.map .inl ++ m.map .inr) (L'.map .inl ++ m'.map .inr)→L.map canT=L'.map canT ∧ A2 (RMb q) m m'
 | [],[],h=>by
  refine ⟨rfl,?_⟩
  have h:A2 (RCd q) (m.map .inr) (m'.map .inr):=h
  revert h
  revert m'
  induction m with
  | nil=>intro m' _ h; cases m' with
   | nil=>trivial
   | cons b m'=>exact h.elim
  | cons a m ih=>intro m' _ h; cases m' with
   | nil=>exact h.elim
   | cons b m'=>exact ⟨h.1,ih h.2 h.2⟩
 | [],b :: L',h=>by
  cases m with
  | nil=>exact h.elim
  | cons a m=>exact h.1.elim
 | a :: L,[],h=>by
  cases m' with
  | nil=>exact h.elim
  | cons b m=>exact h.1.elim
 | a :: L,b :: L',h=>by
  obtain ⟨k1,k2⟩:=a2_cd (L:=L) (L':=L') h.2
  exact ⟨by rw [List.map_cons,List.map_cons,show canT a=canT b from h.1,k1],k2⟩
def gL:List Tr→List Tr
 | []=>[]
 | c :: cs=>[cs.foldl (fun t x=>nodeB 11 none t x) c]
theorem and_of {op:Int} (h:bop op) (h2:lvO op=2):op=11:=by
 have:=bop_mem h
 have k:∀ a ∈ opsL,lvO a=2→a=11:=by decide
 exact k op this h2
theorem flat_and {Q:Type} {tkq:Q→List Tok} {m:Nat} {r:List Tok}:∀ {l:List (Int × Tr)},okL 2 m l→flatK 2 l r=tlK (.run kAN) (cdK tkq 3) (l.map fun p => .inl p.2) r
 | [],_=>rfl
 | p :: l,h=>by
  have k:=h p (by simp)
  show opTk p.1 :: (aK p.2 3 ++ flatK 2 l r) = .run kAN :: (aK p.2 3 ++ tlK (.run kAN) (cdK tkq 3) (l.map fun p => .inl p.2) r)
  rw [and_of k.1 k.2.1,opTk_and,flat_and fun q hq=>h q (List.mem_cons_of_mem _ hq)]
theorem bld_and {m:Nat}:∀ {l:List (Int × Tr)},okL 2 m l→∀ t,bld t l=(l.map fun p=>canT p.2).foldl (fun t x=>nodeB 11 none t x) t
 | [],_,t=>rfl
 | p :: l,h,t=>by
  have k:=h p (by simp)
  show bld (nodeB p.1 none t (canT p.2)) l=(l.map fun p=>canT p.2).foldl _ (nodeB 11 none t (canT p.2))
  rw [and_of k.1 k.2.1,bld_and fun q hq=>h q (List.mem_cons_of_mem _ hq)]
theorem wh_sp {Q:Type} (tkq:Q→List Tok) {wh:List Tr} (h1:wh.length ≤ 1) (hv:∀ x ∈ wh,vld x=true):∃ L:List Tr,(L=[] ↔ wh=[]) ∧ (∀ x ∈ L,vld x=true) ∧ wh.map canT=gL (L.map canT) ∧
  ∀ (ms:List (MbP Q)) (r:List Tok),joinK (.run kAN) (cdK tkq 2) (wh.map .inl ++ ms.map .inr) ++ r=joinK (.run kAN) (cdK tkq 3) (L.map .inl ++ ms.map .inr) ++ r:=by
 have inr:∀ (ms:List (MbP Q)) (r:List Tok),tlK (.run kAN) (cdK tkq 2) (ms.map .inr) r=tlK (.run kAN) (cdK tkq 3) (ms.map .inr) r:=fun ms r=>tl_congr fun a ha=>by
  obtain ⟨m,_,rfl⟩:=List.mem_map.1 ha
  rfl
 match wh,h1 with
 | [],_ =>
  refine ⟨[],by simp,nofun,rfl,fun ms r => ?_⟩
  cases ms with
  | nil=>rfl
  | cons a ms =>
   show joinK (.run kAN) (cdK tkq 2) (Sum.inr a :: ms.map Sum.inr) ++ r=joinK (.run kAN) (cdK tkq 3) (Sum.inr a :: ms.map Sum.inr) ++ r
   rw [join_tl,join_tl,inr]
   rfl
 | [e],_ =>
  obtain ⟨b,l,hs⟩:=spine (n:=2) (by omega) _ e (Nat.le_refl _) (hv e (by simp))
  refine ⟨b :: l.map (·.2),by simp,?_,?_,fun ms r => ?_⟩
  ·intro x hx
   rcases List.mem_cons.1 hx with rfl | hx
   ·exact hs.vb
   ·obtain ⟨p,hp,rfl⟩:=List.mem_map.1 hx
    exact (hs.ok p hp).2.2.1
  ·show [canT e]=[(List.map canT (l.map (·.2))).foldl (fun t x=>nodeB 11 none t x) (canT b)]
   rw [hs.cn,bld_and hs.ok,List.map_map]
   rfl
  ·show joinK (.run kAN) (cdK tkq 2) (Sum.inl e :: ms.map Sum.inr) ++ r=joinK (.run kAN) (cdK tkq 3) (Sum.inl b :: ((l.map (·.2)).map Sum.inl ++ ms.map Sum.inr)) ++ r
   rw [join_tl,join_tl,tl_app,inr,List.map_map]
   show aK e 2 ++ _=aK b 3 ++ _
   rw [hs.tx,flat_and (tkq:=tkq) hs.ok]
   rfl
section
variable {Q Q':Type}
def cds (q:QP Q):List (Tr ⊕ MbP Q):=q.wh.l.map .inl ++ q.mb.l.map .inr
theorem eqF_can:∀ {l m:List Tr},l.map canT=m.map canT→eqF eqT l m=true
 | [],[],_=>rfl
 | a :: l,b :: m,h=>by
  rw [List.map_cons,List.map_cons] at h
  injection h with h1 h2
  rw [eqF,(eqT_can a b).2 h1,eqF_can h2]
  rfl
 | [],_ :: _,h=>by simp at h
 | _ :: _,[],h=>by simp at h
theorem cds_inj {tkq:Q→List Tok} {tkq':Q'→List Tok} {q:Q→Q'→Prop} {vq:Q→Bool} {vq':Q'→Bool} (hP:∀ a b,vq a=true→vq' b=true→∀ r r',tkq a ++ .sym 41 :: r=tkq' b ++ .sym 41 :: r'→q a b ∧ r=r')
  {S:List (List UInt8)} (h1:¬ [65,78,68] ∈ S) (h2:¬ [79,82] ∈ S) (h3:¬ wIN ∈ S) (h4:¬ wNO ∈ S) {x:QP Q} {y:QP Q'} (lx:x.wh.l.length ≤ 1) (wx:∀ e ∈ x.wh.l,vld e=true) (mx:∀ e ∈ x.mb.l,vMb vq e=true) (ly:y.wh.l.length ≤ 1) (wy:∀ e ∈ y.wh.l,vld e=true) (my:∀ e ∈ y.mb.l,vMb vq' e=true)
  (nx:¬ cds x=[]) (ny:¬ cds y=[]) {r r':List Tok} (hr:Kf S r) (hr':Kf S r') (h:joinK (.run kAN) (cdK tkq 2) (cds x) ++ r=joinK (.run kAN) (cdK tkq' 2) (cds y) ++ r'):(eqF eqT x.wh.l y.wh.l=true ∧ A2 (RMb q) x.mb.l y.mb.l) ∧ r=r':=by
 obtain ⟨L,i1,i2,i3,i4⟩:=wh_sp tkq lx wx
 obtain ⟨L',j1,j2,j3,j4⟩:=wh_sp tkq' ly wy
 unfold cds at h nx ny
 rw [i4,j4] at h
 have ne:∀ {R:Type} {L w:List Tr} {m:List (MbP R)},(L=[] ↔ w=[])→¬ w.map Sum.inl ++ m.map Sum.inr=[]→¬ L.map Sum.inl ++ m.map Sum.inr=[]:=by
  intro R L w m hi hn e
  refine hn ?_
  simp only [List.append_eq_nil_iff,List.map_eq_nil_iff] at e ⊢
  exact ⟨hi.1 e.1,e.2⟩
 have vv:∀ {R:Type} {v:R→Bool} {L:List Tr} {m:List (MbP R)},(∀ x ∈ L,vld x=true)→(∀ e ∈ m,vMb v e=true)→∀ x ∈ L.map Sum.inl ++ m.map Sum.inr,vCd v x:=by
  intro R v L m a b x hx
  rcases List.mem_append.1 hx with hx | hx
  ·obtain ⟨e,he,rfl⟩:=List.mem_map.1 hx
   exact a e he
  ·obtain ⟨e,he,rfl⟩:=List.mem_map.1 hx
   exact b e he
 obtain ⟨k1,k2⟩:=pf_two (F:=Fcd) (G:=Kf S) (V:=vCd vq) (V':=vCd vq') (q:=RCd q) (fun a b ha hb r r' f f' e=>by
  cases a with
  | inl a=>cases b with
   | inl b=>exact pp _ 3 (by omega) (by omega) a b ha hb (Nat.le_refl _) r r' f.f f'.f f.d f'.d e
   | inr b =>
    have hb:(b.ex.l.all vld && vq' b.q)=true:=hb
    rw [Bool.and_eq_true] at hb
    exact absurd e (cd_mb ha hb.1 f)
  | inr a =>
   have ha:(a.ex.l.all vld && vq a.q)=true:=ha
   rw [Bool.and_eq_true] at ha
   cases b with
   | inl b=>exact absurd e.symm (cd_mb hb ha.1 f')
   | inr b =>
    have hb:(b.ex.l.all vld && vq' b.q)=true:=hb
    rw [Bool.and_eq_true] at hb
    obtain ⟨m1,m2,m3,m4⟩:=mb_inj hP ha hb e
    exact ⟨⟨m1,m2,m3⟩,m4⟩) (fun r=>fcd_and) (fun r g=>⟨fcd_kf g h1 h2 h3 h4,fun z=>kf_no g h1 z⟩) _ _ (ne i1 nx) (ne j1 ny) (vv i2 mx) (vv j2 my) r r' hr hr' h
 obtain ⟨m1,m2⟩:=a2_cd k1
 exact ⟨⟨eqF_can (by rw [i3,j3,m1]),m2⟩,k2⟩
end
end Go.Vm
end
section
set_option linter.unusedVariables false
set_option linter.unusedSimpArgs false
set_option maxRecDepth 100000
namespace Go.Vm
open Go
abbrev kSE:List UInt8:=[83,69,76,69,67,84]
abbrev kDI:List UInt8:=[68,73,83,84,73,78,67,84]
abbrev kFR:List UInt8:=[70,82,79,77]
abbrev kWH:List UInt8:=[87,72,69,82,69]
abbrev kGR:List UInt8:=[71,82,79,85,80]
abbrev kBY:List UInt8:=[66,89]
abbrev kHA:List UInt8:=[72,65,86,73,78,71]
abbrev kUN:List UInt8:=[85,78,73,79,78]
abbrev kEX:List UInt8:=[69,88,67,69,80,84]
abbrev kIT:List UInt8:=[73,78,84,69,82,83,69,67,84]
abbrev kAL:List UInt8:=[65,76,76]
abbrev S5:List (List UInt8):=[kUN,kEX,kIT]
abbrev S4:List (List UInt8):=[kHA,kUN,kEX,kIT]
abbrev S3:List (List UInt8):=[kGR,kHA,kUN,kEX,kIT]
abbrev S2:List (List UInt8):=[kWH,kGR,kHA,kUN,kEX,kIT]
section
variable {Q Q':Type} [Inhabited Q] [Inhabited Q']
def diK (b:Bool):List Tok:=if b=true then [.run kDI] else []
def selK (tkq:Q→List Tok) (q:QP Q):List Tok :=
 .run kSE :: (diK q.ds ++ (joinK (.sym 44) itK q.it.l ++ (.run kFR :: (joinK (.sym 44) (frK tkq) q.fr.l ++
  ((if (cds q).length=0 then [] else .run kWH :: joinK (.run kAN) (cdK tkq 2) (cds q)) ++
  ((if q.gb.l.length=0 then [] else .run kGR :: .run kBY :: joinK (.sym 44) tk q.gb.l) ++
  (if q.hv.l.length=0 then [] else .run kHA :: joinK (.run kAN) hvK q.hv.l)))))))
structure RSel (q:Q→Q'→Prop) (x:QP Q) (y:QP Q'):Prop where
 ds:x.ds=y.ds
 it:eqF eqItm x.it.l y.it.l=true
 fr:A2 (RFr q) x.fr.l y.fr.l
 wh:eqF eqT x.wh.l y.wh.l=true
 mb:A2 (RMb q) x.mb.l y.mb.l
 gb:eqF eqT x.gb.l y.gb.l=true
 hv:eqF eqHv x.hv.l y.hv.l=true
theorem not_di {x:Itm} (h:x.star=true ∨ vItm x=true) {r z:List Tok}:¬ itK x ++ r = .run kDI :: z:=by
 intro e
 unfold itK at e
 by_cases hs:x.star=true
 ·rw [if_pos hs] at e
  injection e with e _
  cases e
 ·rw [if_neg hs,List.append_assoc] at e
  have h:=h.resolve_left hs
  unfold vItm at h
  simp only [Bool.and_eq_true,Bool.or_eq_true] at h
  rcases h.2 with k | k
  ·rw [← aK_top (x:=x.e) (n:=1) (by have:=lvl_pos k; omega)] at e
   rcases heads_e _ x.e (Nat.le_refl _) k 1 _ _ _ e with k | k | ⟨s,k⟩ | ⟨w,k,hw⟩
   ·cases k
   ·cases k
   ·cases k
   ·injection k with k
    subst k
    rcases hw with (hw | hw | hw | hw) | hw
    ·exact absurd (name_low hw) (by decide)
    ·exact absurd hw (by decide)
    ·exact absurd hw (by decide)
    ·exact absurd hw (by decide)
    ·exact absurd hw (by decide)
  ·obtain ⟨fn,fl,f0,f1,⟨_,_,t⟩ | ⟨a,_,_,t⟩⟩:=cal_inv k <;> rw [t] at e <;> injection e with e _ <;> injection e with e <;>
    (rcases (by omega:fn=0 ∨ fn=1 ∨ fn=2 ∨ fn=3) with rfl | rfl | rfl | rfl <;> exact absurd e (by decide))
theorem its_di {l:List Itm} (h:vIts l=true) {r z:List Tok}:¬ joinK (.sym 44) itK l ++ r = .run kDI :: z:=by
 intro e
 obtain ⟨h0,h⟩:=its_inv h
 cases l with
 | nil=>exact h0 rfl
 | cons a l =>
  rw [join_tl] at e
  refine not_di ?_ e
  rcases h with ⟨x,k,k2,_⟩ | h
  ·injection k with k _
   exact .inl (k ▸ k2)
  ·exact .inr (h a (by simp))
theorem di_inj {a b:Bool} {l m:List Itm} (hl:vIts l=true) (hm:vIts m=true) {r r':List Tok} (h:diK a ++ (joinK (.sym 44) itK l ++ r)=diK b ++ (joinK (.sym 44) itK m ++ r')):a=b ∧ joinK (.sym 44) itK l ++ r=joinK (.sym 44) itK m ++ r':=by
 cases a <;> cases b
 ·exact ⟨rfl,h⟩
 ·exact absurd h (its_di hl)
 ·exact absurd h.symm (its_di hm)
 ·injection h with _ h
  exact ⟨rfl,h⟩
theorem gbs_inj {l m:List Tr} (h0:¬ l.length=0) (h1:¬ m.length=0) (hl:∀ x ∈ l,vld x=true) (hm:∀ x ∈ m,vld x=true) {r r':List Tok} (hr:Kf S4 r) (hr':Kf S4 r') (h:joinK (.sym 44) tk l ++ r=joinK (.sym 44) tk m ++ r'):eqF eqT l m=true ∧ r=r':=by
 obtain ⟨k1,k2⟩:=pf_two (F:=fun r=>Fol 1 r ∧ Nd r) (G:=Kf S4) (q:=fun x y=>eqT x y=true) (fun x y hx hy r r' f f' e=>ec_inj (.inl hx) (.inl hy) f.1 f'.1 f.2 f'.2 e)
  (fun r=>fd_sym (by decide)) (fun r g=>⟨kf_fol g (by decide) (by decide),fun z=>kf_sym g (by decide) z⟩) l m (fun e=>h0 (by rw [e]; rfl)) (fun e=>h1 (by rw [e]; rfl)) hl hm r r' hr hr' h
 exact ⟨a2_eqF k1,k2⟩
theorem hvs_inj {l m:List Hv} (h0:¬ l.length=0) (h1:¬ m.length=0) (hl:∀ x ∈ l,vHv x=true) (hm:∀ x ∈ m,vHv x=true) {r r':List Tok} (hr:Kf S5 r) (hr':Kf S5 r') (h:joinK (.run kAN) hvK l ++ r=joinK (.run kAN) hvK m ++ r'):eqF eqHv l m=true ∧ r=r':=by
 obtain ⟨k1,k2⟩:=pf_two (F:=fun _=>True) (G:=Kf S5) (q:=fun x y=>eqHv x y=true) (fun x y hx hy r r' f f' e=>by
  obtain ⟨k1,k2,k3,k4⟩:=hv_inj hx hy e
  refine ⟨?_,k4⟩
  unfold eqHv
  rw [k1,k2,k3]
  simp) (fun r=>trivial) (fun r g=>⟨trivial,fun z=>kf_no g (by decide) z⟩) l m (fun e=>h0 (by rw [e]; rfl)) (fun e=>h1 (by rw [e]; rfl)) hl hm r r' hr hr' h
 exact ⟨a2_eqF k1,k2⟩
theorem nil_of {α:Type} {l:List α} (h:¬ l.length=0):¬ l=[]:=fun e=>h (by rw [e]; rfl)
theorem kf_opt {S:List (List UInt8)} {w:List UInt8} {a:Nat} {T r:List Tok} (hw:w ∈ S) (hr:Kf S r):Kf S ((if a=0 then [] else .run w :: T) ++ r):=by
 by_cases h:a=0
 ·rw [if_pos h]
  exact hr
 ·rw [if_neg h]
  exact kf_run hw
theorem vSel_inv {vq:Q→Bool} {x:QP Q} (h:vSel vq x=true):x.ar.l.length=0 ∧ vIts x.it.l=true ∧ (¬ x.fr.l=[] ∧ ∀ e ∈ x.fr.l,vFr vq e=true) ∧ x.wh.l.length ≤ 1 ∧ (∀ e ∈ x.wh.l,vld e=true) ∧ (∀ e ∈ x.mb.l,vMb vq e=true) ∧ (∀ e ∈ x.gb.l,vld e=true) ∧ ∀ e ∈ x.hv.l,vHv e=true:=by
 unfold vSel at h
 simp only [Bool.and_eq_true,decide_eq_true_eq] at h
 obtain ⟨⟨⟨⟨⟨⟨⟨⟨g0,g1⟩,g2⟩,g3⟩,g4⟩,g5⟩,g6⟩,g7⟩,g8⟩:=h
 exact ⟨g0,g1,⟨nil_of (by omega),List.all_eq_true.1 g3⟩,g4,List.all_eq_true.1 g5,List.all_eq_true.1 g6,List.all_eq_true.1 g7,List.all_eq_true.1 g8⟩
theorem sel_inj {tkq:Q→List Tok} {tkq':Q'→List Tok} {q:Q→Q'→Prop} {vq:Q→Bool} {vq':Q'→Bool} (hP:∀ a b,vq a=true→vq' b=true→∀ r r',tkq a ++ .sym 41 :: r=tkq' b ++ .sym 41 :: r'→q a b ∧ r=r')
  {x:QP Q} {y:QP Q'} (hx:vSel vq x=true) (hy:vSel vq' y=true) {r r':List Tok} (hr:Kf S5 r) (hr':Kf S5 r') (h:selK tkq x ++ r=selK tkq' y ++ r'):RSel q x y ∧ r=r':=by
 obtain ⟨_,x1,⟨x2,x3⟩,x4,x5,x6,x7,x8⟩:=vSel_inv hx
 obtain ⟨_,y1,⟨y2,y3⟩,y4,y5,y6,y7,y8⟩:=vSel_inv hy
 unfold selK at h
 injection h with _ h
 have ap:∀ a b c d e f r:List Tok,(a ++ (b ++ (.run kFR :: (c ++ (d ++ (e ++ f)))))) ++ r=a ++ (b ++ (.run kFR :: (c ++ (d ++ (e ++ (f ++ r)))))):=fun a b c d e f r=>by simp
 have h:=(ap _ _ _ _ _ _ _).symm.trans (h.trans (ap _ _ _ _ _ _ _))
 obtain ⟨e1,h⟩:=di_inj x1 y1 h
 obtain ⟨e2,h⟩:=its_inj x1 y1 (kf_run (by decide)) (kf_run (by decide)) h
 injection h with _ h
 have hr4:=kf_mono (S':=S4) hr (by decide)
 have hr4':=kf_mono (S':=S4) hr' (by decide)
 have f4:=kf_opt (S:=S4) (w:=kHA) (a:=x.hv.l.length) (T:=joinK (.run kAN) hvK x.hv.l) (by decide) hr4
 have f4':=kf_opt (S:=S4) (w:=kHA) (a:=y.hv.l.length) (T:=joinK (.run kAN) hvK y.hv.l) (by decide) hr4'
 have f3:=kf_opt (S:=S3) (w:=kGR) (a:=x.gb.l.length) (T := .run kBY :: joinK (.sym 44) tk x.gb.l) (by decide) (kf_mono (S':=S3) f4 (by decide))
 have f3':=kf_opt (S:=S3) (w:=kGR) (a:=y.gb.l.length) (T := .run kBY :: joinK (.sym 44) tk y.gb.l) (by decide) (kf_mono (S':=S3) f4' (by decide))
 have f2:=kf_opt (S:=S2) (w:=kWH) (a:=(cds x).length) (T:=joinK (.run kAN) (cdK tkq 2) (cds x)) (by decide) (kf_mono (S':=S2) f3 (by decide))
 have f2':=kf_opt (S:=S2) (w:=kWH) (a:=(cds y).length) (T:=joinK (.run kAN) (cdK tkq' 2) (cds y)) (by decide) (kf_mono (S':=S2) f3' (by decide))
 obtain ⟨e3,h⟩:=pf_two (F:=fun r=>∀ z,¬ r = .run [65,83] :: z) (G:=Kf S2) (q:=RFr q) (fun a b ha hb r r' f f' e=>fr_inj hP ha hb f f' e)
  (fun r z e=>by injection e with e _; cases e) (fun r g=>⟨fun z=>kf_no g (by decide) z,fun z=>kf_sym g (by decide) z⟩) _ _ x2 y2 x3 y3 _ _ f2 f2' h
 obtain ⟨⟨e4,e5⟩,h⟩:=opt_two (q:=eqF eqT x.wh.l y.wh.l=true ∧ A2 (RMb q) x.mb.l y.mb.l) (fun z=>kf_no f3 (by decide) z) (fun z=>kf_no f3' (by decide) z) (fun a b=>by
   have a:=nilL a
   have b:=nilL b
   unfold cds at a b
   simp only [List.append_eq_nil_iff,List.map_eq_nil_iff] at a b
   rw [a.1,a.2,b.1,b.2]
   exact ⟨rfl,trivial⟩) (fun a b h=>cds_inj hP (S:=S3) (by decide) (by decide) (by decide) (by decide) x4 x5 x6 y4 y5 y6 (nil_of a) (nil_of b) f3 f3' h) h
 obtain ⟨e6,h⟩:=opt_two (q:=eqF eqT x.gb.l y.gb.l=true) (fun z=>kf_no f4 (by decide) z) (fun z=>kf_no f4' (by decide) z) (fun a b=>by rw [nilL a,nilL b]; rfl)
  (fun a b h=>gbs_inj a b x7 y7 f4 f4' (by injection h with _ h)) h
 obtain ⟨e7,h⟩:=opt_two (q:=eqF eqHv x.hv.l y.hv.l=true) (fun z=>kf_no hr (by decide) z) (fun z=>kf_no hr' (by decide) z) (fun a b=>by rw [nilL a,nilL b]; rfl)
  (fun a b h=>hvs_inj a b x8 y8 hr hr' h) h
 exact ⟨⟨e1,e2,e3,e4,e5,e6,e7⟩,h⟩
end
end Go.Vm
end
section
set_option linter.unusedVariables false
set_option linter.unusedSimpArgs false
set_option maxRecDepth 100000
namespace Go.Vm
open Go
abbrev kWI:List UInt8:=[87,73,84,72]
abbrev kRE:List UInt8:=[82,69,67,85,82,83,73,86,69]
abbrev kAS:List UInt8:=[65,83]
def opQ (k:Int):List Tok := .run (if k ≤ 2 then kUN else if k ≤ 4 then kEX else kIT) :: (if k=1 ∨ k=3 then [.run kAL] else [])
section
variable {Q:Type} [Inhabited Q] (tkq:Q→List Tok) (kd:Q→Int)
def rgK (b:Q):List Tok:=if kd b=0 then tkq b else .sym 40 :: (tkq b ++ [.sym 41])
def setK (k:Int) (a b:Q):List Tok:=tkq a ++ (opQ k ++ rgK tkq kd b)
def bodK (q:QP Q):List Tok:=if q.k=0 then selK tkq q else setK tkq kd q.k (q.ar.l.getD 0 default) (q.ar.l.getD 1 default)
def nmK (s:List UInt8):List Tok:=[.run s]
def cmK (x:CmP Q):List Tok := .run x.name :: .sym 40 :: (joinK (.sym 44) nmK x.cols.l ++ .sym 41 :: .run kAS :: .sym 40 :: (setK tkq kd 2 x.base x.step ++ [.sym 41]))
def qryK (q:QP Q):List Tok:=if q.wi.l.length=0 then bodK tkq kd q else .run kWI :: .run kRE :: (joinK (.sym 44) (cmK tkq kd) q.wi.l ++ bodK tkq kd q)
end
def QN.tk:∀ n,QN n→List Tok
 | 0,_=>[]
 | n + 1,q=>qryK (QN.tk n) (QN.kd n) q
structure RCm {Q Q':Type} (q:Q→Q'→Prop) (x:CmP Q) (y:CmP Q'):Prop where
 name:x.name=y.name
 cols:x.cols.l=y.cols.l
 base:q x.base y.base
 step:q x.step y.step
structure RQ {Q Q':Type} (q:Q→Q'→Prop) (x:QP Q) (y:QP Q'):Prop where
 k:x.k=y.k
 wi:A2 (RCm q) x.wi.l y.wi.l
 s:RSel q x y
 ar:A2 q x.ar.l y.ar.l
def QN.R:∀ n m,QN n→QN m→Prop
 | n + 1,m + 1,x,y=>RQ (QN.R n m) x y
 | 0,_,_,_=>False
 | _ + 1,0,_,_=>False
theorem opQ_word {k:Int}:∃ w z,opQ k = .run w :: z ∧ w ∈ S5:=by
 unfold opQ
 refine ⟨_,_,rfl,?_⟩
 split
 ·decide
 ·split <;> decide
theorem opQ_inj {k k':Int} (h1:1 ≤ k) (h5:k ≤ 5) (h1':1 ≤ k') (h5':k' ≤ 5) {r r':List Tok} (hr:∀ z,¬ r = .run kAL :: z) (hr':∀ z,¬ r' = .run kAL :: z) (h:opQ k ++ r=opQ k' ++ r'):k=k' ∧ r=r':=by
 unfold opQ at h
 obtain ⟨e,h⟩:=run_inj h
 have hw:(k ≤ 2 ↔ k' ≤ 2) ∧ (k ≤ 4 ↔ k' ≤ 4):=by
  by_cases a:k ≤ 2 <;> by_cases b:k' ≤ 2 <;> by_cases c:k ≤ 4 <;> by_cases d:k' ≤ 4 <;> simp only [a,b,c,d,if_true,if_false] at e <;> first | exact absurd e (by decide) | omega | exact ⟨by omega,by omega⟩
 by_cases a:k=1 ∨ k=3 <;> by_cases b:k'=1 ∨ k'=3
 ·rw [if_pos a,if_pos b] at h
  injection h with _ h
  exact ⟨by omega,h⟩
 ·rw [if_pos a,if_neg b] at h
  exact absurd h.symm (hr' _)
 ·rw [if_neg a,if_pos b] at h
  exact absurd h (hr _)
 ·rw [if_neg a,if_neg b] at h
  exact ⟨by omega,h⟩
abbrev SQ:=(n:Nat) × QN n
def SQ.tk (s:SQ):List Tok:=QN.tk s.1 s.2
def SQ.kd (s:SQ):Int:=QN.kd s.1 s.2
def SQ.vb (s:SQ):Bool:=(QN.vv s.1).2 s.2
def SQ.R (s t:SQ):Prop:=QN.R s.1 t.1 s.2 t.2
def SQ.rg (s:SQ):List Tok:=rgK (QN.tk s.1) (QN.kd s.1) s.2
def chn:∀ n,QN n→SQ × List (Int × SQ)
 | 0,q=>(⟨0,q⟩,[])
 | n + 1,q=>if QP.k q=0 then (⟨n + 1,q⟩,[]) else ((chn n (List.getD (QP.ar q).l 0 default)).1,(chn n (List.getD (QP.ar q).l 0 default)).2 ++ [(QP.k q,⟨n,List.getD (QP.ar q).l 1 default⟩)])
def flS:List (Int × SQ)→List Tok→List Tok
 | [],r=>r
 | p :: l,r=>opQ p.1 ++ (p.2.rg ++ flS l r)
theorem fl_snoc {p:Int × SQ} {r:List Tok}:∀ l,flS (l ++ [p]) r=flS l (opQ p.1 ++ (p.2.rg ++ r))
 | []=>rfl
 | a :: l=>by
  show opQ a.1 ++ (a.2.rg ++ flS (l ++ [p]) r)=_
  rw [fl_snoc l]
  rfl
structure ChnQ (n:Nat) (c:SQ × List (Int × SQ)) (x:QN n):Prop where
 lv:c.1.1 ≤ n
 sv:c.1.vb=true
 sk:c.1.kd=0
 ls:∀ p ∈ c.2,1 ≤ p.1 ∧ p.1 ≤ 5 ∧ p.2.vb=true ∧ p.2.1 < n
 tx:∀ r,QN.tk n x ++ r=c.1.tk ++ flS c.2 r
section
variable {Q:Type} [Inhabited Q] {vq vb:Q→Bool}
theorem body_inv {x:QP Q} (h:vBody vq vb x=true):x.wi.l.length=0 ∧ ((x.k=0 ∧ vSel vq x=true) ∨ (¬ x.k=0 ∧ 1 ≤ x.k ∧ x.k ≤ 5 ∧ x.ar.l.length=2 ∧ emp x=true ∧ vb (x.ar.l.getD 0 default)=true ∧ vb (x.ar.l.getD 1 default)=true)):=by
 unfold vBody at h
 rw [Bool.and_eq_true,decide_eq_true_eq] at h
 refine ⟨h.1,?_⟩
 by_cases hk:x.k=0
 ·rw [if_pos hk] at h
  exact .inl ⟨hk,h.2⟩
 ·rw [if_neg hk] at h
  have h2:=h.2
  unfold vSet at h2
  simp only [Bool.and_eq_true,decide_eq_true_eq] at h2
  obtain ⟨⟨⟨⟨⟨g1,g2⟩,g3⟩,g4⟩,g5⟩,g6⟩:=h2
  exact .inr ⟨hk,by omega,g2,g3,g4,g5,g6⟩
theorem qry_bod {tkq:Q→List Tok} {kd:Q→Int} {x:QP Q} (h:x.wi.l.length=0):qryK tkq kd x=bodK tkq kd x:=if_pos h
theorem two_of {l:List Q} (h:l.length=2):l=[l.getD 0 default,l.getD 1 default]:=by
 match l,h with
 | [a,b],_=>rfl
end
theorem chn_ok:∀ (n:Nat) (x:QN n),(QN.vv n).2 x=true→ChnQ n (chn n x) x
 | 0,x,h=>by cases h
 | n + 1,x,h=>by
  obtain ⟨hw,hk⟩:=body_inv (vq:=(QN.vv n).1) (vb:=(QN.vv n).2) h
  have e1:QN.tk (n + 1) x=bodK (QN.tk n) (QN.kd n) x:=qry_bod hw
  rcases hk with ⟨hk,hs⟩ | ⟨hk,k1,k5,ha,he,v0,v1⟩
  ·have e:chn (n + 1) x=(⟨n + 1,x⟩,[]):=by
    rw [chn,if_pos hk]
   rw [e]
   exact ⟨Nat.le_refl _,h,hk,nofun,fun r=>rfl⟩
  ·have ih:=chn_ok n _ v0
   rw [chn,if_neg hk]
   refine ⟨Nat.le_succ_of_le ih.lv,ih.sv,ih.sk,?_,fun r => ?_⟩
   ·intro p hp
    rcases List.mem_append.1 hp with hp | hp
    ·obtain ⟨a,b,c,d⟩:=ih.ls p hp
     exact ⟨a,b,c,by omega⟩
    ·cases List.mem_singleton.1 hp
     exact ⟨k1,k5,v1,Nat.lt_succ_self n⟩
   ·rw [e1]
    unfold bodK
    rw [if_neg hk]
    unfold setK
    show (QN.tk n _ ++ (opQ _ ++ rgK _ _ _)) ++ r=_
    rw [List.append_assoc,List.append_assoc,ih.tx,fl_snoc]
    rfl
theorem emp_inv {Q:Type} {x:QP Q} (h:emp x=true):x.ds=false ∧ x.it.l=[] ∧ x.fr.l=[] ∧ x.wh.l=[] ∧ x.mb.l=[] ∧ x.gb.l=[] ∧ x.hv.l=[]:=by
 unfold emp at h
 simp only [Bool.and_eq_true,decide_eq_true_eq,Bool.not_eq_true'] at h
 obtain ⟨⟨⟨⟨⟨⟨g0,g1⟩,g2⟩,g3⟩,g4⟩,g5⟩,g6⟩:=h
 exact ⟨g0,nilL g1,nilL g2,nilL g3,nilL g4,nilL g5,nilL g6⟩
theorem rsel_emp {Q Q':Type} {q:Q→Q'→Prop} {x:QP Q} {y:QP Q'} (hx:emp x=true) (hy:emp y=true):RSel q x y:=by
 obtain ⟨a0,a1,a2,a3,a4,a5,a6⟩:=emp_inv hx
 obtain ⟨b0,b1,b2,b3,b4,b5,b6⟩:=emp_inv hy
 exact ⟨by rw [a0,b0],by rw [a1,b1]; rfl,by rw [a2,b2]; trivial,by rw [a3,b3]; rfl,by rw [a4,b4]; trivial,by rw [a5,b5]; rfl,by rw [a6,b6]; rfl⟩
def RA (p q:Int × SQ):Prop:=p.1=q.1 ∧ SQ.R p.2 q.2
theorem chn_R:∀ (n m:Nat) (x:QN n) (y:QN m),(QN.vv n).2 x=true→(QN.vv m).2 y=true→SQ.R (chn n x).1 (chn m y).1→A2 RA (chn n x).2 (chn m y).2→QN.R n m x y
 | 0,_,x,y,h,_,_,_=>by cases h
 | n + 1,0,x,y,_,h,_,_=>by cases h
 | n + 1,m + 1,x,y,hx,hy,h1,h2=>by
  obtain ⟨hw,hk⟩:=body_inv (vq:=(QN.vv n).1) (vb:=(QN.vv n).2) hx
  obtain ⟨hw',hk'⟩:=body_inv (vq:=(QN.vv m).1) (vb:=(QN.vv m).2) hy
  rcases hk with ⟨hk,_⟩ | ⟨hk,k1,k5,ha,he,v0,v1⟩ <;> rcases hk' with ⟨hk',_⟩ | ⟨hk',k1',k5',ha',he',v0',v1'⟩
  ·rw [chn,if_pos hk,chn,if_pos hk'] at h1
   exact h1
  ·rw [chn,if_pos hk,chn,if_neg hk'] at h2
   have:=a2_len h2
   simp at this
  ·rw [chn,if_neg hk,chn,if_pos hk'] at h2
   have:=a2_len h2
   simp at this
  ·rw [chn,if_neg hk,chn,if_neg hk'] at h1 h2
   obtain ⟨i1,i2⟩:=a2_snoc h2
   have:=chn_R n m _ _ v0 v0' h1 i1
   refine ⟨i2.1,by rw [nilL hw,nilL hw']; trivial,rsel_emp he he',?_⟩
   rw [two_of ha,two_of ha']
   exact ⟨this,i2.2,trivial⟩
end Go.Vm
end
section
set_option linter.unusedVariables false
set_option linter.unusedSimpArgs false
set_option maxRecDepth 100000
namespace Go.Vm
open Go
structure PQ (n m:Nat):Prop where
 q:∀ (x:QN n) (y:QN m),(QN.vv n).1 x=true→(QN.vv m).1 y=true→∀ r r',Kf [] r→Kf [] r'→QN.tk n x ++ r=QN.tk m y ++ r'→QN.R n m x y ∧ r=r'
 b:∀ (x:QN n) (y:QN m),(QN.vv n).2 x=true→(QN.vv m).2 y=true→∀ r r',Kf [] r→Kf [] r'→QN.tk n x ++ r=QN.tk m y ++ r'→QN.R n m x y ∧ r=r'
 s:∀ (x:QN n) (y:QN m),(QN.vv n).2 x=true→(QN.vv m).2 y=true→QN.kd n x=0→QN.kd m y=0→∀ r r',Kf S5 r→Kf S5 r'→QN.tk n x ++ r=QN.tk m y ++ r'→QN.R n m x y ∧ r=r'
theorem sq_sel {s:SQ} (h:s.vb=true) (hk:s.kd=0):∃ z,s.tk = .run kSE :: z:=by
 obtain ⟨n,x⟩:=s
 cases n with
 | zero=>cases h
 | succ n =>
  obtain ⟨hw,_⟩:=body_inv (vq:=(QN.vv n).1) (vb:=(QN.vv n).2) h
  have e:QN.tk (n + 1) x=selK (QN.tk n) x:=(qry_bod hw).trans (if_pos hk)
  exact ⟨_,e⟩
theorem sq_head {s:SQ} (h:s.vb=true):∃ z,s.tk = .run kSE :: z:=by
 obtain ⟨n,x⟩:=s
 have hc:=chn_ok n x h
 obtain ⟨z,e⟩:=sq_sel hc.sv hc.sk
 refine ⟨z ++ flS (chn n x).2 [],?_⟩
 have:=hc.tx []
 rw [List.append_nil,e] at this
 exact this
theorem rg_al {s:SQ} (h:s.vb=true) {r:List Tok} (z:List Tok):¬ s.rg ++ r = .run kAL :: z:=by
 intro e
 unfold SQ.rg rgK at e
 by_cases hk:QN.kd s.1 s.2=0
 ·rw [if_pos hk] at e
  obtain ⟨z',k⟩:=sq_sel h hk
  unfold SQ.tk at k
  rw [k] at e
  exact absurd (run_inj e).1 (by decide)
 ·rw [if_neg hk] at e
  injection e with e _
  cases e
theorem fl_kf {l:List (Int × SQ)} {r:List Tok} (h:Kf [] r):Kf S5 (flS l r):=by
 cases l with
 | nil=>exact kf_mono h nofun
 | cons p l =>
  obtain ⟨w,z,e,k⟩:=opQ_word (k:=p.1)
  show Kf S5 (opQ p.1 ++ _)
  rw [e]
  exact kf_run k
theorem fl_inj {N M:Nat} (IH:∀ a b,a < N→b < M→PQ a b):∀ l l':List (Int × SQ),(∀ p ∈ l,1 ≤ p.1 ∧ p.1 ≤ 5 ∧ p.2.vb=true ∧ p.2.1 < N)→(∀ p ∈ l',1 ≤ p.1 ∧ p.1 ≤ 5 ∧ p.2.vb=true ∧ p.2.1 < M)→∀ r r',Kf [] r→Kf [] r'→flS l r=flS l' r'→A2 RA l l' ∧ r=r'
 | [],[],_,_,r,r',_,_,e=>⟨trivial,e⟩
 | [],p :: l',_,_,r,r',h,_,e=>by
  obtain ⟨w,z,k,_⟩:=opQ_word (k:=p.1)
  have e:r=opQ p.1 ++ (p.2.rg ++ flS l' r'):=e
  rw [k] at e
  exact absurd e (kf_no h nofun _)
 | p :: l,[],_,_,r,r',_,h,e=>by
  obtain ⟨w,z,k,_⟩:=opQ_word (k:=p.1)
  have e:opQ p.1 ++ (p.2.rg ++ flS l r)=r':=e
  rw [k] at e
  exact absurd e.symm (kf_no h nofun _)
 | p :: l,p' :: l',hl,hl',r,r',hr,hr',e=>by
  obtain ⟨a1,a2,a3,a4⟩:=hl p (by simp)
  obtain ⟨b1,b2,b3,b4⟩:=hl' p' (by simp)
  have e:opQ p.1 ++ (p.2.rg ++ flS l r)=opQ p'.1 ++ (p'.2.rg ++ flS l' r'):=e
  obtain ⟨k1,e⟩:=opQ_inj a1 a2 b1 b2 (rg_al a3) (rg_al b3) e
  have hP:=IH _ _ a4 b4
  have rest:=fl_inj IH l l' (fun q hq=>hl q (List.mem_cons_of_mem _ hq)) (fun q hq=>hl' q (List.mem_cons_of_mem _ hq)) r r' hr hr'
  unfold SQ.rg rgK at e
  by_cases hk:QN.kd p.2.1 p.2.2=0 <;> by_cases hk':QN.kd p'.2.1 p'.2.2=0
  ·rw [if_pos hk,if_pos hk'] at e
   obtain ⟨m1,m2⟩:=hP.s _ _ a3 b3 hk hk' _ _ (fl_kf hr) (fl_kf hr') e
   obtain ⟨j1,j2⟩:=rest m2
   exact ⟨⟨⟨k1,m1⟩,j1⟩,j2⟩
  ·rw [if_pos hk,if_neg hk'] at e
   obtain ⟨z,k⟩:=sq_sel a3 hk
   unfold SQ.tk at k
   rw [k] at e
   injection e with e _
   cases e
  ·rw [if_neg hk,if_pos hk'] at e
   obtain ⟨z,k⟩:=sq_sel b3 hk'
   unfold SQ.tk at k
   rw [k] at e
   injection e with e _
   cases e
  ·rw [if_neg hk,if_neg hk'] at e
   injection e with _ e
   have e:(QN.tk _ p.2.2 ++ [.sym 41]) ++ flS l r=(QN.tk _ p'.2.2 ++ [.sym 41]) ++ flS l' r':=e
   rw [List.append_assoc,List.append_assoc] at e
   obtain ⟨m1,m2⟩:=hP.b _ _ a3 b3 _ _ kf_par kf_par e
   injection m2 with _ m2
   obtain ⟨j1,j2⟩:=rest m2
   exact ⟨⟨⟨k1,m1⟩,j1⟩,j2⟩
section
variable {Q:Type} [Inhabited Q]
def setQ (a b:Q):QP Q:=⟨2,.nil,false,.nil,.nil,.nil,.nil,.nil,.nil,.mk [a,b] false⟩
theorem setQ_v {vq vb:Q→Bool} {a b:Q} (ha:vb a=true) (hb:vb b=true):vBody vq vb (setQ a b)=true:=by
 unfold vBody vSet setQ
 show (true && (if (2:Int)=0 then _ else (true && true && true && true && vb a && vb b)))=true
 rw [if_neg (by decide),ha,hb]
 rfl
end
theorem pq_step {n m:Nat} (IH:∀ a b,a + b < (n + 1) + (m + 1)→PQ a b):PQ (n + 1) (m + 1):=by
 have h0:=IH n m (by omega)
 have hP:∀ (a:QN n) (b:QN m),(QN.vv n).1 a=true→(QN.vv m).1 b=true→∀ r r',QN.tk n a ++ .sym 41 :: r=QN.tk m b ++ .sym 41 :: r'→QN.R n m a b ∧ r=r':=fun a b ha hb r r' e=>by
  obtain ⟨k1,k2⟩:=h0.q a b ha hb _ _ kf_par kf_par e
  injection k2 with _ k2
  exact ⟨k1,k2⟩
 have hs:∀ (x:QN (n + 1)) (y:QN (m + 1)),(QN.vv (n + 1)).2 x=true→(QN.vv (m + 1)).2 y=true→QN.kd (n + 1) x=0→QN.kd (m + 1) y=0→∀ r r',Kf S5 r→Kf S5 r'→QN.tk (n + 1) x ++ r=QN.tk (m + 1) y ++ r'→QN.R (n + 1) (m + 1) x y ∧ r=r':=by
  intro x y hx hy kx ky r r' hr hr' e
  obtain ⟨hw,hk⟩:=body_inv (vq:=(QN.vv n).1) (vb:=(QN.vv n).2) hx
  obtain ⟨hw',hk'⟩:=body_inv (vq:=(QN.vv m).1) (vb:=(QN.vv m).2) hy
  have kx:QP.k x=0:=kx
  have ky:QP.k y=0:=ky
  have sx:=(hk.resolve_right fun k=>k.1 kx).2
  have sy:=(hk'.resolve_right fun k=>k.1 ky).2
  have e1:QN.tk (n + 1) x=selK (QN.tk n) x:=(qry_bod hw).trans (if_pos kx)
  have e2:QN.tk (m + 1) y=selK (QN.tk m) y:=(qry_bod hw').trans (if_pos ky)
  rw [e1,e2] at e
  obtain ⟨k1,k2⟩:=sel_inj hP sx sy hr hr' e
  refine ⟨⟨kx.trans ky.symm,by rw [nilL hw,nilL hw']; trivial,k1,?_⟩,k2⟩
  rw [nilL (vSel_inv sx).1,nilL (vSel_inv sy).1]
  trivial
 have hb:∀ (x:QN (n + 1)) (y:QN (m + 1)),(QN.vv (n + 1)).2 x=true→(QN.vv (m + 1)).2 y=true→∀ r r',Kf [] r→Kf [] r'→QN.tk (n + 1) x ++ r=QN.tk (m + 1) y ++ r'→QN.R (n + 1) (m + 1) x y ∧ r=r':=by
  intro x y hx hy r r' hr hr' e
  have cx:=chn_ok _ x hx
  have cy:=chn_ok _ y hy
  rw [cx.tx,cy.tx] at e
  have hS:PQ (chn (n + 1) x).1.1 (chn (m + 1) y).1.1 ∨ ((chn (n + 1) x).1.1=n + 1 ∧ (chn (m + 1) y).1.1=m + 1):=by
   have:=cx.lv
   have:=cy.lv
   by_cases h:(chn (n + 1) x).1.1=n + 1 ∧ (chn (m + 1) y).1.1=m + 1
   ·exact .inr h
   ·exact .inl (IH _ _ (by omega))
  have k:SQ.R (chn (n + 1) x).1 (chn (m + 1) y).1 ∧ flS (chn (n + 1) x).2 r=flS (chn (m + 1) y).2 r':=by
   have a1:=cx.sv
   have a2:=cx.sk
   have b1:=cy.sv
   have b2:=cy.sk
   have f1:=fl_kf (l:=(chn (n + 1) x).2) hr
   have f2:=fl_kf (l:=(chn (m + 1) y).2) hr'
   generalize flS (chn (n + 1) x).2 r=R1 at e f1 ⊢
   generalize flS (chn (m + 1) y).2 r'=R2 at e f2 ⊢
   generalize (chn (n + 1) x).1=s at *
   generalize (chn (m + 1) y).1=t at *
   obtain ⟨n',s⟩:=s
   obtain ⟨m',t⟩:=t
   rcases hS with hS | ⟨h1,h2⟩
   ·exact hS.s _ _ a1 b1 a2 b2 _ _ f1 f2 e
   ·have h1:n'=n + 1:=h1
    have h2:m'=m + 1:=h2
    subst h1
    subst h2
    exact hs _ _ a1 b1 a2 b2 _ _ f1 f2 e
  obtain ⟨i1,i2⟩:=fl_inj (fun a b ha hb=>IH a b (by omega)) _ _ cx.ls cy.ls r r' hr hr' k.2
  exact ⟨chn_R _ _ x y hx hy k.1 i1,i2⟩
 refine ⟨?_,hb,hs⟩
 intro x y hx hy r r' hr hr' e
 have hx:vQry (QN.vv n).1 (QN.vv n).2 x=true:=hx
 have hy:vQry (QN.vv m).1 (QN.vv m).2 y=true:=hy
 unfold vQry at hx hy
 rw [Bool.and_eq_true] at hx hy
 have cx:=List.all_eq_true.1 hx.1
 have cy:=List.all_eq_true.1 hy.1
 have bx:(QN.vv (n + 1)).2 (noW (Q:=QN n) x)=true:=hx.2
 have bY:(QN.vv (m + 1)).2 (noW (Q:=QN m) y)=true:=hy.2
 have fin:A2 (RCm (QN.R n m)) (QP.wi x).l (QP.wi y).l→bodK (QN.tk n) (QN.kd n) x ++ r=bodK (QN.tk m) (QN.kd m) y ++ r'→QN.R (n + 1) (m + 1) x y ∧ r=r':=by
  intro a e
  obtain ⟨k1,k2⟩:=hb (noW (Q:=QN n) x) (noW (Q:=QN m) y) bx bY r r' hr hr' e
  have k1:RQ (QN.R n m) (noW (Q:=QN n) x) (noW (Q:=QN m) y):=k1
  exact ⟨⟨k1.k,a,⟨k1.s.ds,k1.s.it,k1.s.fr,k1.s.wh,k1.s.mb,k1.s.gb,k1.s.hv⟩,k1.ar⟩,k2⟩
 have e:qryK (QN.tk n) (QN.kd n) x ++ r=qryK (QN.tk m) (QN.kd m) y ++ r':=e
 obtain ⟨zx,hx1⟩:=sq_head (s:=⟨n + 1,noW (Q:=QN n) x⟩) bx
 obtain ⟨zy,hy1⟩:=sq_head (s:=⟨m + 1,noW (Q:=QN m) y⟩) bY
 have hx1:bodK (QN.tk n) (QN.kd n) x = .run kSE :: zx:=hx1
 have hy1:bodK (QN.tk m) (QN.kd m) y = .run kSE :: zy:=hy1
 unfold qryK at e
 by_cases h1:(QP.wi x).l.length=0 <;> by_cases h2:(QP.wi y).l.length=0
 ·rw [if_pos h1,if_pos h2] at e
  exact fin (by rw [nilL h1,nilL h2]; trivial) e
 ·rw [if_pos h1,if_neg h2,hx1] at e
  exact absurd (run_inj e).1 (by decide)
 ·rw [if_neg h1,if_pos h2,hy1] at e
  exact absurd (run_inj e).1 (by decide)
 ·rw [if_neg h1,if_neg h2] at e
  injection e with _ e
  injection e with _ e
  have e:(joinK (.sym 44) (cmK (QN.tk n) (QN.kd n)) (QP.wi x).l ++ bodK (QN.tk n) (QN.kd n) x) ++ r=(joinK (.sym 44) (cmK (QN.tk m) (QN.kd m)) (QP.wi y).l ++ bodK (QN.tk m) (QN.kd m) y) ++ r':=e
  rw [List.append_assoc,List.append_assoc] at e
  obtain ⟨k1,k2⟩:=pf_two (F:=fun _=>True) (G:=fun r=>∃ z,r = .run kSE :: z) (V:=fun x=>vCm (QN.vv n).2 x=true) (V':=fun x=>vCm (QN.vv m).2 x=true) (q:=RCm (QN.R n m)) (fun a b ha hb' r r' _ _ e=>by
   unfold vCm at ha hb'
   simp only [Bool.and_eq_true,decide_eq_true_eq] at ha hb'
   obtain ⟨⟨⟨⟨a1,a2⟩,a3⟩,a4⟩,a5⟩:=ha
   obtain ⟨⟨⟨⟨b1,b2⟩,b3⟩,b4⟩,b5⟩:=hb'
   unfold cmK at e
   obtain ⟨i1,e⟩:=run_inj e
   injection e with _ e
   have ap:∀ a b r:List Tok,(a ++ .sym 41 :: .run kAS :: .sym 40 :: (b ++ [.sym 41])) ++ r=a ++ .sym 41 :: .run kAS :: .sym 40 :: (b ++ .sym 41 :: r):=fun a b r=>by simp
   have e:=(ap _ _ _).symm.trans (Eq.trans e (ap _ _ _))
   obtain ⟨i2,e⟩:=pf_two (F:=fun _=>True) (G:=fun r=>∃ z,r = .sym 41 :: z) (V:=fun _=>True) (V':=fun _=>True) (q:=fun s t:List UInt8=>s=t) (fun s t _ _ r r' _ _ e=>run_inj e) (fun _=>trivial)
    (fun r g=>⟨trivial,fun z k=>by obtain ⟨z',g⟩:=g; rw [g] at k; injection k with k _; injection k with k; exact absurd k (by decide)⟩) _ _ (nil_of (by omega)) (nil_of (by omega)) (fun _ _=>trivial) (fun _ _=>trivial) _ _ ⟨_,rfl⟩ ⟨_,rfl⟩ e
   injection e with _ e
   injection e with _ e
   injection e with _ e
   obtain ⟨i3,e⟩:=hb (setQ (Q:=QN n) a.base a.step) (setQ (Q:=QN m) b.base b.step) (setQ_v (vq:=(QN.vv n).1) a4 a5) (setQ_v (vq:=(QN.vv m).1) b4 b5) _ _ kf_par kf_par e
   injection e with _ e
   have i3:RQ (QN.R n m) (setQ (Q:=QN n) a.base a.step) (setQ (Q:=QN m) b.base b.step):=i3
   have i4:A2 (QN.R n m) [a.base,a.step] [b.base,b.step]:=i3.ar
   have i2':∀ {l m:List (List UInt8)},A2 (fun s t=>s=t) l m→l=m:=by
    intro l
    induction l with
    | nil=>intro m h; cases m with
     | nil=>rfl
     | cons b m=>exact h.elim
    | cons a l ih=>intro m h; cases m with
     | nil=>exact h.elim
     | cons b m=>rw [show a=b from h.1,ih h.2]
   exact ⟨⟨i1,i2' i2,i4.1,i4.2.1⟩,e⟩) (fun _=>trivial) (fun r g=>⟨trivial,fun z k=>by obtain ⟨z',g⟩:=g; rw [g] at k; injection k with k _; cases k⟩) _ _ (nil_of h1) (nil_of h2) cx cy _ _ ⟨_,by rw [hx1]; rfl⟩ ⟨_,by rw [hy1]; rfl⟩ e
  exact fin k1 k2
theorem pq (N:Nat):∀ n m,n + m ≤ N→PQ n m:=by
 induction N using Nat.strongRecOn with
 | _ N IH =>
  intro n m h
  cases n with
  | zero=>exact ⟨fun _ _ k=>(nomatch k),fun _ _ k=>(nomatch k),fun _ _ k=>(nomatch k)⟩
  | succ n =>
   cases m with
   | zero=>exact ⟨fun _ _ _ k=>(nomatch k),fun _ _ _ k=>(nomatch k),fun _ _ _ k=>(nomatch k)⟩
   | succ m=>exact pq_step fun a b hab=>IH (a + b) (by omega) a b (Nat.le_refl _)
end Go.Vm
end
section
set_option linter.unusedVariables false
set_option linter.unusedSimpArgs false
set_option maxRecDepth 100000
namespace Go.Vm
open Go
def Lx2 (t:List UInt8) (k:List Tok):Prop:=∀ r,Stop r→lex .idle (t ++ r)=k ++ lex .idle r
theorem lx_kw {w r:List UInt8} (h0:¬ w=[]) (h:w.all isAl=true):lex .idle (w ++ 32 :: r) = .run w :: lex .idle r:=by
 rw [lex_word h0 h (nx_cons (by decide)),lex_blank]
theorem lx_41 {r:List UInt8}:lex .idle (41 :: r) = .sym 41 :: lex .idle r:=lex_sym (by decide) (by decide) (by decide) (by decide)
theorem lx_40 {r:List UInt8}:lex .idle (40 :: r) = .sym 40 :: lex .idle r:=lex_sym (by decide) (by decide) (by decide) (by decide)
theorem lx_par {t:List UInt8} {k:List Tok} (h:Lx2 t k):Lx2 (par t) (.sym 40 :: (k ++ [.sym 41])):=by
 intro r hr
 unfold par
 show lex .idle (40 :: ((t ++ [41]) ++ r))=_
 rw [lx_40,List.append_assoc,show ([41]:List UInt8) ++ r=41 :: r from rfl,h _ (stop_c (.inr (.inl rfl))),lx_41]
 simp
theorem lx_tl {α:Type} {t:α→List UInt8} {k:α→List Tok} {sep:List UInt8} {s:Tok} (hs:∀ r,lex .idle (sep ++ r)=s :: lex .idle r) (hst:∀ r,Stop (sep ++ r)) {r:List UInt8} (hr:Stop r):∀ {l:List α},(∀ x ∈ l,Lx2 (t x) (k x))→lex .idle (Lib.joinTail sep (l.map t) ++ r)=tlK s k l (lex .idle r) ∧ Stop (Lib.joinTail sep (l.map t) ++ r)
 | [],_=>⟨rfl,hr⟩
 | a :: l,h=>by
  obtain ⟨k1,k2⟩:=lx_tl hs hst hr (l:=l) fun x hx=>h x (List.mem_cons_of_mem _ hx)
  rw [List.map_cons,jt_cons,List.append_assoc,List.append_assoc]
  refine ⟨?_,hst _⟩
  rw [hs,h a (by simp) _ k2,k1]
  rfl
theorem lx_join {α:Type} {t:α→List UInt8} {k:α→List Tok} {sep:List UInt8} {s:Tok} (hs:∀ r,lex .idle (sep ++ r)=s :: lex .idle r) (hst:∀ r,Stop (sep ++ r)) {l:List α} (h:∀ x ∈ l,Lx2 (t x) (k x)) (h0:¬ l=[]):Lx2 (Lib.join (l.map t) sep) (joinK s k l):=by
 intro r hr
 cases l with
 | nil=>exact absurd rfl h0
 | cons a l =>
  obtain ⟨k1,k2⟩:=lx_tl hs hst hr (l:=l) fun x hx=>h x (List.mem_cons_of_mem _ hx)
  rw [List.map_cons,Lib.join_cons,List.append_assoc,h a (by simp) _ k2,k1,join_tl]
theorem cm_s (r:List UInt8):lex .idle (cmW ++ r) = .sym 44 :: lex .idle r:=by
 show lex .idle (44 :: (32 :: r))=_
 rw [lex_sym (by decide) (by decide) (by decide) (by decide),lex_blank]
theorem cm_st (r:List UInt8):Stop (cmW ++ r):=stop_c (.inr (.inr rfl))
theorem an_s (r:List UInt8):lex .idle (anW ++ r) = .run kAN :: lex .idle r:=by
 show lex .idle (32 :: (kAN ++ 32 :: r))=_
 rw [lex_blank,lx_kw (by decide) (by decide)]
theorem an_st (r:List UInt8):Stop (anW ++ r):=stop_c (.inl rfl)
theorem lx_name {s:List UInt8} (h:nameV s=true):Lx2 s (nmK s):=fun r hr=>by
 obtain ⟨n0,n1⟩:=name_al h
 rw [lex_word n0 n1 (nx_al hr)]
 rfl
theorem nt_s (no:Bool) (r:List UInt8):lex .idle (ntT no ++ r)=ntK no ++ lex .idle r:=by
 cases no
 ·rfl
 ·show lex .idle (wNO ++ 32 :: r)=_
  rw [lx_kw (by decide) (by decide)]
  rfl
theorem lx_txt {e:Tr} (h:vld e=true):Lx2 (txt e) (tk e):=lex_ec (.inl h)
section
variable {Q:Type} [Inhabited Q] {tq:Q→List UInt8} {tkq:Q→List Tok} {kd:Q→Int} {vq vb:Q→Bool}
theorem lx_fr (hT:∀ a,vq a=true→Lx2 (tq a) (tkq a)) {x:FrP Q} (h:vFr vq x=true):Lx2 (frT tq x) (frK tkq x):=by
 intro r hr
 unfold vFr at h
 unfold frT frK
 by_cases h0:x.q.l.length=0
 ·rw [if_pos h0] at h ⊢
  rw [if_pos h0]
  rw [Bool.and_eq_true] at h
  obtain ⟨k1,k2⟩:=lex_as h.2 hr
  rw [List.append_assoc,lx_name h.1 _ k2,k1]
  rfl
 ·rw [if_neg h0] at h ⊢
  rw [if_neg h0]
  simp only [Bool.and_eq_true,decide_eq_true_eq] at h
  obtain ⟨k1,k2⟩:=lex_as (s:=x.alias) (by unfold optV; rw [h.1.1.2,Bool.or_true]) hr
  rw [List.append_assoc,lx_par (hT _ h.2) _ k2,k1]
  simp
omit [Inhabited Q] in
theorem lx_mb (hT:∀ a,vq a=true→Lx2 (tq a) (tkq a)) {x:MbP Q} (h:vMb vq x=true):Lx2 (mbT tq x) (mbK tkq x):=by
 intro r hr
 unfold vMb at h
 rw [Bool.and_eq_true] at h
 have hv:=List.all_eq_true.1 h.1
 have hp:=lx_par (hT _ h.2) r hr
 have hin:∀ r,lex .idle (inW ++ r) = .run wIN :: lex .idle r:=fun r=>by
  show lex .idle (wIN ++ 32 :: r)=_
  rw [lx_kw (by decide) (by decide)]
 have hex:∀ r,lex .idle (exW ++ r) = .run wEX :: lex .idle r:=fun r=>by
  show lex .idle (wEX ++ 32 :: r)=_
  rw [lx_kw (by decide) (by decide)]
 have e32:∀ z:List UInt8,[32] ++ z=32 :: z:=fun _=>rfl
 unfold mbT mbK
 by_cases h0:x.ex.l.length=0
 ·rw [if_pos h0,if_pos h0,List.append_assoc,List.append_assoc,nt_s,hex,hp]
  simp
 ·rw [if_neg h0,if_neg h0]
  by_cases h1:x.ex.l.length=1
  ·rw [if_pos h1,if_pos h1,List.append_assoc,List.append_assoc,List.append_assoc,List.append_assoc,e32,lex_at (lx_txt (hv _ (at_mem (i:=0) (by omega)))) 5 (stop_c (.inl rfl)),lex_blank,nt_s,hin,hp]
   simp
  ·rw [if_neg h1,if_neg h1,List.append_assoc,List.append_assoc,List.append_assoc,List.append_assoc,e32,
    lx_par (lx_join cm_s cm_st (fun e he=>lx_txt (hv e he)) (nil_of h0)) _ (stop_c (.inl rfl)),lex_blank,nt_s,hin,hp]
   simp
def cdT (tq:Q→List UInt8):Tr ⊕ MbP Q→List UInt8
 | .inl e=>whT e
 | .inr m=>mbT tq m
omit [Inhabited Q] in
theorem cnds_map (q:QP Q):cnds tq q=(cds q).map (cdT tq):=by
 unfold cnds cds
 rw [List.map_append,List.map_map,List.map_map]
 rfl
theorem lx_sel (hT:∀ a,vq a=true→Lx2 (tq a) (tkq a)) {x:QP Q} (h:vSel vq x=true):Lx2 (selT tq x) (selK tkq x):=by
 intro r hr
 obtain ⟨_,x1,⟨x2,x3⟩,x4,x5,x6,x7,x8⟩:=vSel_inv h
 obtain ⟨x0,_⟩:=its_inv x1
 have di:∀ z,lex .idle ((if x.ds=true then seW ++ diW else seW) ++ z) = .run kSE :: (diK x.ds ++ lex .idle z):=fun z=>by
  cases x.ds
  ·show lex .idle (kSE ++ 32 :: z)=_
   rw [lx_kw (by decide) (by decide)]
   rfl
  ·show lex .idle (kSE ++ 32 :: (kDI ++ 32 :: z))=_
   rw [lx_kw (by decide) (by decide),lx_kw (by decide) (by decide)]
   rfl
 have it:=lx_join (t:=itT) (k:=itK) cm_s cm_st (fun a ha=>fun r hr=>lex_it (its_ok x1 a ha) hr) x0
 have fr:=lx_join (t:=frT tq) (k:=frK tkq) cm_s cm_st (fun a ha=>lx_fr hT (x3 a ha)) x2
 have frw:∀ z,lex .idle (frW ++ z) = .run kFR :: lex .idle z:=fun z=>by
  show lex .idle (32 :: (kFR ++ 32 :: z))=_
  rw [lex_blank,lx_kw (by decide) (by decide)]
 have haw:∀ z,lex .idle (haW ++ z) = .run kHA :: lex .idle z:=fun z=>by
  show lex .idle (32 :: (kHA ++ 32 :: z))=_
  rw [lex_blank,lx_kw (by decide) (by decide)]
 have whw:∀ z,lex .idle (whW ++ z) = .run kWH :: lex .idle z:=fun z=>by
  show lex .idle (32 :: (kWH ++ 32 :: z))=_
  rw [lex_blank,lx_kw (by decide) (by decide)]
 have grw:∀ z,lex .idle (grW ++ z) = .run kGR :: .run kBY :: lex .idle z:=fun z=>by
  show lex .idle (32 :: (kGR ++ 32 :: (kBY ++ 32 :: z)))=_
  rw [lex_blank,lx_kw (by decide) (by decide),lx_kw (by decide) (by decide)]
 have d:lex .idle (selD x ++ r)=(if x.hv.l.length=0 then [] else .run kHA :: joinK (.run kAN) hvK x.hv.l) ++ lex .idle r ∧ Stop (selD x ++ r):=by
  unfold selD
  by_cases h0:x.hv.l.length=0
  ·rw [if_pos h0,if_pos h0]
   exact ⟨rfl,hr⟩
  ·rw [if_neg h0,if_neg h0]
   refine ⟨?_,stop_c (.inl rfl)⟩
   rw [List.append_assoc,haw,lx_join (t:=hvT) (k:=hvK) an_s an_st (fun a ha=>fun r hr=>lex_hv (x8 a ha) hr) (nil_of h0) r hr]
   rfl
 have c:lex .idle (selC x ++ (selD x ++ r))=(if x.gb.l.length=0 then [] else .run kGR :: .run kBY :: joinK (.sym 44) tk x.gb.l) ++ lex .idle (selD x ++ r) ∧ Stop (selC x ++ (selD x ++ r)):=by
  unfold selC
  by_cases h0:x.gb.l.length=0
  ·rw [if_pos h0,if_pos h0]
   exact ⟨rfl,d.2⟩
  ·rw [if_neg h0,if_neg h0]
   refine ⟨?_,stop_c (.inl rfl)⟩
   rw [List.append_assoc,grw,lx_join (t:=txt) (k:=tk) cm_s cm_st (fun a ha=>lx_txt (x7 a ha)) (nil_of h0) _ d.2]
   rfl
 have b:lex .idle (selB tq x ++ (selC x ++ (selD x ++ r)))=(if (cds x).length=0 then [] else .run kWH :: joinK (.run kAN) (cdK tkq 2) (cds x)) ++ lex .idle (selC x ++ (selD x ++ r)) ∧ Stop (selB tq x ++ (selC x ++ (selD x ++ r))):=by
  unfold selB
  rw [cnds_map,List.length_map]
  by_cases h0:(cds x).length=0
  ·rw [if_pos h0,if_pos h0]
   exact ⟨rfl,c.2⟩
  ·rw [if_neg h0,if_neg h0]
   refine ⟨?_,stop_c (.inl rfl)⟩
   rw [List.append_assoc,whw,lx_join (t:=cdT tq) (k:=cdK tkq 2) an_s an_st (fun a ha => ?_) (nil_of h0) _ c.2]
   ·rfl
   ·unfold cds at ha
    rcases List.mem_append.1 ha with ha | ha
    ·obtain ⟨e,he,rfl⟩:=List.mem_map.1 ha
     exact fun r hr=>lex_at (lx_txt (x5 e he)) 2 hr
    ·obtain ⟨e,he,rfl⟩:=List.mem_map.1 ha
     exact lx_mb hT (x6 e he)
 unfold selT selA selK
 have ap:∀ a i f c d e g r:List UInt8,(a ++ i ++ f ++ c ++ d ++ e ++ g) ++ r=a ++ (i ++ (f ++ (c ++ (d ++ (e ++ (g ++ r)))))):=fun a i f c d e g r=>by simp
 rw [ap,di,it (frW ++ _) (stop_c (.inl rfl)),frw,fr _ b.2,b.1,c.1,d.1]
 simp
theorem lx_op {k:Int} (h1:1 ≤ k) (h5:k ≤ 5) {r:List UInt8}:lex .idle (opsT.getD k.toNat [] ++ 32 :: r)=opQ k ++ lex .idle r:=by
 rcases (by omega:k=1 ∨ k=2 ∨ k=3 ∨ k=4 ∨ k=5) with rfl | rfl | rfl | rfl | rfl
 ·show lex .idle (kUN ++ 32 :: (kAL ++ 32 :: r))=_
  rw [lx_kw (by decide) (by decide),lx_kw (by decide) (by decide)]
  rfl
 ·show lex .idle (kUN ++ 32 :: r)=_
  rw [lx_kw (by decide) (by decide)]
  rfl
 ·show lex .idle (kEX ++ 32 :: (kAL ++ 32 :: r))=_
  rw [lx_kw (by decide) (by decide),lx_kw (by decide) (by decide)]
  rfl
 ·show lex .idle (kEX ++ 32 :: r)=_
  rw [lx_kw (by decide) (by decide)]
  rfl
 ·show lex .idle (kIT ++ 32 :: r)=_
  rw [lx_kw (by decide) (by decide)]
  rfl
omit [Inhabited Q] in
theorem lx_set (hB:∀ a,vb a=true→Lx2 (tq a) (tkq a)) {k:Int} (h1:1 ≤ k) (h5:k ≤ 5) {a b:Q} (ha:vb a=true) (hb:vb b=true):Lx2 (setT tq kd k a b) (setK tkq kd k a b):=by
 intro r hr
 unfold setT setK
 have e32:∀ z:List UInt8,[32] ++ z=32 :: z:=fun _=>rfl
 rw [List.append_assoc,List.append_assoc,List.append_assoc,List.append_assoc,e32,e32,hB a ha _ (stop_c (.inl rfl)),lex_blank,lx_op h1 h5]
 have:lex .idle (rgT tq kd b ++ r)=rgK tkq kd b ++ lex .idle r:=by
  unfold rgT rgK
  by_cases h0:kd b=0
  ·rw [if_pos h0,if_pos h0]
   exact hB b hb r hr
  ·rw [if_neg h0,if_neg h0]
   exact lx_par (hB b hb) r hr
 rw [this]
 simp
theorem lx_bod (hT:∀ a,vq a=true→Lx2 (tq a) (tkq a)) (hB:∀ a,vb a=true→Lx2 (tq a) (tkq a)) {x:QP Q} (h:vBody vq vb x=true):Lx2 (bodT tq kd x) (bodK tkq kd x):=by
 obtain ⟨hw,hk⟩:=body_inv h
 unfold bodT bodK
 rcases hk with ⟨hk,hs⟩ | ⟨hk,k1,k5,ha,he,v0,v1⟩
 ·rw [if_pos hk,if_pos hk]
  exact lx_sel hT hs
 ·rw [if_neg hk,if_neg hk]
  exact lx_set hB k1 k5 v0 v1
omit [Inhabited Q] in
theorem lx_cm (hB:∀ a,vb a=true→Lx2 (tq a) (tkq a)) {x:CmP Q} (h:vCm vb x=true):Lx2 (cmT tq kd x) (cmK tkq kd x):=by
 intro r hr
 unfold vCm at h
 simp only [Bool.and_eq_true,decide_eq_true_eq] at h
 obtain ⟨⟨⟨⟨a1,a2⟩,a3⟩,a4⟩,a5⟩:=h
 unfold cmT cmK
 have ap:∀ n c s:List UInt8,(n ++ [32,40] ++ c ++ asP ++ s ++ [41]) ++ r=n ++ (32 :: 40 :: (c ++ (41 :: (32 :: (kAS ++ 32 :: (40 :: (s ++ (41 :: r)))))))):=fun n c s=>by simp [asP]
 have ej:=lx_join (t:=fun s:List UInt8=>s) (k:=nmK) cm_s cm_st (fun s hs=>lx_name (List.all_eq_true.1 a3 s hs)) (nil_of (by omega))
 rw [List.map_id'] at ej
 rw [ap,lx_name a1 _ (stop_c (.inl rfl)),lex_blank,lx_40,ej _ (stop_c (.inr (.inl rfl))),lx_41,lex_blank,lx_kw (by decide) (by decide),lx_40,lx_set hB (by decide) (by decide) a4 a5 _ (stop_c (.inr (.inl rfl))),lx_41]
 simp [nmK]
theorem lx_qry (hT:∀ a,vq a=true→Lx2 (tq a) (tkq a)) (hB:∀ a,vb a=true→Lx2 (tq a) (tkq a)) {x:QP Q} (h:vQry vq vb x=true ∨ vBody vq vb x=true):Lx2 (qryT tq kd x) (qryK tkq kd x):=by
 unfold qryT qryK
 by_cases h0:x.wi.l.length=0
 ·rw [if_pos h0,if_pos h0]
  rcases h with h | h
  ·unfold vQry at h
   rw [Bool.and_eq_true] at h
   exact lx_bod (x:=noW x) hT hB h.2
  ·exact lx_bod hT hB h
 ·rw [if_neg h0,if_neg h0]
  rcases h with h | h
  ·unfold vQry at h
   rw [Bool.and_eq_true] at h
   intro r hr
   have ap:∀ c b:List UInt8,(wiW ++ c ++ [32] ++ b) ++ r=kWI ++ 32 :: (kRE ++ 32 :: (c ++ 32 :: (b ++ r))):=fun c b=>by simp [wiW]
   have eb:Lx2 (bodT tq kd x) (bodK tkq kd x):=lx_bod (x:=noW x) hT hB h.2
   rw [ap,lx_kw (by decide) (by decide),lx_kw (by decide) (by decide),lx_join (t:=cmT tq kd) (k:=cmK tkq kd) cm_s cm_st (fun c hc=>lx_cm hB (List.all_eq_true.1 h.1 c hc)) (nil_of h0) _ (stop_c (.inl rfl)),lex_blank,eb r hr]
   simp
  ·exact absurd (body_inv h).1 h0
end
theorem lx_qn:∀ (n:Nat) (x:QN n),(QN.vv n).1 x=true ∨ (QN.vv n).2 x=true→Lx2 (QN.txt n x) (QN.tk n x)
 | 0,_,h=>by rcases h with h | h <;> cases h
 | n + 1,x,h=>lx_qry (fun a ha=>lx_qn n a (.inl ha)) (fun a ha=>lx_qn n a (.inr ha)) h
end Go.Vm
end
section
set_option linter.unusedVariables false
set_option linter.unusedSimpArgs false
set_option maxRecDepth 100000
namespace Go.Vm
open Go
theorem r_eq:∀ (n:Nat) (x y:QN n),QN.R n n x y→QN.eq n x y=true
 | 0,_,_,h=>h.elim
 | n + 1,x,y,h=>by
  have h:RQ (QN.R n n) x y:=h
  have ih:=r_eq n
  have hn:∀ a,eqN a a=true:=fun a=>decide_eq_true rfl
  show eqQP (QN.eq n) x y=true
  have w1:eqF (eqCm (QN.eq n)) (QP.wi x).l (QP.wi y).l=true:=a2_eqF (a2_mono (fun a b k=>by
   unfold eqCm
   rw [decide_eq_true k.name,k.cols,eqF_refl hn,ih _ _ k.base,ih _ _ k.step]
   rfl) h.wi)
  have w2:eqF (eqFr (QN.eq n)) (QP.fr x).l (QP.fr y).l=true:=a2_eqF (a2_mono (fun a b k=>by
   unfold eqFr
   rw [decide_eq_true k.name,decide_eq_true k.alias,a2_eqF (a2_mono ih k.q)]
   rfl) h.s.fr)
  have w3:eqF (eqMb (QN.eq n)) (QP.mb x).l (QP.mb y).l=true:=a2_eqF (a2_mono (fun a b k=>by
   unfold eqMb
   rw [k.no,k.ex,ih _ _ k.q]
   simp) h.s.mb)
  unfold eqQP
  rw [decide_eq_true h.k,h.s.ds,w1,h.s.it,w2,h.s.wh,w3,h.s.gb,h.s.hv,a2_eqF (a2_mono ih h.ar)]
  simp
theorem eqF_map {α β:Type} {q:α→α→Bool} {t:α→β} (h:∀ a b,q a b=true→t a=t b):∀ {l m:List α},eqF q l m=true→l.map t=m.map t
 | [],[],_=>rfl
 | a :: l,b :: m,k=>by
  rw [eqF,Bool.and_eq_true] at k
  rw [List.map_cons,List.map_cons,h a b k.1,eqF_map h k.2]
theorem eqF_get {α β:Type} {q:α→α→Bool} {t:α→β} (h:∀ a b,q a b=true→t a=t b) {d:α}:∀ {l m:List α} (i:Nat),eqF q l m=true→t (l.getD i d)=t (m.getD i d)
 | [],[],_,_=>rfl
 | a :: l,b :: m,0,k=>by
  rw [eqF,Bool.and_eq_true] at k
  exact h a b k.1
 | a :: l,b :: m,i + 1,k=>by
  rw [eqF,Bool.and_eq_true] at k
  exact eqF_get h i k.2
theorem lvl_eq {x y:Tr} (h:eqT x y=true):lvl x=lvl y:=by
 rw [← lvl_can x,(eqT_can x y).1 h,lvl_can]
theorem it_eq (x y:Itm) (h:eqItm x y=true):itT x=itT y:=by
 unfold eqItm at h
 simp only [Bool.and_eq_true,decide_eq_true_eq,beq_iff_eq] at h
 unfold itT
 rw [h.1.1,h.1.2,txt_eq h.2]
theorem hv_eq (x y:Hv) (h:eqHv x y=true):hvT x=hvT y:=by
 unfold eqHv at h
 simp only [Bool.and_eq_true,decide_eq_true_eq] at h
 unfold hvT
 rw [h.1.1,h.1.2,txt_eq h.2]
theorem wh_eq (x y:Tr) (h:eqT x y=true):whT x=whT y:=by
 unfold whT
 rw [lvl_eq h,txt_eq h]
section
variable {Q:Type} [Inhabited Q] {tq:Q→List UInt8} {kd:Q→Int} {q:Q→Q→Bool}
theorem fr_eq (hq:∀ a b,q a b=true→tq a=tq b) (x y:FrP Q) (h:eqFr q x y=true):frT tq x=frT tq y:=by
 unfold eqFr at h
 simp only [Bool.and_eq_true,decide_eq_true_eq] at h
 unfold frT
 rw [h.1.1,h.1.2,eqF_len h.2,eqF_get (t:=tq) hq 0 h.2]
omit [Inhabited Q] in
theorem mb_eq (hq:∀ a b,q a b=true→tq a=tq b) (x y:MbP Q) (h:eqMb q x y=true):mbT tq x=mbT tq y:=by
 unfold eqMb at h
 simp only [Bool.and_eq_true,beq_iff_eq] at h
 unfold mbT
 rw [h.1.1,eqF_len h.1.2,eqF_map (t:=txt) (fun a b k=>txt_eq k) h.1.2,eqF_get (t:=fun e=>(lvl e,txt e)) (fun a b k=>by rw [lvl_eq k,txt_eq k]) (d:=default) 0 h.1.2,hq _ _ h.2]
omit [Inhabited Q] in
theorem setT_eq (hq:∀ a b,q a b=true→tq a=tq b) (hk:∀ a b,q a b=true→kd a=kd b) {k:Int} {a b c d:Q} (h1:tq a=tq c) (h2:tq b=tq d) (h3:kd b=kd d):setT tq kd k a b=setT tq kd k c d:=by
 unfold setT rgT
 rw [h1,h2,h3]
omit [Inhabited Q] in
theorem cm_eq (hq:∀ a b,q a b=true→tq a=tq b) (hk:∀ a b,q a b=true→kd a=kd b) (x y:CmP Q) (h:eqCm q x y=true):cmT tq kd x=cmT tq kd y:=by
 unfold eqCm at h
 simp only [Bool.and_eq_true,decide_eq_true_eq] at h
 obtain ⟨⟨⟨h1,h2⟩,h3⟩,h4⟩:=h
 have e:=eqF_map (t:=fun s:List UInt8=>s) (fun a b k=>of_decide_eq_true k) h2
 rw [List.map_id',List.map_id'] at e
 unfold cmT
 rw [h1,e,setT_eq hq hk (hq _ _ h3) (hq _ _ h4) (hk _ _ h4)]
theorem qry_eq (hq:∀ a b,q a b=true→tq a=tq b) (hk:∀ a b,q a b=true→kd a=kd b) (x y:QP Q) (h:eqQP q x y=true):qryT tq kd x=qryT tq kd y:=by
 unfold eqQP at h
 simp only [Bool.and_eq_true,decide_eq_true_eq,beq_iff_eq] at h
 obtain ⟨⟨⟨⟨⟨⟨⟨⟨⟨k,ds⟩,wi⟩,it⟩,fr⟩,wh⟩,mb⟩,gb⟩,hv⟩,ar⟩:=h
 have c:cnds tq x=cnds tq y:=by
  unfold cnds
  rw [eqF_map wh_eq wh,eqF_map (mb_eq hq) mb]
 have b:bodT tq kd x=bodT tq kd y:=by
  unfold bodT selT selA selB selC selD
  rw [k,ds,c,eqF_map it_eq it,eqF_map (fr_eq hq) fr,eqF_len gb,eqF_map (t:=txt) (fun a b k=>txt_eq k) gb,eqF_len hv,eqF_map hv_eq hv,setT_eq hq hk (eqF_get (t:=tq) hq 0 ar) (eqF_get (t:=tq) hq 1 ar) (eqF_get (t:=kd) hk 1 ar)]
 unfold qryT
 rw [b,eqF_len wi,eqF_map (cm_eq hq hk) wi]
end
theorem qn_txt_eq:∀ (n:Nat),(∀ x y:QN n,QN.eq n x y=true→QN.txt n x=QN.txt n y) ∧ ∀ x y:QN n,QN.eq n x y=true→QN.kd n x=QN.kd n y
 | 0=>⟨fun _ _ _=>rfl,fun _ _ _=>rfl⟩
 | n + 1=>by
  obtain ⟨h1,h2⟩:=qn_txt_eq n
  refine ⟨fun x y h=>qry_eq h1 h2 x y h,fun x y h => ?_⟩
  have h:eqQP (QN.eq n) x y=true:=h
  unfold eqQP at h
  simp only [Bool.and_eq_true,decide_eq_true_eq] at h
  exact h.1.1.1.1.1.1.1.1.1
theorem qtxt_iff {n:Nat} {x y:QN n} (hx:(QN.vv n).1 x=true) (hy:(QN.vv n).1 y=true):decide (QN.txt n x=QN.txt n y)=QN.eq n x y:=by
 rw [Bool.eq_iff_iff,decide_eq_true_eq]
 refine ⟨fun h => ?_,(qn_txt_eq n).1 x y⟩
 have ex:=lx_qn n x (.inl hx) [] (fun c r e=>by cases e)
 have ey:=lx_qn n y (.inl hy) [] (fun c r e=>by cases e)
 rw [h,ey] at ex
 exact r_eq n x y ((pq _ n n (Nat.le_refl _)).q x y hx hy [] [] (.inl rfl) (.inl rfl) ex.symm).1
end Go.Vm
end
