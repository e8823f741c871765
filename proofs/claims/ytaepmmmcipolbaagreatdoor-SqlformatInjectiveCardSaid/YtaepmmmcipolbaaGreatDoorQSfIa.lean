/- Chapter 24: tokens of texts. -/
import Derived.Test.YtaepmmmcipolbaaGreatDoorQSfD
section
set_option linter.unusedVariables false
set_option linter.unusedSimpArgs false
set_option maxRecDepth 100000
namespace Go.Vm
open Go
inductive Tok where
 | run (w:List UInt8)
 | str (s:List UInt8)
 | opr (w:List UInt8)
 | sym (c:UInt8)
 deriving DecidableEq
inductive LS where
 | idle
 | run (a:List UInt8)
 | opr (a:List UInt8)
 | str (a:List UInt8)
 | quo (a:List UInt8)
def isAl (c:UInt8):Bool:=isWd c
def isOpc (c:UInt8):Bool:=decide (c=43) || decide (c=45) || decide (c=42) || decide (c=124) || decide (c=61) || decide (c=60) || decide (c=62)
def beginL (c:UInt8):List Tok × LS:=if c=32 then ([],.idle) else if isAl c=true then ([],.run [c]) else if isOpc c=true then ([],.opr [c]) else if c=39 then ([],.str []) else ([.sym c],.idle)
def flushL:LS→List Tok
 | .idle=>[]
 | .run a=>[.run a]
 | .opr a=>[.opr a]
 | .str a=>[.str a]
 | .quo a=>[.str a]
def stepL:LS→UInt8→List Tok × LS
 | .idle,c=>beginL c
 | .run a,c=>if isAl c=true then ([],.run (a ++ [c])) else (.run a :: (beginL c).1,(beginL c).2)
 | .opr a,c=>if isOpc c=true then ([],.opr (a ++ [c])) else (.opr a :: (beginL c).1,(beginL c).2)
 | .str a,c=>if c=39 then ([],.quo a) else ([],.str (a ++ [c]))
 | .quo a,c=>if c=39 then ([],.str (a ++ [39])) else (.str a :: (beginL c).1,(beginL c).2)
def lex:LS→List UInt8→List Tok
 | s,[]=>flushL s
 | s,c :: r=>(stepL s c).1 ++ lex (stepL s c).2 r
def Nx (p:UInt8→Bool) (r:List UInt8):Prop:=∀ c r',r=c :: r'→p c=false
theorem nx_cons {p:UInt8→Bool} {c:UInt8} {r:List UInt8} (h:p c=false):Nx p (c :: r):=fun d r' e=>by injection e with e1 e2; subst e1; exact h
theorem lex_runs:∀ (w:List UInt8) {r a:List UInt8},w.all isAl=true→Nx isAl r→lex (.run a) (w ++ r) = .run (a ++ w) :: lex .idle r
 | [],r,a,_,hr=>by
  rw [List.nil_append,List.append_nil]
  cases r with
  | nil=>rfl
  | cons c r =>
   have h:=hr c r rfl
   rw [lex,stepL,if_neg (by rw [h]; exact Bool.false_ne_true)]
   rfl
 | c :: w,r,a,hw,hr=>by
  rw [List.all_cons,Bool.and_eq_true] at hw
  rw [List.cons_append,lex,stepL,if_pos hw.1,lex_runs w hw.2 hr,List.append_assoc]
  rfl
theorem lex_oprs:∀ (w:List UInt8) {r a:List UInt8},w.all isOpc=true→Nx isOpc r→lex (.opr a) (w ++ r) = .opr (a ++ w) :: lex .idle r
 | [],r,a,_,hr=>by
  rw [List.nil_append,List.append_nil]
  cases r with
  | nil=>rfl
  | cons c r =>
   have h:=hr c r rfl
   rw [lex,stepL,if_neg (by rw [h]; exact Bool.false_ne_true)]
   rfl
 | c :: w,r,a,hw,hr=>by
  rw [List.all_cons,Bool.and_eq_true] at hw
  rw [List.cons_append,lex,stepL,if_pos hw.1,lex_oprs w hw.2 hr,List.append_assoc]
  rfl
theorem al_32 {c:UInt8} (h:isAl c=true):¬ c=32:=by
 rintro rfl
 exact absurd h (by decide)
theorem opc_al {c:UInt8} (h:isOpc c=true):¬ c=32 ∧ ¬ isAl c=true:=by
 unfold isOpc at h
 simp only [Bool.or_eq_true,decide_eq_true_eq] at h
 rcases h with (((((rfl | rfl) | rfl) | rfl) | rfl) | rfl) | rfl <;> decide
theorem lex_word {w r:List UInt8} (h0:¬ w=[]) (h:w.all isAl=true) (hr:Nx isAl r):lex .idle (w ++ r) = .run w :: lex .idle r:=by
 cases w with
 | nil=>exact absurd rfl h0
 | cons c w =>
  rw [List.all_cons,Bool.and_eq_true] at h
  rw [List.cons_append,lex,stepL,beginL,if_neg (al_32 h.1),if_pos h.1]
  exact lex_runs w h.2 hr
theorem lex_op {w r:List UInt8} (h0:¬ w=[]) (h:w.all isOpc=true) (hr:Nx isOpc r):lex .idle (w ++ r) = .opr w :: lex .idle r:=by
 cases w with
 | nil=>exact absurd rfl h0
 | cons c w =>
  rw [List.all_cons,Bool.and_eq_true] at h
  rw [List.cons_append,lex,stepL,beginL,if_neg (opc_al h.1).1,if_neg (opc_al h.1).2,if_pos h.1]
  exact lex_oprs w h.2 hr
theorem lex_blank {r:List UInt8}:lex .idle (32 :: r)=lex .idle r:=rfl
theorem lex_sym {c:UInt8} {r:List UInt8} (h1:¬ c=32) (h2:isAl c=false) (h3:isOpc c=false) (h4:¬ c=39):lex .idle (c :: r) = .sym c :: lex .idle r:=by
 rw [lex,stepL,beginL,if_neg h1,if_neg (by rw [h2]; exact Bool.false_ne_true),if_neg (by rw [h3]; exact Bool.false_ne_true),if_neg h4]
 rfl
theorem lex_strs:∀ (s:List UInt8) {r a:List UInt8},Nx (fun c=>decide (c=39)) r→lex (.str a) (q2 s ++ 39 :: r) = .str (a ++ s) :: lex .idle r
 | [],r,a,hr=>by
  rw [q2_nil,List.nil_append,List.append_nil,lex,stepL,if_pos rfl]
  cases r with
  | nil=>rfl
  | cons c r =>
   have h:¬ c=39:=of_decide_eq_false (hr c r rfl)
   show [] ++ lex (.quo a) (c :: r)=_
   rw [List.nil_append,lex,stepL,if_neg h]
   rfl
 | c :: s,r,a,hr=>by
  rw [q2_cons]
  by_cases h:c=39
  ·subst h
   rw [if_pos rfl]
   show lex (.str a) (39 :: 39 :: (q2 s ++ 39 :: r))=_
   rw [lex,stepL,if_pos rfl,List.nil_append]
   show lex (.quo a) (39 :: (q2 s ++ 39 :: r))=_
   rw [lex,stepL,if_pos rfl,List.nil_append]
   show lex (.str (a ++ [39])) (q2 s ++ 39 :: r)=_
   rw [lex_strs s hr,List.append_assoc]
   rfl
  ·rw [if_neg h]
   show lex (.str a) (c :: (q2 s ++ 39 :: r))=_
   rw [lex,stepL,if_neg h,List.nil_append]
   show lex (.str (a ++ [c])) (q2 s ++ 39 :: r)=_
   rw [lex_strs s hr,List.append_assoc]
   rfl
theorem lex_text {s r:List UInt8} (hr:Nx (fun c=>decide (c=39)) r):lex .idle (39 :: (q2 s ++ [39]) ++ r) = .str s :: lex .idle r:=by
 have:=lex_strs s (a:=[]) hr
 rw [List.nil_append] at this
 rw [← this]
 show lex .idle (39 :: ((q2 s ++ [39]) ++ r))=_
 rw [List.append_assoc]
 rfl
def Stop (r:List UInt8):Prop:=∀ c r',r=c :: r'→c=32 ∨ c=41 ∨ c=44
theorem stop_nx {p:UInt8→Bool} {r:List UInt8} (h:Stop r) (h1:p 32=false) (h2:p 41=false) (h3:p 44=false):Nx p r:=fun c r' e=>by
 rcases h c r' e with rfl | rfl | rfl
 ·exact h1
 ·exact h2
 ·exact h3
end Go.Vm
end
section
set_option linter.unusedVariables false
set_option linter.unusedSimpArgs false
set_option maxRecDepth 100000
namespace Go.Vm
open Go
def opTk (op:Int):Tok:=if op=11 ∨ op=12 then .run (symT.getD op.toNat []) else .opr (symT.getD op.toNat [])
def atK (p:Int × List Tok) (req:Int):List Tok:=if p.1 < req then .sym 40 :: (p.2 ++ [.sym 41]) else p.2
def oprK (op:Int) (ps:List (Int × List Tok)):List Tok :=
 if op=13 then .run [78,79,84] :: atK (ps.getD 0 (0,[])) (lvO op) else if op=3 then .opr [45] :: atK (ps.getD 0 (0,[])) 8 else
 atK (ps.getD 0 (0,[])) (if lvO op=4 then 5 else lvO op) ++ opTk op :: atK (ps.getD 1 (0,[])) (lvO op + 1)
def valK (v:Val):List Tok:=if v.kind=0 then (if v.n < 0 then [.opr [45],.run (Lib.decDigits v.n.natAbs)] else [.run (Lib.decDigits v.n.toNat)]) else if v.kind=1 then [.str v.text] else if v.n=1 then [.run txT] else [.run txF]
def tkB (k:Int) (v:Val) (tb nm:List UInt8) (op fn:Int) (ps:List (Int × List Tok)):List Tok :=
 if k=0 then valK v else if k=1 then (if tb=[] then [.run nm] else [.run tb,.sym 46,.run nm]) else
 if k=3 then .run (fnT.getD fn.toNat []) :: (match ps with
  | []=>[.sym 40,.opr [42],.sym 41]
  | p :: _ => .sym 40 :: (p.2 ++ [.sym 41])) else oprK op ps
mutual
def tk:Tr→List Tok
 | .mk k v tb nm op fn _ xs=>tkB k v tb nm op fn (ptk xs)
def ptk:List Tr→List (Int × List Tok)
 | []=>[]
 | a :: r=>(lvl a,tk a) :: ptk r
end
def Lx (t:Tr):Prop:=∀ r,Stop r→lex .idle (txt t ++ r)=tk t ++ lex .idle r
theorem nm_al {b:UInt8} (h:nmB b=true):isAl b=true:=by
 unfold nmB at h
 unfold isAl isWd isLet
 rcases Bool.or_eq_true .. |>.mp h with h | h
 ·rcases Bool.or_eq_true .. |>.mp h with h | h
  ·unfold isLow at h
   simp only [Bool.and_eq_true,decide_eq_true_eq] at h
   simp only [Bool.or_eq_true,Bool.and_eq_true,decide_eq_true_eq]
   omega
  ·rw [h,Bool.or_true,Bool.true_or]
 ·rw [h,Bool.or_true]
theorem name_al {s:List UInt8} (h:nameV s=true):¬ s=[] ∧ s.all isAl=true:=by
 unfold nameV at h
 simp only [Bool.and_eq_true,Bool.not_eq_true',decide_eq_false_iff_not] at h
 refine ⟨h.1.1.1.1,?_⟩
 rw [List.all_eq_true] at h ⊢
 exact fun x hx=>nm_al (h.2 x hx)
theorem dig_al {s:List UInt8} (h:s.all isDig=true):s.all isAl=true:=by
 rw [List.all_eq_true] at h ⊢
 intro x hx
 have:=h x hx
 unfold isAl isWd
 rw [this,Bool.or_true,Bool.true_or]
theorem nx_al {r:List UInt8} (h:Stop r):Nx isAl r:=stop_nx h (by decide) (by decide) (by decide)
theorem nx_op {r:List UInt8} (h:Stop r):Nx isOpc r:=stop_nx h (by decide) (by decide) (by decide)
theorem nx_qu {r:List UInt8} (h:Stop r):Nx (fun c=>decide (c=39)) r:=stop_nx h (by decide) (by decide) (by decide)
theorem stop_c {c:UInt8} {r:List UInt8} (h:c=32 ∨ c=41 ∨ c=44):Stop (c :: r):=fun d r' e=>by injection e with e1 e2; subst e1; exact h
theorem lex_val {v:Val} (h:validV v=true) {r:List UInt8} (hr:Stop r):lex .idle (fmtV v ++ r)=valK v ++ lex .idle r:=by
 unfold fmtV valK
 rw [if_neg (by rw [h]; simp)]
 split
 ·split
  ·rename_i hn
   rw [itoa_neg hn]
   show lex .idle ([45] ++ (Lib.decDigits v.n.natAbs ++ r))=_
   have hd:=dec_all v.n.natAbs
   have hne:=dec_ne v.n.natAbs
   rw [lex_op (by simp) (by decide),lex_word hne (dig_al hd) (nx_al hr)]
   ·rfl
   ·generalize Lib.decDigits v.n.natAbs=l at hd hne
    cases l with
    | nil=>exact absurd rfl hne
    | cons c l =>
     rw [List.all_cons,Bool.and_eq_true] at hd
     refine nx_cons ?_
     have h1:=hd.1
     unfold isDig at h1
     simp only [Bool.and_eq_true,decide_eq_true_eq] at h1
     unfold isOpc
     have:∀ k:UInt8,¬ (48 ≤ k.toNat ∧ k.toNat ≤ 57)→decide (c=k)=false:=fun k hk=>decide_eq_false (fun e=>hk (e ▸ h1))
     rw [this 43 (by decide),this 45 (by decide),this 42 (by decide),this 124 (by decide),this 61 (by decide),this 60 (by decide),this 62 (by decide)]
     rfl
  ·rename_i hn
   rw [itoa_pos hn,lex_word (dec_ne _) (dig_al (dec_all _)) (nx_al hr)]
   rfl
 ·split
  ·rw [lex_text (nx_qu hr)]
   rfl
  ·split
   ·rw [lex_word (by decide) (by decide) (nx_al hr)]
    rfl
   ·rw [lex_word (by decide) (by decide) (nx_al hr)]
    rfl
theorem lex_at {t:Tr} (h:Lx t) (q:Int) {r:List UInt8} (hr:Stop r):lex .idle (atP (lvl t,txt t) q ++ r)=atK (lvl t,tk t) q ++ lex .idle r:=by
 unfold atP atK
 by_cases hq:lvl t < q
 ·rw [if_pos hq,if_pos hq]
  show lex .idle (40 :: ((txt t ++ [41]) ++ r))=_
  rw [lex_sym (by decide) (by decide) (by decide) (by decide),List.append_assoc,show ([41]:List UInt8) ++ r=41 :: r from rfl,h _ (stop_c (.inr (.inl rfl)))]
  show _ :: (_ ++ lex .idle (41 :: r))=_
  rw [lex_sym (by decide) (by decide) (by decide) (by decide)]
  simp
 ·rw [if_neg hq,if_neg hq]
  exact h r hr
theorem lex_optk {op:Int} (h0:0 ≤ op) (h1:op ≤ 12) (h3:¬ op=3) {r:List UInt8}:lex .idle (symT.getD op.toNat [] ++ 32 :: r)=opTk op :: lex .idle r:=by
 have hs:Stop (32 :: r):=stop_c (.inl rfl)
 rcases (by omega:op=0 ∨ op=1 ∨ op=2 ∨ op=4 ∨ op=5 ∨ op=6 ∨ op=7 ∨ op=8 ∨ op=9 ∨ op=10 ∨ op=11 ∨ op=12) with rfl | rfl | rfl | rfl | rfl | rfl | rfl | rfl | rfl | rfl | rfl | rfl
 iterate 10 exact (lex_op (by decide) (by decide) (nx_op hs)).trans rfl
 ·exact (lex_word (by decide) (by decide) (nx_al hs)).trans rfl
 ·exact (lex_word (by decide) (by decide) (nx_al hs)).trans rfl
end Go.Vm
end
section
set_option linter.unusedVariables false
set_option linter.unusedSimpArgs false
set_option maxRecDepth 100000
namespace Go.Vm
open Go
theorem ptk_map:∀ l:List Tr,ptk l=l.map fun a=>(lvl a,tk a)
 | []=>by rw [ptk]; rfl
 | a :: r=>by rw [ptk,ptk_map r]; rfl
theorem ptk_at {xs:List Tr} {i:Nat} (h:i < xs.length):(ptk xs).getD i (0,[])=(lvl (xs.getD i default),tk (xs.getD i default)):=by
 rw [ptk_map,List.getD_eq_getElem?_getD,List.getElem?_map,List.getElem?_eq_getElem h,List.getD_eq_getElem?_getD,List.getElem?_eq_getElem h]; rfl
theorem ptx_at' {xs:List Tr} {i:Nat} (h:i < xs.length):(ptx xs).getD i (0,[])=(lvl (xs.getD i default),txt (xs.getD i default)):=by
 rw [ptx_map,List.getD_eq_getElem?_getD,List.getElem?_map,List.getElem?_eq_getElem h,List.getD_eq_getElem?_getD,List.getElem?_eq_getElem h]; rfl
theorem at_mem {xs:List Tr} {i:Nat} (h:i < xs.length):xs.getD i default ∈ xs:=by
 rw [List.getD_eq_getElem?_getD,List.getElem?_eq_getElem h]
 exact List.getElem_mem h
theorem al_op {c:UInt8} (h:isAl c=true):isOpc c=false:=by
 cases ho:isOpc c with
 | false=>rfl
 | true=>exact absurd h (opc_al ho).2
theorem nx_word {w r:List UInt8} (h0:¬ w=[]) (h:w.all isAl=true):Nx isOpc (w ++ r):=by
 cases w with
 | nil=>exact absurd rfl h0
 | cons c w =>
  rw [List.all_cons,Bool.and_eq_true] at h
  exact nx_cons (al_op h.1)
theorem nx_opd {k:Int} {v:Val} {tb nm:List UInt8} {op fn:Int} {fl:Option Bool} {xs:List Tr} (h:vld (.mk k v tb nm op fn fl xs)=true) (r:List UInt8):Nx isOpc (atP (lvl (.mk k v tb nm op fn fl xs),txt (.mk k v tb nm op fn fl xs)) 8 ++ r):=by
 unfold atP
 by_cases hl:lvl (.mk k v tb nm op fn fl xs) < 8
 ·rw [if_pos hl]
  exact nx_cons (by decide)
 ·rw [if_neg hl]
  rw [vld] at h
  rw [txt]
  rcases vld_cases h with ⟨e,h1,h2,_⟩ | ⟨e,h1,h2,_⟩ | ⟨e,_⟩
  ·unfold txtB fmtV
   rw [if_pos e,if_neg (by rw [h1]; simp)]
   split
   ·rw [itoa_pos (by omega)]
    exact nx_word (dec_ne _) (dig_al (dec_all _))
   ·split
    ·exact nx_cons (by decide)
    ·split
     ·exact nx_word (w:=txT) (by decide) (by decide)
     ·exact nx_word (w:=txF) (by decide) (by decide)
  ·unfold txtB
   rw [if_neg (by omega),if_pos e]
   obtain ⟨n0,n1⟩:=name_al h1
   split
   ·exact nx_word n0 n1
   ·rename_i ht
    unfold optV at h2
    rw [decide_eq_false ht,Bool.false_or] at h2
    obtain ⟨t0,t1⟩:=name_al h2
    rw [List.append_assoc,List.append_assoc]
    exact nx_word t0 t1
  ·exfalso
   have hl:¬ (if k=2 then lvO op else 8) < 8:=hl
   rw [if_pos e] at hl
   refine hl ?_
   unfold lvO
   repeat' split
   all_goals omega
theorem lex_ok (n:Nat):∀ t:Tr,cnt t ≤ n→(vld t=true ∨ cal t=true)→Lx t:=by
 induction n with
 | zero=>intro t h _; have:=cnt_pos t; omega
 | succ n ih =>
  intro t h hv r hr
  cases t with
  | mk k v tb nm op fn fl xs =>
   rw [cnt] at h
   have hx:vldL xs=true→∀ a,a ∈ xs→vld a=true ∧ Lx a:=by
    intro hv a ha
    rw [vldL_all] at hv
    have h1:=List.all_eq_true.1 hv a ha
    have h2:=cnt_mem ha
    exact ⟨h1,ih a (by omega) (.inl h1)⟩
   rcases hv with hv | hv
   ·have hv':=hv
    rw [vld] at hv'
    rw [txt,tk]
    rcases vld_cases hv' with ⟨e,h1,_⟩ | ⟨e,h1,h2,_⟩ | ⟨e,o0,o1,hl,h5,_⟩
    ·unfold txtB tkB
     rw [if_pos e,if_pos e]
     exact lex_val h1 hr
    ·rw [show txtB k v tb nm op fn (ptx xs)=(if tb=[] then nm else tb ++ [46] ++ nm) by unfold txtB; rw [if_neg (by omega),if_pos e],show tkB k v tb nm op fn (ptk xs)=(if tb=[] then [.run nm] else [.run tb,.sym 46,.run nm]) by unfold tkB; rw [if_neg (by omega),if_pos e]]
     obtain ⟨n0,n1⟩:=name_al h1
     split
     ·rw [lex_word n0 n1 (nx_al hr)]
      rfl
     ·rename_i ht
      unfold optV at h2
      rw [decide_eq_false ht,Bool.false_or] at h2
      obtain ⟨t0,t1⟩:=name_al h2
      rw [List.append_assoc,List.append_assoc]
      show lex .idle (tb ++ (46 :: (nm ++ r)))=_
      rw [lex_word t0 t1 (nx_cons (by decide))]
      rw [lex_sym (by decide) (by decide) (by decide) (by decide),lex_word n0 n1 (nx_al hr)]
      rfl
    ·have hxs:=hx h5
     rw [show txtB k v tb nm op fn (ptx xs)=opT op (ptx xs) by unfold txtB; rw [if_neg (by omega),if_neg (by omega),if_neg (by omega)],show tkB k v tb nm op fn (ptk xs)=oprK op (ptk xs) by unfold tkB; rw [if_neg (by omega),if_neg (by omega),if_neg (by omega)]]
     unfold opT oprK
     by_cases h13:op=13
     ·have hl1:0 < xs.length:=by rw [hl]; unfold arI; split <;> omega
      rw [if_pos h13,if_pos h13,ptx_at' hl1,ptk_at hl1]
      unfold notT
      have e1:([78,79,84,32]:List UInt8) ++ atP (lvl (xs.getD 0 default),txt (xs.getD 0 default)) (lvO op) ++ r=[78,79,84] ++ (32 :: (atP (lvl (xs.getD 0 default),txt (xs.getD 0 default)) (lvO op) ++ r)):=rfl
      rw [e1,lex_word (by decide) (by decide) (nx_cons (by decide)),lex_blank,lex_at (hxs _ (at_mem hl1)).2 _ hr]
      rfl
     ·rw [if_neg h13,if_neg h13]
      by_cases h3:op=3
      ·have hl1:0 < xs.length:=by rw [hl]; unfold arI; split <;> omega
       rw [if_pos h3,if_pos h3,ptx_at' hl1,ptk_at hl1]
       obtain ⟨va,la⟩:=hxs _ (at_mem hl1)
       generalize xs.getD 0 default=a at va la ⊢
       have e1:45 :: atP (lvl a,txt a) 8 ++ r=[45] ++ (atP (lvl a,txt a) 8 ++ r):=rfl
       have hn:Nx isOpc (atP (lvl a,txt a) 8 ++ r):=by cases a; exact nx_opd va r
       rw [e1,lex_op (by decide) (by decide) hn,lex_at la _ hr]
       rfl
      ·have hl2:xs.length=2:=by rw [hl]; unfold arI; rw [if_neg (by omega)]
       rw [if_neg h3,if_neg h3,ptx_at' (by omega),ptk_at (by omega),ptx_at' (by omega),ptk_at (by omega)]
       obtain ⟨va,la⟩:=hxs _ (at_mem (i:=0) (by omega))
       obtain ⟨vb,lb⟩:=hxs _ (at_mem (i:=1) (by omega))
       generalize xs.getD 0 default=a at va la ⊢
       generalize xs.getD 1 default=b at vb lb ⊢
       generalize (if lvO op=4 then 5 else lvO op)=q
       have e1:atP (lvl a,txt a) q ++ [32] ++ symT.getD op.toNat [] ++ [32] ++ atP (lvl b,txt b) (lvO op + 1) ++ r=atP (lvl a,txt a) q ++ (32 :: (symT.getD op.toNat [] ++ 32 :: (atP (lvl b,txt b) (lvO op + 1) ++ r))):=by simp
       rw [e1,lex_at la _ (stop_c (.inl rfl)),lex_blank,lex_optk o0 (by omega) h3,lex_at lb _ hr]
       simp
   ·obtain ⟨e,f0,f1,hl,h5,hf,_⟩:=cal_cases hv
    rw [txt,tk]
    have k0:¬ k=0:=by omega
    have k1:¬ k=1:=by omega
    have hw:¬ fnT.getD fn.toNat []=[] ∧ (fnT.getD fn.toNat []).all isAl=true:=by
     rcases (by omega:fn=0 ∨ fn=1 ∨ fn=2 ∨ fn=3) with rfl | rfl | rfl | rfl <;> decide
    cases xs with
    | nil =>
     have x1:txtB k v tb nm op fn (ptx [])=fnT.getD fn.toNat [] ++ [40,42,41]:=by rw [ptx]; exact (if_neg k0).trans ((if_neg k1).trans (if_pos e))
     have x2:tkB k v tb nm op fn (ptk []) = .run (fnT.getD fn.toNat []) :: [.sym 40,.opr [42],.sym 41]:=by rw [ptk]; exact (if_neg k0).trans ((if_neg k1).trans (if_pos e))
     rw [x1,x2]
     generalize fnT.getD fn.toNat []=W at hw ⊢
     rw [List.append_assoc]
     show lex .idle (W ++ 40 :: ([42] ++ (41 :: r))) = .run W :: .sym 40 :: .opr [42] :: .sym 41 :: lex .idle r
     rw [lex_word hw.1 hw.2 (nx_cons (by decide)),lex_sym (by decide) (by decide) (by decide) (by decide),lex_op (by decide) (by decide) (nx_cons (by decide)),lex_sym (by decide) (by decide) (by decide) (by decide)]
    | cons a rest =>
     have hr0:rest=[]:=nilL (by rw [List.length_cons] at hl; omega)
     subst hr0
     have x1:txtB k v tb nm op fn (ptx [a])=fnT.getD fn.toNat [] ++ 40 :: (txt a ++ [41]):=by rw [ptx]; exact (if_neg k0).trans ((if_neg k1).trans (if_pos e))
     have x2:tkB k v tb nm op fn (ptk [a]) = .run (fnT.getD fn.toNat []) :: .sym 40 :: (tk a ++ [.sym 41]):=by rw [ptk]; exact (if_neg k0).trans ((if_neg k1).trans (if_pos e))
     rw [x1,x2]
     generalize fnT.getD fn.toNat []=W at hw ⊢
     rw [List.append_assoc]
     show lex .idle (W ++ 40 :: ((txt a ++ [41]) ++ r)) = .run W :: .sym 40 :: ((tk a ++ [.sym 41]) ++ lex .idle r)
     rw [lex_word hw.1 hw.2 (nx_cons (by decide)),lex_sym (by decide) (by decide) (by decide) (by decide),List.append_assoc,show ([41]:List UInt8) ++ r=41 :: r from rfl,(hx h5 a (List.mem_cons_self ..)).2 _ (stop_c (.inr (.inl rfl))),lex_sym (by decide) (by decide) (by decide) (by decide)]
     simp
end Go.Vm
end
section
set_option linter.unusedVariables false
set_option linter.unusedSimpArgs false
set_option maxRecDepth 100000
namespace Go.Vm
open Go
mutual
def canT:Tr→Tr
 | .mk k v tb nm op fn _ xs => .mk k v tb nm op fn none (canL xs)
def canL:List Tr→List Tr
 | []=>[]
 | a :: r=>canT a :: canL r
end
mutual
theorem eqT_can:∀ a b:Tr,eqT a b=true ↔ canT a=canT b
 | .mk k v tb nm op fn fl xs,.mk k' v' tb' nm' op' fn' fl' xs'=>by
  rw [eqT,canT,canT]
  simp only [Bool.and_eq_true,decide_eq_true_eq,Tr.mk.injEq]
  rw [eqL_can xs xs']
  constructor
  ·rintro ⟨⟨⟨⟨⟨⟨h1,h2⟩,h3⟩,h4⟩,h5⟩,h6⟩,h7⟩
   exact ⟨h1,h2,h3,h4,h5,h6,trivial,h7⟩
  ·rintro ⟨h1,h2,h3,h4,h5,h6,_,h7⟩
   exact ⟨⟨⟨⟨⟨⟨h1,h2⟩,h3⟩,h4⟩,h5⟩,h6⟩,h7⟩
theorem eqL_can:∀ a b:List Tr,eqL a b=true ↔ canL a=canL b
 | [],[]=>by rw [eqL]; simp
 | a :: r,b :: s=>by
  rw [eqL,canL,canL,Bool.and_eq_true,eqT_can a b,eqL_can r s,List.cons.injEq]
 | [],b :: s=>by rw [eqL,canL,canL]; simp
 | a :: r,[]=>by rw [eqL,canL,canL]; simp
end
def nodeU (op:Int) (fl:Option Bool) (a:Tr):Tr := .mk 2 vz [] [] op 0 fl [a]
def nodeB (op:Int) (fl:Option Bool) (a b:Tr):Tr := .mk 2 vz [] [] op 0 fl [a,b]
def bop (op:Int):Prop:=0 ≤ op ∧ op ≤ 12 ∧ ¬ op=3
theorem vld_inv {x:Tr} (h:vld x=true):(∃ v fl,x = .mk 0 v [] [] 0 0 fl [] ∧ validV v=true ∧ 0 ≤ v.n) ∨ (∃ tb nm fl,x = .mk 1 vz tb nm 0 0 fl [] ∧ nameV nm=true ∧ optV tb=true) ∨
  (∃ op fl a,(op=13 ∨ op=3) ∧ x=nodeU op fl a ∧ vld a=true) ∨ (∃ op fl a b,bop op ∧ x=nodeB op fl a b ∧ vld a=true ∧ vld b=true):=by
 obtain ⟨k,v,tb,nm,op,fn,fl,xs⟩:=x
 rw [vld] at h
 rcases vld_cases h with ⟨rfl,h1,h2,rfl,rfl,rfl,rfl,h8⟩ | ⟨rfl,h1,h2,rfl,rfl,rfl,h7⟩ | ⟨rfl,o0,o1,hl,h5,rfl,rfl,rfl,rfl⟩
 ·have:=nilL h8
  subst this
  exact .inl ⟨v,fl,rfl,h1,h2⟩
 ·have:=nilL h7
  subst this
  exact .inr (.inl ⟨tb,nm,fl,rfl,h1,h2⟩)
 ·rw [vldL_all,List.all_eq_true] at h5
  unfold arI at hl
  by_cases ho:op=3 ∨ op=13
  ·rw [if_pos ho] at hl
   match xs,hl with
   | [a],_=>exact .inr (.inr (.inl ⟨op,fl,a,ho.symm,rfl,h5 a (by simp)⟩))
  ·rw [if_neg ho] at hl
   match xs,hl with
   | [a,b],_=>exact .inr (.inr (.inr ⟨op,fl,a,b,⟨o0,by omega,by omega⟩,rfl,h5 a (by simp),h5 b (by simp)⟩))
abbrev aK (x:Tr) (n:Int):List Tok:=atK (lvl x,tk x) n
def lq (op:Int):Int:=if lvO op=4 then 5 else lvO op
theorem tk_not {fl a}:tk (nodeU 13 fl a) = .run [78,79,84] :: aK a 3:=by
 unfold nodeU
 rw [tk,ptk,ptk]
 rfl
theorem tk_neg {fl a}:tk (nodeU 3 fl a) = .opr [45] :: aK a 8:=by
 unfold nodeU
 rw [tk,ptk,ptk]
 rfl
theorem tk_bin {op fl a b} (h:bop op):tk (nodeB op fl a b)=aK a (lq op) ++ opTk op :: aK b (lvO op + 1):=by
 unfold nodeB
 rw [tk,ptk,ptk,ptk]
 have k:tkB 2 vz [] [] op 0 [(lvl a,tk a),(lvl b,tk b)]=oprK op [(lvl a,tk a),(lvl b,tk b)]:=rfl
 rw [k]
 unfold oprK
 rw [if_neg (by have:=h.2.1; omega),if_neg h.2.2]
 rfl
theorem lvl_u {op fl a}:lvl (nodeU op fl a)=lvO op:=rfl
theorem lvl_b {op fl a b}:lvl (nodeB op fl a b)=lvO op:=rfl
def opsL:List Int:=[0,1,2,4,5,6,7,8,9,10,11,12]
theorem bop_mem {op:Int} (h:bop op):op ∈ opsL:=by
 obtain ⟨h0,h1,h3⟩:=h
 unfold opsL
 rcases (by omega:op=0 ∨ op=1 ∨ op=2 ∨ op=4 ∨ op=5 ∨ op=6 ∨ op=7 ∨ op=8 ∨ op=9 ∨ op=10 ∨ op=11 ∨ op=12) with rfl | rfl | rfl | rfl | rfl | rfl | rfl | rfl | rfl | rfl | rfl | rfl <;> decide
theorem opTk_all:∀ a ∈ opsL,∀ b ∈ opsL,opTk a=opTk b→a=b:=by decide
theorem opTk_inj {a b:Int} (ha:bop a) (hb:bop b) (h:opTk a=opTk b):a=b:=opTk_all a (bop_mem ha) b (bop_mem hb) h
def Fol (n:Int) (r:List Tok):Prop:=∀ op r',bop op→n ≤ lvO op→¬ r=opTk op :: r'
theorem fol_mono {n m:Int} {r:List Tok} (h:Fol n r) (hm:n ≤ m):Fol m r:=fun op r' hb hl=>h op r' hb (by omega)
theorem fol_op {op:Int} (h:bop op) {r:List Tok} {n:Int} (hn:lvO op < n):Fol n (opTk op :: r):=fun op' r' hb hl e=>by
 injection e with e1 e2
 have:=opTk_inj h hb e1
 subst this
 omega
def flatK (n:Int):List (Int × Tr)→List Tok→List Tok
 | [],r=>r
 | p :: l,r=>opTk p.1 :: (aK p.2 (n + 1) ++ flatK n l r)
def bld:Tr→List (Int × Tr)→Tr
 | t,[]=>t
 | t,p :: l=>bld (nodeB p.1 none t (canT p.2)) l
def okL (n:Int) (m:Nat) (l:List (Int × Tr)):Prop:=∀ p ∈ l,bop p.1 ∧ lvO p.1=n ∧ vld p.2=true ∧ cnt p.2 < m
theorem flat_snoc {n:Int} {p:Int × Tr} {r:List Tok}:∀ l,flatK n (l ++ [p]) r=flatK n l (opTk p.1 :: (aK p.2 (n + 1) ++ r))
 | []=>rfl
 | a :: l=>by
  show opTk a.1 :: (aK a.2 (n + 1) ++ flatK n (l ++ [p]) r)=_
  rw [flat_snoc l]
  rfl
theorem bld_snoc {p:Int × Tr}:∀ (l:List (Int × Tr)) (t:Tr),bld t (l ++ [p])=nodeB p.1 none (bld t l) (canT p.2)
 | [],t=>rfl
 | a :: l,t=>bld_snoc l _
theorem fol_flat {n:Int} {m:Nat} {l:List (Int × Tr)} (hl:okL n m l) {r:List Tok} (h:Fol n r):Fol (n + 1) (flatK n l r):=by
 cases l with
 | nil=>exact fol_mono h (by omega)
 | cons p l =>
  have:=hl p (List.mem_cons_self ..)
  exact fol_op this.1 (by omega)
end Go.Vm
end
section
set_option linter.unusedVariables false
set_option linter.unusedSimpArgs false
set_option maxRecDepth 100000
namespace Go.Vm
open Go
structure Spn (n:Int) (x b:Tr) (l:List (Int × Tr)):Prop where
 vb:vld b=true
 ok:okL n (cnt x) l
 nl:l=[]→b=x ∧ ¬ lvl x=n
 lt:¬ l=[]→cnt b < cnt x
 tx:∀ r,aK x n ++ r=aK b (n + 1) ++ flatK n l r
 cn:canT x=bld (canT b) l
theorem cnt_b {op fl a b}:cnt (nodeB op fl a b)=cnt a + cnt b + 1:=by
 unfold nodeB
 rw [cnt,cntL,cntL,cntL]
 omega
theorem cnt_u {op fl a}:cnt (nodeU op fl a)=cnt a + 1:=by
 unfold nodeU
 rw [cnt,cntL,cntL]
theorem can_b {op fl a b}:canT (nodeB op fl a b)=nodeB op none (canT a) (canT b):=by
 unfold nodeB
 rw [canT,canL,canL,canL]
theorem can_u {op fl a}:canT (nodeU op fl a)=nodeU op none (canT a):=by
 unfold nodeU
 rw [canT,canL,canL]
theorem aK_same {x:Tr} {n:Int} (h:¬ lvl x=n):aK x n=aK x (n + 1):=by
 unfold aK atK
 by_cases h1:lvl x < n
 ·rw [if_pos h1,if_pos (by omega)]
 ·rw [if_neg h1,if_neg (by omega)]
theorem aK_top {x:Tr} {n:Int} (h:¬ lvl x < n):aK x n=tk x:=by
 unfold aK atK
 rw [if_neg h]
theorem lv_un {op:Int} (h:op=13 ∨ op=3):lvO op=3 ∨ lvO op=7:=by rcases h with rfl | rfl <;> decide
theorem lv_bin {op:Int} (h:bop op):lvO op=1 ∨ lvO op=2 ∨ lvO op=4 ∨ lvO op=5 ∨ lvO op=6:=by
 have:=bop_mem h
 have k:∀ a ∈ opsL,lvO a=1 ∨ lvO a=2 ∨ lvO a=4 ∨ lvO a=5 ∨ lvO a=6:=by decide
 exact k op this
theorem spn_no {n:Int} {x:Tr} (hx:vld x=true) (h:¬ lvl x=n):Spn n x x [] :=
 ⟨hx,nofun,fun _=>⟨rfl,h⟩,fun k=>absurd rfl k,fun r=>by rw [aK_same h]; rfl,rfl⟩
theorem spine {n:Int} (hn:n=1 ∨ n=2 ∨ n=4 ∨ n=5 ∨ n=6):∀ (N:Nat) (x:Tr),cnt x ≤ N→vld x=true→∃ b l,Spn n x b l:=by
 intro N
 induction N with
 | zero=>intro x h _; have:=cnt_pos x; omega
 | succ N ih =>
  intro x hc hx
  by_cases hl:lvl x=n
  ·rcases vld_inv hx with ⟨v,fl,rfl,_⟩ | ⟨tb,nm,fl,rfl,_⟩ | ⟨op,fl,a,ho,rfl,_⟩ | ⟨op,fl,a,c,ho,rfl,va,vc⟩
   ·have hl:(8:Int)=n:=hl
    omega
   ·have hl:(8:Int)=n:=hl
    omega
   ·rw [lvl_u] at hl
    have:=lv_un ho
    omega
   ·rw [lvl_b] at hl
    rw [cnt_b] at hc
    have pa:=cnt_pos a
    have pc:=cnt_pos c
    have htop:aK (nodeB op fl a c) n=aK a (lq op) ++ opTk op :: aK c (lvO op + 1):=by rw [aK_top (by rw [lvl_b]; omega),tk_bin ho]
    by_cases h4:n=4
    ·refine ⟨a,[(op,c)],va,?_,nofun,fun _=>by rw [cnt_b]; omega,fun r => ?_,?_⟩
     ·intro p hp
      have hp:p=(op,c):=by simpa using hp
      subst hp
      exact ⟨ho,hl,vc,by rw [cnt_b]; show cnt c < _; omega⟩
     ·rw [htop]
      unfold lq
      rw [if_pos (by omega),hl,h4]
      simp [flatK]
     ·rw [can_b]
      rfl
    ·obtain ⟨b,l,hs⟩:=ih a (by omega) va
     refine ⟨b,l ++ [(op,c)],hs.vb,?_,fun h=>by simp at h,fun _ => ?_,fun r => ?_,?_⟩
     ·intro p hp
      rcases List.mem_append.1 hp with hp | hp
      ·obtain ⟨k1,k2,k3,k4⟩:=hs.ok p hp
       exact ⟨k1,k2,k3,by rw [cnt_b]; omega⟩
      ·have hp:p=(op,c):=by simpa using hp
       subst hp
       exact ⟨ho,hl,vc,by rw [cnt_b]; show cnt c < _; omega⟩
     ·rw [cnt_b]
      by_cases h0:l=[]
      ·have:=(hs.nl h0).1
       subst this
       omega
      ·have:=hs.lt h0
       omega
     ·rw [htop,flat_snoc]
      unfold lq
      rw [if_neg (by omega),hl,List.append_assoc,← hs.tx]
      rfl
     ·rw [can_b,bld_snoc,hs.cn]
  ·exact ⟨x,[],spn_no hx hl⟩
end Go.Vm
end
section
set_option linter.unusedVariables false
set_option linter.unusedSimpArgs false
set_option maxRecDepth 100000
namespace Go.Vm
open Go
def Nd (r:List Tok):Prop:=∀ r',¬ r = .sym 46 :: r'
theorem dec_inj {a b:Nat} (h:Lib.decDigits a=Lib.decDigits b):a=b:=by
 have:=congrArg dv h
 rwa [dec_val,dec_val] at this
theorem dec_not {n:Nat} {w:List UInt8} (hw:w.all isDig=false):¬ Lib.decDigits n=w:=by
 intro h
 have:=dec_all n
 rw [h,hw] at this
 cases this
theorem name_dig {s:List UInt8} (h:nameV s=true):s.all isDig=false:=by
 unfold nameV at h
 simp only [Bool.and_eq_true,Bool.not_eq_true',decide_eq_false_iff_not] at h
 obtain ⟨⟨⟨⟨h0,_⟩,h2⟩,_⟩,_⟩:=h
 cases s with
 | nil=>exact absurd rfl h0
 | cons c s =>
  have h2:isLow c=true:=h2
  rw [List.all_cons]
  have:isDig c=false:=by
   unfold isLow at h2
   unfold isDig
   simp only [Bool.and_eq_true,decide_eq_true_eq] at h2
   rw [decide_eq_false (show ¬ c.toNat ≤ 57 by omega),Bool.and_false]
  rw [this,Bool.false_and]
theorem name_low {s:List UInt8} (h:nameV s=true):isLow (s.getD 0 0)=true:=by
 unfold nameV at h
 simp only [Bool.and_eq_true] at h
 exact h.1.1.2
theorem run_inj {a b:List UInt8} {r r':List Tok} (h:Tok.run a :: r=Tok.run b :: r'):a=b ∧ r=r':=by
 injection h with h1 h2
 injection h1 with h1
 exact ⟨h1,h2⟩
theorem val_tok {v:Val} (h:validV v=true) (hn:0 ≤ v.n):(v.kind=0 ∧ v.text=[] ∧ valK v=[.run (Lib.decDigits v.n.toNat)]) ∨ (v.kind=1 ∧ v.n=0 ∧ valK v=[.str v.text]) ∨ (v.kind=2 ∧ v.n=1 ∧ v.text=[] ∧ valK v=[.run txT]) ∨ (v.kind=2 ∧ v.n=0 ∧ v.text=[] ∧ valK v=[.run txF]):=by
 unfold validV at h
 split at h
 ·rename_i h0
  simp only [decide_eq_true_eq] at h
  exact .inl ⟨h0,h,by unfold valK; rw [if_pos h0,if_neg (by omega)]⟩
 ·rename_i h0
  split at h
  ·rename_i h1
   simp only [Bool.and_eq_true,decide_eq_true_eq] at h
   exact .inr (.inl ⟨h1,h.1,by unfold valK; rw [if_neg h0,if_pos h1]⟩)
  ·rename_i h1
   split at h
   ·rename_i h2
    simp only [Bool.and_eq_true,Bool.or_eq_true,decide_eq_true_eq] at h
    by_cases h3:v.n=1
    ·exact .inr (.inr (.inl ⟨h2,h3,h.2,by unfold valK; rw [if_neg h0,if_neg h1,if_pos h3]⟩))
    ·exact .inr (.inr (.inr ⟨h2,by omega,h.2,by unfold valK; rw [if_neg h0,if_neg h1,if_neg h3]⟩))
   ·cases h
theorem val_ext {v w:Val} (h1:v.kind=w.kind) (h2:v.n=w.n) (h3:v.text=w.text):v=w:=by
 obtain ⟨a,b,c⟩:=v
 obtain ⟨d,e,f⟩:=w
 simp only at h1 h2 h3
 rw [h1,h2,h3]
theorem val_inj {v w:Val} (hv:validV v=true) (hvn:0 ≤ v.n) (hw:validV w=true) (hwn:0 ≤ w.n) {r r':List Tok} (h:valK v ++ r=valK w ++ r'):v=w ∧ r=r':=by
 rcases val_tok hv hvn with ⟨a1,a2,a3⟩ | ⟨a1,a2,a3⟩ | ⟨a1,a2,a3,a4⟩ | ⟨a1,a2,a3,a4⟩ <;> rcases val_tok hw hwn with ⟨b1,b2,b3⟩ | ⟨b1,b2,b3⟩ | ⟨b1,b2,b3,b4⟩ | ⟨b1,b2,b3,b4⟩
 ·rw [a3,b3] at h
  obtain ⟨h1,h2⟩:=run_inj h
  have:=dec_inj h1
  exact ⟨val_ext (by rw [a1,b1]) (by omega) (by rw [a2,b2]),h2⟩
 ·rw [a3,b3] at h; injection h with h1 h2; cases h1
 ·rw [a3,b4] at h; exact absurd (run_inj h).1 (dec_not (by decide))
 ·rw [a3,b4] at h; exact absurd (run_inj h).1 (dec_not (by decide))
 ·rw [a3,b3] at h; injection h with h1 h2; cases h1
 ·rw [a3,b3] at h
  injection h with h1 h2
  injection h1 with h1
  exact ⟨val_ext (by rw [a1,b1]) (by rw [a2,b2]) h1,h2⟩
 ·rw [a3,b4] at h; injection h with h1 h2; cases h1
 ·rw [a3,b4] at h; injection h with h1 h2; cases h1
 ·rw [a4,b3] at h; exact absurd (run_inj h).1.symm (dec_not (by decide))
 ·rw [a4,b3] at h; injection h with h1 h2; cases h1
 ·rw [a4,b4] at h; exact ⟨val_ext (by rw [a1,b1]) (by rw [a2,b2]) (by rw [a3,b3]),(run_inj h).2⟩
 ·rw [a4,b4] at h; exact absurd (run_inj h).1 (by decide)
 ·rw [a4,b3] at h; exact absurd (run_inj h).1.symm (dec_not (by decide))
 ·rw [a4,b3] at h; injection h with h1 h2; cases h1
 ·rw [a4,b4] at h; exact absurd (run_inj h).1 (by decide)
 ·rw [a4,b4] at h; exact ⟨val_ext (by rw [a1,b1]) (by rw [a2,b2]) (by rw [a3,b3]),(run_inj h).2⟩
def colK (tb nm:List UInt8):List Tok:=if tb=[] then [.run nm] else [.run tb,.sym 46,.run nm]
theorem col_head {tb nm:List UInt8} (h1:nameV nm=true) (h2:optV tb=true):∃ w r,colK tb nm = .run w :: r ∧ nameV w=true:=by
 unfold colK
 split
 ·exact ⟨nm,[],rfl,h1⟩
 ·rename_i ht
  unfold optV at h2
  rw [decide_eq_false ht,Bool.false_or] at h2
  exact ⟨tb,_,rfl,h2⟩
theorem val_col {v:Val} (hv:validV v=true) (hvn:0 ≤ v.n) {tb nm:List UInt8} (h1:nameV nm=true) (h2:optV tb=true) {r r':List Tok}:¬ valK v ++ r=colK tb nm ++ r':=by
 intro h
 obtain ⟨w,q,e,hw⟩:=col_head h1 h2
 rw [e] at h
 rcases val_tok hv hvn with ⟨_,_,a⟩ | ⟨_,_,a⟩ | ⟨_,_,_,a⟩ | ⟨_,_,_,a⟩
 ·rw [a] at h
  exact dec_not (name_dig hw) (run_inj h).1
 ·rw [a] at h; injection h with h1 h2; cases h1
 ·rw [a] at h
  have:=(run_inj h).1
  subst this
  exact absurd (name_low hw) (by decide)
 ·rw [a] at h
  have:=(run_inj h).1
  subst this
  exact absurd (name_low hw) (by decide)
theorem col_inj {tb nm tb' nm':List UInt8} {r r':List Tok} (hr:Nd r) (hr':Nd r') (h:colK tb nm ++ r=colK tb' nm' ++ r'):tb=tb' ∧ nm=nm' ∧ r=r':=by
 unfold colK at h
 by_cases h0:tb=[] <;> by_cases h1:tb'=[]
 ·rw [if_pos h0,if_pos h1] at h
  obtain ⟨k1,k2⟩:=run_inj h
  exact ⟨h0.trans h1.symm,k1,k2⟩
 ·rw [if_pos h0,if_neg h1] at h
  exact absurd (run_inj h).2 (hr _)
 ·rw [if_neg h0,if_pos h1] at h
  exact absurd (run_inj h).2.symm (hr' _)
 ·rw [if_neg h0,if_neg h1] at h
  obtain ⟨k1,k2⟩:=run_inj h
  injection k2 with _ k2
  obtain ⟨k3,k4⟩:=run_inj k2
  exact ⟨k1,k3,k4⟩
end Go.Vm
end
section
set_option linter.unusedVariables false
set_option linter.unusedSimpArgs false
set_option maxRecDepth 100000
namespace Go.Vm
open Go
def PP (n:Int) (x y:Tr):Prop:=∀ r r',Fol n r→Fol n r'→Nd r→Nd r'→aK x n ++ r=aK y n ++ r'→canT x=canT y ∧ r=r'
def cst (n:Int) (x:Tr):Nat:=2 * cnt x + (if lvl x < n then 1 else 0)
theorem cst_le (n:Int) (x:Tr):2 * cnt x ≤ cst n x ∧ cst n x ≤ 2 * cnt x + 1:=by unfold cst; split <;> omega
theorem opTk_sym {op:Int} {c:UInt8}:¬ opTk op = .sym c:=by
 unfold opTk
 split <;> nofun
theorem nd_op {op:Int} {r:List Tok}:Nd (opTk op :: r):=fun r' h=>by
 injection h with h _
 exact opTk_sym h
theorem nd_flat {n:Int} {l:List (Int × Tr)} {r:List Tok} (h:Nd r):Nd (flatK n l r):=by
 cases l with
 | nil=>exact h
 | cons p l=>exact nd_op
theorem flat_inj {n:Int} {mx my:Nat} (hP:∀ a b,vld a=true→vld b=true→cnt a < mx→cnt b < my→PP (n + 1) a b):∀ l l':List (Int × Tr),okL n mx l→okL n my l'→∀ r r',Fol n r→Fol n r'→Nd r→Nd r'→flatK n l r=flatK n l' r'→(∀ t,bld t l=bld t l') ∧ r=r'
 | [],[],_,_,r,r',_,_,_,_,h=>⟨fun _=>rfl,h⟩
 | [],p :: l',_,ho,r,r',hr,_,_,_,h=>by
  obtain ⟨k1,k2,_,_⟩:=ho p (List.mem_cons_self ..)
  exact absurd h (hr p.1 _ k1 (by omega))
 | p :: l,[],ho,_,r,r',_,hr',_,_,h=>by
  obtain ⟨k1,k2,_,_⟩:=ho p (List.mem_cons_self ..)
  exact absurd h.symm (hr' p.1 _ k1 (by omega))
 | p :: l,q :: l',ho,ho',r,r',hr,hr',hd,hd',h=>by
  obtain ⟨k1,k2,k3,k4⟩:=ho p (List.mem_cons_self ..)
  obtain ⟨j1,j2,j3,j4⟩:=ho' q (List.mem_cons_self ..)
  have hl:okL n mx l:=fun z hz=>ho z (List.mem_cons_of_mem _ hz)
  have hl':okL n my l':=fun z hz=>ho' z (List.mem_cons_of_mem _ hz)
  have h:opTk p.1 :: (aK p.2 (n + 1) ++ flatK n l r)=opTk q.1 :: (aK q.2 (n + 1) ++ flatK n l' r'):=h
  injection h with e1 e2
  have e1:=opTk_inj k1 j1 e1
  obtain ⟨c1,c2⟩:=hP p.2 q.2 k3 j3 k4 j4 _ _ (fol_flat hl hr) (fol_flat hl' hr') (nd_flat hd) (nd_flat hd') e2
  obtain ⟨d1,d2⟩:=flat_inj hP l l' hl hl' r r' hr hr' hd hd' c2
  refine ⟨fun t => ?_,d2⟩
  show bld (nodeB p.1 none t (canT p.2)) l=bld (nodeB q.1 none t (canT q.2)) l'
  rw [e1,c1]
  exact d1 _
theorem tk_lit {v fl}:tk (.mk 0 v [] [] 0 0 fl [])=valK v:=by
 rw [tk,ptk]
 rfl
theorem tk_col {tb nm fl}:tk (.mk 1 vz tb nm 0 0 fl [])=colK tb nm:=by
 rw [tk,ptk]
 rfl
theorem lvl_pos {x:Tr} (h:vld x=true):1 ≤ lvl x:=by
 rcases vld_inv h with ⟨v,fl,rfl,_⟩ | ⟨tb,nm,fl,rfl,_⟩ | ⟨op,fl,a,ho,rfl,_⟩ | ⟨op,fl,a,c,ho,rfl,_⟩
 ·show (1:Int) ≤ 8; omega
 ·show (1:Int) ≤ 8; omega
 ·rw [lvl_u]; have:=lv_un ho; omega
 ·rw [lvl_b]; have:=lv_bin ho; omega
theorem opd {x:Tr} (h:vld x=true):(lvl x < 8 ∧ aK x 8 = .sym 40 :: (tk x ++ [.sym 41])) ∨ (∃ v fl,x = .mk 0 v [] [] 0 0 fl [] ∧ validV v=true ∧ 0 ≤ v.n ∧ aK x 8=valK v) ∨ (∃ tb nm fl,x = .mk 1 vz tb nm 0 0 fl [] ∧ nameV nm=true ∧ optV tb=true ∧ aK x 8=colK tb nm):=by
 by_cases hl:lvl x < 8
 ·exact .inl ⟨hl,by unfold aK atK; rw [if_pos hl]⟩
 ·rcases vld_inv h with ⟨v,fl,rfl,h1,h2⟩ | ⟨tb,nm,fl,rfl,h1,h2⟩ | ⟨op,fl,a,ho,rfl,_⟩ | ⟨op,fl,a,c,ho,rfl,_⟩
  ·exact .inr (.inl ⟨v,fl,rfl,h1,h2,by rw [aK_top hl,tk_lit]⟩)
  ·exact .inr (.inr ⟨tb,nm,fl,rfl,h1,h2,by rw [aK_top hl,tk_col]⟩)
  ·rw [lvl_u] at hl; have:=lv_un ho; omega
  ·rw [lvl_b] at hl; have:=lv_bin ho; omega
theorem val_head {v:Val} (h:validV v=true) (hn:0 ≤ v.n) {r:List Tok} {t:Tok} {q:List Tok} (e:valK v ++ r=t :: q):(∃ w,t = .run w ∧ ¬ w=[78,79,84]) ∨ ∃ s,t = .str s:=by
 rcases val_tok h hn with ⟨_,_,a⟩ | ⟨_,_,a⟩ | ⟨_,_,_,a⟩ | ⟨_,_,_,a⟩ <;> (rw [a] at e; injection e with e _; subst e)
 ·exact .inl ⟨_,rfl,dec_not (by decide)⟩
 ·exact .inr ⟨_,rfl⟩
 ·exact .inl ⟨_,rfl,by decide⟩
 ·exact .inl ⟨_,rfl,by decide⟩
theorem opd_head {x:Tr} (h:vld x=true) {r:List Tok} {t:Tok} {q:List Tok} (e:aK x 8 ++ r=t :: q):t = .sym 40 ∨ (∃ w,t = .run w ∧ ¬ w=[78,79,84]) ∨ ∃ s,t = .str s:=by
 rcases opd h with ⟨_,a⟩ | ⟨v,fl,_,h1,h2,a⟩ | ⟨tb,nm,fl,_,h1,h2,a⟩
 ·rw [a] at e
  injection e with e _
  exact .inl e.symm
 ·rw [a] at e
  exact .inr (val_head h1 h2 e)
 ·rw [a] at e
  obtain ⟨w,q',k,hw⟩:=col_head h1 h2
  rw [k] at e
  injection e with e _
  refine .inr (.inl ⟨w,e.symm,fun k => ?_⟩)
  subst k
  exact absurd (name_low hw) (by decide)
theorem not_head:∀ (N:Nat) (x:Tr),cnt x ≤ N→vld x=true→∀ (n:Int),4 ≤ n→n ≤ 8→∀ r q,¬ aK x n ++ r = .run [78,79,84] :: q:=by
 intro N
 induction N with
 | zero=>intro x h _; have:=cnt_pos x; omega
 | succ N ih =>
  intro x hc hx n hn hn8 r q e
  by_cases hl:lvl x < n
  ·unfold aK atK at e
   rw [if_pos hl] at e
   injection e with e _
   cases e
  ·have e8:=e
   rw [aK_top hl] at e
   rcases vld_inv hx with ⟨v,fl,rfl,h1,h2⟩ | ⟨tb,nm,fl,rfl,h1,h2⟩ | ⟨op,fl,a,ho,rfl,va⟩ | ⟨op,fl,a,c,ho,rfl,va,vc⟩
   ·rw [tk_lit] at e
    rcases val_head h1 h2 e with ⟨w,k,k2⟩ | ⟨s,k⟩
    ·injection k with k
     exact k2 k.symm
    ·cases k
   ·rw [tk_col] at e
    obtain ⟨w,q',k,hw⟩:=col_head h1 h2
    rw [k] at e
    have:=(run_inj e).1
    subst this
    exact absurd (name_low hw) (by decide)
   ·rcases ho with rfl | rfl
    ·rw [lvl_u] at hl
     have:lvO 13=3:=rfl
     omega
    ·rw [tk_neg] at e
     injection e with e _
     cases e
   ·rw [tk_bin ho,List.append_assoc] at e
    rw [cnt_b] at hc
    rw [lvl_b] at hl
    have:=lv_bin ho
    refine ih a (by have:=cnt_pos c; omega) va (lq op) ?_ ?_ _ _ e
    ·unfold lq; split <;> omega
    ·unfold lq; split <;> omega
end Go.Vm
end
section
set_option linter.unusedVariables false
set_option linter.unusedSimpArgs false
set_option maxRecDepth 100000
namespace Go.Vm
open Go
theorem fol_par {n:Int} {r:List Tok}:Fol n (.sym 41 :: r):=fun op r' hb hl e=>by
 injection e with e _
 exact opTk_sym e.symm
theorem nd_par {r:List Tok}:Nd (.sym 41 :: r):=fun r' e=>by
 injection e with e _
 injection e with e
 exact absurd e (by decide)
theorem lvl_un {op fl a} (h:op=13 ∨ op=3):(op=13 ∧ lvl (nodeU op fl a)=3) ∨ (op=3 ∧ lvl (nodeU op fl a)=7):=by
 rcases h with rfl | rfl
 ·exact .inl ⟨rfl,rfl⟩
 ·exact .inr ⟨rfl,rfl⟩
theorem not_of {x:Tr} (h:vld x=true) (h3:lvl x=3):∃ fl a,x=nodeU 13 fl a ∧ vld a=true:=by
 rcases vld_inv h with ⟨v,fl,rfl,_⟩ | ⟨tb,nm,fl,rfl,_⟩ | ⟨op,fl,a,ho,rfl,va⟩ | ⟨op,fl,a,c,ho,rfl,_⟩
 ·exact absurd (show (8:Int)=3 from h3) (by decide)
 ·exact absurd (show (8:Int)=3 from h3) (by decide)
 ·rcases lvl_un (fl:=fl) (a:=a) ho with ⟨rfl,_⟩ | ⟨rfl,k⟩
  ·exact ⟨fl,a,rfl,va⟩
  ·omega
 ·rw [lvl_b] at h3; have:=lv_bin ho; omega
theorem neg_of {x:Tr} (h:vld x=true) (h3:lvl x=7):∃ fl a,x=nodeU 3 fl a ∧ vld a=true:=by
 rcases vld_inv h with ⟨v,fl,rfl,_⟩ | ⟨tb,nm,fl,rfl,_⟩ | ⟨op,fl,a,ho,rfl,va⟩ | ⟨op,fl,a,c,ho,rfl,_⟩
 ·exact absurd (show (8:Int)=7 from h3) (by decide)
 ·exact absurd (show (8:Int)=7 from h3) (by decide)
 ·rcases lvl_un (fl:=fl) (a:=a) ho with ⟨rfl,k⟩ | ⟨rfl,k⟩
  ·omega
  ·exact ⟨fl,a,rfl,va⟩
 ·rw [lvl_b] at h3; have:=lv_bin ho; omega
theorem cst_same {n:Int} {x:Tr} (h:¬ lvl x=n):cst (n + 1) x=cst n x:=by
 unfold cst
 by_cases h1:lvl x < n
 ·rw [if_pos h1,if_pos (by omega)]
 ·rw [if_neg h1,if_neg (by omega)]
theorem pp_step {N:Nat} (IH:∀ M,M < N→∀ n:Int,1 ≤ n→n ≤ 8→∀ x y,vld x=true→vld y=true→cst n x + cst n y ≤ M→PP n x y) {n:Int} (h1:1 ≤ n) (h7:n ≤ 7)
  (ih:∀ x y,vld x=true→vld y=true→cst (n + 1) x + cst (n + 1) y ≤ N→PP (n + 1) x y) (x y:Tr) (hx:vld x=true) (hy:vld y=true) (hc:cst n x + cst n y ≤ N):PP n x y:=by
 intro r r' hr hr' hd hd' h
 have up:¬ lvl x=n→¬ lvl y=n→canT x=canT y ∧ r=r':=fun kx ky=>by
  rw [aK_same kx,aK_same ky] at h
  exact ih x y hx hy (by rw [cst_same kx,cst_same ky]; exact hc) r r' (fol_mono hr (by omega)) (fol_mono hr' (by omega)) hd hd' h
 have cx:=cst_le n x
 have cy:=cst_le n y
 by_cases h3:n=3
 ·subst h3
  by_cases kx:lvl x=3 <;> by_cases ky:lvl y=3
  ·obtain ⟨fl,a,rfl,va⟩:=not_of hx kx
   obtain ⟨fl',b,rfl,vb⟩:=not_of hy ky
   rw [aK_top (by omega),aK_top (by omega),tk_not,tk_not] at h
   injection h with _ h
   rw [cnt_u] at cx cy
   have ca:=cst_le 3 a
   have cb:=cst_le 3 b
   obtain ⟨k1,k2⟩:=IH (N - 1) (by omega) 3 (by omega) (by omega) a b va vb (by omega) r r' hr hr' hd hd' h
   exact ⟨by rw [can_u,can_u,k1],k2⟩
  ·obtain ⟨fl,a,rfl,va⟩:=not_of hx kx
   rw [aK_top (by omega),aK_same ky,tk_not] at h
   exact absurd h.symm (not_head _ y (Nat.le_refl _) hy 4 (by omega) (by omega) _ _)
  ·obtain ⟨fl,a,rfl,va⟩:=not_of hy ky
   rw [aK_same kx,aK_top (x:=nodeU 13 fl a) (by omega),tk_not] at h
   exact absurd h (not_head _ x (Nat.le_refl _) hx 4 (by omega) (by omega) _ _)
  ·exact up kx ky
 ·by_cases h7':n=7
  ·subst h7'
   by_cases kx:lvl x=7 <;> by_cases ky:lvl y=7
   ·obtain ⟨fl,a,rfl,va⟩:=neg_of hx kx
    obtain ⟨fl',b,rfl,vb⟩:=neg_of hy ky
    rw [aK_top (by omega),aK_top (by omega),tk_neg,tk_neg] at h
    injection h with _ h
    rw [cnt_u] at cx cy
    have ca:=cst_le 8 a
    have cb:=cst_le 8 b
    obtain ⟨k1,k2⟩:=ih a b va vb (by show cst 8 a + cst 8 b ≤ N; omega) r r' (fol_mono hr (by omega)) (fol_mono hr' (by omega)) hd hd' h
    exact ⟨by rw [can_u,can_u,k1],k2⟩
   ·obtain ⟨fl,a,rfl,va⟩:=neg_of hx kx
    rw [aK_top (by omega),aK_same ky,tk_neg] at h
    rcases opd_head hy h.symm with k | ⟨w,k,_⟩ | ⟨s,k⟩ <;> cases k
   ·obtain ⟨fl,a,rfl,va⟩:=neg_of hy ky
    rw [aK_same kx,aK_top (x:=nodeU 3 fl a) (by omega),tk_neg] at h
    rcases opd_head hx h with k | ⟨w,k,_⟩ | ⟨s,k⟩ <;> cases k
   ·exact up kx ky
  ·obtain ⟨b,l,hs⟩:=spine (n:=n) (by omega) _ x (Nat.le_refl _) hx
   obtain ⟨b',l',hs'⟩:=spine (n:=n) (by omega) _ y (Nat.le_refl _) hy
   rw [hs.tx,hs'.tx] at h
   have cb:cst (n + 1) b ≤ cst n x:=by
    by_cases h0:l=[]
    ·obtain ⟨e,k⟩:=hs.nl h0
     subst e
     rw [cst_same k]
     exact Nat.le_refl _
    ·have:=hs.lt h0
     have:=cst_le (n + 1) b
     omega
   have cb':cst (n + 1) b' ≤ cst n y:=by
    by_cases h0:l'=[]
    ·obtain ⟨e,k⟩:=hs'.nl h0
     subst e
     rw [cst_same k]
     exact Nat.le_refl _
    ·have:=hs'.lt h0
     have:=cst_le (n + 1) b'
     omega
   obtain ⟨k1,k2⟩:=ih b b' hs.vb hs'.vb (by omega) _ _ (fol_flat hs.ok hr) (fol_flat hs'.ok hr') (nd_flat hd) (nd_flat hd') h
   obtain ⟨d1,d2⟩:=flat_inj (n:=n) (mx:=cnt x) (my:=cnt y) (fun a c va vc la lc=>ih a c va vc (by have:=cst_le (n + 1) a; have:=cst_le (n + 1) c; omega)) l l' hs.ok hs'.ok r r' hr hr' hd hd' k2
   exact ⟨by rw [hs.cn,hs'.cn,k1,d1],d2⟩
theorem pp_top {N:Nat} (IH:∀ M,M < N→∀ n:Int,1 ≤ n→n ≤ 8→∀ x y,vld x=true→vld y=true→cst n x + cst n y ≤ M→PP n x y) (x y:Tr) (hx:vld x=true) (hy:vld y=true) (hc:cst 8 x + cst 8 y ≤ N):PP 8 x y:=by
 intro r r' hr hr' hd hd' h
 rcases opd hx with ⟨lx,a⟩ | ⟨v,fl,rfl,h1,h2,a⟩ | ⟨tb,nm,fl,rfl,h1,h2,a⟩ <;> rcases opd hy with ⟨ly,b⟩ | ⟨v',fl',rfl,j1,j2,b⟩ | ⟨tb',nm',fl',rfl,j1,j2,b⟩ <;> rw [a,b] at h
 ·injection h with _ h
  have h:(tk x ++ [.sym 41]) ++ r=(tk y ++ [.sym 41]) ++ r':=h
  rw [List.append_assoc,List.append_assoc] at h
  have px:=lvl_pos hx
  have py:=lvl_pos hy
  have ex:cst 1 x + 1=cst 8 x:=by unfold cst; rw [if_neg (by omega),if_pos lx]
  have ey:cst 1 y + 1=cst 8 y:=by unfold cst; rw [if_neg (by omega),if_pos ly]
  rw [← aK_top (x:=x) (n:=1) (by omega),← aK_top (x:=y) (n:=1) (by omega)] at h
  obtain ⟨k1,k2⟩:=IH (N - 2) (by omega) 1 (by omega) (by omega) x y hx hy (by omega) _ _ fol_par fol_par nd_par nd_par h
  injection k2 with _ k2
  exact ⟨k1,k2⟩
 ·rcases val_head j1 j2 h.symm with ⟨w,k,_⟩ | ⟨s,k⟩ <;> cases k
 ·obtain ⟨w,q,k,_⟩:=col_head j1 j2
  rw [k] at h
  injection h with k _
  cases k
 ·rcases val_head h1 h2 h with ⟨w,k,_⟩ | ⟨s,k⟩ <;> cases k
 ·obtain ⟨k1,k2⟩:=val_inj h1 h2 j1 j2 h
  rw [k1]
  exact ⟨by rw [canT,canT],k2⟩
 ·exact absurd h (val_col h1 h2 j1 j2)
 ·obtain ⟨w,q,k,_⟩:=col_head h1 h2
  rw [k] at h
  injection h with k _
  cases k
 ·exact absurd h.symm (val_col j1 j2 h1 h2)
 ·obtain ⟨k1,k2,k3⟩:=col_inj hd hd' h
  rw [k1,k2]
  exact ⟨by rw [canT,canT],k3⟩
theorem pp (N:Nat):∀ n:Int,1 ≤ n→n ≤ 8→∀ x y,vld x=true→vld y=true→cst n x + cst n y ≤ N→PP n x y:=by
 induction N using Nat.strongRecOn with
 | _ N IH =>
  have key:∀ d:Nat,∀ n:Int,n=8 - d→1 ≤ n→∀ x y,vld x=true→vld y=true→cst n x + cst n y ≤ N→PP n x y:=by
   intro d
   induction d with
   | zero =>
    intro n hn h1 x y hx hy hc
    have hn:n=8:=by omega
    subst hn
    exact pp_top IH x y hx hy hc
   | succ d ih =>
    intro n hn h1 x y hx hy hc
    exact pp_step IH h1 (by omega) (fun a b va vb hc=>ih (n + 1) (by omega) (by omega) a b va vb hc) x y hx hy hc
  exact fun n h1 h8=>key (8 - n).toNat n (by omega) h1
theorem txt_inj {x y:Tr} (hx:vld x=true) (hy:vld y=true) (h:txt x=txt y):eqT x y=true:=by
 have lx:=lex_ok _ x (Nat.le_refl _) (.inl hx) [] (fun c r e=>by cases e)
 have ly:=lex_ok _ y (Nat.le_refl _) (.inl hy) [] (fun c r e=>by cases e)
 rw [h,ly] at lx
 have px:=lvl_pos hx
 have py:=lvl_pos hy
 have e0:lex .idle []=[]:=rfl
 rw [e0,← aK_top (x:=x) (n:=1) (by omega),← aK_top (x:=y) (n:=1) (by omega)] at lx
 exact (eqT_can x y).2 (pp _ 1 (by omega) (by omega) x y hx hy (Nat.le_refl _) [] [] (fun op r' _ _ e=>by cases e) (fun op r' _ _ e=>by cases e) (fun r' e=>by cases e) (fun r' e=>by cases e) lx.symm).1
end Go.Vm
end
