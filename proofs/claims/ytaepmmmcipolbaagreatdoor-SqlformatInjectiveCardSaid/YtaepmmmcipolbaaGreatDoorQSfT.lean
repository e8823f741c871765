/- Plain laws of texts: replacing, quoting, numerals. No program in sight. -/
import Derived.Test.YtaepmmmcipolbaaGreatDoorQSfZ
import Derived.Lib.Replace
import Derived.Lib.ItoaNum
section
set_option linter.unusedVariables false
set_option linter.unusedSimpArgs false
namespace Go.Vm
open Go
section
variable {old new:List UInt8}
theorem rep_eq (hn:old ≠ new) (s:List UInt8):Lib.replaceAll s old new=Lib.replaceK old new (Lib.count s old) s:=by
 unfold Lib.replaceAll Lib.replace Lib.replaceNum
 rw [if_neg (by simpa using hn),if_pos (.inl (by decide))]
theorem idx_nil (h0:old ≠ []):Lib.index [] old = -1:=by
 unfold Lib.index
 rw [if_neg (by simpa using h0)]
theorem rep_nil (h0:old ≠ []) (hn:old ≠ new):Lib.replaceAll [] old new=[]:=by
 rw [rep_eq hn,Lib.count_miss (idx_nil h0)]
 rfl
theorem rep_hit (h0:old ≠ []) (hn:old ≠ new) {b:UInt8} {l:List UInt8} (h:old.isPrefixOf (b :: l)=true):Lib.replaceAll (b :: l) old new=new ++ Lib.replaceAll ((b :: l).drop old.length) old new:=by
 have hi:Lib.index (b :: l) old=(0:Nat):=by
  unfold Lib.index
  rw [if_pos h]
  rfl
 have hc:=Lib.count_hit h0 hi
 rw [rep_eq hn,rep_eq hn,hc,Nat.add_comm 1,Lib.replaceK_hit _ _ _ _ 0 hi]
 simp
theorem rep_miss (h0:old ≠ []) (hn:old ≠ new) {b:UInt8} {l:List UInt8} (h:old.isPrefixOf (b :: l)=false):Lib.replaceAll (b :: l) old new=b :: Lib.replaceAll l old new:=by
 have hi:Lib.index (b :: l) old=if Lib.index l old == -1 then -1 else Lib.index l old + 1:=by
  show (if old.isPrefixOf (b :: l) then (0:Int) else if Lib.index l old == -1 then -1 else Lib.index l old + 1)=_
  rw [if_neg (by simp [h])]
 rw [rep_eq hn,rep_eq hn]
 by_cases hm:Lib.index l old = -1
 ·rw [Lib.count_miss hm,Lib.count_miss (by rw [hi,hm]; rfl)]
  rfl
 ·have hge:=Lib.index_ge l old
  obtain ⟨i,hi2⟩:∃ i:Nat,Lib.index l old=i:=⟨(Lib.index l old).toNat,by omega⟩
  have hi3:Lib.index (b :: l) old=((i + 1:Nat):Int):=by
   rw [hi,hi2,if_neg (by rw [beq_iff_eq]; omega)]
   rfl
  have e1:=Lib.count_hit h0 hi2
  have e2:=Lib.count_hit h0 hi3
  have e3:(b :: l).drop (i + 1 + old.length)=l.drop (i + old.length):=by
   rw [show i + 1 + old.length=(i + old.length) + 1 by omega]
   rfl
  rw [e3] at e2
  rw [e1,e2,Nat.add_comm 1,Lib.replaceK_hit _ _ _ _ _ hi2,Lib.replaceK_hit _ _ _ _ _ hi3,e3]
  simp
end
def q2 (l:List UInt8):List UInt8:=l.flatMap fun b=>if b=39 then [39,39] else [b]
theorem q2_nil:q2 []=[]:=rfl
theorem q2_cons {b:UInt8} {l:List UInt8}:q2 (b :: l)=(if b=39 then [39,39] else [b]) ++ q2 l:=rfl
theorem q2_len:∀ l:List UInt8,(q2 l).length ≤ 2 * l.length
 | []=>Nat.le_refl _
 | b :: l=>by
  have:=q2_len l
  rw [q2_cons,List.length_append,List.length_cons]
  split <;> simp <;> omega
theorem rep_q (l:List UInt8):Lib.replaceAll l [39] [39,39]=q2 l:=by
 induction l with
 | nil=>exact rep_nil (by simp) (by simp)
 | cons b l ih =>
  by_cases h:b=39
  ·rw [rep_hit (by simp) (by simp) (by simp [List.isPrefixOf,h]),q2_cons,if_pos h]
   simp [ih]
  ·rw [rep_miss (by simp) (by simp) (by simp [List.isPrefixOf,Ne.symm h]),q2_cons,if_neg h,ih]
   rfl
def dv (l:List UInt8):Nat:=l.foldl (fun a c=>a * 10 + (c.toNat - 48)) 0
theorem dv_snoc (l:List UInt8) (c:UInt8):dv (l ++ [c])=dv l * 10 + (c.toNat - 48):=by
 unfold dv
 rw [List.foldl_append]
 rfl
theorem dig_of {d:Nat} (h:d < 10):(UInt8.ofNat (48 + d)).toNat=48 + d:=by
 rw [UInt8.toNat_ofNat']
 omega
theorem dec_small {u:Nat} (h:u < 10):Lib.decDigits u=[UInt8.ofNat (48 + u)]:=by rw [Lib.decDigits,dif_pos h]
theorem dec_big {u:Nat} (h:¬ u < 10):Lib.decDigits u=Lib.decDigits (u / 10) ++ [UInt8.ofNat (48 + u % 10)]:=by rw [Lib.decDigits,dif_neg h]
theorem dec_all (u:Nat):(Lib.decDigits u).all isDig=true:=by
 induction u using Nat.strongRecOn with
 | _ u ih =>
  by_cases h:u < 10
  ·rw [dec_small h]
   simp [isDig,dig_of h]
   omega
  ·rw [dec_big h,List.all_append,ih (u / 10) (by omega)]
   have:=dig_of (d:=u % 10) (by omega)
   simp [isDig,this]
   omega
theorem dec_val (u:Nat):dv (Lib.decDigits u)=u:=by
 induction u using Nat.strongRecOn with
 | _ u ih =>
  by_cases h:u < 10
  ·rw [dec_small h]
   show 0 * 10 + ((UInt8.ofNat (48 + u)).toNat - 48)=u
   rw [dig_of h]
   omega
  ·rw [dec_big h,dv_snoc,ih (u / 10) (by omega),dig_of (by omega)]
   omega
theorem dec_ne (u:Nat):Lib.decDigits u ≠ []:=by
 by_cases h:u < 10
 ·rw [dec_small h]; simp
 ·rw [dec_big h]; simp
theorem dw_nil {p:UInt8→Bool}:∀ {l:List UInt8},l.dropWhile p=[] ↔ l.all p=true
 | []=>by simp
 | b :: l=>by
  rw [List.dropWhile_cons,List.all_cons]
  cases h:p b with
  | true=>simpa using dw_nil (l:=l)
  | false=>simp
theorem dw_head {p:UInt8→Bool} {x:UInt8} {xs:List UInt8}:∀ {l:List UInt8},l.dropWhile p=x :: xs→p x=false
 | [],h=>by simp at h
 | b :: l,h=>by
  rw [List.dropWhile_cons] at h
  cases hb:p b with
  | true=>rw [hb,if_pos rfl] at h; exact dw_head h
  | false =>
   rw [hb,if_neg (by simp)] at h
   injection h with h1 h2
   rw [← h1]; exact hb
end Go.Vm
end
section
set_option linter.unusedVariables false
set_option linter.unusedSimpArgs false
set_option maxRecDepth 100000
namespace Go.Vm
open Nat renaming reduceEqDiff→rA,reduceAdd→rB,reduceLeDiff→rC,reduceLT→rD
open Go
theorem dec_len (u:Nat) (h:u ≤ 9223372036854775808):(Lib.decDigits u).length ≤ 20:=by
 have e:=Lib.decDigits_eq u
 rw [e,List.length_map,List.length_range]
 apply Classical.byContradiction
 intro hn
 have key:∀ (k u:Nat),u < 10 ^ k→1 ≤ k→Lib.nDigits u ≤ k:=by
  intro k
  induction k with
  | zero=>intro u _ h; omega
  | succ k ih =>
   intro u hu _
   by_cases h10:u < 10
   ·rw [Lib.nDigits_small h10]; omega
   ·rw [Lib.nDigits_big h10]
    have:1 ≤ k:=by
     rcases Nat.eq_zero_or_pos k with h | h
     ·subst h; simp at hu; omega
     ·exact h
    have:=ih (u / 10) (by rw [Nat.pow_succ] at hu; omega) this
    omega
 have:=key 20 u (by omega) (by omega)
 omega
theorem itoa_neg {n:Int} (h:n < 0):Lib.itoa n=45 :: Lib.decDigits n.natAbs:=by unfold Lib.itoa; rw [if_pos h]
theorem itoa_pos {n:Int} (h:¬ n < 0):Lib.itoa n=Lib.decDigits n.toNat:=by unfold Lib.itoa; rw [if_neg h]
theorem ext35 (s old new:List UInt8) (h1:s.length ≤ 1000000) (h2:1 ≤ old.length) (h3:new.length ≤ 2):calL EE 176 [.str s,.str old,.str new] []=some (.ret (.str (Lib.replaceAll s old new)),[]):=by
 refine ext_cal (g:=replX) (v := .str (Lib.replaceAll s old new)) rfl ?_ own_s
 unfold replX
 have hc:Lib.countB ⟨⟨s⟩⟩ ⟨⟨old⟩⟩ ≤ s.length + 1:=Lib.count_le s old
 have hm:Lib.countB ⟨⟨s⟩⟩ ⟨⟨old⟩⟩ * new.length ≤ (s.length + 1) * 2:=Nat.mul_le_mul hc h3
 simp only
 rw [if_pos ⟨by omega,h2,by omega⟩]
theorem ext34 (n:Int) (h1 : -9223372036854775808 ≤ n) (h2:n ≤ 9223372036854775807):calL EE 175 [.i64 n,.i64 10] []=some (.ret (.str (Lib.itoa n)),[]):=by
 refine ext_cal (g:=fmtX) (v := .str (Lib.itoa n)) rfl ?_ own_s
 unfold fmtX
 simp only
 rw [if_pos ⟨trivial,h1,h2⟩]
structure Val where
 kind:Int
 n:Int
 text:List UInt8
 deriving Inhabited,DecidableEq
def Val.row (v:Val):List SV:=[.int .i64 v.kind,.int .i64 v.n,.str v.text]
def validV (v:Val):Bool:=if v.kind=0 then decide (v.text=[]) else if v.kind=1 then decide (v.n=0) && decide (v.text.length ≤ 255) else if v.kind=2 then (decide (v.n=0) || decide (v.n=1)) && decide (v.text=[]) else false
theorem len255 {l:List UInt8}:decide ((l.length:Int) ≤ 255)=decide (l.length ≤ 255):=by rw [decide_eq_decide]; omega
theorem t15 (v:Val):calL EE 41 [.st v.row] []=some (.ret (.bool (validV v)),[]):=by
 refine fn_ok f41 (by simp) ?_
 unfold c41 validV
 simp only [go_sem,reduceIte,rA,rB,rC,rD,Val.row,decide_eq_true_eq,len255]
 split
 ·rfl
 ·split
  ·rfl
  ·split
   ·rfl
   ·rfl
def n0:List UInt8:=[73,78,84,69,71,69,82]
def n1:List UInt8:=[84,69,88,84]
def n2:List UInt8:=[66,79,79,76,69,65,78]
def nmL:List (List UInt8):=[n0,n1,n2]
theorem ia_tx {s:Slc (List UInt8)} {H:Ob} {k:IntKind} {i:Int}:indexAM (.sl 1) H (.s (s.sv txRow)) (.s (.int k i))=gd (0 ≤ i ∧ i < s.l.length) (.eptr (s.l.map txRow) i.toNat 0):=ia_sv (fun _=>rfl) (by decide)
def nmS:Slc (List UInt8) := .mk nmL true
theorem t46:calL EE 148 [] []=some (.ret (.s (nmS.sv txRow)),[]):=cal_run (n:=20) (by kernel_rfl)
abbrev txT:List UInt8:=[84,82,85,69]
abbrev txF:List UInt8:=[70,65,76,83,69]
def fmtV (v:Val):List UInt8:=if validV v=false then [] else if v.kind=0 then Lib.itoa v.n else if v.kind=1 then 39 :: (q2 v.text ++ [39]) else if v.n=1 then txT else txF
def vz:Val:=⟨0,0,[]⟩
def bigV (v:Val):Prop := -9223372036854775808 ≤ v.n ∧ v.n ≤ 9223372036854775807
theorem t13 (v:Val) (hb:bigV v) (ht:v.text.length ≤ 100000):calL EE 121 [.st v.row] []=some (.ret (.str (fmtV v)),[]):=by
 refine fn_ok f121 (by simp) ?_
 unfold c121 fmtV
 simp only [go_sem,reduceIte,rA,rB,rC,rD,Val.row]
 refine WC_p rfl rfl (t15 v) ?_
 simp only [go_sem,reduceIte,rA,rB,rC,rD,Val.row,Bool.not_eq_true',decide_eq_true_eq]
 split
 ·rfl
 ·split
  ·refine WC_p rfl rfl (ext34 v.n hb.1 hb.2) ?_
   simp only [go_sem,reduceIte,rA,rB,rC,rD]
  ·split
   ·refine WC_p rfl rfl (ext35 v.text [39] [39,39] (by omega) (by simp) (by simp)) ?_
    have:=q2_len v.text
    simp only [go_sem,reduceIte,rA,rB,rC,rD,rep_q,List.cons_append,List.nil_append,List.length_append]
    omega
   ·split
    ·rfl
    ·rfl
theorem dec_len' (u:Nat) (h:u ≤ 18446744073709551615):(Lib.decDigits u).length ≤ 21:=by
 by_cases h1:u < 10
 ·rw [dec_small h1]; simp
 ·rw [dec_big h1,List.length_append]
  have:=dec_len (u / 10) (by omega)
  simp
  omega
end Go.Vm
end
