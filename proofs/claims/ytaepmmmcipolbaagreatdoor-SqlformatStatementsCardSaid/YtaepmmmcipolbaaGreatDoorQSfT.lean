/- Plain laws of texts: replacing, quoting, numerals. No program in sight. -/
import Derived.Test.YtaepmmmcipolbaaGreatDoorQSfZ
import Derived.Lib.Replace
import Derived.Lib.ItoaNum
section
set_option linter.unusedVariables false
set_option linter.unusedSimpArgs false
namespace Go.Vm
open Go
section
variable {old new:List UInt8}
theorem rep_eq (hn:old ≠ new) (s:List UInt8):Lib.replaceAll s old new=Lib.replaceK old new (Lib.count s old) s:=by
 unfold Lib.replaceAll Lib.replace Lib.replaceNum
 rw [if_neg (by simpa using hn),if_pos (.inl (by decide))]
theorem idx_nil (h0:old ≠ []):Lib.index [] old = -1:=by
 unfold Lib.index
 rw [if_neg (by simpa using h0)]
theorem rep_nil (h0:old ≠ []) (hn:old ≠ new):Lib.replaceAll [] old new=[]:=by
 rw [rep_eq hn,Lib.count_miss (idx_nil h0)]
 rfl
theorem rep_hit (h0:old ≠ []) (hn:old ≠ new) {b:UInt8} {l:List UInt8} (h:old.isPrefixOf (b :: l)=true):Lib.replaceAll (b :: l) old new=new ++ Lib.replaceAll ((b :: l).drop old.length) old new:=by
 have hi:Lib.index (b :: l) old=(0:Nat):=by
  unfold Lib.index
  rw [if_pos h]
  rfl
 have hc:=Lib.count_hit h0 hi
 rw [rep_eq hn,rep_eq hn,hc,Nat.add_comm 1,Lib.replaceK_hit _ _ _ _ 0 hi]
 simp
theorem rep_miss (h0:old ≠ []) (hn:old ≠ new) {b:UInt8} {l:List UInt8} (h:old.isPrefixOf (b :: l)=false):Lib.replaceAll (b :: l) old new=b :: Lib.replaceAll l old new:=by
 have hi:Lib.index (b :: l) old=if Lib.index l old == -1 then -1 else Lib.index l old + 1:=by
  show (if old.isPrefixOf (b :: l) then (0:Int) else if Lib.index l old == -1 then -1 else Lib.index l old + 1)=_
  rw [if_neg (by simp [h])]
 rw [rep_eq hn,rep_eq hn]
 by_cases hm:Lib.index l old = -1
 ·rw [Lib.count_miss hm,Lib.count_miss (by rw [hi,hm]; rfl)]
  rfl
 ·have hge:=Lib.index_ge l old
  obtain ⟨i,hi2⟩:∃ i:Nat,Lib.index l old=i:=⟨(Lib.index l old).toNat,by omega⟩
  have hi3:Lib.index (b :: l) old=((i + 1:Nat):Int):=by
   rw [hi,hi2,if_neg (by rw [beq_iff_eq]; omega)]
   rfl
  have e1:=Lib.count_hit h0 hi2
  have e2:=Lib.count_hit h0 hi3
  have e3:(b :: l).drop (i + 1 + old.length)=l.drop (i + old.length):=by
   rw [show i + 1 + old.length=(i + old.length) + 1 by omega]
   rfl
  rw [e3] at e2
  rw [e1,e2,Nat.add_comm 1,Lib.replaceK_hit _ _ _ _ _ hi2,Lib.replaceK_hit _ _ _ _ _ hi3,e3]
  simp
end
def q2 (l:List UInt8):List UInt8:=l.flatMap fun b=>if b=39 then [39,39] else [b]
theorem q2_nil:q2 []=[]:=rfl
theorem q2_cons {b:UInt8} {l:List UInt8}:q2 (b :: l)=(if b=39 then [39,39] else [b]) ++ q2 l:=rfl
theorem q2_len:∀ l:List UInt8,(q2 l).length ≤ 2 * l.length
 | []=>Nat.le_refl _
 | b :: l=>by
  have:=q2_len l
  rw [q2_cons,List.length_append,List.length_cons]
  split <;> simp <;> omega
theorem rep_q (l:List UInt8):Lib.replaceAll l [39] [39,39]=q2 l:=by
 induction l with
 | nil=>exact rep_nil (by simp) (by simp)
 | cons b l ih =>
  by_cases h:b=39
  ·rw [rep_hit (by simp) (by simp) (by simp [List.isPrefixOf,h]),q2_cons,if_pos h]
   simp [ih]
  ·rw [rep_miss (by simp) (by simp) (by simp [List.isPrefixOf,Ne.symm h]),q2_cons,if_neg h,ih]
   rfl
theorem dec_small {u:Nat} (h:u < 10):Lib.decDigits u=[UInt8.ofNat (48 + u)]:=by rw [Lib.decDigits,dif_pos h]
theorem dec_big {u:Nat} (h:¬ u < 10):Lib.decDigits u=Lib.decDigits (u / 10) ++ [UInt8.ofNat (48 + u % 10)]:=by rw [Lib.decDigits,dif_neg h]
theorem dw_nil {p:UInt8→Bool}:∀ {l:List UInt8},l.dropWhile p=[] ↔ l.all p=true
 | []=>by simp
 | b :: l=>by
  rw [List.dropWhile_cons,List.all_cons]
  cases h:p b with
  | true=>simpa using dw_nil (l:=l)
  | false=>simp
theorem dw_head {p:UInt8→Bool} {x:UInt8} {xs:List UInt8}:∀ {l:List UInt8},l.dropWhile p=x :: xs→p x=false
 | [],h=>by simp at h
 | b :: l,h=>by
  rw [List.dropWhile_cons] at h
  cases hb:p b with
  | true=>rw [hb,if_pos rfl] at h; exact dw_head h
  | false =>
   rw [hb,if_neg (by simp)] at h
   injection h with h1 h2
   rw [← h1]; exact hb
end Go.Vm
end
section
set_option linter.unusedVariables false
set_option linter.unusedSimpArgs false
set_option maxRecDepth 100000
namespace Go.Vm
open Nat renaming reduceEqDiff→rA,reduceAdd→rB,reduceLeDiff→rC,reduceLT→rD
open Go
theorem dec_len (u:Nat) (h:u ≤ 9223372036854775808):(Lib.decDigits u).length ≤ 20:=by
 have e:=Lib.decDigits_eq u
 rw [e,List.length_map,List.length_range]
 apply Classical.byContradiction
 intro hn
 have key:∀ (k u:Nat),u < 10 ^ k→1 ≤ k→Lib.nDigits u ≤ k:=by
  intro k
  induction k with
  | zero=>intro u _ h; omega
  | succ k ih =>
   intro u hu _
   by_cases h10:u < 10
   ·rw [Lib.nDigits_small h10]; omega
   ·rw [Lib.nDigits_big h10]
    have:1 ≤ k:=by
     rcases Nat.eq_zero_or_pos k with h | h
     ·subst h; simp at hu; omega
     ·exact h
    have:=ih (u / 10) (by rw [Nat.pow_succ] at hu; omega) this
    omega
 have:=key 20 u (by omega) (by omega)
 omega
theorem itoa_neg {n:Int} (h:n < 0):Lib.itoa n=45 :: Lib.decDigits n.natAbs:=by unfold Lib.itoa; rw [if_pos h]
theorem itoa_pos {n:Int} (h:¬ n < 0):Lib.itoa n=Lib.decDigits n.toNat:=by unfold Lib.itoa; rw [if_neg h]
theorem ext35 (s old new:List UInt8) (h1:s.length ≤ 1000000) (h2:1 ≤ old.length) (h3:new.length ≤ 2):calL EE 176 [.str s,.str old,.str new] []=some (.ret (.str (Lib.replaceAll s old new)),[]):=by
 refine ext_cal (g:=replX) (v := .str (Lib.replaceAll s old new)) rfl ?_ own_s
 unfold replX
 have hc:Lib.countB ⟨⟨s⟩⟩ ⟨⟨old⟩⟩ ≤ s.length + 1:=Lib.count_le s old
 have hm:Lib.countB ⟨⟨s⟩⟩ ⟨⟨old⟩⟩ * new.length ≤ (s.length + 1) * 2:=Nat.mul_le_mul hc h3
 simp only
 rw [if_pos ⟨by omega,h2,by omega⟩]
theorem ext34 (n:Int) (h1 : -9223372036854775808 ≤ n) (h2:n ≤ 9223372036854775807):calL EE 175 [.i64 n,.i64 10] []=some (.ret (.str (Lib.itoa n)),[]):=by
 refine ext_cal (g:=fmtX) (v := .str (Lib.itoa n)) rfl ?_ own_s
 unfold fmtX
 simp only
 rw [if_pos ⟨trivial,h1,h2⟩]
structure Val where
 kind:Int
 n:Int
 text:List UInt8
 deriving Inhabited,DecidableEq
def Val.row (v:Val):List SV:=[.int .i64 v.kind,.int .i64 v.n,.str v.text]
def validV (v:Val):Bool:=if v.kind=0 then decide (v.text=[]) else if v.kind=1 then decide (v.n=0) && decide (v.text.length ≤ 255) else if v.kind=2 then (decide (v.n=0) || decide (v.n=1)) && decide (v.text=[]) else false
theorem len255 {l:List UInt8}:decide ((l.length:Int) ≤ 255)=decide (l.length ≤ 255):=by rw [decide_eq_decide]; omega
theorem t15 (v:Val):calL EE 41 [.st v.row] []=some (.ret (.bool (validV v)),[]):=by
 refine fn_ok f41 (by simp) ?_
 unfold c41 validV
 simp only [go_sem,reduceIte,rA,rB,rC,rD,Val.row,decide_eq_true_eq,len255]
 split
 ·rfl
 ·split
  ·rfl
  ·split
   ·rfl
   ·rfl
theorem t23 (v:Val):calL EE 47 [.st v.row] []=some (.ret (.bool (validV v)),[]):=by
 refine fn_ok f47 (by simp) ?_
 unfold c47 validV
 simp only [go_sem,reduceIte,rA,rB,rC,rD,Val.row,decide_eq_true_eq,len255]
 split
 ·rfl
 ·split
  ·rfl
  ·split
   ·rw [Bool.and_comm]
   ·rfl
def n0:List UInt8:=[73,78,84,69,71,69,82]
def n1:List UInt8:=[84,69,88,84]
def n2:List UInt8:=[66,79,79,76,69,65,78]
def nmL:List (List UInt8):=[n0,n1,n2]
theorem ia_tx {s:Slc (List UInt8)} {H:Ob} {k:IntKind} {i:Int}:indexAM (.sl 1) H (.s (s.sv txRow)) (.s (.int k i))=gd (0 ≤ i ∧ i < s.l.length) (.eptr (s.l.map txRow) i.toNat 0):=ia_sv (fun _=>rfl) (by decide)
def nmS:Slc (List UInt8) := .mk nmL true
theorem t46:calL EE 148 [] []=some (.ret (.s (nmS.sv txRow)),[]):=cal_run (n:=20) (by kernel_rfl)
def tnm (k:Int):List UInt8:=if k=0 then n0 else if k=1 then n1 else if k=2 then n2 else []
abbrev txT:List UInt8:=[84,82,85,69]
abbrev txF:List UInt8:=[70,65,76,83,69]
def fmtV (v:Val):List UInt8:=if validV v=false then [] else if v.kind=0 then Lib.itoa v.n else if v.kind=1 then 39 :: (q2 v.text ++ [39]) else if v.n=1 then txT else txF
def vz:Val:=⟨0,0,[]⟩
def bigV (v:Val):Prop := -9223372036854775808 ≤ v.n ∧ v.n ≤ 9223372036854775807
theorem t13 (v:Val) (hb:bigV v) (ht:v.text.length ≤ 100000):calL EE 121 [.st v.row] []=some (.ret (.str (fmtV v)),[]):=by
 refine fn_ok f121 (by simp) ?_
 unfold c121 fmtV
 simp only [go_sem,reduceIte,rA,rB,rC,rD,Val.row]
 refine WC_p rfl rfl (t15 v) ?_
 simp only [go_sem,reduceIte,rA,rB,rC,rD,Val.row,Bool.not_eq_true',decide_eq_true_eq]
 split
 ·rfl
 ·split
  ·refine WC_p rfl rfl (ext34 v.n hb.1 hb.2) ?_
   simp only [go_sem,reduceIte,rA,rB,rC,rD]
  ·split
   ·refine WC_p rfl rfl (ext35 v.text [39] [39,39] (by omega) (by simp) (by simp)) ?_
    have:=q2_len v.text
    simp only [go_sem,reduceIte,rA,rB,rC,rD,rep_q,List.cons_append,List.nil_append,List.length_append]
    omega
   ·split
    ·rfl
    ·rfl
theorem bytes1 {H:Ob} {n:Nat} {x:Int} {b:Bool}:convM (.str true) H n (.s (.slice [[.int .u8 x]] b))=some (.s (.str [UInt8.ofNat x.toNat]),H):=rfl
theorem dec_len' (u:Nat) (h:u ≤ 18446744073709551615):(Lib.decDigits u).length ≤ 21:=by
 by_cases h1:u < 10
 ·rw [dec_small h1]; simp
 ·rw [dec_big h1,List.length_append]
  have:=dec_len (u / 10) (by omega)
  simp
  omega
theorem t56 (u:Nat) (hu:u ≤ 18446744073709551615):calL EE 214 [.s (.int .u64 u)] []=some (.ret (.str (Lib.decDigits u)),[]):=by
 induction u using Nat.strongRecOn with
 | _ u ih =>
  refine fn_ok f214 (by simp) ?_
  unfold c214
  simp only [go_sem,reduceIte,rA,rB,rC,rD,decide_eq_true_eq]
  split
  ·rename_i h
   rw [IntWalk.u64_in _ (by omega),IntWalk.u8_in _ (by omega),bytes1]
   simp only [go_sem,reduceIte,rA,rB,rC,rD]
   rw [dec_small (by omega),show ((48:Int) + (u:Int)).toNat=48 + u by omega]
  ·rename_i h
   have h10:((10:Int) ≠ 0)=True:=by simp
   simp only [go_sem,reduceIte,rA,rB,rC,rD,h10]
   have e1:IntKind.u64.wrap ((u:Int).tdiv 10)=((u / 10:Nat):Int):=by
    rw [IntWalk.u64_quo _ _ ⟨by omega,by omega,by omega⟩]; omega
   rw [e1]
   refine WC_p rfl rfl (ih (u / 10) (by omega) (by omega)) ?_
   have hl:=dec_len' (u / 10) (by omega)
   simp only [go_sem,reduceIte,rA,rB,rC,rD,h10,bytes1]
   have e2:(u:Int).tmod 10=((u % 10:Nat):Int):=by
    rw [Int.tmod_eq_emod_of_nonneg (by omega)]; omega
   have e3:IntKind.u64.wrap (48 + ((u % 10:Nat):Int))=((48 + u % 10:Nat):Int):=by
    rw [IntWalk.u64_in _ (by omega)]; omega
   have e4:IntKind.u8.wrap ((48 + u % 10:Nat):Int)=((48 + u % 10:Nat):Int):=IntWalk.u8_in _ (by omega)
   rw [e2,e3,e4]
   refine ⟨?_,rfl,?_⟩
   ·omega
   ·rw [dec_big (u:=u) (by omega),Int.toNat_natCast]
theorem t36 (n:Int) (h1 : -9223372036854775808 ≤ n) (h2:n ≤ 9223372036854775807):calL EE 177 [.i64 n] []=some (.ret (.str (Lib.itoa n)),[]):=by
 refine fn_ok f177 (by simp) ?_
 unfold c177
 simp only [go_sem,reduceIte,rA,rB,rC,rD,decide_eq_true_eq]
 split
 ·rename_i h
  have e:IntKind.u64.wrap (0 - IntKind.u64.wrap n)=((n.natAbs:Nat):Int):=by
   rw [IntKind.wrap_u64,IntKind.wrap_u64]; omega
  rw [e]
  refine WC_p rfl rfl (t56 n.natAbs (by omega)) ?_
  have hl:=dec_len' n.natAbs (by omega)
  simp only [go_sem,reduceIte,rA,rB,rC,rD]
  refine ⟨by omega,?_⟩
  rw [itoa_neg h]
  rfl
 ·rename_i h
  have e:IntKind.u64.wrap n=((n.toNat:Nat):Int):=by
   rw [IntKind.wrap_u64]; omega
  rw [e]
  refine WC_p rfl rfl (t56 n.toNat (by omega)) ?_
  simp only [go_sem,reduceIte,rA,rB,rC,rD]
  rw [itoa_pos h]
theorem q2_snoc {b:UInt8}:∀ {l:List UInt8},q2 (l ++ [b])=q2 l ++ (if b=39 then [39,39] else [b])
 | []=>by rw [List.nil_append,q2_cons,q2_nil]; simp
 | c :: l=>by rw [List.cons_append,q2_cons,q2_cons,q2_snoc,List.append_assoc]
theorem t14 (v:Val) (hb:bigV v) (ht:v.text.length ≤ 100000):calL EE 124 [.st v.row] []=some (.ret (.str (fmtV v)),[]):=by
 refine fn_ok f124 (by simp) ?_
 unfold c124
 simp only [go_sem,reduceIte,rA,rB,rC,rD,Val.row]
 refine WC_p rfl rfl (t23 v) ?_
 simp only [go_sem,reduceIte,rA,rB,rC,rD,Val.row,Bool.not_eq_true',decide_eq_true_eq]
 by_cases hv:validV v=false
 ·rw [if_pos hv]
  unfold fmtV
  rw [if_pos hv]
 ·rw [if_neg hv]
  have hf:fmtV v=if v.kind=0 then Lib.itoa v.n else if v.kind=1 then 39 :: (q2 v.text ++ [39]) else if v.n=1 then txT else txF:=by
   unfold fmtV; rw [if_neg hv]
  rw [hf]
  by_cases h0:v.kind=0
  ·rw [if_pos h0,if_pos h0]
   refine WC_p rfl rfl (t36 v.n hb.1 hb.2) ?_
   simp only [go_sem,reduceIte,rA,rB,rC,rD]
  ·rw [if_neg h0,if_neg h0]
   by_cases h2:v.kind=2
   ·rw [if_pos h2,if_neg (show ¬ v.kind=1 by omega)]
    split
    ·rfl
    ·rfl
   ·rw [if_neg h2]
    have h1:v.kind=1:=by
     unfold validV at hv
     rw [if_neg h0] at hv
     apply Classical.byContradiction
     intro h1
     rw [if_neg h1,if_neg h2] at hv
     exact hv rfl
    rw [if_pos h1]
    refine WP_scan rfl 4 v.text.length (fun _=>True) (fun j T H n=>T 3 = .str (39 :: q2 (v.text.take j)) ∧ H 0 = .box 23 (v.row.map .s)) rfl ⟨rfl,rfl⟩ ?_ ?_
    ·rintro j T' H' n' hlt hf hi ⟨h3,hH⟩ _
     have hp:T' 1 = .ptr 0 0:=hf 1 rfl
     clear hf
     have hq:=q2_len (v.text.take j)
     rw [List.length_take] at hq
     simp only [go_sem,reduceIte,rA,rB,rC,rD,hp,h3,hi,hH,Val.row,Int.ofNat_lt,hlt,decide_true,wrap_suc (show j < 9223372036854775807 by omega),Int.toNat_natCast,cut1 hlt,decide_eq_true_eq]
     have e39:(((v.text.getD j 0).toNat:Int)=39) ↔ v.text.getD j 0=39:=u8i (k:=39) (by omega)
     have hlen:(39 :: q2 (v.text.take j) ++ [v.text.getD j 0]).length ≤ 1000000:=by
      simp only [List.cons_append,List.length_cons,List.length_append,List.length_nil]; omega
     have hn:q2 (v.text.take (j + 1))=q2 (v.text.take j) ++ (if v.text.getD j 0=39 then [39,39] else [v.text.getD j 0]):=by
      rw [take_step 0 hlt,q2_snoc]
     refine ⟨⟨?_,?_⟩,?_,?_⟩
     ·omega
     ·omega
     ·omega
     ·split
      ·rename_i h
       refine ⟨?_,?_⟩
       ·omega
       ·rw [hn,if_pos (e39.1 h),e39.1 h]
        simp
      ·rename_i h
       rw [hn,if_neg (fun e=>h (e39.2 e))]
       rfl
    ·rintro T' H' n' hf hi ⟨h3,hH⟩ _
     have hp:T' 1 = .ptr 0 0:=hf 1 rfl
     clear hf
     have hq:=q2_len v.text
     rw [List.take_length] at h3
     simp only [go_sem,reduceIte,rA,rB,rC,rD,hp,h3,hi,hH,Val.row,Int.lt_irrefl,decide_false]
     refine ⟨?_,?_⟩
     ·omega
     ·rfl
end Go.Vm
end
