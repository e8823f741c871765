/- The functions of Go's library that chapter 24 comes to, as the machine calls them. -/
import Derived.Test.YtaepmmmcipolbaaGreatDoorQVmGJ
import Derived.Test.YtaepmmmcipolbaaGreatDoorQSfS
import Derived.Test.YtaepmmmcipolbaaGreatDoorChecked
import Derived.Lib.AppendIntMem
import Derived.Lib.AtoiErrMem
import Derived.Lib.LaidTab
section
set_option linter.unusedVariables false
set_option linter.unusedSimpArgs false
set_option maxRecDepth 100000
namespace Go.Vm
open Go.Proofs Go.RowKit
def replX:List PV→Option PV
 | [.s (.str s),.s (.str old),.s (.str new)]=>if s.length < 4294967281 ∧ 1 ≤ old.length ∧ s.length + Lib.countB ⟨⟨s⟩⟩ ⟨⟨old⟩⟩ * new.length ≤ 140737488355328 then some (.str (Lib.replaceAll s old new)) else none
 | _=>none
def trimX:List PV→Option PV
 | [.s (.str s),.s (.str cs)]=>if s.length ≤ 9223372036854775807 ∧ cs.length < 4294967281 ∧ cs.all (fun b=>decide (b.toNat < 128))=true then some (.str (Lib.trimS s cs)) else none
 | _=>none
def fmtX:List PV→Option PV
 | [.s (.int .i64 n),.s (.int .i64 b)]=>if b=10 ∧ -9223372036854775808 ≤ n ∧ n ≤ 9223372036854775807 then some (.str (Lib.itoa n)) else none
 | _=>none
def txRow (s:List UInt8):List SV:=[.str s]
def fldX:List PV→Option PV
 | [.s (.str l)]=>if l.length < 4294967281 ∧ (Lib.fields l).length ≤ 4294967296 ∧ l.all (fun b=>decide (b.toNat < 128))=true then some (.s (.slice ((Lib.fields l).map txRow) true)) else none
 | _=>none
def extL (f:FuncId):Option (List PV→Option PV) :=
 if f=175 then some fmtX else if f=176 then some replX else if f=207 then some fldX else if f=117 then some trimX else if f=107 then some joinX else none
theorem arg1 {C:Cx} {a:PV} {vals:Array Value} (h:ArgRel C [a] vals):∃ u,vals = #[u] ∧ PRel C a u:=by
 obtain ⟨hs,hr⟩:=h
 obtain ⟨l⟩:=vals
 match l,hs with
 | [u],_=>exact ⟨u,rfl,hr 0 _ rfl⟩
theorem arg2 {C:Cx} {a b:PV} {vals:Array Value} (h:ArgRel C [a,b] vals):∃ u v,vals = #[u,v] ∧ PRel C a u ∧ PRel C b v:=by
 obtain ⟨hs,hr⟩:=h
 obtain ⟨l⟩:=vals
 match l,hs with
 | [u,v],_=>exact ⟨u,v,rfl,hr 0 _ rfl,hr 1 _ rfl⟩
theorem arg3 {C:Cx} {a b c:PV} {vals:Array Value} (h:ArgRel C [a,b,c] vals):∃ u v x,vals = #[u,v,x] ∧ PRel C a u ∧ PRel C b v ∧ PRel C c x:=by
 obtain ⟨hs,hr⟩:=h
 obtain ⟨l⟩:=vals
 match l,hs with
 | [u,v,x],_=>exact ⟨u,v,x,rfl,hr 0 _ rfl,hr 1 _ rfl,hr 2 _ rfl⟩
theorem prel_str {C:Cx} {l:List UInt8} {u:Value} (h:PRel C (.s (.str l)) u):u = .string ⟨⟨l⟩⟩:=by
 cases h with
 | s p v hs=>cases hs; rfl
theorem prel_int {C:Cx} {k:IntKind} {n:Int} {u:Value} (h:PRel C (.s (.int k n)) u):u = .int k n:=by
 cases h with
 | s p v hs=>cases hs; rfl
theorem ext_fin {P:Program} {F:FuncId} {w0 w:World} {C:Cx} {vals:Array Value} {v:PV} (hR:Rel w0 C w)
  (hc:Calls P F vals w fun e w'=>∃ u,e = .returned u ∧ PRel C v u ∧ Below w.heap.size w w') :
  Calls P F vals w fun e w'=>∃ C',C'.H=C.H ∧ Rel w0 C' w' ∧ Ext C w C' w' ∧ OutRel C' (.ret v) e:=by
 refine hc.mono fun e w' ⟨u,he,hu,hb⟩ => ?_
 obtain ⟨g1,g2⟩:=rel_below hR hb
 subst he
 exact ⟨C,rfl,g1,g2,hu⟩
structure Glob (W:World):Prop where
 m:∃ m,W.cell? ⟨5,0,none⟩=some (.int .i64 m)
 tab:Lib.TabIs Tryz.prog W "strings.asciiSpace" .u8 Lib.asciiSpaceTab
 pow:Lib.TabIs Tryz.prog W "internal/strconv.uint64pow10" .u64 Lib.pow10Tab
 size:13 ≤ W.heap.size
theorem tab_at {W w:World} {C:Cx} {nm:String} {k:IntKind} {l:List Int} {g:Nat} (hg:Tryz.prog.globalNamed nm=some g) (hs:g < W.heap.size) (h:Lib.TabIs Tryz.prog W nm k l) (hR:Rel W C w):Lib.TabIs Tryz.prog w nm k l:=by
 have hb:=hR.below
 unfold Lib.TabIs World.var? at h ⊢
 rw [hg] at h ⊢
 simp only [Option.bind_some] at h ⊢
 rw [hb.block g hs]
 exact h
theorem Glob.at_ {W w:World} {C:Cx} (h:Glob W) (hR:Rel W C w):Glob w:=by
 obtain ⟨⟨m,hm⟩,ht,hp,hsz⟩:=h
 have hb:=hR.below
 refine ⟨⟨m,by rw [hb.cell (by show 5 < _; omega)]; exact hm⟩,tab_at (g:=4) (by kernel_rfl) (by omega) ht hR,tab_at (g:=9) (by kernel_rfl) (by omega) hp hR,Nat.le_trans hsz hb.size⟩
theorem more_alloc (w:World) (o:Obj):World.more w o w.drawn=w.alloc o:=rfl
theorem ascii_of_all {l:List UInt8} (h:l.all (fun b=>decide (b.toNat < 128))=true):∀ (j:Nat) b,l[j]? = some b→b.toNat < 128:=fun j b hj=>of_decide_eq_true (List.all_eq_true.1 h b (List.mem_of_getElem? hj))
theorem z116:(Tryz.prog.info? (Tryz.lays160_ren.t 116)).map (fun i=>(i.zero,i.size))=some (some (.agg (Array.replicate 256 (.bool false))),256):=by kernel_rfl
theorem extOkL {E:Env} (hE:E.P=Tryz.prog) (hx:E.ext=extL) {W:World} (hg:Glob W):ExtOk E W (fixOf W):=by
 intro f g args v hf hv
 rw [hE]
 rw [hx] at hf
 unfold extL at hf
 split at hf
 ·rename_i e; subst e
  injection hf with hf; subst hf
  refine ⟨⟨Tryz.f175,Tryz.func175,by kernel_rfl,by kernel_rfl⟩,fun C w vals hR _ ha => ?_⟩
  unfold fmtX at hv
  split at hv
  ·split at hv
   ·rename_i n b hc
    obtain ⟨rfl,h0,h1⟩:=hc
    injection hv with hv; subst hv
    obtain ⟨u,v,rfl,r0,r1⟩:=arg2 ha
    rw [prel_int r0,prel_int r1]
    refine ext_fin hR ((Tryz.strconv_FormatInt_10 n h0 h1 w (hg.at_ hR).pow).mono fun e w' ⟨he,k,os,hw⟩=>⟨_,he,.s _ _ (.str _),?_⟩)
    rw [hw]
    exact Lib.below_grow _ _ (Nat.le_refl _) _ _
   ·cases hv
  ·cases hv
 split at hf
 ·rename_i e; subst e
  injection hf with hf; subst hf
  refine ⟨⟨Tryz.f176,Tryz.func176,by kernel_rfl,by kernel_rfl⟩,fun C w vals hR _ ha => ?_⟩
  unfold replX at hv
  split at hv
  ·split at hv
   ·rename_i s old new hc
    obtain ⟨h0,h1,h2⟩:=hc
    injection hv with hv; subst hv
    obtain ⟨u,v,x,rfl,r0,r1,r2⟩:=arg3 ha
    rw [prel_str r0,prel_str r1,prel_str r2]
    obtain ⟨m,hm⟩:=(hg.at_ hR).m
    exact ext_fin hR ((Tryz.strings_ReplaceAll ⟨⟨s⟩⟩ ⟨⟨old⟩⟩ ⟨⟨new⟩⟩ m w h0 hm h1 h2).mono fun e w' ⟨he,hb⟩=>⟨_,he,.s _ _ (.str _),hb⟩)
   ·cases hv
  ·cases hv
 split at hf
 ·rename_i e; subst e
  injection hf with hf; subst hf
  refine ⟨⟨Tryz.f207,Tryz.func207,by kernel_rfl,by kernel_rfl⟩,fun C w vals hR _ ha => ?_⟩
  unfold fldX at hv
  split at hv
  ·split at hv
   ·rename_i l hc
    obtain ⟨h0,hn,h1⟩:=hc
    injection hv with hv; subst hv
    obtain ⟨u,rfl,r0⟩:=arg1 ha
    rw [prel_str r0]
    refine (Tryz.strings_Fields ⟨⟨l⟩⟩ w h0 (ascii_of_all h1) (hg.at_ hR).tab).mono fun e w' ⟨he,hw⟩ => ?_
    have hrow:RowsAt C.F 1 ((Lib.fields l).map txRow) ((Lib.fields l).map fun l=>Value.string ⟨l.toArray⟩).toArray:=by
     refine ⟨by simp,fun c hc => ?_,fun i c j p hi hj => ?_⟩
     ·obtain ⟨x,_,rfl⟩:=List.mem_map.1 hc
      rfl
     ·rw [List.getElem?_map] at hi
      cases hx:(Lib.fields l)[i]? with
      | none=>rw [hx] at hi; cases hi
      | some x =>
       rw [hx] at hi
       injection hi with hi
       subst hi
       cases j with
       | zero =>
        injection hj with hj
        subst hj
        have e:(((Lib.fields l).map fun l=>Value.string ⟨l.toArray⟩).toArray).getD (i * 1 + 0) undef = .string ⟨x.toArray⟩:=by
         simp [Array.getD_eq_getD_getElem?,hx]
        rw [e]
        exact .str _
       | succ j=>simp [txRow] at hj
    obtain ⟨C',k1,k2,k3,k4⟩:=fix_new hR hrow (by rw [List.length_map]; unfold maxLen; omega) 9 w.drawn
    rw [more_alloc] at k2 k3
    subst hw
    refine ⟨C',k1,k2,k3,?_⟩
    subst he
    rw [List.length_map] at k4
    exact PRel.s _ _ k4
   ·cases hv
  ·cases hv
 split at hf
 ·rename_i e; subst e
  injection hf with hf; subst hf
  refine ⟨⟨Tryz.f117,Tryz.func117,by kernel_rfl,by kernel_rfl⟩,fun C w vals hR _ ha => ?_⟩
  unfold trimX at hv
  split at hv
  ·split at hv
   ·rename_i s cs hc
    obtain ⟨h0,h1,h2⟩:=hc
    injection hv with hv; subst hv
    obtain ⟨u,v,rfl,r0,r1⟩:=arg2 ha
    rw [prel_str r0,prel_str r1]
    exact ext_fin hR ((Any.strings_Trim_laid Tryz.lays160 z116 ⟨⟨s⟩⟩ ⟨⟨cs⟩⟩ w h0 h1 (ascii_of_all h2)).mono fun e w' ⟨he,hb⟩=>⟨_,he,.s _ _ (.str _),hb⟩)
   ·cases hv
  ·cases hv
 split at hf
 ·rename_i e; subst e
  injection hf with hf; subst hf
  refine ⟨⟨Tryz.f107,Tryz.func107,by kernel_rfl,by kernel_rfl⟩,fun C w vals hR _ ha => ?_⟩
  exact join_ok Tryz.strings_Join_none Tryz.strings_Join hv hR ha
 ·cases hf
end Go.Vm
end
section
set_option linter.unusedVariables false
set_option linter.unusedSimpArgs false
set_option maxRecDepth 100000
namespace Go.Vm
open Go.Proofs Go.RowKit
def txtData {H:Type} (zs:List (List UInt8)):DataW H := .agg (zs.map fun z => .lit (.string z))
def TxtIs (P:Program) (w:World) (name:String) (zs:List (List UInt8)):Prop:=w.var? P name=some (zs.map fun z=>Value.string ⟨⟨z⟩⟩).toArray
theorem cells_of_txt {H:Type} {enc:TypeId × Value→H} {P:Program} {w:World} {base:Nat} {sp:Nat→Bool} {held:Bool} {fuel:Nat} {t e:TypeId} {n:Nat} {cs:List Value} {zs:List (List UInt8)} {p:List MemPlace}
  (ht:P.underlying t=some (.array n e)) (he:P.underlying e=some .string) (hce:P.cellsOf e=1) (hct:P.cellsOf t=n)
  (h:DataW.trod enc P w base sp held fuel t cs=some (txtData zs,p)):cs=zs.map fun z=>Value.string ⟨⟨z⟩⟩:=by
 cases fuel with
 | zero=>simp [DataW.trod] at h
 | succ fuel =>
  simp only [DataW.trod,ht,hce,hct,Nat.mul_one] at h
  split at h
  ·rename_i hl
   obtain ⟨xs,hm,hx⟩:=Option.map_eq_some_iff.1 h
   have hxs:xs.map (·.1)=zs.map fun z=>(DataW.lit (.string z):DataW H):=by
    have:=congrArg Prod.fst hx
    simpa [txtData] using this
   have hxl:xs.length=n:=by simpa using Lib.mapM_length hm
   have hzl:zs.length=n:=by
    have:=congrArg List.length hxs
    simp at this
    omega
   apply List.ext_getElem?
   intro i
   by_cases hi:i < n
   ·obtain ⟨b,hb,hf⟩:=Lib.mapM_at hm i i (by simp [hi])
    obtain ⟨z,hc,rfl,_⟩:=DataW.trod_string he hf
    have h1:cs[i]? = some (.string z):=by
     have:=congrArg (·[0]?) hc
     simpa [List.getElem?_take,List.getElem?_drop] using this
    have h2:(xs.map (·.1))[i]? = some (DataW.lit (.string z.data.toList):DataW H):=by simp [hb]
    rw [hxs] at h2
    simp only [List.getElem?_map,Option.map_eq_some_iff,DataW.lit.injEq,Lit.string.injEq] at h2
    obtain ⟨z',hz',rfl⟩:=h2
    simp [h1,hz']
   ·rw [List.getElem?_eq_none (by omega),List.getElem?_eq_none (by simp; omega)]
  ·cases h
theorem txtIs_of_head {P:Program} {W:World} {name:String} {zs:List (List UInt8)} {rest:List (String × DataW Unit)} {g:Nat} {t e:TypeId} {n:Nat}
  (hg:P.globalNamed name=some g) (hty:(P.globals[g]?).map (·.type)=some t) (ht:P.underlying t=some (.array n e)) (he:P.underlying e=some .string) (hce:P.cellsOf e=1) (hct:P.cellsOf t=n)
  (h:laidMet P ((name,txtData zs) :: rest) W):TxtIs P W name zs:=by
 obtain ⟨ps,⟨g',t',cs,fuel,p,q,hg',ht',hvar,hd,_,_⟩,_⟩:=h
 obtain rfl:=Option.some.inj (hg.symm.trans hg')
 obtain rfl:=Option.some.inj (hty.symm.trans ht')
 unfold TxtIs
 rw [hvar,← cells_of_txt ht he hce hct hd]
theorem TxtIs.cell {P:Program} {W:World} {name:String} {zs:List (List UInt8)} {g:Nat} (h:TxtIs P W name zs) (hg:P.globalNamed name=some g) (i:Nat) :
  W.cell? ⟨g,i,none⟩=(zs[i]?).map fun z=>Value.string ⟨⟨z⟩⟩:=by
 have:=World.var?_cell hg h i
 simpa using this
theorem ptr_rows {C:Cx} {row:List SV} {g:Nat} {vs:Nat→Value} (h1:∀ (j:Nat) p,row[j]? = some p→C.F g j=some (vs j)) (h2:∀ (j:Nat) p,row[j]? = some p→SRel C.F p (vs j)):PRel C (.eptr [row] 0 0) (.pointer (some ⟨g,0,none⟩)):=by
 have:=PRel.eptr (C:=C) [row] 0 0 ⟨g,0,none⟩ row.length (fun _ j=>vs j) (fun c hc=>by simp at hc; rw [hc]) (fun _=>rfl) (fun i c j p hi hj=>by
  cases i with
  | zero=>simp at hi; subst hi; simpa using h1 j p hj
  | succ i=>simp at hi) (fun i c j p hi hj=>by
  cases i with
  | zero=>simp at hi; subst hi; exact h2 j p hj
  | succ i=>simp at hi)
 simpa using this
theorem ptr_txt {P:Program} {W:World} {C:Cx} {name:String} {zs:List (List UInt8)} {g:Nat} (h:TxtIs P W name zs) (hg:P.globalNamed name=some g) (hF:∀ b o v,fixOf W b o=some v→C.F b o=some v):PRel C (.eptr [zs.map SV.str] 0 0) (.pointer (some ⟨g,0,none⟩)):=by
 refine ptr_rows (vs:=fun j => .string ⟨⟨zs.getD j []⟩⟩) (fun j p hj => ?_) (fun j p hj => ?_)
 ·rw [List.getElem?_map] at hj
  obtain ⟨z,hz,rfl⟩:=Option.map_eq_some_iff.1 hj
  refine hF _ _ _ ?_
  unfold fixOf
  rw [h.cell hg,hz,List.getD_eq_getElem?_getD,hz]
  rfl
 ·rw [List.getElem?_map] at hj
  obtain ⟨z,hz,rfl⟩:=Option.map_eq_some_iff.1 hj
  rw [List.getD_eq_getElem?_getD,hz]
  exact .str _
theorem ptr_num {P:Program} {W:World} {C:Cx} {name:String} {k:IntKind} {zs:List Int} {g:Nat} (h:Lib.TabIs P W name k zs) (hg:P.globalNamed name=some g) (hF:∀ b o v,fixOf W b o=some v→C.F b o=some v):PRel C (.eptr [zs.map (SV.int k)] 0 0) (.pointer (some ⟨g,0,none⟩)):=by
 refine ptr_rows (vs:=fun j => .int k (zs.getD j 0)) (fun j p hj => ?_) (fun j p hj => ?_)
 ·rw [List.getElem?_map] at hj
  obtain ⟨z,hz,rfl⟩:=Option.map_eq_some_iff.1 hj
  refine hF _ _ _ ?_
  unfold fixOf
  exact h.cell hg j (by
   apply Classical.byContradiction
   intro hn
   rw [List.getElem?_eq_none (by omega)] at hz
   cases hz)
 ·rw [List.getElem?_map] at hj
  obtain ⟨z,hz,rfl⟩:=Option.map_eq_some_iff.1 hj
  rw [List.getD_eq_getElem?_getD,hz]
  exact .int _ _
end Go.Vm
end
section
set_option linter.unusedVariables false
set_option maxRecDepth 100000
namespace Go.Vm
open Go
attribute [go_sem] Bool.false_and Bool.true_and Bool.and_false Bool.and_true Bool.not_false Bool.not_true Bool.or_false Bool.true_or Bool.or_true Bool.false_or
@[go_sem] abbrev MX.i (n:Int):MX := .c (.s (.int .i64 n))
@[go_sem] abbrev MX.w (l:List UInt8):MX := .c (.s (.str l))
@[go_sem] abbrev MX.F:MX := .c (.s (.bool false))
@[go_sem] abbrev MX.T:MX := .c (.s (.bool true))
@[go_sem] abbrev Xp.ff:Xp := .x (.c (.s (.bool false)))
@[go_sem] abbrev Xp.tt:Xp := .x (.c (.s (.bool true)))
@[go_sem] abbrev Xp.v (a:Nat):Xp := .x (.t a)
@[go_sem] abbrev Xp.fa (o b:Nat):Xp := .op (.fa o (.t b)) []
@[go_sem] abbrev Xp.ld (a o b:Nat):Xp := .op (.load false 1 (.t a)) [(a,.op (.fa o (.t b)) [])]
@[go_sem] abbrev Xp.l0 (a:Nat) (l:List (Nat × Xp)):Xp := .op (.load false 1 (.t a)) l
@[go_sem] abbrev Xp.l1 (s a:Nat) (l:List (Nat × Xp)):Xp := .op (.load true s (.t a)) l
@[go_sem] abbrev Xp.ln (a:Nat) (e:Xp):Xp := .op (.len (.sl 0) (.t a)) [(a,e)]
@[go_sem] abbrev Xp.b (o:BinOp) (x y:MX):Xp := .op (.bin o .num x y) []
@[go_sem] abbrev Xp.bl (o:BinOp) (x y:MX) (l:List (Nat × Xp)):Xp := .op (.bin o .num x y) l
@[go_sem] abbrev Xp.no (a:Nat):Xp := .op (.un .not (.t a)) []
@[go_sem] abbrev Xp.ia (s a b:Nat) (l:List (Nat × Xp)):Xp := .op (.ia (.sl s) (.t a) (.t b)) l
@[go_sem] abbrev Xp.an (a b:Xp):Xp := .pick a b (.x (.c (.s (.bool false))))
@[go_sem] abbrev Xp.o (a b:Xp):Xp := .pick a (.x (.c (.s (.bool true)))) b
@[go_sem] abbrev St1.ca (d f:Nat) (a:List MX) (l:List (Nat × Xp)):St1 := .act (some d) [] (.call f a) l
@[go_sem] abbrev St1.cg (d:Nat) (g:List (Xp × Bool)) (f:Nat) (a:List MX) (l:List (Nat × Xp)):St1 := .act (some d) g (.call f a) l
@[go_sem] abbrev St1.st (s x v:Nat) (l:List (Nat × Xp)):St1 := .act none [] (.store s (.t x) (.t v)) l
@[go_sem] abbrev St1.k (n:Nat):St1 := .tick n
@[go_sem] abbrev St1.s (d:Nat) (e:Xp):St1 := .set d e
@[go_sem] abbrev St1.n (e:Xp):St1 := .need [] e
@[go_sem] abbrev SC.r (l:List St1):SC := .reg l false
@[go_sem] abbrev SC.rt (l:List St1):SC := .reg l true
@[go_sem] abbrev SC.q (a b:SC):SC := .seq a b
abbrev cIF (agg:Bool) (sz:Nat):SC := .seq (.reg [.set 4 (.x (.c (.s (.int .i64 0)))),.tick 1] false) (.seq (.seq (.reg [.set 7 (.op (.len (.sl 0) (.t 6)) [(6,.x (.t 0))]),.set 8 (.x (.c (.s (.int .i64 0)))),.tick 3] false) (.block 0 (.loop (.seq (.reg [.tick 1] false) (.seq (.cond (.op (.bin .lss .num (.t 8) (.t 7)) []) .skip (.exit 0)) (.seq (.block 1 (.seq (.reg [.set 5 (.x (.t 8)),.tick 2] false) (.seq (.reg [.tick 5,.act (some 16) [] (.callv (.t 11) [.t 15]) [(11,.x (.t 1)),(15,.op (.load agg sz (.t 14)) [(14,.op (.ia (.sl sz) (.t 12) (.t 13)) [(12,.x (.t 0)),(13,.x (.t 5))])])]] false) (.cond (.x (.t 16)) (.seq (.reg [.set 4 (.x (.t 5)),.tick 2] false) .ret) .skip)))) (.reg [.set 8 (.op (.bin .add .num (.t 8) (.c (.s (.int .i64 1)))) []),.tick 2] false))))))) (.seq (.reg [.set 4 (.x (.c (.s (.int .i64 (-1))))),.tick 1] false) .ret))
abbrev cCF (g:Nat):SC := .seq (.reg [.set 4 (.x (.c (.s (.bool false)))),.tick 1] false) (.seq (.reg [.tick 2,.act (some 7) [] (.call g [.t 5,.t 6]) [(5,.x (.t 0)),(6,.x (.t 1))],.set 4 (.op (.bin .geq .num (.t 7) (.c (.s (.int .i64 0)))) []),.tick 2] false) .ret)
abbrev cEF (sz ty:Nat) (z:List SV):SC := .seq (.reg [.set 6 (.x (.c (.s (.bool false)))),.tick 1] false) (.seq (.seq (.reg [.tick 5] false) (.cond (.op (.bin .neq .num (.t 11) (.t 13)) [(11,.op (.len (.sl 0) (.t 10)) [(10,.x (.t 0))]),(13,.op (.len (.sl 0) (.t 12)) [(12,.x (.t 1))])]) (.seq (.reg [.set 6 (.x (.c (.s (.bool false)))),.tick 1] false) .ret) .skip)) (.seq (.seq (.reg [.set 15 (.x (.t 0)),.set 16 (.op (.len (.sl 0) (.t 15)) []),.set 17 (.x (.c (.s (.int .i64 0)))),.tick 3] false) (.block 0 (.loop (.seq (.reg [.tick 1] false) (.seq (.cond (.op (.bin .lss .num (.t 17) (.t 16)) []) .skip (.exit 0)) (.seq (.block 1 (.seq (.reg [.set 21 (.op (.load true sz (.t 20)) [(20,.op (.ia (.sl sz) (.t 15) (.t 17)) [])]),.tick 3,.act (some 8) [] (.alloc ty z) [],.set 7 (.x (.t 17)),.tick 1,.act none [] (.store sz (.t 8) (.t 21)) []] false) (.seq (.reg [.set 25 (.op (.load true sz (.t 24)) [(24,.op (.ia (.sl sz) (.t 22) (.t 23)) [(22,.x (.t 1)),(23,.x (.t 7))])]),.tick 4,.act (some 9) [] (.alloc ty z) [],.act none [] (.store sz (.t 9) (.t 25)) []] false) (.seq (.reg [.tick 3,.act (some 29) [] (.callv (.t 26) [.t 27,.t 28]) [(26,.x (.t 2)),(27,.op (.load true sz (.t 8)) []),(28,.op (.load true sz (.t 9)) [])],.tick 1] false) (.cond (.op (.un .not (.t 29)) []) (.seq (.reg [.set 6 (.x (.c (.s (.bool false)))),.tick 1] false) .ret) .skip))))) (.reg [.set 17 (.op (.bin .add .num (.t 17) (.c (.s (.int .i64 1)))) []),.tick 2] false))))))) (.seq (.reg [.set 6 (.x (.c (.s (.bool true)))),.tick 1] false) .ret)))
abbrev cAL (ft g k:Nat):SC := .seq (.reg [.act (some 3) [] (.box ft (.t 1)) [],.set 4 (.x (.c (.s (.bool false)))),.tick 1] false) (.seq (.reg [.tick 2,.act (some 7) [] (.call g [.t 5,.t 6]) [(5,.x (.t 0)),(6,.op (.mkf k [] [.t 3]) [])],.set 4 (.op (.un .not (.t 7)) []),.tick 2] false) .ret)
abbrev cA1 (ty sz:Nat):SC := .seq (.reg [.act (some 2) [] (.box ty (.t 0)) [],.set 3 (.x (.c (.s (.bool false)))),.tick 1] false) (.seq (.reg [.tick 2,.act (some 6) [] (.callv (.t 4) [.t 5]) [(4,.op (.load false 1 (.t 1)) []),(5,.op (.load true sz (.t 2)) [])],.set 3 (.op (.un .not (.t 6)) []),.tick 2] false) .ret)
abbrev cLI (sz ty:Nat) (z:List SV):SC := .seq (.reg [.set 6 (.x (.c (.s (.str [])))),.tick 1] false) (.seq (.reg [.tick 2,.act (some 12) [] (.mks 9 1 [.str []] (.c (.s (.int .i64 0))) (.t 11)) [(11,.op (.len (.sl 0) (.t 10)) [(10,.x (.t 0))])],.set 7 (.x (.t 12)),.tick 1] false) (.seq (.seq (.reg [.set 13 (.x (.t 0)),.set 14 (.op (.len (.sl 0) (.t 13)) []),.set 15 (.x (.c (.s (.int .i64 0)))),.tick 3] false) (.block 0 (.loop (.seq (.reg [.tick 1] false) (.seq (.cond (.op (.bin .lss .num (.t 15) (.t 14)) []) .skip (.exit 0)) (.seq (.block 1 (.seq (.reg [.set 18 (.op (.load true sz (.t 17)) [(17,.op (.ia (.sl sz) (.t 13) (.t 15)) [])]),.tick 2,.act (some 9) [] (.alloc ty z) [],.act none [] (.store sz (.t 9) (.t 18)) []] false) (.reg [.tick 3,.act (some 22) [] (.callv (.t 20) [.t 21]) [(20,.x (.t 2)),(21,.op (.load true sz (.t 9)) [])],.act (some 23) [] (.rows 1 [.str []] 1 [(0,.t 22)]) [],.act (some 24) [] (.app 9 1 (.t 19) (.t 23)) [(19,.x (.t 7))],.set 7 (.x (.t 24)),.tick 1] false))) (.reg [.set 15 (.op (.bin .add .num (.t 15) (.c (.s (.int .i64 1)))) []),.tick 2] false))))))) (.seq (.reg [.tick 2,.act (some 28) [] (.call 107 [.t 26,.t 27]) [(26,.x (.t 7)),(27,.x (.t 1))],.set 6 (.x (.t 28)),.tick 1] false) .ret)))
end Go.Vm
end
