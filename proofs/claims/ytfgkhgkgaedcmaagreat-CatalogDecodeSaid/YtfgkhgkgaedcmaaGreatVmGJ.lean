/- A function of the library by its contract: what leaves old memory as it was; strings.Join. -/
import Derived.Test.YtfgkhgkgaedcmaaGreatVmGI
import Derived.Lib.Join
import Derived.HandedShaped
import Derived.Lay
import Derived.Stop.LaidErr
import Derived.Lib.LaidTab
import Derived.LaidSub
import Derived.MakeChecks
section
set_option linter.unusedVariables false
set_option linter.unusedSimpArgs false
namespace Go.Vm
open Go.RowKit

theorem rel_below {w0 w w' : World} {C : Cx} (h : Rel w0 C w) (hb : Below w.heap.size w w') : Rel w0 C w' ∧ Ext C w C w' := by
  have hlt : ∀ id, (C.H id).alive = true → w'.heap[C.σ id]? = w.heap[C.σ id]? := fun id ha => hb.block _ (h.lt id ha).2
  refine ⟨⟨h.below.trans (hb.mono h.below.size), fun b o v hv => ?_, fun id ha => ⟨(h.lt id ha).1, Nat.lt_of_lt_of_le (h.lt id ha).2 hb.size⟩, h.inj, fun id ty cells hc => ?_, fun id ty sz ver fz ap es hc => ?_, fun id es hc => ?_⟩, ⟨fun _ _ _ e => e, Keeps.refl C, fun b hbl _ => hb.block b hbl, fun id ha => .inl ⟨id, ha, rfl⟩, hb.size, fun _ _ _ e => .inl e⟩⟩
  · have h1 := h.cell b o v hv
    unfold World.cell? at h1 ⊢
    simp only at h1 ⊢
    have hb' : b < w.heap.size := by
      apply Classical.byContradiction
      intro hn
      have : w.heap[b]? = none := by simp; omega
      rw [this] at h1
      cases h1
    rw [hb.block b hb']
    exact h1
  · have := h.box id ty cells hc
    rw [← hlt id (by rw [hc]; rfl)] at this
    exact this
  · have := h.sarr id ty sz ver fz ap es hc
    rw [← hlt id (by rw [hc]; rfl)] at this
    exact this
  · have := h.map id es hc
    rw [← hlt id (by rw [hc]; rfl)] at this
    exact this

def rowsS : SV → Option (List (List SV))
  | .nils => some []
  | .slice es _ => some es
  | _ => none
def strsOf : List (List SV) → Option (List (List UInt8))
  | [] => some []
  | [.str s] :: r => bnd (strsOf r) fun q => some (s :: q)
  | _ => none
/-- strings.Join, as the machine calls it. -/
def joinX (args : List PV) : Option PV :=
  match args with
  | [.s sl, .s (.str sep)] => bnd (rowsS sl) fun rows => bnd (strsOf rows) fun xs => if xs.length ≤ 140737488355328 ∧ (Lib.join xs sep).length ≤ 140737488355328 then some (.s (.str (Lib.join xs sep))) else none
  | _ => none
theorem strsOf_get : ∀ {rows : List (List SV)} {xs : List (List UInt8)}, strsOf rows = some xs → rows = xs.map fun s => [.str s]
  | [], xs, h => by
    simp only [strsOf] at h
    injection h with h
    subst h
    rfl
  | c :: r, xs, h => by
    unfold strsOf at h
    split at h
    · rename_i h1; cases h1
    · rename_i s r' h1
      injection h1 with h1 h2
      subst h1; subst h2
      obtain ⟨q, hq, h⟩ := bnd_eq_some.1 h
      injection h with h
      subst h
      rw [strsOf_get hq]
      rfl
    · cases h
theorem join_ok {P : Program} {F : FuncId} {w0 : World}
    (hnone : ∀ (a : Option Addr) (c : Nat) (sep : ByteArray) (w : World), Calls P F #[.slice a 0 c, .string sep] w fun e w' => e = .returned (.string ⟨#[]⟩) ∧ w' = w)
    (hsome : ∀ (bk o c : Nat) (xs : List ByteArray) (sep : ByteArray) (w : World), (∀ (j : Nat) x, xs[j]? = some x → w.cell? ⟨bk, o + j, none⟩ = some (.string x)) → bk < w.heap.size → xs.length ≤ 140737488355328 → xs.length ≤ c →
      (Lib.join (xs.map (·.data.toList)) sep.data.toList).length ≤ 140737488355328 → Calls P F #[.slice (some ⟨bk, o, none⟩) xs.length c, .string sep] w fun e w' => e = .returned (.string ⟨(Lib.join (xs.map (·.data.toList)) sep.data.toList).toArray⟩) ∧ Below w.heap.size w w')
    {args : List PV} {v : PV} (h : joinX args = some v) {C : Cx} {w : World} {vals : Array Value} (hR : Rel w0 C w) (ha : ArgRel C args vals) :
    Calls P F vals w fun e w' => ∃ C', C'.H = C.H ∧ Rel w0 C' w' ∧ Ext C w C' w' ∧ OutRel C' (.ret v) e := by
  unfold joinX at h
  split at h
  · rename_i sl sep
    obtain ⟨rows, h1, h⟩ := bnd_eq_some.1 h
    obtain ⟨xs, h2, h⟩ := bnd_eq_some.1 h
    split at h
    · rename_i hl
      injection h with h
      subst h
      obtain ⟨hsz, hrel⟩ := ha
      obtain ⟨u0, u1, rfl⟩ : ∃ u0 u1, vals = #[u0, u1] := by
        obtain ⟨l⟩ := vals
        match l, hsz with
        | [a, b], _ => exact ⟨a, b, rfl⟩
      have r0 : PRel C (.s sl) u0 := hrel 0 _ rfl
      have r1 : PRel C (.s (.str sep)) u1 := hrel 1 _ rfl
      have e1 : u1 = .string ⟨⟨sep⟩⟩ := by
        cases r1 with
        | s p v hs => cases hs; rfl
      subst e1
      have hrows := strsOf_get h2
      have s0 : SRel C.F sl u0 := by
        cases r0 with
        | s p v hs => exact hs
      have fin : ∀ e w', e = .returned (.string ⟨(Lib.join xs sep).toArray⟩) → Below w.heap.size w w' → ∃ C', C'.H = C.H ∧ Rel w0 C' w' ∧ Ext C w C' w' ∧ OutRel C' (.ret (.s (.str (Lib.join xs sep)))) e := by
        intro e w' he hb
        obtain ⟨g1, g2⟩ := rel_below hR hb
        refine ⟨C, rfl, g1, g2, ?_⟩
        subst he
        exact PRel.s _ _ (.str _)
      have zero : xs = [] → ∀ (a : Option Addr) (c : Nat), Calls P F #[.slice a 0 c, .string ⟨⟨sep⟩⟩] w fun e w' => ∃ C', C'.H = C.H ∧ Rel w0 C' w' ∧ Ext C w C' w' ∧ OutRel C' (.ret (.s (.str (Lib.join xs sep)))) e := by
        intro hx a c
        refine (hnone a c _ w).mono fun e w' ⟨he, hw⟩ => ?_
        subst hw
        subst hx
        exact fin e w' he (Below.refl _ _)
      unfold rowsS at h1
      split at h1
      · injection h1 with h1
        subst h1
        cases s0
        have : xs = [] := by simpa using hrows.symm
        exact zero this none 0
      · rename_i es full
        injection h1 with h1
        subst h1
        cases s0 with
        | slice _ _ a cap sz vs hsz' hsp hcap hmax hfull hF hS =>
          by_cases hx : xs = []
          · have : es = [] := by rw [hrows, hx]; rfl
            rw [this]
            exact zero hx (some a) cap
          · have hne : es ≠ [] := by
              intro he
              rw [he] at hrows
              exact hx (by simpa using hrows.symm)
            have hspot := hsp hne
            obtain ⟨bk, o, sp⟩ := a
            simp only at hspot
            subst hspot
            have hlen : es.length = xs.length := by rw [hrows, List.length_map]
            have h1sz : sz = 1 := by
              cases xs with
              | nil => exact absurd rfl hx
              | cons x xs =>
                have := hsz' [.str x] (by rw [hrows]; exact List.mem_cons_self ..)
                simpa using this.symm
            subst h1sz
            have hcell : ∀ (j : Nat) (x : List UInt8), xs[j]? = some x → w.cell? ⟨bk, o + j, none⟩ = some (.string ⟨⟨x⟩⟩) := by
              intro j x hj
              have hes : es[j]? = some [.str x] := by rw [hrows, List.getElem?_map, hj]; rfl
              have g1 := hF j _ 0 (.str x) hes rfl
              have g2 := hS j _ 0 (.str x) hes rfl
              have g3 : vs j 0 = .string ⟨⟨x⟩⟩ := by
                cases hvs : vs j 0 <;> rw [hvs] at g2 <;> cases g2
                rfl
              rw [g3] at g1
              have := hR.cell _ _ _ g1
              simpa using this
            have hbk : bk < w.heap.size := by
              cases hxs : xs with
              | nil => exact absurd hxs hx
              | cons x r =>
                have := hcell 0 x (by rw [hxs]; rfl)
                apply Classical.byContradiction
                intro hn
                unfold World.cell? at this
                have e : w.heap[bk]? = none := by simp; omega
                simp only [e] at this
                cases this
            have e3 : (xs.map fun x => (⟨⟨x⟩⟩ : ByteArray)).map (·.data.toList) = xs := by
              rw [List.map_map]
              exact List.map_id'' (fun _ => rfl) xs
            have := hsome bk o cap (xs.map fun x => ⟨⟨x⟩⟩) ⟨⟨sep⟩⟩ w (fun j x hj => by
              rw [List.getElem?_map] at hj
              cases hxj : xs[j]? with
              | none => rw [hxj] at hj; cases hj
              | some y =>
                rw [hxj] at hj
                simp at hj
                subst hj
                exact hcell j y hxj) hbk (by rw [List.length_map]; omega) (by rw [List.length_map]; omega) (by rw [e3]; exact hl.2)
            rw [hlen]
            have e2 : (xs.map fun x => (⟨⟨x⟩⟩ : ByteArray)).length = xs.length := by simp
            rw [e2] at this
            refine this.mono fun e w' ⟨he, hb⟩ => fin e w' ?_ hb
            rw [he, e3]
      · cases h1
    · cases h
  · cases h

/-! ### what arguments of a type are -/
section
variable {P : Program} {n : Nat} {t : TypeId} {xs : List SV}
theorem ty_bool (hu : P.underlying t = some .bool) (h : typed P n t xs) : ∃ b, xs = [.bool b] := by
  cases n with
  | zero => exact h.elim
  | succ n => simpa only [typed, hu] using h
theorem ty_int {k : IntKind} (hu : P.underlying t = some (.int k)) (h : typed P n t xs) : ∃ i, xs = [.int k i] ∧ k.min ≤ i ∧ i ≤ k.max := by
  cases n with
  | zero => exact h.elim
  | succ n => simpa only [typed, hu] using h
theorem ty_str (hu : P.underlying t = some .string) (h : typed P n t xs) : ∃ l, xs = [.str l] ∧ l.length ≤ reachBytes := by
  cases n with
  | zero => exact h.elim
  | succ n => simpa only [typed, hu] using h
theorem ty_struct {fs : Array Field} (hu : P.underlying t = some (.struct fs)) (h : typed P n t xs) : xs.length = P.cellsOf t ∧ ∃ m, ∀ f ∈ fs.toList, typed P m f.type ((xs.drop f.offset).take (P.cellsOf f.type)) := by
  cases n with
  | zero => exact h.elim
  | succ n =>
    simp only [typed, hu] at h
    exact ⟨h.1, n, h.2⟩
theorem ty_slice {α : Type} {f : α → List SV} {e : TypeId} (hu : P.underlying t = some (.slice e)) (he : ∀ m c, typed P m e c → ∃ x, c = f x) (h : typed P n t xs) : ∃ s : Slc α, xs = [s.sv f] := by
  cases n with
  | zero => exact h.elim
  | succ n =>
    simp only [typed, hu] at h
    rcases h with rfl | ⟨es, rfl, _, h⟩
    · exact ⟨.nil, rfl⟩
    · have : ∀ es : List (List SV), (∀ c ∈ es, c.length = P.cellsOf e ∧ typed P n e c) → ∃ l : List α, es = l.map f := by
        intro es
        induction es with
        | nil => intro _; exact ⟨[], rfl⟩
        | cons c es ih =>
          intro h
          obtain ⟨x, rfl⟩ := he n c (h c (List.mem_cons_self ..)).2
          obtain ⟨l, rfl⟩ := ih (fun c hc => h c (List.mem_cons_of_mem _ hc))
          exact ⟨x :: l, rfl⟩
      obtain ⟨l, rfl⟩ := this es h
      exact ⟨.mk l false, rfl⟩
theorem arg_struct {fs : Array Field} {p : PV} (hu : P.underlying t = some (.struct fs)) (h : argT P t p) : ∃ n xs, typed P n t xs ∧ p = .st xs := by
  obtain ⟨n, xs, h1, h2⟩ := h
  rw [hu] at h2
  exact ⟨n, xs, h1, h2⟩
theorem arg_one {p : PV} (hu : ∀ fs, P.underlying t ≠ some (.struct fs)) (h : argT P t p) : ∃ n x, typed P n t [x] ∧ p = .s x := by
  obtain ⟨n, xs, h1, h2⟩ := h
  split at h2
  · rename_i fs hfs; exact absurd hfs (hu fs)
  · obtain ⟨x, rfl, h2⟩ := h2
    exact ⟨n, x, h1, h2⟩
end
def codesB (E : Env) (L : List Nat) : Bool := L.all fun f => match E.P.funcs[f]? with
  | some fn => match fn.body with
    | some c => codeOk (drawOk E (E.dyn f)) fn.ntmps c && !(fn.name == "runtime.NumGoroutine")
    | none => true
  | none => true
theorem codes_of {E : Env} {L : List Nat} (h : codesB E L = true) (hu : ∀ f, E.use f = true → f ∈ L) : CodesOk E := by
  intro f fn c hf h1 h2
  have := List.all_eq_true.1 h f (hu f hf)
  rw [h1] at this
  simp only [h2, Bool.and_eq_true, Bool.not_eq_true'] at this
  exact this
end Go.Vm
end
section
namespace Go.Vm

/-! ### structs that are laid at once -/
def bldA (c : List PV) (l : List (Nat × Nat × PV)) : Option PV := bnd (buildM c l) fun c => some (.agg c)
def vpB (T : Nat → PV) : List (Nat × Nat × MX) → List (Nat × Nat × PV)
  | [] => []
  | (o, n, x) :: r => (o, n, valX T x) :: vpB T r
theorem vpB_nil {T} : vpB T [] = [] := rfl
theorem vpB_cons {T o n x r} : vpB T ((o, n, x) :: r) = (o, n, valX T x) :: vpB T r := rfl
theorem vpB_map {T : Nat → PV} : ∀ {ps : List (Nat × Nat × MX)}, vpB T ps = ps.map fun x => (x.1, x.2.1, valX T x.2.2)
  | [] => rfl
  | (o, n, x) :: r => by rw [vpB, vpB_map]; rfl
theorem evO_bld {z ps T H} : evO (.build z ps) T H = bldA (z.map .s) (vpB T ps) := by
  rw [evO_build, vpB_map]
  rfl
theorem bldA_nil {l : List SV} : bldA (l.map .s) [] = some (.st l) := rfl
theorem bldA_s {l : List SV} {o n : Nat} {v : SV} {r} : bldA (l.map .s) ((o, n, .s v) :: r) = if 1 = n ∧ o + n ≤ l.length then bldA ((l.set o v).map .s) r else none := by
  unfold bldA
  have e : (PV.s v).cells = [v].map .s := rfl
  simp only [buildM, e, setCells_map, List.length_map]
  by_cases h : 1 = n ∧ o + n ≤ l.length
  · rw [if_pos h, if_pos (by simpa using h)]; rfl
  · rw [if_neg h, if_neg (by simpa using h)]; rfl
theorem bldA_st {l m : List SV} {o n : Nat} {r} : bldA (l.map .s) ((o, n, .st m) :: r) = if m.length = n ∧ o + n ≤ l.length then bldA ((setCells l o m).map .s) r else none := by
  unfold bldA
  have e : (PV.st m).cells = m.map .s := rfl
  simp only [buildM, e, setCells_map, List.length_map]
  by_cases h : m.length = n ∧ o + n ≤ l.length
  · rw [if_pos h, if_pos h]
  · rw [if_neg h, if_neg h]; rfl
theorem own_st {m : Nat} {H : Ob} {l : List SV} : own m H (.st l) = some (.st l) := by
  have : ∀ l : List SV, ownL m H (l.map .s) = some (l.map .s) := by
    intro l
    induction l with
    | nil => exact ownL_nil
    | cons v l ih => rw [List.map_cons, ownL_cons, own_s, bnd_some, ih]; rfl
  unfold PV.st
  rw [own_agg, this]
  rfl

/-! ### operations under a guard that turn nothing -/
section
variable {E : Env} {dr : Bool} {T q : Nat → PV} {H : Ob} {n : Nat} {Q : Qt} {d : Option Nat} {r : List St1}
theorem WX_pureR {o : Option PV} {K : PV × Ob → Prop} : WX (pureR H o) K = WX o fun v => K (v, H) := by
  unfold pureR
  rw [WX_bnd]
  simp only [WX_some]
theorem WB_mv {x} : WB E dr (.mv x) q H n d T r Q = WS E dr r (putT T d (valX q x)) H (n + 1) Q := by
  unfold WB
  rw [WA_op rfl]
  exact WX_some
theorem WB_bin {op k x y} : WB E dr (.bin op k x y) q H n d T r Q = WX (binM op k (valX q x) (valX q y)) fun v => WS E dr r (putT T d v) H (n + 1) Q := by
  unfold WB
  rw [WA_op rfl]
  exact WX_pureR
theorem WB_un {op x} : WB E dr (.un op x) q H n d T r Q = WX (unOpS op (valX q x)) fun v => WS E dr r (putT T d v) H (n + 1) Q := by
  unfold WB
  rw [WA_op rfl]
  exact WX_pureR
theorem WB_load {agg sz a} : WB E dr (.load agg sz a) q H n d T r Q = WX (loadM agg sz H (valX q a)) fun v => WS E dr r (putT T d v) H (n + 1) Q := by
  unfold WB
  rw [WA_op rfl]
  exact WX_pureR
theorem WB_sl {k x l h} : WB E dr (.sl k x l h) q H n d T r Q = WX (sliceM k H (valX q x) (valM q l) (valM q h)) fun v => WS E dr r (putT T d v) H (n + 1) Q := by
  unfold WB
  rw [WA_op rfl]
  exact WX_pureR
theorem WB_fa {o x} : WB E dr (.fa o x) q H n d T r Q = WX (fieldAM o H (valX q x)) fun v => WS E dr r (putT T d v) H (n + 1) Q := by
  unfold WB
  rw [WA_op rfl]
  exact WX_pureR
theorem WB_fv {o agg sz x} : WB E dr (.fv o agg sz x) q H n d T r Q = WX (fieldVM o agg sz (valX q x)) fun v => WS E dr r (putT T d v) H (n + 1) Q := by
  unfold WB
  rw [WA_op rfl]
  exact WX_pureR
theorem WB_ia {k x i} : WB E dr (.ia k x i) q H n d T r Q = WX (indexAM k H (valX q x) (valX q i)) fun v => WS E dr r (putT T d v) H (n + 1) Q := by
  unfold WB
  rw [WA_op rfl]
  exact WX_pureR
theorem WB_iv {k x i} : WB E dr (.iv k x i) q H n d T r Q = WX (indexVM k (valX q x) (valX q i)) fun v => WS E dr r (putT T d v) H (n + 1) Q := by
  unfold WB
  rw [WA_op rfl]
  exact WX_pureR
theorem WB_ext {x i} : WB E dr (.ext x i) q H n d T r Q = WX (extractV i (valX q x)) fun v => WS E dr r (putT T d v) H (n + 1) Q := by
  unfold WB
  rw [WA_op rfl]
  exact WX_pureR
theorem WB_len {k x} : WB E dr (.len k x) q H n d T r Q = WX (lenM k H (valX q x)) fun v => WS E dr r (putT T d v) H (n + 1) Q := by
  unfold WB
  rw [WA_op rfl]
  exact WX_pureR
end

attribute [go_sem] WP_seq WP_reg WP_skip WP_exit WP_ret WP_cond WP_block WP_regD chkQ_normal frz_nil frz_cons frz1_s frz1_ptr frz1_agg frz1_func frz1_st thenQ_normal thenQ_ret thenQ_exit
  blkQ_normal blkQ_ret blkQ_exit nextQ_normal nextQ_ret nextQ_exit Fin_ret Fin_normal FinR_ret FinR_normal FinF FinE_ret FinE_normal contQ_normal contQ_ret contQ_exit
  WS_nil WS_set WS_tick WS_need WS_needG WS_act WG_nil WG_cons gB_bool gB_undef WB_call WB_callv vals_nil vals_cons valsX_nil valsX_cons WB_box WB_alloc WB_store WB_conv WB_app WB_mkm
  WB_mupd WB_mks rows1 rows0 flat_eql flat_neq svEqs_nil svEqs_bool svEqs_int svEqs_str vpX_nil vpX_cons partsX_nil partsX_cons row1_s WX_some WX_gd bnd_some bnd_none bnd_gd if_gd if_some gd_True evX_x evX_op evX_pick evS_nil evS_cons evO_load evO_chk evO_bin evO_un
  evO_sl evO_fa evO_fv evO_ia evO_iv evO_look evO_ta evO_ext evO_len evO_mx evO_ifc evO_mkf evO_bld WB_mv WB_bin WB_un WB_load WB_sl WB_fa WB_fv WB_ia WB_iv WB_ext WB_len vpB_nil vpB_cons bldA_nil bldA_s bldA_st evO_convI evO_convS valX_t valX_c over_nil over_cons upd_at set_at
  putT pick_ss pick_sg pick_gs pick_gg pick_bool pick_int pick_str pick_and pick_or asB_bool indexV_str bounds_lh bounds_h bounds_l bounds_n slice_str add_str len_sv
  len_slice len_nils len_str fa_eptr fa_ptr load_eptr load_ptr load_aptr loadH_map len_hsl lenH_sarr ia_hsl iaH_sarr conv_bytes List.length_map u8_default loadB_box
  loadP_fs loadP_ts loadS_f loadS_t store_ptr storeB_st storeB_s box_st setCells List.set_cons_zero List.set_cons_succ set_set eq_self resM packR enter List.getD_cons_zero
  List.getD_cons_succ List.getD_nil Nat.add_left_cancel_iff Nat.zero_add Nat.add_zero Nat.left_eq_add Nat.add_eq_left bi_add bi_sub bi_mul bi_quo bi_rem bi_eql bi_neq bi_lss bi_leq bi_gtr bi_geq bs_eql
  bs_neq bs_lss bb_eql bb_neq un_not un_neg valM List.getElem?_cons_zero List.getElem?_cons_succ List.length_cons List.length_nil List.drop_succ_cons List.drop_zero
  List.take_succ_cons List.take_zero own_s own_st own_tuple ownL_nil ownL_cons and_true true_and and_self or_true true_or implies_true Int.natCast_nonneg Int.toNat_natCast beq_true beq_false Bool.not_true
  Bool.not_false Bool.true_eq_false Bool.false_eq_true Bool.true_and Bool.false_and Bool.and_true Bool.and_false Bool.true_or Bool.false_or Bool.or_true Bool.or_false
  List.all_nil
end Go.Vm
end
section
set_option linter.unusedVariables false
namespace Go.Vm
open Go.RowKit

theorem returns_laid {H : Type} {enc : TypeId × Value → H} {a : Assume} {C : Checked} {os : Os} {f : FuncId} {fn : Func} {s : ChangeSpec} {conds : List PathCond} {apart fresh handsOn again : Bool} {X : World → Array Value → Prop}
    (hX : ∀ (w w' : World) (args : Array Value), w.heap = w'.heap → X w args → X w' args)
    (own : ownKnob C.prog.godebug = none) (started : os.Started) (noInit : C.prog.inits.idxOf? f = none) (hfn : C.prog.funcs[f]? = some fn)
    (witness : ∃ (w : World) (tape : Tape) (i : Input), w.os = os ∧ (w.forCall tape i).Shaped C.prog ∧ i.vars = [] ∧ Input.okWide C.prog (w.forCall tape i) .any w.heap.size f i ∧
      ((s.pre enc C.prog fn conds apart (w.forCall tape i).memory i.args ∧ X (w.forCall tape i).memory i.args) ∧ sizedMet enc C.prog fn (OpenSpec.ofChange s) apart (w.forCall tape i).memory i.args) ∧ a.holds C.prog (lone (Frame.enter C.prog f i.args .normal) [] (w.forCall tape i)))
    (contract : ∀ (W : World) (base : Nat) (args : Array Value) (ds gs : List (DataW H)) (before : List MemPlace),
      (∀ (j : Nat) t v, fn.params[j]? = some t → args[j]? = some v → Value.okWide C.prog W .any base t v) →
      DataW.Whole enc C.prog fn.params.toList s.vars apart W args.toList ds gs before →
      (DataW.weightsEach C.prog (fn.params.toList ++ s.plain.varTypes C.prog) (ds ++ gs)).all (· ≤ reachBytes) = true →
      X W args → W.ShapedOpen C.prog →
      Calls C.prog f args W fun e W' => ∃ v, e = .returned v ∧ s.post enc C.prog fn apart fresh handsOn again W args v W') :
    ReturnsInHanded a C os f .any (fun w args => (s.pre enc C.prog fn conds apart w args ∧ X w args) ∧ sizedMet enc C.prog fn (OpenSpec.ofChange s) apart w args) (s.post enc C.prog fn apart fresh handsOn again) := by
  refine returnsInHanded_of_calls own started noInit witness ?_
  intro w tape i _ hsh _ hok hpre hholds
  obtain ⟨_, _, _, fn', hfn', _, _, _, _, hval⟩ := hok
  have e : fn' = fn := Option.some.inj (hfn'.symm.trans hfn)
  subst e
  obtain ⟨⟨⟨ds, gs, before, hw, hc⟩, hx⟩, hz⟩ := hpre
  have hw' := DataW.Whole.of_heap (w' := w.forCall tape i) (by rfl) hw
  refine (contract (w.forCall tape i) w.heap.size i.args ds gs before hval hw' (hz.weights hw) (hX _ _ _ (by rfl) hx) hsh).mono fun e W' ⟨v, he, hp⟩ => ?_
  subst he
  exact ChangeSpec.post_blind hp
end Go.Vm
end
