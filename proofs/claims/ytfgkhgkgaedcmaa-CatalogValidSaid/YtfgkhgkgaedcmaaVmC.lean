/- Each operation of the abstract machine is what the model's own operation does: those that write nothing. -/
import Derived.Test.YtfgkhgkgaedcmaaVmB
import Derived.Laws.StructEq
set_option linter.unusedVariables false
set_option linter.unusedSimpArgs false
namespace Go.Vm
open Go.RowKit

section
variable {P : Program} {w : World} {F : Fix} {C : Cx}

theorem toList_mk (l : List UInt8) : ByteArray.toList ⟨⟨l⟩⟩ = l := by rw [ByteArray.toList_eq]
theorem size_mk (l : List UInt8) : ByteArray.size ⟨⟨l⟩⟩ = l.length := rfl

theorem beq_dec {α : Type} [DecidableEq α] [BEq α] [LawfulBEq α] (a b : α) : (a == b) = decide (a = b) := by by_cases h : a = b <;> simp [h]
theorem binInt_run {op : BinOp} {t : TypeId} {k k' : IntKind} {a b : Int} {v : SV} (h : binInt op k a k' b = some v) : ∃ u, (binOp op t (.int k a) (.int k' b)).run P w = .ok u w ∧ SRel F v u := by
  by_cases hk : k = k'
  · subst hk
    cases op <;> simp only [binInt, if_true, true_and] at h <;>
      first
        | (injection h with h; subst h; refine ⟨_, ?_, SRel.int _ _⟩; simp [binOp, Op.intArith, Op.intDiv, Op.intBits, Op.intCmp]; done)
        | (injection h with h; subst h; refine ⟨_, ?_, SRel.bool _⟩; simp [binOp, Op.intArith, Op.intDiv, Op.intBits, Op.intCmp]; done)
        | (injection h with h; subst h; refine ⟨.bool (a == b), ?_, by rw [beq_dec]; exact SRel.bool _⟩; simp [binOp, Op.intCmp]; done)
        | (injection h with h; subst h; refine ⟨.bool (a != b), ?_, by rw [bne, beq_dec]; exact SRel.bool _⟩; simp [binOp, Op.intCmp]; done)
        | (split at h
           · cases h
           · injection h with h; subst h; refine ⟨_, ?_, SRel.int _ _⟩; simp only [binOp, Op.shift]; rw [if_neg (by assumption)]; simp)
        | (split at h
           · rename_i hb; injection h with h; subst h; refine ⟨_, ?_, SRel.int _ _⟩; simp [binOp, Op.intDiv, hb]
           · cases h)
        | cases h
  · cases op <;> simp only [binInt, if_neg hk, hk, false_and, if_false] at h <;>
      first
        | cases h
        | (split at h
           · cases h
           · injection h with h; subst h; refine ⟨_, ?_, SRel.int _ _⟩; simp only [binOp, Op.shift]; rw [if_neg (by assumption)]; simp)

theorem binStr_run {op : BinOp} {t : TypeId} {a b : List UInt8} {v : SV} (h : binStr op a b = some v) : ∃ u, (binOp op t (.string ⟨⟨a⟩⟩) (.string ⟨⟨b⟩⟩)).run P w = .ok u w ∧ SRel F v u := by
  cases op <;> simp only [binStr] at h <;>
    first
      | (injection h with h; subst h; refine ⟨_, ?_, SRel.bool _⟩; simp [binOp, Op.stringOp, toList_mk, bytesLt, beq_dec]; done)
      | (split at h
         · rename_i hs
           injection h with h; subst h
           refine ⟨.string (⟨⟨a⟩⟩ ++ ⟨⟨b⟩⟩), ?_, ?_⟩
           · simp only [binOp, Op.stringOp, size_mk]
             rw [if_neg (by simp only [IntKind.max, IntKind.signed, IntKind.bits]; simp; omega)]
             rfl
           · have e : (⟨⟨a⟩⟩ ++ ⟨⟨b⟩⟩ : ByteArray) = ⟨⟨a ++ b⟩⟩ := by
               apply ByteArray.ext
               simp [ByteArray.data_append]
             rw [e]; exact .str _
         · cases h)
      | cases h

theorem run_eqB {d : Nat} {t : TypeId} {a b : Bool} (h : P.underlying t = some .bool) : (Op.equalIn (d + 1) t (.bool a) (.bool b)).run P w = .ok (a == b) w := run_equalIn_bool' w d t a b h
theorem run_eqS {d : Nat} {t e : TypeId} {a : Option Addr} {n c : Nat} (h : P.underlying t = some (.slice e)) : (Op.equalIn (d + 1) t (.slice a n c) (.slice none 0 0)).run P w = .ok a.isNone w := by
  cases a <;> simp [Op.equalIn, run_underlying h]
theorem run_eqS' {d : Nat} {t e : TypeId} {a : Option Addr} {n c : Nat} (h : P.underlying t = some (.slice e)) : (Op.equalIn (d + 1) t (.slice none 0 0) (.slice a n c)).run P w = .ok a.isNone w := by
  cases a <;> simp [Op.equalIn, run_underlying h]
theorem equal_eq (t : TypeId) (x y : Value) : Op.equal t x y = Op.equalIn (9999 + 1) t x y := rfl
def tellsEq (P : Program) (w : World) (t : TypeId) (u v : Value) (r : Bool) : Prop := (binOp .eql t u v).run P w = .ok (.bool r) w ∧ (binOp .neq t u v).run P w = .ok (.bool (!r)) w ∧ ∀ op ox oy, (eqGuard op t ox oy u v).run P w = .ok () w
theorem tells_bool {t : TypeId} {a b : Bool} (h : P.underlying t = some .bool) : tellsEq P w t (.bool a) (.bool b) (a == b) := by
  refine ⟨?_, ?_, fun op ox oy => by cases op <;> rfl⟩
  · simp only [binOp, equal_eq, Sem.run_bind, run_eqB h, Result.andThen_ok, Sem.run_pure]
  · simp only [binOp, equal_eq, Sem.run_bind, run_eqB h, Result.andThen_ok, Sem.run_pure]
theorem tells_slice {t e : TypeId} {a : Option Addr} {n c : Nat} (h : P.underlying t = some (.slice e)) : tellsEq P w t (.slice a n c) (.slice none 0 0) a.isNone := by
  refine ⟨?_, ?_, fun op ox oy => by cases op <;> rfl⟩
  · simp only [binOp, equal_eq, Sem.run_bind, run_eqS h, Result.andThen_ok, Sem.run_pure]
  · simp only [binOp, equal_eq, Sem.run_bind, run_eqS h, Result.andThen_ok, Sem.run_pure]
theorem tells_slice' {t e : TypeId} {a : Option Addr} {n c : Nat} (h : P.underlying t = some (.slice e)) : tellsEq P w t (.slice none 0 0) (.slice a n c) a.isNone := by
  refine ⟨?_, ?_, fun op ox oy => by cases op <;> rfl⟩
  · simp only [binOp, equal_eq, Sem.run_bind, run_eqS' h, Result.andThen_ok, Sem.run_pure]
  · simp only [binOp, equal_eq, Sem.run_bind, run_eqS' h, Result.andThen_ok, Sem.run_pure]
theorem isBoolT_eq {t : TypeId} (h : isBoolT P t = true) : P.underlying t = some .bool := by
  unfold isBoolT at h
  split at h
  · assumption
  · cases h
theorem isStringT_eq {t : TypeId} (h : isStringT P t = true) : P.underlying t = some .string := by
  unfold isStringT at h
  split at h
  · assumption
  · cases h
theorem elemT_eq {t e : TypeId} (h : elemT P t = some e) : P.underlying t = some (.slice e) := by
  unfold elemT at h
  split at h
  · injection h with h; subst h; assumption
  · cases h
theorem isSliceT_eq {t : TypeId} (h : isSliceT P t = true) : ∃ e, P.underlying t = some (.slice e) := by
  unfold isSliceT at h
  obtain ⟨e, he⟩ := Option.isSome_iff_exists.1 h
  exact ⟨e, elemT_eq he⟩
theorem arrT_eq {t e : TypeId} {n : Nat} (h : arrT P t = some (n, e)) : P.underlying t = some (.array n e) := by
  unfold arrT at h
  split at h
  · injection h with h; injection h with h1 h2; subst h1; subst h2; assumption
  · cases h
theorem intT_eq {t : TypeId} {k : IntKind} (h : intT P t = some k) : P.underlying t = some (.int k) := by
  unfold intT at h
  split at h
  · injection h with h; subst h; assumption
  · cases h
theorem isMapT_eq {t k e : TypeId} (h : isMapT P t = some (k, e)) : P.underlying t = some (.map k e) := by
  unfold isMapT at h
  split at h
  · injection h with h; injection h with h1 h2; subst h1; subst h2; assumption
  · cases h

theorem eqOther_run {t : TypeId} {x y : PV} {r : Bool} {u v : Value} (h : eqOther P t x y = some r) (hx : PRel C x u) (hy : PRel C y v) : tellsEq P w t u v r := by
  unfold eqOther at h
  split at h
  · split at h
    · rename_i a b hb
      injection h with h
      subst h
      cases hx with
      | s p v hx =>
      cases hx
      cases hy with
      | s p v hy =>
      cases hy
      exact tells_bool (isBoolT_eq hb)
    · cases h
  · split at h
    · rename_i hb
      injection h with h
      subst h
      obtain ⟨e, he⟩ := isSliceT_eq hb
      cases hx with
      | s p v hx =>
      cases hx
      cases hy with
      | s p v hy =>
      cases hy
      exact tells_slice he
    · cases h
  · split at h
    · rename_i hb
      injection h with h
      subst h
      obtain ⟨e, he⟩ := isSliceT_eq hb
      cases hx with
      | s p v hx =>
      cases hx
      cases hy with
      | s p v hy =>
      cases hy
      exact tells_slice he
    · cases h
  · split at h
    · rename_i hb
      injection h with h
      subst h
      obtain ⟨e, he⟩ := isSliceT_eq hb
      cases hx with
      | s p v hx =>
      cases hx
      cases hy with
      | s p v hy =>
      cases hy
      exact tells_slice' he
    · cases h
  · cases h

theorem unOp_run {op : UnOp} {x p : PV} {u : Value} (h : unOpS op x = some p) (hx : PRel C x u) : ∃ v, (Op.unary op u).run P w = .ok v w ∧ PRel C p v := by
  unfold unOpS at h
  split at h
  · cases hx with
    | s q v hx =>
    cases hx
    split at h
    · injection h with h; subst h
      exact ⟨_, by simp [Op.unary], .s _ _ (.bool _)⟩
    · cases h
  · cases hx with
    | s q v hx =>
    cases hx
    split at h
    · injection h with h; subst h
      exact ⟨_, by simp [Op.unary, Op.intArith], .s _ _ (.int _ _)⟩
    · injection h with h; subst h
      exact ⟨_, by simp [Op.unary, Op.intBits], .s _ _ (.int _ _)⟩
    · cases h
  · cases h

/-! ### constants, types -/
theorem ofScalar_rel {v : Value} {p : SV} (h : ofScalar v = some p) : SRel F p v := by
  unfold ofScalar at h
  split at h <;> first
    | (injection h with h; subst h; constructor; done)
    | cases h
theorem ofScalars_rel : ∀ {l : List Value} {q : List SV}, ofScalars l = some q → q.length = l.length ∧ ∀ i p, q[i]? = some p → SRel F p (l.getD i undef)
  | [], q, h => by
    simp only [ofScalars] at h
    injection h with h
    subst h
    exact ⟨rfl, fun i p hi => by simp at hi⟩
  | v :: r, q, h => by
    simp only [ofScalars] at h
    split at h
    · rename_i p0 q0 h1 h2
      injection h with h
      subst h
      obtain ⟨hl, hr⟩ := ofScalars_rel h2
      refine ⟨by simp [hl], fun i p hi => ?_⟩
      cases i with
      | zero =>
        simp at hi
        subst hi
        exact ofScalar_rel h1
      | succ i =>
        simp at hi
        exact hr i p hi
    · cases h
theorem ofConst_rel {v : Value} {p : PV} (h : ofConst v = some p) : PRel C p v := by
  unfold ofConst at h
  split at h
  · rename_i cs
    split at h
    · rename_i l hl
      injection h with h
      subst h
      obtain ⟨h1, h2⟩ := ofScalars_rel (F := C.F) hl
      refine .agg _ _ (by simp [h1]) (fun i p hi => ?_)
      rw [List.getElem?_map] at hi
      cases hq : l[i]? with
      | none => rw [hq] at hi; cases hi
      | some q =>
        rw [hq] at hi
        injection hi with hi
        subst hi
        have := h2 i q hq
        refine .s _ _ ?_
        simpa [Array.getD_eq_getD_getElem?, List.getD_eq_getElem?_getD] using this
    · cases h
  · split at h
    · injection h with h
      subst h
      rename_i h
      exact .s _ _ (ofScalar_rel h)
    · cases h
structure TyFacts (P : Program) (t : TypeId) (y : TI) where
  i : TypeInfo
  d : TypeDesc
  z : Value
  hi : P.info? t = some i
  hd : P.underlying t = some d
  hz : i.zero = some z
  hs : i.size = y.size
  hb : i.bytes = y.bytes
  ha : isAggD d = y.agg
  hl : ofScalars z.cells.toList = some y.zero
  hn : y.zero.length = y.size
  hav : isAggV z = y.agg
theorem ti_facts {t : TypeId} {y : TI} (h : ti P t = some y) : Nonempty (TyFacts P t y) := by
  unfold ti at h
  split at h
  · rename_i i d hi hd
    split at h
    · rename_i z hz
      split at h
      · rename_i l hl
        split at h
        · rename_i hn
          injection h with h
          subst h
          exact ⟨⟨i, d, z, hi, hd, hz, rfl, rfl, rfl, hl, hn.1, hn.2⟩⟩
        · cases h
      · cases h
    · cases h
  · cases h
theorem run_typeInfo_of {t : TypeId} {i : TypeInfo} (h : P.info? t = some i) (w : World) : (typeInfo t).run P w = .ok i w := by
  simp [typeInfo, h]
theorem TyFacts.run_size {t : TypeId} {y : TI} (f : TyFacts P t y) (w : World) : (sizeOf t).run P w = .ok y.size w := by
  simp [sizeOf, run_typeInfo_of f.hi, f.hs]
theorem TyFacts.run_agg {t : TypeId} {y : TI} (f : TyFacts P t y) (w : World) : (isAgg t).run P w = .ok y.agg w := by
  have := f.ha
  unfold isAgg
  simp only [Sem.run_bind, run_underlying f.hd, Result.andThen_ok]
  rw [← this]
  cases f.d <;> rfl
theorem TyFacts.run_zero {t : TypeId} {y : TI} (f : TyFacts P t y) (w : World) : (zeroValue t).run P w = .ok f.z w := by
  simp [zeroValue, run_typeInfo_of f.hi, f.hz]

/-! ### loads -/
theorem add_none (b o j : Nat) : (⟨b, o, none⟩ : Addr).add j = ⟨b, o + j, none⟩ := by
  unfold Addr.add
  split
  · rename_i h; subst h; rfl
  · rfl
theorem add_spot {a : Addr} (h : a.spot = none) (j : Nat) : a.add j = ⟨a.block, a.off + j, none⟩ := by
  obtain ⟨b, o, s⟩ := a
  subst h
  exact add_none b o j
theorem loadP_run {t : TypeId} {y : TI} (hy : ti P t = some y) {b o off : Nat} {c : List PV} {us : Nat → Value} {p : PV}
    (hr : ∀ j q, c[j]? = some q → PRel C q (us j) ∧ w.cell? ⟨b, o + j, none⟩ = some (us j)) (h : loadP y.agg y.size c off = some p) :
    ∃ v, (loadVar t ⟨b, o + off, none⟩).run P w = .ok v w ∧ PRel C p v := by
  obtain ⟨f⟩ := ti_facts hy
  unfold loadVar
  simp only [Sem.run_bind, f.run_agg, Result.andThen_ok]
  unfold loadP at h
  split at h
  · rename_i ha
    rw [if_pos ha]
    split at h
    · rename_i hl
      injection h with h
      subst h
      have hc : ∀ j u, ((List.range y.size).map fun j => us (off + j))[j]? = some u → w.cell? ((⟨b, o + off, none⟩ : Addr).add j) = some u := by
        intro j u hj
        rw [List.getElem?_map] at hj
        cases hq : (List.range y.size)[j]? with
        | none => rw [hq] at hj; cases hj
        | some q =>
          rw [hq] at hj
          injection hj with hj
          obtain ⟨hlt, he⟩ := List.getElem?_eq_some_iff.1 hq
          simp at he hlt
          subst he
          subst hj
          rw [add_none, Nat.add_assoc]
          exact (hr (off + j) (c[off + j]'(by omega)) (List.getElem?_eq_getElem (by omega))).2
      have hrun := run_loadCells_list (P := P) w ⟨b, o + off, none⟩ _ hc
      simp only [List.length_map, List.length_range] at hrun
      refine ⟨.agg ((List.range y.size).map fun j => us (off + j)).toArray, ?_, ?_⟩
      · simp only [Sem.run_bind, f.run_size, Result.andThen_ok, Sem.run_map, hrun, Sem.run_pure]
      · refine .agg _ _ (by simp; omega) (fun i q hq => ?_)
        have hi : i < y.size := by
          have := (List.getElem?_eq_some_iff.1 hq).1
          simp at this
          omega
        rw [List.getElem?_take_of_lt hi, List.getElem?_drop] at hq
        have := (hr _ _ hq).1
        simpa [Array.getD_eq_getD_getElem?, hi] using this
    · cases h
  · rename_i ha
    have ha' : y.agg = false := by simpa using ha
    rw [if_neg (by simp [ha'])]
    obtain ⟨h1, h2⟩ := hr off p h
    exact ⟨us off, by simp [run_load, h2], h1⟩
theorem loadS_eq {agg : Bool} {size off : Nat} {c : List SV} : loadS agg size c off = loadP agg size (c.map .s) off := by
  unfold loadS loadP
  cases agg
  · simp only [Bool.false_eq_true, if_false, List.getElem?_map]
    cases c[off]? <;> rfl
  · simp only [if_true, List.length_map, PV.st, List.map_take, List.map_drop]
end
end Go.Vm
