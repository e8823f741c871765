/- Each operation of the abstract machine is what the model's own operation does: addresses, slices, lengths, composite values. -/
import Derived.Test.YtfgkhgkgaedcmaaVmC
set_option linter.unusedVariables false
set_option linter.unusedSimpArgs false
namespace Go.Vm
open Go.RowKit

section
variable {P : Program} {w w0 : World} {F : Fix} {C : Cx}

theorem fo_facts {t ft : TypeId} {f o : Nat} (h : fo P t f = some (o, ft)) :
    ∃ fields x i, P.underlying t = some (.struct fields) ∧ fields[f]? = some x ∧ P.info? x.type = some i ∧ i.size ≠ 0 ∧ x.offset = o ∧ x.type = ft := by
  unfold fo at h
  split at h
  · rename_i fields hu
    split at h
    · rename_i x hx
      split at h
      · rename_i i hi
        split at h
        · cases h
        · rename_i hs
          injection h with h
          injection h with h1 h2
          exact ⟨fields, x, i, hu, hx, hi, hs, h1, h2⟩
      · cases h
    · cases h
  · cases h
theorem fieldAt_run {t ft : TypeId} {f o : Nat} (h : fo P t f = some (o, ft)) (b k : Nat) : (Instr.fieldAt t (.pointer (some ⟨b, k, none⟩)) f).run P w = .ok (.pointer (some ⟨b, k + o, none⟩)) w := by
  obtain ⟨fields, x, i, hu, hx, hi, hs, ho, _⟩ := fo_facts h
  simp only [Instr.fieldAt, Sem.run_bind, run_underlying hu, Result.andThen_ok, hx, Instr.sureAddr, Sem.run_pure, fieldPlace, sizeOf, run_typeInfo_of hi, Sem.run_ite]
  rw [if_neg hs]
  simp only [Sem.run_pure, Result.andThen_ok, ho, add_none]

theorem fieldA_run {s : TypeId} {f : Nat} {p q : PV} {u : Value} (h : fieldA P s C.H f p = some q) (hp : PRel C p u) : ∃ v, (Instr.fieldAt s u f).run P w = .ok v w ∧ PRel C q v := by
  unfold fieldA at h
  split at h
  · split at h
    · rename_i id off o ft hf
      injection h with h
      subst h
      cases hp with
      | ptr id off ty cells hc => exact ⟨_, fieldAt_run hf _ _, .ptr _ _ _ _ hc⟩
    · cases h
  · split at h
    · rename_i hf
      injection h with h
      subst h
      cases hp with
      | eptr es i off a sz vs h1 h2 h5 h6 =>
        refine ⟨_, fieldAt_run hf _ _, ?_⟩
        rw [Nat.add_assoc, Nat.add_assoc]
        exact .eptr _ _ _ a sz vs h1 h2 h5 h6
    · cases h
  · split at h
    · rename_i hf hH
      split at h
      · rename_i hv
        injection h with h
        subst h
        cases hp with
        | aptr id ver i off ty sz cur fz ap es v hc hle h1 he =>
          rw [hc] at hH
          injection hH with e1 e2 e3 e4 e5 e6
          have he' := he (by omega)
          subst he'
          refine ⟨_, fieldAt_run hf _ _, ?_⟩
          exact .aptr _ _ _ _ ty sz cur fz ap es _ hc hle rfl (fun _ => by rw [Nat.add_assoc])
      · cases h
    · cases h
  · cases h

theorem part_run {t : TypeId} {y : TI} (hy : ti P t = some y) {cs : List PV} {vs : Array Value} {off : Nat} {p : PV} (hl : cs.length = vs.size)
    (hr : ∀ i q, cs[i]? = some q → PRel C q (vs.getD i undef)) (h : loadP y.agg y.size cs off = some p) : ∃ v, (part t vs off).run P w = .ok v w ∧ PRel C p v := by
  obtain ⟨f⟩ := ti_facts hy
  unfold part
  simp only [Sem.run_bind, f.run_agg, Result.andThen_ok]
  unfold loadP at h
  split at h
  · rename_i ha
    rw [if_pos ha]
    split at h
    · rename_i hs
      injection h with h
      subst h
      refine ⟨.agg (vs.extract off (off + y.size)), by simp only [Sem.run_bind, f.run_size, Result.andThen_ok, Sem.run_pure], .agg _ _ (by simp; omega) (fun i q hq => ?_)⟩
      have hi : i < y.size := by
        have := (List.getElem?_eq_some_iff.1 hq).1
        simp at this
        omega
      rw [List.getElem?_take_of_lt hi, List.getElem?_drop] at hq
      have := hr _ _ hq
      have e : (vs.extract off (off + y.size)).getD i undef = vs.getD (off + i) undef := by
        simp only [Array.getD_eq_getD_getElem?, Array.getElem?_extract]
        rw [if_pos (by omega)]
      rw [e]
      exact this
    · cases h
  · rename_i ha
    have ha' : y.agg = false := by simpa using ha
    rw [if_neg (by simp [ha'])]
    have hlt : off < vs.size := by rw [← hl]; exact (List.getElem?_eq_some_iff.1 h).1
    have := hr off p h
    have e : vs[off]? = some (vs.getD off undef) := by
      simp [Array.getD_eq_getD_getElem?, hlt]
    refine ⟨vs.getD off undef, ?_, this⟩
    rw [e]
    rfl
theorem fieldV_run {s : TypeId} {f : Nat} {p q : PV} {u : Value} (h : fieldV P s f p = some q) (hp : PRel C p u) : ∃ v, (Instr.field s u f).run P w = .ok v w ∧ PRel C q v := by
  unfold fieldV at h
  split at h
  · split at h
    · rename_i cs o t hf
      split at h
      · rename_i y hy
        cases hp with
        | agg cs vs hl hr =>
          obtain ⟨fields, x, i, hu, hx, hi, hs, ho, ht⟩ := fo_facts hf
          subst ht
          subst ho
          obtain ⟨v, hrun, hv⟩ := part_run (w := w) hy hl hr h
          exact ⟨v, by simp only [Instr.field, Sem.run_bind, run_underlying hu, Result.andThen_ok, hx, asAgg, Sem.run_pure, hrun], hv⟩
      · cases h
    · cases h
  · cases h

theorem at_of_range {i : Int} {n : Nat} (h0 : 0 ≤ i) (h1 : i < n) : 0 ≤ i ∧ i < n := ⟨h0, h1⟩
theorem indexAt_slice {t e : TypeId} {y : TI} (he : elemT P t = some e) (hy : ti P e = some y) {k : IntKind} {i : Int} {n c : Nat} {a : Addr} (h0 : 0 ≤ i) (h1 : i < n) :
    (Instr.indexAt t (.slice (some a) n c) (.int k i)).run P w = .ok (.pointer (some (a.add (i.toNat * y.size)))) w := by
  obtain ⟨f⟩ := ti_facts hy
  simp only [Instr.indexAt, asIntOf, Sem.run_bind, Sem.run_pure, Result.andThen_ok, run_underlying (elemT_eq he), h0, h1, and_self, if_true, f.run_size]
theorem indexAt_array {t e : TypeId} {m : Nat} {y : TI} (he : arrT P t = some (m, e)) (hy : ti P e = some y) {k : IntKind} {i : Int} {a : Addr} (h0 : 0 ≤ i) (h1 : i < m) :
    (Instr.indexAt t (.pointer (some a)) (.int k i)).run P w = .ok (.pointer (some (a.add (i.toNat * y.size)))) w := by
  obtain ⟨f⟩ := ti_facts hy
  simp only [Instr.indexAt, asIntOf, Sem.run_bind, Sem.run_pure, Result.andThen_ok, run_underlying (arrT_eq he), h0, h1, and_self, if_true, f.run_size, Instr.sureAddr]

theorem indexA_run {t : TypeId} {p q r : PV} {u x : Value} (hR : Rel w0 C w) (h : indexA P t C.H p q = some r) (hp : PRel C p u) (hq : PRel C q x) : ∃ v, (Instr.indexAt t u x).run P w = .ok v w ∧ PRel C r v := by
  unfold indexA at h
  split at h
  · rename_i ix k i
    cases hq with
    | s _ _ hq =>
    cases hq
    split at h
    · rename_i es full
      split at h
      · rename_i e he
        split at h
        · rename_i y hy
          split at h
          · rename_i h0
            split at h
            · rename_i c hc
              split at h
              · rename_i hs
                injection h with h
                subst h
                cases hp with
                | s _ _ hp =>
                cases hp with
                | slice es full a cap sz vs g1 g2 g3 g3' g4 g5 g6 =>
                  have hlt := (List.getElem?_eq_some_iff.1 hc).1
                  have hmem : c ∈ es := List.mem_of_getElem? hc
                  have hne : es ≠ [] := by intro e; subst e; cases hmem
                  have hsz : sz = y.size := (g1 c hmem).symm.trans hs.1
                  refine ⟨_, indexAt_slice he hy h0 (by omega), ?_⟩
                  rw [add_spot (g2 hne)]
                  have := PRel.eptr (C := C) es i.toNat 0 a sz vs g1 g2 g5 g6
                  rw [← hsz]
                  exact this
              · cases h
            · cases h
          · cases h
        · cases h
      · cases h
    · rename_i id ver off n
      split at h
      · rename_i e he
        split at h
        · rename_i y ty sz v fz ap es hy hH
          split at h
          · rename_i hs
            obtain ⟨h0, h1, hv, hsz, hle⟩ := hs
            injection h with h
            subst h
            cases hp with
            | hsl id ver off n ty' sz' cur fz' ap' es' v' hc hle' h1' he' =>
              rw [hc] at hH
              injection hH with e1 e2 e3 e4 e5 e6
              subst e1; subst e2; subst e3; subst e4; subst e5; subst e6
              obtain ⟨hb, hv'⟩ := he' hv.symm
              subst hv'
              refine ⟨_, indexAt_slice he hy h0 h1, ?_⟩
              rw [add_none]
              refine .aptr id ver _ 0 ty' sz' cur fz' ap' es' _ hc hle' rfl (fun _ => ?_)
              rw [← hsz, Nat.add_mul, Nat.add_zero]
          · cases h
        · cases h
      · cases h
    · rename_i id off
      split at h
      · rename_i n e he
        split at h
        · rename_i y hy
          split at h
          · rename_i hs
            injection h with h
            subst h
            cases hp with
            | ptr id off ty cells hc =>
              refine ⟨_, indexAt_array he hy hs.1 hs.2.1, ?_⟩
              rw [add_none]
              exact .ptr _ _ _ _ hc
          · cases h
        · cases h
      · cases h
    · rename_i es k off
      split at h
      · rename_i n e he
        split at h
        · rename_i y hy
          split at h
          · rename_i hs
            injection h with h
            subst h
            cases hp with
            | eptr es i off a sz vs g1 g2 g5 g6 =>
              refine ⟨_, indexAt_array he hy hs.1 hs.2.1, ?_⟩
              rw [add_none, Nat.add_assoc, Nat.add_assoc]
              exact .eptr es _ _ a sz vs g1 g2 g5 g6
          · cases h
        · cases h
      · cases h
    · cases h
  · cases h

theorem indexV_run {t : TypeId} {p q r : PV} {u x : Value} (h : indexV P t p q = some r) (hp : PRel C p u) (hq : PRel C q x) : ∃ v, (Instr.index t u x).run P w = .ok v w ∧ PRel C r v := by
  unfold indexV at h
  split at h
  · rename_i k i l
    split at h
    · rename_i hs
      split at h
      · rename_i b hb
        injection h with h
        subst h
        cases hq with
        | s _ _ hq =>
        cases hq
        cases hp with
        | s _ _ hp =>
        cases hp
        refine ⟨_, ?_, .s _ _ (.int _ _)⟩
        have hlt := (List.getElem?_eq_some_iff.1 hb).1
        have e : (⟨⟨l⟩⟩ : ByteArray)[i.toNat]? = some b := by
          rw [getElem?_pos _ _ (by exact hlt)]
          have := (List.getElem?_eq_some_iff.1 hb).2
          exact congrArg some this
        simp only [Instr.index, asIntOf, Sem.run_bind, Sem.run_pure, Result.andThen_ok, run_underlying (isStringT_eq hs.1), hs.2, if_true, e]
      · cases h
    · cases h
  · rename_i k i cs
    split at h
    · rename_i n e he
      split at h
      · rename_i y hy
        split at h
        · rename_i hs
          cases hq with
          | s _ _ hq =>
          cases hq
          cases hp with
          | agg cs vs hl hr =>
            obtain ⟨v, hrun, hv⟩ := part_run (w := w) hy hl hr h
            obtain ⟨f⟩ := ti_facts hy
            exact ⟨v, by simp only [Instr.index, asIntOf, Sem.run_bind, Sem.run_pure, Result.andThen_ok, run_underlying (arrT_eq he), hs, and_self, if_true, f.run_size, hrun], hv⟩
        · cases h
      · cases h
    · cases h
  · cases h

/-! ### slices, lengths -/
theorem bounds_some {len a b : Nat} {lo hi : Option PV} (h : bounds len lo hi = some (a, b)) :
    a ≤ b ∧ b ≤ len ∧ (lo = none ∧ a = 0 ∨ ∃ k l, lo = some (.s (.int k l)) ∧ 0 ≤ l ∧ l ≤ b ∧ a = l.toNat) ∧ (hi = none ∧ b = len ∨ ∃ k h, hi = some (.s (.int k h)) ∧ 0 ≤ h ∧ h ≤ len ∧ b = h.toNat) := by
  unfold bounds at h
  split at h
  · rename_i hh hb
    have hb' : hh ≤ len ∧ (hi = none ∧ hh = len ∨ ∃ k h, hi = some (.s (.int k h)) ∧ 0 ≤ h ∧ h ≤ len ∧ hh = h.toNat) := by
      split at hb
      · injection hb with hb; subst hb; exact ⟨Nat.le_refl _, .inl ⟨rfl, rfl⟩⟩
      · rename_i k x
        split at hb
        · rename_i hc
          injection hb with hb; subst hb
          exact ⟨by omega, .inr ⟨k, x, rfl, hc.1, hc.2, rfl⟩⟩
        · cases hb
      · cases hb
    split at h
    · injection h with h; injection h with h1 h2; subst h1; subst h2
      exact ⟨Nat.zero_le _, hb'.1, .inl ⟨rfl, rfl⟩, hb'.2⟩
    · rename_i k l
      split at h
      · rename_i hc
        injection h with h; injection h with h1 h2; subst h1; subst h2
        exact ⟨by omega, hb'.1, .inr ⟨k, l, rfl, hc.1, hc.2, rfl⟩, hb'.2⟩
      · cases h
    · cases h
  · cases h
/-- Operands that may be missing. -/
def MRel (C : Cx) : Option PV → Option Value → Prop
  | none, none => True
  | some p, some v => PRel C p v
  | _, _ => False
theorem sliceBounds_run {sl : Bool} {len cap a b : Nat} {lo hi : Option PV} {vl vh : Option Value} (h : bounds len lo hi = some (a, b)) (hc : len ≤ cap) (hl : MRel C lo vl) (hh : MRel C hi vh) :
    (Instr.sliceBounds sl len cap vl vh none).run P w = .ok (a, b, cap) w := by
  obtain ⟨h1, h2, h3, h4⟩ := bounds_some h
  have el : (vl = none ∧ a = 0) ∨ ∃ k l, vl = some (.int k l) ∧ 0 ≤ l ∧ l ≤ b ∧ a = l.toNat := by
    rcases h3 with ⟨rfl, rfl⟩ | ⟨k, l, rfl, g1, g2, g3⟩
    · cases vl with
      | none => exact .inl ⟨rfl, rfl⟩
      | some v => exact hl.elim
    · cases vl with
      | none => exact hl.elim
      | some v =>
        have hl' : PRel C (.s (.int k l)) v := hl
        cases hl' with
        | s _ _ hl' => cases hl'; exact .inr ⟨k, l, rfl, g1, g2, g3⟩
  have eh : (vh = none ∧ b = len) ∨ ∃ k l, vh = some (.int k l) ∧ 0 ≤ l ∧ l ≤ len ∧ b = l.toNat := by
    rcases h4 with ⟨rfl, rfl⟩ | ⟨k, l, rfl, g1, g2, g3⟩
    · cases vh with
      | none => exact .inl ⟨rfl, rfl⟩
      | some v => exact hh.elim
    · cases vh with
      | none => exact hh.elim
      | some v =>
        have hh' : PRel C (.s (.int k l)) v := hh
        cases hh' with
        | s _ _ hh' => cases hh'; exact .inr ⟨k, l, rfl, g1, g2, g3⟩
  unfold Instr.sliceBounds
  rcases eh with ⟨rfl, rfl⟩ | ⟨k, x, rfl, g1, g2, g3⟩ <;> rcases el with ⟨rfl, rfl⟩ | ⟨k', x', rfl, g1', g2', g3'⟩
  · simp
  · simp only [Sem.run_bind, Sem.run_pure, Result.andThen_ok, Instr.sliceBound, asIntOf, Sem.run_ite]
    rw [if_pos ⟨g1', by omega⟩]
    simp [g3']
  · simp only [Sem.run_bind, Sem.run_pure, Result.andThen_ok, Instr.sliceBound, asIntOf, Sem.run_ite]
    rw [if_pos ⟨g1, by omega⟩]
    simp [g3]
  · simp only [Sem.run_bind, Sem.run_pure, Result.andThen_ok, Instr.sliceBound, asIntOf, Sem.run_ite]
    rw [if_pos ⟨g1, by omega⟩]
    simp only [Sem.run_pure, Result.andThen_ok]
    rw [if_pos ⟨g1', by omega⟩]
    simp [g3, g3']

theorem slice_run {t e : TypeId} {y : TI} (he : elemT P t = some e) (hy : ti P e = some y) {len cap a b : Nat} {lo hi : Option PV} {vl vh : Option Value} (h : bounds len lo hi = some (a, b)) (hc : len ≤ cap)
    (hl : MRel C lo vl) (hh : MRel C hi vh) (ad : Addr) :
    (Instr.sliceAt t (.slice (some ad) len cap) vl vh none).run P w = .ok (.slice (some (if cap = a then ad else ad.add (a * y.size))) (b - a) (cap - a)) w := by
  obtain ⟨f⟩ := ti_facts hy
  have hu := elemT_eq he
  simp only [Instr.sliceAt, Sem.run_bind, run_underlying hu, Result.andThen_ok, Instr.slice, sliceBounds_run h hc hl hh, f.run_size, Sem.run_pure]
  split <;> rfl

theorem sliceV_run {t : TypeId} {p r : PV} {u : Value} {lo hi : Option PV} {vl vh : Option Value} (hR : Rel w0 C w) (h : sliceV P t C.H p lo hi = some r) (hp : PRel C p u) (hl : MRel C lo vl) (hh : MRel C hi vh) :
    ∃ v, (Instr.sliceAt t u vl vh none).run P w = .ok v w ∧ PRel C r v := by
  unfold sliceV at h
  split at h
  · rename_i l
    split at h
    · rename_i hs
      split at h
      · rename_i a b hb
        injection h with h
        subst h
        cases hp with
        | s _ _ hp =>
        cases hp
        refine ⟨.string (ByteArray.extract ⟨⟨l⟩⟩ a b), ?_, ?_⟩
        · simp only [Instr.sliceAt, Sem.run_bind, run_underlying (isStringT_eq hs), Result.andThen_ok, Instr.slice, Option.isSome_none, Bool.false_eq_true, if_false, size_mk, sliceBounds_run hb (Nat.le_refl _) hl hh, Sem.run_pure, Sem.run_ite]
        · have e : ByteArray.extract ⟨⟨l⟩⟩ a b = ⟨⟨(l.take b).drop a⟩⟩ := by
            apply ByteArray.ext
            rw [ByteArray.data_extract]
            apply Array.ext'
            simp [List.extract_eq_take_drop, List.drop_take]
          rw [e]
          exact .s _ _ (.str _)
      · cases h
    · cases h
  · split at h
    · rename_i e he
      split at h
      · rename_i y hy
        split at h
        · rename_i ab hb
          injection h with h
          subst h
          obtain ⟨a, b⟩ := ab
          cases hp with
          | s _ _ hp =>
          cases hp
          obtain ⟨f⟩ := ti_facts hy
          obtain ⟨h1, h2, _⟩ := bounds_some hb
          have ha : a = 0 := by omega
          have hb' : b = 0 := by omega
          subst ha
          subst hb'
          refine ⟨.slice none 0 0, ?_, .s _ _ .nils⟩
          simp only [Instr.sliceAt, Sem.run_bind, run_underlying (elemT_eq he), Result.andThen_ok, Instr.slice, sliceBounds_run hb (Nat.le_refl _) hl hh, f.run_size, Sem.run_pure]
          rfl
        · cases h
      · cases h
    · cases h
  · rename_i es full
    split at h
    · rename_i e he
      split at h
      · rename_i y hy
        split at h
        · rename_i a b hb
          split at h
          · rename_i hs
            injection h with h
            subst h
            cases hp with
            | s _ _ hp =>
            cases hp with
            | slice es full ad cap sz vs g1 g2 g3 g3' g4 g5 g6 =>
              obtain ⟨h1, h2, _⟩ := bounds_some hb
              refine ⟨_, slice_run he hy hb g3 hl hh ad, ?_⟩
              have hlen : ((es.take b).drop a).length = b - a := by simp; omega
              have hsz : ∀ c, c ∈ es → c.length = y.size := fun c hc => by
                have := List.all_eq_true.1 hs.1 c hc
                simpa using this
              have hget : ∀ i c, ((es.take b).drop a)[i]? = some c → es[a + i]? = some c := by
                intro i c hi
                rw [List.getElem?_drop] at hi
                have := List.getElem?_take (l := es) (i := b) (j := a + i)
                rw [this] at hi
                split at hi
                · exact hi
                · cases hi
              rw [← hlen]
              refine .s _ _ (.slice _ _ _ _ y.size (fun i j => vs (a + i) j) (fun c hc => hsz c (List.mem_of_mem_take (List.mem_of_mem_drop hc))) (fun hne => ?_) (by omega) (by omega) (fun hf => ?_) (fun i c j p hi hj => ?_) (fun i c j p hi hj => g6 _ _ _ _ (hget i c hi) hj))
              · have hne' : es ≠ [] := by intro e; subst e; simp at hne
                split
                · exact g2 hne'
                · rw [add_spot (g2 hne')]
              · simp only [Bool.and_eq_true, decide_eq_true_eq] at hf
                have := g4 hf.1
                omega
              · have hi' := hget i c hi
                have hmem := List.mem_of_getElem? hi'
                have hne' : es ≠ [] := by intro e; subst e; cases hmem
                have hlt := (List.getElem?_eq_some_iff.1 hi).1
                have e1 : sz = y.size := (g1 c hmem).symm.trans (hsz c hmem)
                have := g5 (a + i) c j p hi' hj
                rw [if_neg (by omega), add_spot (g2 hne')]
                show C.F ad.block (ad.off + a * y.size + (i * y.size + j)) = _
                rw [← this, e1, Nat.add_mul]
                congr 1
                omega
          · cases h
        · cases h
      · cases h
    · cases h
  · rename_i id ver off n
    split at h
    · rename_i e he
      split at h
      · rename_i y ty sz v fz ap es hy hH
        split at h
        · rename_i hs
          split at h
          · rename_i a b hb
            cases hp with
            | hsl id ver off n ty' sz' cur fz' ap' es' v' hc hle' h1' he' =>
              rw [hc] at hH
              injection hH with e1 e2 e3 e4 e5 e6
              subst e1; subst e2; subst e3; subst e4; subst e5; subst e6
              obtain ⟨hb1, hv'⟩ := he' hs.1.symm
              subst hv'
              obtain ⟨h1, h2, _⟩ := bounds_some hb
              obtain ⟨hsz0, hlen, hcap, hmax, _⟩ := hR.sarr _ _ _ _ _ _ _ hc
              refine ⟨_, slice_run he hy hb (by omega) hl hh _, ?_⟩
              split at h
              · rename_i hab
                injection h with h
                subst h
                have e0 : b - a = ([] : List (List SV)).length := by simp; omega
                rw [e0]
                exact .s _ _ (.slice [] false _ _ 1 (fun _ _ => undef) (fun c hc => by cases hc) (fun hne => absurd rfl hne) (by simp) (by omega) (fun hf => by cases hf) (fun i c j p hi => by simp at hi) (fun i c j p hi => by simp at hi))
              · rename_i hab
                injection h with h
                subst h
                refine .hsl id ver _ _ ty' sz' cur fz' ap' es' _ hc hle' rfl (fun hv => ⟨by omega, ?_⟩)
                by_cases hz : C.cap id - off = a
                · have ha0 : a = 0 := by omega
                  subst ha0
                  rw [if_pos hz, Nat.add_zero, Nat.sub_zero, hz]
                · rw [if_neg hz, add_none, ← hs.2.1, Nat.add_mul]
                  congr 1
                  omega
          · cases h
        · cases h
      · cases h
    · cases h
  · cases h

theorem lenV_run {t : TypeId} {p r : PV} {u : Value} {ty : TypeId} (hR : Rel w0 C w) (h : lenV P t C.H p = some r) (hp : PRel C p u) : ∃ v, (Builtin.len_ #[t] ty #[u]).run P w = .ok v w ∧ PRel C r v := by
  unfold lenV at h
  split at h
  · split at h
    · rename_i l hs
      injection h with h
      subst h
      cases hp with
      | s _ _ hp =>
      cases hp
      exact ⟨goInt l.length, by simp [Builtin.len_, run_underlying (isStringT_eq hs), size_mk], .s _ _ (.int _ _)⟩
    · cases h
  · split at h
    · rename_i hs
      injection h with h
      subst h
      obtain ⟨e, he⟩ := isSliceT_eq hs
      cases hp with
      | s _ _ hp =>
      cases hp
      exact ⟨goInt 0, by simp [Builtin.len_, run_underlying he], .s _ _ (.int _ _)⟩
    · cases h
  · split at h
    · rename_i es full hs
      injection h with h
      subst h
      obtain ⟨e, he⟩ := isSliceT_eq hs
      cases hp with
      | s _ _ hp =>
      cases hp
      exact ⟨goInt es.length, by simp [Builtin.len_, run_underlying he], .s _ _ (.int _ _)⟩
    · cases h
  · split at h
    · split at h
      · rename_i id ver off n ho a1 a2 v a4 a5 a6 hH hs
        injection h with h
        subst h
        obtain ⟨e, he⟩ := isSliceT_eq hs.1
        cases hp with
        | hsl id ver off n ty' sz' cur fz' ap' es' v' hc hle' h1' he' =>
          rw [hc] at hH
          injection hH with e1 e2 e3 e4 e5 e6
          obtain ⟨_, hv⟩ := he' (by omega)
          subst hv
          exact ⟨goInt n, by simp [Builtin.len_, run_underlying he], .s _ _ (.int _ _)⟩
      · cases h
    · cases h
  · split at h
    · rename_i id ho hmm es x hH hm
      injection h with h
      subst h
      obtain ⟨k, e⟩ := x
      cases hp with
      | map id es' hc =>
        obtain ⟨ents, clock, hh, hl, _⟩ := hR.map id es hH
        refine ⟨goInt es.length, ?_, .s _ _ (.int _ _)⟩
        simp [Builtin.len_, run_underlying (isMapT_eq hm), getObj, Sem.run, hh, hl, Result.andThen]
    · cases h
  · cases h
theorem nilCheckV_run {p r : PV} {u : Value} (h : nilCheckV p = some r) (hp : PRel C p u) {ρ : Operand → Value} {o : Oper} {x : Operand} (ho : o.op = .nilCheck x) (hx : ρ x = u) :
    r = p ∧ (execOp ρ o).run P w = .ok (.value u) w := by
  have e : execOp ρ o = execOp ρ { o with op := .nilCheck x } := by rw [← ho]
  unfold nilCheckV at h
  split at h
  · injection h with h
    subst h
    cases hp with
    | ptr => refine ⟨rfl, ?_⟩; rw [e]; simp only [execOp, hx]; rfl
  · injection h with h
    subst h
    cases hp with
    | eptr => refine ⟨rfl, ?_⟩; rw [e]; simp only [execOp, hx]; rfl
  · injection h with h
    subst h
    cases hp with
    | func => refine ⟨rfl, ?_⟩; rw [e]; simp only [execOp, hx]; rfl
  · injection h with h
    subst h
    cases hp with
    | s _ _ hp => cases hp; refine ⟨rfl, ?_⟩; rw [e]; simp only [execOp, hx]; rfl
  · injection h with h
    subst h
    cases hp with
    | s _ _ hp => cases hp; refine ⟨rfl, ?_⟩; rw [e]; simp only [execOp, hx]; rfl
  · injection h with h
    subst h
    cases hp with
    | iface => refine ⟨rfl, ?_⟩; rw [e]; simp only [execOp, hx]; rfl
  · cases h
theorem extractV_run {i : Nat} {p r : PV} {u : Value} (h : extractV i p = some r) (hp : PRel C p u) : ∃ v, (Instr.extract u i).run P w = .ok v w ∧ PRel C r v := by
  unfold extractV at h
  split at h
  · cases hp with
    | tuple cs vs hl hr =>
      have hlt := (List.getElem?_eq_some_iff.1 h).1
      have := hr i r h
      refine ⟨vs.getD i undef, ?_, this⟩
      have e : vs[i]? = some (vs.getD i undef) := by simp [Array.getD_eq_getD_getElem?, show i < vs.size by omega]
      simp only [Instr.extract, e, Sem.run_pure]
  · cases h
theorem isIface_run {t : TypeId} {x : Value} (h : isIface P t ≠ true) : (Instr.makeInterface t x).run P w = .ok (.iface t x) w := by
  unfold isIface at h
  split at h
  · exact absurd rfl h
  · rename_i d hd hn
    unfold Instr.makeInterface
    simp only [Sem.run_bind, run_underlying hn, Result.andThen_ok]
    rfl
  · exact absurd rfl h
theorem ifaceV_run {t : TypeId} {p r : PV} {u : Value} (h : ifaceV P t p = some r) (hp : PRel C p u) : ∃ v, (Instr.makeInterface t u).run P w = .ok v w ∧ PRel C r v := by
  unfold ifaceV at h
  split at h
  · cases h
  · rename_i hi
    refine ⟨_, isIface_run hi, ?_⟩
    split at h
    · injection h with h
      subst h
      cases hp with
      | s _ _ hp => exact .s _ _ (.iface _ _ _ hp)
    · injection h with h
      subst h
      exact .iface _ _ _ hp
theorem typeAssertV_run {t xt : TypeId} {ok : Bool} {p r : PV} {u : Value} (h : typeAssertV P t ok p = some r) (hp : PRel C p u) : ∃ v, (Instr.typeAssert u xt t ok).run P w = .ok v w ∧ PRel C r v := by
  unfold typeAssertV at h
  split at h
  · cases h
  · rename_i hi
    unfold isIface at hi
    have key : ∀ (q : PV) (v : Value), PRel C q v → r = (if ok then .tuple [q, .bool true] else q) → ∃ v', (Instr.typeAssert (.iface t v) xt t ok).run P w = .ok v' w ∧ PRel C r v' := by
      intro q v hq hr
      subst hr
      refine ⟨if ok then .tuple #[v, .bool true] else v, ?_, ?_⟩
      · unfold Instr.typeAssert
        split at hi
        · exact absurd rfl hi
        · rename_i d hd hn
          simp only [Sem.run_bind, run_underlying hn, Result.andThen_ok]
          cases d <;> first
            | exact (hd _ rfl).elim
            | simp
        · exact absurd rfl hi
      · cases ok
        · exact hq
        · refine .tuple _ _ rfl (fun i p hp => ?_)
          match i, hp with
          | 0, hp => simp at hp; subst hp; exact hq
          | 1, hp => simp at hp; subst hp; exact .s _ _ (.bool _)
          | i + 2, hp => simp at hp
    split at h
    · split at h
      · rename_i t' v ht
        subst ht
        injection h with h
        cases hp with
        | iface _ _ u hp => exact key _ _ hp h.symm
      · cases h
    · split at h
      · rename_i t' v ht
        subst ht
        injection h with h
        cases hp with
        | s _ _ hp =>
        cases hp with
        | iface _ _ u hp => exact key _ _ (.s _ _ hp) h.symm
      · cases h
    · cases h
end
end Go.Vm
