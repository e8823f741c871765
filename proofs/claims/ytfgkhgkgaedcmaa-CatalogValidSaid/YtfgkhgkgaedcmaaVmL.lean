/- Each operation of the abstract machine is what the model's own operation does: all of them. -/
import Derived.Test.YtfgkhgkgaedcmaaVmK
set_option linter.unusedVariables false
set_option linter.unusedSimpArgs false
namespace Go.Vm
open Go.RowKit

section
variable {P : Program} {w w0 : World} {F : Fix} {C : Cx}

theorem flatKind_run {t : TypeId} {k : Nat} {a b : SV} {u v : Value} {r : Bool} {d : Nat} (hk : flatKind P t = some k) (h : svEq k a b = some r) (ha : SRel F a u) (hb : SRel F b v) :
    (isAgg t).run P w = .ok false w ∧ (Op.equalIn (d + 1) t u v).run P w = .ok r w := by
  unfold flatKind at hk
  split at hk
  · rename_i hu
    injection hk with hk
    subst hk
    unfold svEq at h
    split at h <;> try (cases h; done)
    · injection h with h
      subst h
      cases ha
      cases hb
      refine ⟨by simp [isAgg, run_underlying hu], ?_⟩
      rw [run_equalIn_bool' w d t _ _ hu, beq_dec]
    · rename_i e; cases e
    · rename_i e; cases e
  · rename_i kk hu
    injection hk with hk
    subst hk
    unfold svEq at h
    split at h <;> try (cases h; done)
    · rename_i e; cases e
    · split at h
      · rename_i e1
        injection h with h
        subst h
        subst e1
        cases ha
        cases hb
        refine ⟨by simp [isAgg, run_underlying hu], ?_⟩
        rw [← beq_dec]
        simp [Op.equalIn, run_underlying hu]
      · cases h
    · rename_i e; cases e
  · rename_i hu
    injection hk with hk
    subst hk
    unfold svEq at h
    split at h <;> try (cases h; done)
    · rename_i e; cases e
    · rename_i e; cases e
    · injection h with h
      subst h
      cases ha
      cases hb
      refine ⟨by simp [isAgg, run_underlying hu], ?_⟩
      rw [run_equalIn_string w d t _ _ hu, toList_mk, toList_mk, beq_dec]
  · cases hk
theorem eqFields_run {d : Nat} {xs ys : Array Value} : ∀ {fs : List Field} {i : Nat} {ks : List Nat} {as bs : List SV} {r : Bool}, flatFields P fs i = some ks → svEqs ks as bs = some r →
    (∀ (j : Nat) a, as[j]? = some a → ∃ u, xs[i + j]? = some u ∧ SRel F a u) → (∀ (j : Nat) a, bs[j]? = some a → ∃ u, ys[i + j]? = some u ∧ SRel F a u) → (Op.eqFields (d + 1) xs ys fs).run P w = .ok r w
  | [], i, ks, as, bs, r, hf, h, ha, hb => by
    simp only [flatFields] at hf
    injection hf with hf
    subst hf
    unfold svEqs at h
    split at h <;> try (cases h; done)
    · injection h with h
      subst h
      rfl
    · rename_i e; cases e
  | f :: fs, i, ks, as, bs, r, hf, h, ha, hb => by
    simp only [flatFields] at hf
    split at hf
    · rename_i hh
      split at hf
      · rename_i k q hk hq
        injection hf with hf
        subst hf
        unfold svEqs at h
        split at h <;> try (cases h; done)
        · rename_i e; cases e
        · rename_i k' ks' a as b bs e
          injection e with e1 e2
          subst e1; subst e2
          split at h
          · rename_i x y hx hy
            injection h with h
            subst h
            obtain ⟨u, hu, hau⟩ := ha 0 a rfl
            obtain ⟨v, hv, hbv⟩ := hb 0 b rfl
            obtain ⟨h1, h2⟩ := flatKind_run (w := w) (d := d) hk hx hau hbv
            rw [Nat.add_zero] at hu hv
            have hrest := eqFields_run (d := d) (xs := xs) (ys := ys) hq hy (fun j a hj => by
              obtain ⟨u, hu, ha⟩ := ha (j + 1) a hj
              exact ⟨u, by rw [show i + 1 + j = i + (j + 1) from by omega]; exact hu, ha⟩) (fun j a hj => by
              obtain ⟨u, hu, ha⟩ := hb (j + 1) a hj
              exact ⟨u, by rw [show i + 1 + j = i + (j + 1) from by omega]; exact hu, ha⟩)
            have hp1 : (part f.type xs f.offset).run P w = .ok u w := by simp [part, h1, hh.1, hu]
            have hp2 : (part f.type ys f.offset).run P w = .ok v w := by simp [part, h1, hh.1, hv]
            simp only [Op.eqFields]
            rw [if_pos hh.2]
            simp only [Sem.run_bind, hp1, hp2, h2, Result.andThen_ok, Sem.run_ite, Sem.run_pure, hrest]
            cases x <;> simp
          · cases h
      · cases hf
    · cases hf
theorem eqAgg_run {t : TypeId} {a b : List PV} {r : Bool} {u v : Value} (h : eqAgg P t a b = some r) (ha : PRel C (.agg a) u) (hb : PRel C (.agg b) v) : tellsEq P w t u v r := by
  unfold eqAgg at h
  split at h
  · rename_i ks x y hks hx hy
    unfold flatEq at hks
    split at hks
    · rename_i fields hu
      split at hks
      · cases hks
      · rename_i hst
        simp only [Bool.or_eq_true, not_or, Bool.not_eq_true] at hst
        cases ha with
        | agg _ us hl1 hr1 =>
        cases hb with
        | agg _ vs hl2 hr2 =>
        have e1 := toSVs_some hx
        have e2 := toSVs_some hy
        have get : ∀ {l : List PV} {q : List SV} {us : Array Value}, l = q.map .s → l.length = us.size → (∀ (i : Nat) p, l[i]? = some p → PRel C p (us.getD i undef)) → ∀ (j : Nat) a, q[j]? = some a → ∃ u, us[0 + j]? = some u ∧ SRel C.F a u := by
          intro l q us e hl hr j a hj
          have hjl := (List.getElem?_eq_some_iff.1 hj).1
          have h1 : l[j]? = some (.s a) := by rw [e, List.getElem?_map, hj]; rfl
          have h2 := hr j _ h1
          have hlt : j < us.size := by
            have := (List.getElem?_eq_some_iff.1 h1).1
            omega
          refine ⟨us.getD j undef, by simp [Array.getD_eq_getD_getElem?, hlt], ?_⟩
          cases h2 with
          | s _ _ h2 => exact h2
        have hrun := eqFields_run (w := w) (d := 9998) hks h (get e1 hl1 hr1) (get e2 hl2 hr2)
        have hfo : P.fieldsOf t = fields := by simp [Program.fieldsOf, hu]
        have heq : (Op.equalIn 10000 t (.agg us) (.agg vs)).run P w = .ok r w := by
          show (Op.equalIn (9999 + 1) t (.agg us) (.agg vs)).run P w = .ok r w
          rw [run_equalIn_struct w 9999 t us vs (by rw [hfo]; exact hu) hst.1, hfo]
          exact hrun
        refine ⟨?_, ?_, fun op ox oy => run_eqGuard_agg w op t ox oy us vs hst.2⟩
        · rw [run_eql_struct w t us vs, heq]; rfl
        · rw [run_neq_struct w t us vs, heq]; rfl
    · cases hks
  · cases h
theorem guard_s {op : BinOp} {t : TypeId} {ox oy : Operand} {p q : SV} {u v : Value} (hp : SRel F p u) (hq : SRel F q v) (h : (∃ k n, p = .int k n) ∨ ∃ l, p = .str l) : (eqGuard op t ox oy u v).run P w = .ok () w := by
  rcases h with ⟨k, n, rfl⟩ | ⟨l, rfl⟩ <;> cases hp <;> cases op <;> rfl
theorem binOpS_run {op : BinOp} {t : TypeId} {x y p : PV} {u v : Value} {ox oy : Operand} (h : binOpS P op t x y = some p) (hx : PRel C x u) (hy : PRel C y v) :
    ∃ r, (do eqGuard op t ox oy u v; binOp op t u v : Sem Value).run P w = .ok r w ∧ PRel C p r := by
  unfold binOpS at h
  split at h
  · rename_i k a k' b
    split at h
    · rename_i r hr
      injection h with h
      subst h
      cases hx with
      | s _ _ hx =>
      cases hy with
      | s _ _ hy =>
      have hg := guard_s (P := P) (w := w) (op := op) (t := t) (ox := ox) (oy := oy) hx hy (.inl ⟨_, _, rfl⟩)
      cases hx
      cases hy
      obtain ⟨r', h1, h2⟩ := binInt_run (P := P) (w := w) (F := C.F) (t := t) hr
      exact ⟨r', by simp only [Sem.run_bind, hg, Result.andThen_ok, h1], .s _ _ h2⟩
    · cases h
  · rename_i a b
    split at h
    · rename_i r hr
      injection h with h
      subst h
      cases hx with
      | s _ _ hx =>
      cases hy with
      | s _ _ hy =>
      have hg := guard_s (P := P) (w := w) (op := op) (t := t) (ox := ox) (oy := oy) hx hy (.inr ⟨_, rfl⟩)
      cases hx
      cases hy
      obtain ⟨r', h1, h2⟩ := binStr_run (P := P) (w := w) (F := C.F) (t := t) hr
      exact ⟨r', by simp only [Sem.run_bind, hg, Result.andThen_ok, h1], .s _ _ h2⟩
    · cases h
  · split at h
    · rename_i r hr
      injection h with h
      subst h
      obtain ⟨h1, h2, h3⟩ := eqAgg_run (w := w) hr hx hy
      exact ⟨_, by simp only [Sem.run_bind, h3, Result.andThen_ok, h1], .s _ _ (.bool _)⟩
    · rename_i r hr
      injection h with h
      subst h
      obtain ⟨h1, h2, h3⟩ := eqAgg_run (w := w) hr hx hy
      exact ⟨_, by simp only [Sem.run_bind, h3, Result.andThen_ok, h2], .s _ _ (.bool _)⟩
    · cases h
  · split at h
    · rename_i r hr
      injection h with h
      subst h
      obtain ⟨h1, h2, h3⟩ := eqOther_run (w := w) hr hx hy
      exact ⟨_, by simp only [Sem.run_bind, h3, Result.andThen_ok, h1], .s _ _ (.bool _)⟩
    · rename_i r hr
      injection h with h
      subst h
      obtain ⟨h1, h2, h3⟩ := eqOther_run (w := w) hr hx hy
      exact ⟨_, by simp only [Sem.run_bind, h3, Result.andThen_ok, h2], .s _ _ (.bool _)⟩
    · cases h
theorem addr_of {p : PV} {u : Value} {H : Ob} {t : TypeId} {v : PV} (h : loadO P t H p = some v) (hH : C.H = H) (hp : PRel C p u) : ∃ a, u = .pointer (some a) := by
  subst hH
  cases hp <;> simp only [loadO] at h <;> try (cases h; done)
  · exact ⟨_, rfl⟩
  · exact ⟨_, rfl⟩
  · rename_i hc hle h1 he
    split at h
    · rename_i hH
      split at h
      · rename_i hv
        rw [hc] at hH
        injection hH with e1 e2 e3
        have := he (by omega)
        exact ⟨_, this⟩
      · cases h
    · cases h
theorem loadO_run {t : TypeId} {p v : PV} {u : Value} (hR : Rel w0 C w) (h : loadO P t C.H p = some v) (hp : PRel C p u) : ∃ x, (Instr.loadAt t u).run P w = .ok x w ∧ PRel C v x := by
  unfold loadO at h
  split at h
  · split at h
    · rename_i id off d1 d2 y ty cells hy hH
      cases hp with
      | ptr id off ty' cells' hc =>
        obtain ⟨vs, g1, g2, g3, g4⟩ := hR.box id ty cells hH
        obtain ⟨x, h1, h2⟩ := loadP_run (P := P) (w := w) (C := C) hy (b := C.σ id) (o := 0) (off := off) (c := cells) (us := fun j => vs.getD j undef) (fun j q hj => ⟨(g3 j q hj).1, by
          have hlt := (List.getElem?_eq_some_iff.1 hj).1
          rw [Nat.zero_add]
          simp [World.cell?, g1, Array.getD_eq_getD_getElem?, show j < vs.size by omega]⟩) h
        rw [Nat.zero_add] at h1
        exact ⟨x, by simp only [Instr.loadAt, Instr.sureAddr, Sem.run_bind, Sem.run_pure, Result.andThen_ok, h1], h2⟩
    · cases h
  · split at h
    · rename_i es i off d1 d2 y c hy hc
      cases hp with
      | eptr es i off a sz vs g1 g2 g5 g6 =>
        rw [loadS_eq] at h
        obtain ⟨x, h1, h2⟩ := loadP_run (P := P) (w := w) (C := C) hy (b := a.block) (o := a.off + i * sz) (off := off) (c := c.map .s) (us := fun j => vs i j) (fun j q hj => by
          rw [List.getElem?_map] at hj
          cases hq : c[j]? with
          | none => rw [hq] at hj; cases hj
          | some r =>
            rw [hq] at hj
            injection hj with hj
            subst hj
            refine ⟨.s _ _ (g6 i c j r hc hq), ?_⟩
            rw [Nat.add_assoc]
            exact hR.cell _ _ _ (g5 i c j r hc hq)) h
        rw [Nat.add_assoc] at h1
        exact ⟨x, by simp only [Instr.loadAt, Instr.sureAddr, Sem.run_bind, Sem.run_pure, Result.andThen_ok, h1], h2⟩
    · cases h
  · split at h
    · rename_i id ver i off d1 d2 y ty sz v1 fz ap es hy hH
      split at h
      · rename_i hv
        split at h
        · rename_i c hc
          cases hp with
          | aptr id ver i off ty' sz' cur' fz' ap' es' v' hc' hle h1 he =>
            obtain ⟨g1, g2, g3, g4, cur, fr, k1, k2, k2', k3, k4, k5⟩ := hR.sarr _ _ _ _ _ _ _ hH
            rw [hc'] at hH
            injection hH with e1 e2 e3 e4 e5 e6
            subst e1; subst e2; subst e3; subst e4; subst e5; subst e6
            have hu := he hv.symm
            subst hu
            rw [loadS_eq] at h
            obtain ⟨x, h1, h2⟩ := loadP_run (P := P) (w := w) (C := C) hy (b := C.σ id) (o := i * sz') (off := off) (c := c.map .s) (us := fun j => cur.getD (i * sz' + j) undef) (fun j q hj => by
              rw [List.getElem?_map] at hj
              cases hq : c[j]? with
              | none => rw [hq] at hj; cases hj
              | some r =>
                rw [hq] at hj
                injection hj with hj
                subst hj
                refine ⟨.s _ _ (k4 i c j r hc hq), ?_⟩
                have h3 := (List.getElem?_eq_some_iff.1 hc).1
                have h4 := (List.getElem?_eq_some_iff.1 hq).1
                have h5 := g2 c (List.mem_of_getElem? hc)
                have h6 := row_in (size := sz') (n := C.cap id) (i := i) (j := j) (by omega) (by omega)
                simp [World.cell?, k1, Array.getD_eq_getD_getElem?, show i * sz' + j < cur.size by omega]) h
            exact ⟨x, by simp only [Instr.loadAt, Instr.sureAddr, Sem.run_bind, Sem.run_pure, Result.andThen_ok, h1], h2⟩
        · cases h
      · cases h
    · cases h
  · cases h
theorem storeO_run {t : TypeId} {p x : PV} {u v : Value} {H' : Ob} (hR : Rel w0 C w) (h : storeO P t C.H p x = some H') (hp : PRel C p u) (hx : PRel C x v) :
    ∃ w' C', (Instr.storeAt t u v).run P w = .ok () w' ∧ C'.H = H' ∧ Rel w0 C' w' ∧ Ext C w C' w' := by
  unfold storeO at h
  split at h
  · split at h
    · rename_i id off d1 d2 y ty cells hy hH
      split at h
      · rename_i hh
        injection h with h
        subst h
        cases hp with
        | ptr id off ty' cells' hc =>
          obtain ⟨w', h1, h2, h3⟩ := storeO_ptr hR hy hH hx hh.1 hh.2.1 hh.2.2
          exact ⟨w', _, by simp only [Instr.storeAt, Instr.sureAddr, Sem.run_bind, Sem.run_pure, Result.andThen_ok, h1], rfl, h2, h3⟩
      · cases h
    · cases h
  · split at h
    · rename_i id ver i off d1 d2 d3 y ty sz v1 ap es xs0 hxs0 hy hH hth
      split at h
      · rename_i xs hxs
        split at h
        · rename_i hh
          split at h
          · rename_i c hc
            split at h
            · rename_i hle
              injection h with h
              subst h
              cases hp with
              | aptr id ver i off ty' sz' cur' fz' ap' es' v' hc' hle' h1 he =>
                have hH0 := hH
                rw [hc'] at hH
                injection hH with e1 e2 e3 e4 e5 e6
                subst e1; subst e2; subst e3; subst e4; subst e5; subst e6
                have hu := he hh.1.symm
                subst hu
                obtain ⟨w', h1, h2, h3⟩ := storeO_aptr hR hy hH0 hx hxs hh.2 hc hle
                exact ⟨w', _, by simp only [Instr.storeAt, Instr.sureAddr, Sem.run_bind, Sem.run_pure, Result.andThen_ok, h1], rfl, h2, h3⟩
            · cases h
          · cases h
        · cases h
      · cases h
    · cases h
  · cases h
end
end Go.Vm
