/- Each operation of the abstract machine is what the model's own operation does: maps and comparisons. -/
import Derived.Test.YtfgkhgkgaedcmaaVmJ
set_option linter.unusedVariables false
set_option linter.unusedSimpArgs false
namespace Go.Vm
open Go.RowKit

section
variable {P : Program} {w w0 : World} {F : Fix} {C : Cx}

def KeyDesc (d : TypeDesc) : Prop := d = .string ∨ ∃ k, d = .int k
theorem keyT_eq {t : TypeId} (h : keyT P t = true) : ∃ d, P.underlying t = some d ∧ KeyDesc d := by
  unfold keyT at h
  split at h
  · rename_i hu; exact ⟨_, hu, .inl rfl⟩
  · rename_i k hu; exact ⟨_, hu, .inr ⟨k, rfl⟩⟩
  · cases h
theorem run_checkKey {b : Bool} {t : TypeId} {d : TypeDesc} {k : SV} {u : Value} (hu : P.underlying t = some d) (hd : KeyDesc d) (hk : SRel F k u) : (Instr.checkKey b 10000 t u).run P w = .ok () w := by
  show (Instr.checkKey b (9999 + 1) t u).run P w = .ok () w
  unfold Instr.checkKey
  simp only [Sem.run_bind, run_underlying hu, Result.andThen_ok]
  rcases hd with rfl | ⟨q, rfl⟩ <;> rfl
theorem keyEq_now {d : TypeDesc} {k q : SV} {u v : Value} {r : Bool} (hd : KeyDesc d) (h : keyEq k q = some r) (hd2 : (∃ kk, d = .int kk) ∨ d = .string) (hk : SRel F k u) (hq : SRel F q v) (hfit : (∃ l, k = .str l ∧ d = .string) ∨ (∃ kk n, k = .int kk n ∧ ∃ kq, d = .int kq)) :
    Instr.sameNow d u v = some r := by
  unfold keyEq at h
  split at h
  · rename_i k1 a k2 b
    split at h
    · rename_i he
      injection h with h
      subst h
      subst he
      cases hk
      cases hq
      rcases hfit with ⟨l, hl, _⟩ | ⟨kk, n, hn, kq, rfl⟩
      · cases hl
      · simp only [Instr.sameNow, if_true, beq_dec]
    · cases h
  · injection h with h
    subst h
    cases hk
    cases hq
    rcases hfit with ⟨l, hl, rfl⟩ | ⟨kk, n, hn, _⟩
    · simp only [Instr.sameNow, beq_toListBytes, toList_mk, beq_dec]
    · cases hn
  · cases h
def EntRel (F : Fix) (es : List (SV × SV)) (ents : List MapEntry) : Prop := ents.length = es.length ∧ ∀ (i : Nat) k v, es[i]? = some (k, v) → ∃ e, ents[i]? = some e ∧ SRel F k e.key ∧ SRel F v e.val
theorem find_run {d : TypeDesc} {key : SV} {u : Value} (hd : KeyDesc d) (hk : SRel F key u) (hfit : (∃ l, key = .str l ∧ d = .string) ∨ (∃ kk n, key = .int kk n ∧ ∃ kq, d = .int kq)) :
    ∀ {es : List (SV × SV)} {ents : List MapEntry} {i : Nat} {r : Option (Nat × SV)}, EntRel F es ents → mapFind key es i = some r →
      (r = none ∧ Instr.findNow d u ents i = some none) ∨ ∃ j v e, r = some (j, v) ∧ i ≤ j ∧ ents[j - i]? = some e ∧ Instr.findNow d u ents i = some (some (j, e.val)) ∧ SRel F v e.val ∧ (∃ q, es[j - i]? = some (q, v) ∧ SRel F q e.key ∧ keyEq key q = some true)
  | [], ents, i, r, he, h => by
    simp only [mapFind] at h
    injection h with h
    subst h
    have : ents = [] := List.eq_nil_of_length_eq_zero he.1
    subst this
    exact .inl ⟨rfl, rfl⟩
  | (q, v) :: es, [], i, r, he, h => by have := he.1; simp at this
  | (q, v) :: es, e :: ents, i, r, he, h => by
    obtain ⟨e', h1, h2, h3⟩ := he.2 0 q v rfl
    simp at h1
    subst h1
    simp only [mapFind] at h
    split at h
    · rename_i hq
      injection h with h
      subst h
      have := keyEq_now hd hq (by rcases hd with h | ⟨k, h⟩; exact .inr h; exact .inl ⟨k, h⟩) hk h2 hfit
      refine .inr ⟨i, v, e, rfl, Nat.le_refl _, by simp, by simp [Instr.findNow, this], h3, q, by simp, h2, hq⟩
    · rename_i hq
      have := keyEq_now hd hq (by rcases hd with h | ⟨k, h⟩; exact .inr h; exact .inl ⟨k, h⟩) hk h2 hfit
      rcases find_run hd hk hfit (es := es) (ents := ents) (i := i + 1) ⟨by simpa using he.1, fun j k v hj => he.2 (j + 1) k v hj⟩ h with ⟨h4, h5⟩ | ⟨j, v', e', h4, h5, h6, h7, h8, q', h9, h10, h11⟩
      · exact .inl ⟨h4, by simp [Instr.findNow, this, h5]⟩
      · have ej : j - i = (j - (i + 1)) + 1 := by omega
        exact .inr ⟨j, v', e', h4, by omega, by rw [ej]; exact h6, by simp [Instr.findNow, this, h7], h8, q', by rw [ej]; exact h9, h10, h11⟩
    · cases h
theorem keyOk_fit {t : TypeId} {d : TypeDesc} {k : SV} (hu : P.underlying t = some d) (h : keyOk P t k = true) : (∃ l, k = .str l ∧ d = .string) ∨ (∃ kk n, k = .int kk n ∧ ∃ kq, d = .int kq) := by
  unfold keyOk at h
  split at h
  · rw [hu] at h
    split at h
    · rename_i he
      injection he with he
      exact .inr ⟨_, _, rfl, _, he⟩
    · cases h
  · rw [hu] at h
    split at h
    · rename_i he
      injection he with he
      exact .inl ⟨_, rfl, he⟩
    · cases h
  · cases h
theorem run_getMap {r : Nat} {ents : Array MapEntry} {clock : Nat} (h : w.heap[r]? = some (.map ents clock)) : (getObj r).run P w = .ok (.map ents clock) w := by
  simp [getObj, Sem.run, h]
theorem lookupV_run {t : TypeId} {m k p : PV} {um uk : Value} {ok : Bool} (hR : Rel w0 C w) (h : lookupV P t C.H m k ok = some p) (hm : PRel C m um) (hk : PRel C k uk) :
    ∃ v, (Instr.lookup t um uk ok).run P w = .ok v w ∧ PRel C p v := by
  unfold lookupV at h
  split at h
  · rename_i id key
    split at h
    · rename_i es kt et hH hmt
      split at h
      · rename_i hkk
        cases hm with
        | map id es' hc =>
        cases hk with
        | s _ _ hk =>
        obtain ⟨d, hd, hkd⟩ := keyT_eq hkk.1
        have hfit := keyOk_fit hd hkk.2
        obtain ⟨ents, clock, g1, g2, g3⟩ := hR.map id es hH
        have hent : EntRel C.F es ents.toList := ⟨by simpa using g2, fun i k v hi => by
          obtain ⟨e, h1, h2⟩ := g3 i k v hi
          exact ⟨e, by simpa using h1, h2⟩⟩
        have key2 : ∀ (q : PV) (v : Value) (b : Bool), PRel C q v → p = (if ok then .tuple [q, .bool b] else q) → PRel C p (if ok then .tuple #[v, .bool b] else v) := by
          intro q v b hq hp
          subst hp
          cases ok
          · exact hq
          · refine .tuple _ _ rfl (fun i r hr => ?_)
            match i, hr with
            | 0, hr => simp at hr; subst hr; exact hq
            | 1, hr => simp at hr; subst hr; exact .s _ _ (.bool _)
            | i + 2, hr => simp at hr
        have hrun : ∀ j v, Instr.findNow d uk ents.toList 0 = some (some (j, v)) → (Instr.lookup t (.map (some (C.σ id))) uk ok).run P w = .ok (if ok then .tuple #[v, .bool true] else v) w := by
          intro j v hr
          simp only [Instr.lookup, Sem.run_bind, run_underlying (isMapT_eq hmt), Result.andThen_ok, run_getMap g1, Sem.run_pure, run_checkKey hd hkd hk, Instr.findKey, run_underlying hd, hr]
        have hrun0 : ∀ z, (zeroValue et).run P w = .ok z w → Instr.findNow d uk ents.toList 0 = some none → (Instr.lookup t (.map (some (C.σ id))) uk ok).run P w = .ok (if ok then .tuple #[z, .bool false] else z) w := by
          intro z hz hr
          simp only [Instr.lookup, Sem.run_bind, run_underlying (isMapT_eq hmt), Result.andThen_ok, run_getMap g1, Sem.run_pure, run_checkKey hd hkd hk, Instr.findKey, run_underlying hd, hr, hz]
        split at h
        · rename_i r j v y hfind hy
          injection h with h
          rcases find_run hkd hk hfit hent hfind with ⟨h4, _⟩ | ⟨j', v', e, h4, _, _, h5, h6, _⟩
          · cases h4
          · injection h4 with h4
            injection h4 with h7 h8
            subst h7; subst h8
            exact ⟨_, hrun _ _ h5, key2 _ _ true (.s _ _ h6) h.symm⟩
        · rename_i y hfind hy
          split at h
          · rename_i z hz hag
            injection h with h
            obtain ⟨f⟩ := ti_facts hy
            rcases find_run hkd hk hfit hent hfind with ⟨_, h5⟩ | ⟨j', v', e, h4, _⟩
            · have hzr := zero_rel f C.F
              have hz0 : SRel C.F z (f.z.cells.getD 0 undef) := hzr.2 0 z (by rw [hz]; rfl)
              have hone : f.z.cells.size = 1 := by rw [hzr.1, ← f.hn, hz]; rfl
              have hfz : f.z.cells.getD 0 undef = f.z := by
                cases hq : f.z with
                | agg cs =>
                  have := f.hav
                  rw [hq, hag] at this
                  cases this
                | _ => rfl
              rw [hfz] at hz0
              exact ⟨_, hrun0 _ (f.run_zero w) h5, key2 _ _ false (.s _ _ hz0) h.symm⟩
            · cases h4
          · cases h
        · cases h
      · cases h
    · cases h
  · cases h

theorem sameBits_key {key : SV} {u : Value} {t : TypeId} (hk : SRel F key u) (h : keyOk P t key = true) : Instr.sameBits 10000 u u = true := by
  unfold keyOk at h
  split at h
  · cases hk; simp [Instr.sameBits]
  · cases hk
    simp only [Instr.sameBits]
    rw [beq_toListBytes]
    simp
  · cases h
theorem keyEq_same {key q : SV} {u v : Value} (h : keyEq key q = some true) (hk : SRel F key u) (hq : SRel F q v) : u = v := by
  unfold keyEq at h
  split at h
  · split at h
    · rename_i he
      injection h with h
      simp at h
      subst he; subst h
      cases hk; cases hq
      rfl
    · cases h
  · injection h with h
    simp at h
    subst h
    cases hk; cases hq
    rfl
  · cases h
theorem setObj_run {r : Nat} {o o' : Obj} (h : w.heap[r]? = some o) (hn : ∀ a b c, o ≠ .cells a b c) : (setObj r o').run P w = .ok () { w with heap := w.heap.setIfInBounds r o' } := by
  cases o <;> first
    | exact absurd rfl (hn _ _ _)
    | simp [setObj, Sem.run, h]
theorem mapUpdateO_run {t : TypeId} {m k x : PV} {um uk ux : Value} {H' : Ob} (hR : Rel w0 C w) (h : mapUpdateO P t C.H m k x = some H') (hm : PRel C m um) (hk : PRel C k uk) (hx : PRel C x ux) :
    ∃ w' C', (Instr.mapUpdate t um uk ux).run P w = .ok () w' ∧ C'.H = H' ∧ Rel w0 C' w' ∧ Ext C w C' w' := by
  unfold mapUpdateO at h
  split at h
  · rename_i id key v
    split at h
    · rename_i es kt et hH hmt
      split at h
      · rename_i hkk
        cases hm with
        | map id es' hc =>
        cases hk with
        | s _ _ hk =>
        cases hx with
        | s _ _ hx =>
        obtain ⟨d, hd, hkd⟩ := keyT_eq hkk.1
        have hfit := keyOk_fit hd hkk.2
        obtain ⟨ents, clock, g1, g2, g3⟩ := hR.map id es hH
        have hal : (C.H id).alive = true := by rw [hH]; rfl
        have hlt := hR.lt id hal
        have hent : EntRel C.F es ents.toList := ⟨by simpa using g2, fun i k v hi => by
          obtain ⟨e, h1, h2⟩ := g3 i k v hi
          exact ⟨e, by simpa using h1, h2⟩⟩
        have hw : ∀ (es2 : List (SV × SV)) (ents2 : Array MapEntry) (clock2 : Nat), ents2.size = es2.length → (∀ (i : Nat) k v, es2[i]? = some (k, v) → ∃ e, ents2[i]? = some e ∧ SRel C.F k e.key ∧ SRel C.F v e.val) →
            Rel w0 { C with H := C.H.set id (.map es2) } { w with heap := w.heap.setIfInBounds (C.σ id) (.map ents2 clock2) } ∧ Ext C w { C with H := C.H.set id (.map es2) } { w with heap := w.heap.setIfInBounds (C.σ id) (.map ents2 clock2) } := by
          intro es2 ents2 clock2 hs hr
          have hoth : ∀ k, k ≠ C.σ id → (w.heap.setIfInBounds (C.σ id) (.map ents2 clock2))[k]? = w.heap[k]? := fun k hk => by
            rw [Array.getElem?_setIfInBounds, if_neg (Ne.symm hk)]
          refine Rel.write hR hal ⟨hR.below.os, hR.below.tape, hR.below.output, by simp; exact hR.below.size, fun k hk => by rw [hoth k (by omega)]; exact hR.below.block k hk⟩ (by simp) (fun k _ hk => hoth k hk)
            (fun o v hF => by have := hR.cell _ _ _ hF; simp [World.cell?, g1] at this) ?_ ?_
          · unfold Keeps
            rw [hH]
            exact ⟨es2, if_pos rfl, rfl⟩
          · unfold ObjOk
            rw [show ({ C with H := C.H.set id (.map es2) } : Cx).H id = .map es2 from if_pos rfl]
            exact ⟨ents2, clock2, by simp [hlt.2], hs, hr⟩
        split at h
        · rename_i i q hfind
          injection h with h
          subst h
          rcases find_run hkd hk hfit hent hfind with ⟨h4, _⟩ | ⟨j', v', e, h4, _, h41, h5, h6, q', h7, h8, h9⟩
          · cases h4
          · injection h4 with h4
            injection h4 with h10 h11
            subst h10; subst h11
            simp only [Nat.sub_zero] at h41 h7
            have hsame := keyEq_same h9 hk h8
            have hi : i < ents.size := by
              have := (List.getElem?_eq_some_iff.1 h41).1
              simpa using this
            obtain ⟨w1, w2⟩ := hw (es.set i (key, v)) (ents.modify i fun e => { e with key := uk, val := ux }) clock (by simp [g2]) (fun j k2 v2 hj => by
              by_cases e1 : j = i
              · subst e1
                rw [List.getElem?_set_self (by omega)] at hj
                injection hj with hj
                injection hj with e2 e3
                subst e2; subst e3
                refine ⟨{ e with key := uk, val := ux }, ?_, hk, hx⟩
                rw [Array.getElem?_modify, if_pos rfl, show ents[j]? = some e from by simpa using h41]
                rfl
              · rw [List.getElem?_set_ne (Ne.symm e1)] at hj
                obtain ⟨e', h1, h2⟩ := g3 j k2 v2 hj
                exact ⟨e', by rw [Array.getElem?_modify, if_neg (Ne.symm e1)]; exact h1, h2⟩)
            refine ⟨_, _, ?_, rfl, w1, w2⟩
            have hee : ents[i]? = some e := by simpa using h41
            simp only [Instr.mapUpdate, Sem.run_bind, run_underlying (isMapT_eq hmt), Result.andThen_ok, run_getMap g1, run_checkKey hd hkd hk, Instr.findKey, run_underlying hd, h5, Sem.run_pure, hee, Option.map_some, Option.getD_some, Instr.keyThatStays]
            rw [← hsame, sameBits_key hk hkk.2]
            simp only [if_true, Sem.run_pure, Result.andThen_ok]
            rw [setObj_run g1 (fun _ _ _ e => by cases e)]
        · rename_i hfind
          injection h with h
          subst h
          rcases find_run hkd hk hfit hent hfind with ⟨_, h5⟩ | ⟨j', v', e, h4, _⟩
          · obtain ⟨w1, w2⟩ := hw (es ++ [(key, v)]) (ents.push { key := uk, val := ux, born := clock }) (clock + 1) (by simp [g2]) (fun j k2 v2 hj => by
              rcases Nat.lt_or_ge j es.length with hlt | hge
              · rw [List.getElem?_append_left hlt] at hj
                obtain ⟨e', h1, h2⟩ := g3 j k2 v2 hj
                exact ⟨e', by rw [Array.getElem?_push, if_neg (by omega)]; exact h1, h2⟩
              · rw [List.getElem?_append_right hge] at hj
                have e1 : j = es.length := by
                  have := (List.getElem?_eq_some_iff.1 hj).1
                  simp at this
                  omega
                subst e1
                simp at hj
                obtain ⟨e2, e3⟩ := hj
                subst e2; subst e3
                exact ⟨_, by rw [Array.getElem?_push, if_pos (by omega)], hk, hx⟩)
            refine ⟨_, _, ?_, rfl, w1, w2⟩
            simp only [Instr.mapUpdate, Sem.run_bind, run_underlying (isMapT_eq hmt), Result.andThen_ok, run_getMap g1, run_checkKey hd hkd hk, Instr.findKey, run_underlying hd, h5, Sem.run_pure]
            rw [setObj_run g1 (fun _ _ _ e => by cases e)]
          · cases h4
        · cases h
      · cases h
    · cases h
  · cases h
theorem makeMap_run {t : TypeId} {nid : Nat} (hR : Rel w0 C w) (hd : C.H nid = .dead) :
    ∃ v w' C', (Instr.makeMap t none).run P w = .ok v w' ∧ C'.H = C.H.set nid (.map []) ∧ PRel C' (.map nid) v ∧ Rel w0 C' w' ∧ Ext C w C' w' := by
  have hs : (C.new nid w.heap.size 0 (.map [])).σ nid = w.heap.size := if_pos rfl
  have hH : (C.new nid w.heap.size 0 (.map [])).H nid = .map [] := if_pos rfl
  have hok : ObjOk (C.new nid w.heap.size 0 (.map [])) (World.more w (.map #[] 0) w.drawn) nid := by
    unfold ObjOk
    rw [hH, hs]
    exact ⟨#[], 0, more_new _ _ _, rfl, fun i k v hi => by simp at hi⟩
  obtain ⟨h1, h2⟩ := Rel.new hR hd hok
  refine ⟨_, _, _, rfl, rfl, ?_, h1, h2⟩
  have := PRel.map (C := C.new nid w.heap.size 0 (.map [])) nid [] hH
  rw [hs] at this
  exact this
end
end Go.Vm
