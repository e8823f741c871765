/- Each operation of the abstract machine is what the model's own operation does: conversions, maps, comparisons; and all of them together. -/
import Derived.Test.YtfgkhgkgaedcmaaGreatVmGB
section
set_option linter.unusedVariables false
set_option linter.unusedSimpArgs false
namespace Go.Vm
open Go.RowKit

section
variable {P : Program} {w w0 : World} {F : Fix} {C : Cx}

theorem freeze_more {w : World} {cur : Array Value} {t : TypeId} (d : Nat) : (World.more w (.cells cur t) d).freeze ⟨w.heap.size, cur.size, none⟩ 1 = World.more w (.cells cur t (cur.size, cur.size + 1)) d := by
  refine world_heap_ext rfl rfl rfl rfl (fun k => ?_)
  show ((w.heap.push (.cells cur t)).modify w.heap.size _)[k]? = (w.heap.push (.cells cur t (cur.size, cur.size + 1)))[k]?
  simp only [Array.getElem?_modify, Array.getElem?_push]
  by_cases e : w.heap.size = k
  · subst e
    simp
  · rw [if_neg e, if_neg (Ne.symm e), if_neg (Ne.symm e)]
theorem bytes_run {t e : TypeId} {l : List UInt8} (hl : l.length ≤ 1073741824) :
    ∃ cap d cur, l.length ≤ cap ∧ cap ≤ maxLen ∧ cur.size = cap ∧ (∀ (i : Nat) b, l[i]? = some b → cur.getD i undef = .int .u8 b.toNat) ∧
      (Conv.stringToBytes e ⟨⟨l⟩⟩).run P w = .ok (.slice (some ⟨w.heap.size, 0, none⟩) l.length cap) (World.more w (.cells cur e (cap, cap + 1)) d) := by
  have hcap := grownCap_ge w l.length 0 e
  have hmax := grownCap_le_maxLen w l.length 0 e (by unfold maxLen; omega)
  let cap := grownCap w l.length 0 e
  let cur : Array Value := (l.map fun b => Value.int .u8 b.toNat).toArray ++ Array.replicate (cap - l.length) (.int .u8 0)
  have hsz : cur.size = cap := by simp [cur]; omega
  refine ⟨cap, w.drawn + 1, cur, hcap, hmax, hsz, fun i b hi => ?_, ?_⟩
  · have hlt := (List.getElem?_eq_some_iff.1 hi).1
    have hb := (List.getElem?_eq_some_iff.1 hi).2
    simp [cur, Array.getD_eq_getD_getElem?, Array.getElem?_append, hlt, hb]
  · have h1 : (Array.map (fun b : UInt8 => Value.int IntKind.u8 (b.toNat : Int)) ⟨l⟩ ++ Array.replicate (cap - l.length) (.int .u8 0)) = cur := by simp [cur]
    simp only [Conv.stringToBytes, Sem.run_bind, run_choose, Question.forced, Bool.false_eq_true, if_false, Result.andThen_ok, size_mk]
    have h2 : (Question.appendCap l.length 0 e).cut (w.tape w.drawn (Question.appendCap l.length 0 e)) = cap := rfl
    rw [h2, h1]
    have h3 : (newRow e cur).run P { w with drawn := w.drawn + 1 } = .ok ⟨w.heap.size, 0, none⟩ (World.more w (.cells cur e) (w.drawn + 1)) := rfl
    rw [h3]
    simp only [Result.andThen_ok, markStringish, Sem.run_bind, run_shape]
    have h4 : (World.more w (.cells cur e) (w.drawn + 1)).shape? w.heap.size = some (e, cur.size) := by
      unfold World.shape?
      rw [more_new]
    rw [h4]
    simp only [run_freeze, Result.andThen_ok, Sem.run_pure]
    rw [freeze_more, hsz]
theorem bytesOf_get : ∀ {rows : List (List SV)} {l : List UInt8}, bytesOf rows = some l → l.length = rows.length ∧ ∃ ns : List Int, ns.length = rows.length ∧ l = ns.map (fun n => UInt8.ofNat n.toNat) ∧ ∀ (i : Nat) c, rows[i]? = some c → ∃ n, ns[i]? = some n ∧ c = [.int .u8 n]
  | [], l, h => by
    simp only [bytesOf] at h
    injection h with h
    subst h
    exact ⟨rfl, [], rfl, rfl, fun i c hi => by simp at hi⟩
  | r :: rows, l, h => by
    unfold bytesOf at h
    split at h
    · rename_i heq; cases heq
    · rename_i n rows' heq
      injection heq with e1 e2
      subst e1; subst e2
      split at h
      · rename_i q hq
        injection h with h
        subst h
        obtain ⟨h1, ns, h2, h3, h4⟩ := bytesOf_get hq
        refine ⟨by simp [h1], n :: ns, by simp [h2], by simp [h3], fun i c hi => ?_⟩
        cases i with
        | zero => simp at hi; exact ⟨n, rfl, hi.symm⟩
        | succ i => exact h4 i c hi
      · cases h
    · cases h
theorem foldl_push (ns : List Int) : ∀ (l : List UInt8), ns.foldl (fun r n => r.push (UInt8.ofNat n.toNat)) (⟨⟨l⟩⟩ : ByteArray) = ⟨⟨l ++ ns.map (fun n => UInt8.ofNat n.toNat)⟩⟩ := by
  induction ns with
  | nil => intro l; simp
  | cons n ns ih =>
    intro l
    simp only [List.foldl_cons, List.map_cons]
    have : (⟨⟨l⟩⟩ : ByteArray).push (UInt8.ofNat n.toNat) = ⟨⟨l ++ [UInt8.ofNat n.toNat]⟩⟩ := by
      apply ByteArray.ext
      simp [ByteArray.push]
    rw [this, ih]
    simp
theorem convertO_run {src dst : TypeId} {nid : Nat} {x p : PV} {H' : Ob} {u : Value} (hR : Rel w0 C w) (hd : C.H nid = .dead) (h : convertO P src dst C.H nid x = some (p, H')) (hx : PRel C x u) (hsrc : ∃ d, P.underlying src = some d) :
    ∃ v w' C', (convert src dst u).run P w = .ok v w' ∧ C'.H = H' ∧ PRel C' p v ∧ Rel w0 C' w' ∧ Ext C w C' w' := by
  obtain ⟨sd, hsd⟩ := hsrc
  unfold convertO at h
  split at h
  · rename_i k0 n
    split at h
    · rename_i k hk
      injection h with h
      injection h with e1 e2
      subst e1; subst e2
      cases hx with
      | s _ _ hx =>
      cases hx
      refine ⟨_, w, C, ?_, rfl, .s _ _ (.int _ _), hR, Ext.refl C w⟩
      simp only [convert, Sem.run_bind, run_underlying hsd, run_underlying (intT_eq hk), Result.andThen_ok, Conv.intToInt, Sem.run_pure]
    · cases h
  · rename_i l
    split at h
    · rename_i hs
      injection h with h
      injection h with e1 e2
      subst e1; subst e2
      cases hx with
      | s _ _ hx =>
      cases hx
      refine ⟨_, w, C, ?_, rfl, .s _ _ (.str _), hR, Ext.refl C w⟩
      simp only [convert, Sem.run_bind, run_underlying hsd, run_underlying (isStringT_eq hs), Result.andThen_ok, Sem.run_pure]
    · split at h
      · rename_i e he
        split at h
        · rename_i hh
          injection h with h
          injection h with e1 e2
          subst e1; subst e2
          cases hx with
          | s _ _ hx =>
          cases hx
          obtain ⟨cap, d, cur, h1, h2, h3, h4, h5⟩ := bytes_run (P := P) (w := w) (t := src) (e := e) hh.2
          have hll : (l.map fun b => [SV.int .u8 (b.toNat : Int)]).length = l.length := by simp
          obtain ⟨g1, g2, g3⟩ := sarr_new (nid := nid) (ty := e) (sz := 1) (cap := cap) (ap := false) (es := l.map fun b => [SV.int .u8 (b.toNat : Int)]) (cur := cur) (fr := (cap, cap + 1)) hR hd (by omega)
            (fun c hc => by obtain ⟨b, _, rfl⟩ := List.mem_map.1 hc; rfl) (by rw [hll]; exact h1) h2 (by rw [h3, Nat.mul_one]) (fun hf => by cases hf) (.inr (by rw [h3]; exact Nat.le_refl _))
            (fun i c j p hi hj => by
              rw [List.getElem?_map] at hi
              cases hq : l[i]? with
              | none => rw [hq] at hi; cases hi
              | some b =>
                rw [hq] at hi
                injection hi with hi
                subst hi
                cases j with
                | zero =>
                  simp at hj
                  subst hj
                  rw [Nat.mul_one, Nat.add_zero, h4 i b hq]
                  exact .int _ _
                | succ j => simp at hj) d
          rw [hll] at g3
          refine ⟨_, _, _, ?_, rfl, g3, g1, g2⟩
          simp only [convert, Sem.run_bind, run_underlying hsd, run_underlying (elemT_eq he), Result.andThen_ok, run_underlying (intT_eq hh.1)]
          exact h5
        · cases h
      · cases h
  · rename_i hnint hnstr
    split at h
    · rename_i hs
      split at h
      · rename_i e he
        split at h
        · rename_i hk
          split at h
          · rename_i rows hrows
            split at h
            · rename_i l hl
              injection h with h
              injection h with e1 e2
              subst e1; subst e2
              obtain ⟨b1, ns, b2, b3, b4⟩ := bytesOf_get hl
              have hone : ∀ c, c ∈ rows → c.length = 1 := by
                intro c hc
                obtain ⟨i, hi, ei⟩ := List.mem_iff_getElem.1 hc
                obtain ⟨n, _, e⟩ := b4 i c (List.getElem?_eq_some_iff.2 ⟨hi, ei⟩)
                rw [e]
                rfl
              obtain ⟨vs, hv⟩ := rowVals (P := P) hR hrows hx (by omega : 0 < 1) hone
              have hfc := hv.run w.drawn
              have ew : ({ w with drawn := w.drawn } : World) = w := rfl
              rw [ew] at hfc
              have hfl : flat rows.length 1 vs = ns.map (Value.int .u8) := by
                apply List.ext_getElem?
                intro k
                by_cases hk : k < rows.length
                · have h1 : rows[k]? = some rows[k] := List.getElem?_eq_getElem hk
                  obtain ⟨n, hn, e⟩ := b4 k _ h1
                  have h2 := flat_get (vs := vs) (sz := 1) (j := 0) hk (by omega)
                  rw [Nat.mul_one, Nat.add_zero] at h2
                  have h3 := hv.rel k rows[k] 0 (.int .u8 n) h1 (by rw [e]; rfl)
                  rw [h2, List.getElem?_map, hn]
                  cases hq : vs k 0 with
                  | int kk nn => rw [hq] at h3; cases h3; rfl
                  | _ => rw [hq] at h3; cases h3
                · rw [List.getElem?_eq_none (by rw [flat_length]; omega), List.getElem?_eq_none (by simp; omega)]
              refine ⟨.string ⟨⟨l⟩⟩, w, C, ?_, rfl, .s _ _ (.str _), hR, Ext.refl C w⟩
              have hlenr := hv.len w
              cases u with
              | slice a n c =>
                simp [Builtin.lenOf] at hlenr
                subst hlenr
                simp only [convert, Sem.run_bind, run_underlying hsd, run_underlying (isStringT_eq hs), Result.andThen_ok]
                have hsd' : sd = .slice e := by
                  have := elemT_eq he
                  rw [hsd] at this
                  injection this
                subst hsd'
                simp only [Sem.run_bind, run_underlying (intT_eq hk), Result.andThen_ok]
                cases a with
                | none =>
                  simp only [Conv.bytesToString, Sem.run_pure]
                  have : (flat rows.length 1 vs).toArray = #[] := by
                    simp [Builtin.firstCells] at hfc
                    rw [← hfc]
                  have hz : rows.length = 0 := by
                    have := congrArg Array.size this
                    simpa [flat_length] using this
                  have hl0 : l = [] := List.eq_nil_of_length_eq_zero (by omega)
                  subst hl0
                  rfl
                | some a =>
                  simp only [Builtin.firstCells, Nat.mul_one] at hfc
                  rw [hfl] at hfc
                  rw [run_bytesToString w a rows.length c ns hfc]
                  have := foldl_push ns []
                  have e0 : ByteArray.empty = ⟨⟨[]⟩⟩ := rfl
                  rw [e0, this, b3]
                  simp
              | string s =>
                have hsd' : sd = .slice e := by
                  have := elemT_eq he
                  rw [hsd] at this
                  injection this
                cases hx with
                | s q _ hx =>
                  cases hx
                  exact (hnstr _ rfl).elim
                | aptr id ver i off ty sz cur fz ap es v hc hle' h1' he' => simp [rowsOf] at hrows
                | hsl id ver off n ty' sz'' cur' fz' ap' es' v' hc hle' h1' he' =>
                  obtain ⟨ty, sz', fz, ap, es0, hH, hle, _⟩ := rowsOf_hsl hrows
                  rw [hc] at hH
                  injection hH with e1 e2 e3 e4 e5 e6
                  obtain ⟨_, hv'⟩ := he' e3.symm
                  cases hv'
              | _ => simp [Builtin.lenOf] at hlenr
            · cases h
          · cases h
        · cases h
      · cases h
    · cases h

theorem maxMin_run {mx : Bool} {t : Array TypeId} {ty : TypeId} : ∀ {r : List PV} {x p : PV} {u : Value} {us : List Value}, maxMin mx x r = some p → PRel C x u → r.length = us.length → (∀ (i : Nat) q, r[i]? = some q → PRel C q (us.getD i undef)) →
    ∃ v, ((us.foldlM (if mx then Builtin.max2 else Builtin.min2) u : Sem Value)).run P w = .ok v w ∧ PRel C p v
  | [], x, p, u, us, h, hx, hl, hr => by
    simp only [maxMin] at h
    injection h with h
    subst h
    have : us = [] := List.eq_nil_of_length_eq_zero (by simpa using hl.symm)
    subst this
    exact ⟨u, by simp, hx⟩
  | y :: r, x, p, u, [], h, hx, hl, hr => by simp at hl
  | y :: r, x, p, u, v :: us, h, hx, hl, hr => by
    have hy := hr 0 y rfl
    unfold maxMin at h
    split at h
    · rename_i heq; cases heq
    · rename_i k a k' b r' heq
      injection heq with e1 e2
      subst e1; subst e2
      cases hx with
      | s _ _ hx =>
      cases hx
      have hy' : PRel C (.s (.int k' b)) v := hy
      cases hy' with
      | s _ _ hy' =>
      cases hy'
      obtain ⟨v', hv1, hv2⟩ := maxMin_run (t := t) (ty := ty) h (.s _ _ (.int _ _)) (by simpa using hl) (fun i q hq => hr (i + 1) q hq)
      refine ⟨v', ?_, hv2⟩
      simp only [List.foldlM_cons, Sem.run_bind]
      cases mx
      · simp only [Bool.false_eq_true, if_false, Builtin.min2, Sem.run_pure, Result.andThen_ok] at hv1 ⊢
        exact hv1
      · simp only [if_true, Builtin.max2, Sem.run_pure, Result.andThen_ok] at hv1 ⊢
        exact hv1
    · cases h
end
end Go.Vm
end
section
set_option linter.unusedVariables false
set_option linter.unusedSimpArgs false
namespace Go.Vm
open Go.RowKit

section
variable {P : Program} {w w0 : World} {F : Fix} {C : Cx}

def KeyDesc (d : TypeDesc) : Prop := d = .string ∨ ∃ k, d = .int k
theorem keyT_eq {t : TypeId} (h : keyT P t = true) : ∃ d, P.underlying t = some d ∧ KeyDesc d := by
  unfold keyT at h
  split at h
  · rename_i hu; exact ⟨_, hu, .inl rfl⟩
  · rename_i k hu; exact ⟨_, hu, .inr ⟨k, rfl⟩⟩
  · cases h
theorem run_checkKey {b : Bool} {t : TypeId} {d : TypeDesc} {k : SV} {u : Value} (hu : P.underlying t = some d) (hd : KeyDesc d) (hk : SRel F k u) : (Instr.checkKey b 10000 t u).run P w = .ok () w := by
  show (Instr.checkKey b (9999 + 1) t u).run P w = .ok () w
  unfold Instr.checkKey
  simp only [Sem.run_bind, run_underlying hu, Result.andThen_ok]
  rcases hd with rfl | ⟨q, rfl⟩ <;> rfl
theorem keyEq_now {d : TypeDesc} {k q : SV} {u v : Value} {r : Bool} (hd : KeyDesc d) (h : keyEq k q = some r) (hd2 : (∃ kk, d = .int kk) ∨ d = .string) (hk : SRel F k u) (hq : SRel F q v) (hfit : (∃ l, k = .str l ∧ d = .string) ∨ (∃ kk n, k = .int kk n ∧ ∃ kq, d = .int kq)) :
    Instr.sameNow d u v = some r := by
  unfold keyEq at h
  split at h
  · rename_i k1 a k2 b
    split at h
    · rename_i he
      injection h with h
      subst h
      subst he
      cases hk
      cases hq
      rcases hfit with ⟨l, hl, _⟩ | ⟨kk, n, hn, kq, rfl⟩
      · cases hl
      · simp only [Instr.sameNow, if_true, beq_dec]
    · cases h
  · injection h with h
    subst h
    cases hk
    cases hq
    rcases hfit with ⟨l, hl, rfl⟩ | ⟨kk, n, hn, _⟩
    · simp only [Instr.sameNow, beq_toListBytes, toList_mk, beq_dec]
    · cases hn
  · cases h
def EntRel (F : Fix) (es : List (SV × SV)) (ents : List MapEntry) : Prop := ents.length = es.length ∧ ∀ (i : Nat) k v, es[i]? = some (k, v) → ∃ e, ents[i]? = some e ∧ SRel F k e.key ∧ SRel F v e.val
theorem find_run {d : TypeDesc} {key : SV} {u : Value} (hd : KeyDesc d) (hk : SRel F key u) (hfit : (∃ l, key = .str l ∧ d = .string) ∨ (∃ kk n, key = .int kk n ∧ ∃ kq, d = .int kq)) :
    ∀ {es : List (SV × SV)} {ents : List MapEntry} {i : Nat} {r : Option (Nat × SV)}, EntRel F es ents → mapFind key es i = some r →
      (r = none ∧ Instr.findNow d u ents i = some none) ∨ ∃ j v e, r = some (j, v) ∧ i ≤ j ∧ ents[j - i]? = some e ∧ Instr.findNow d u ents i = some (some (j, e.val)) ∧ SRel F v e.val ∧ (∃ q, es[j - i]? = some (q, v) ∧ SRel F q e.key ∧ keyEq key q = some true)
  | [], ents, i, r, he, h => by
    simp only [mapFind] at h
    injection h with h
    subst h
    have : ents = [] := List.eq_nil_of_length_eq_zero he.1
    subst this
    exact .inl ⟨rfl, rfl⟩
  | (q, v) :: es, [], i, r, he, h => by have := he.1; simp at this
  | (q, v) :: es, e :: ents, i, r, he, h => by
    obtain ⟨e', h1, h2, h3⟩ := he.2 0 q v rfl
    simp at h1
    subst h1
    simp only [mapFind] at h
    split at h
    · rename_i hq
      injection h with h
      subst h
      have := keyEq_now hd hq (by rcases hd with h | ⟨k, h⟩; exact .inr h; exact .inl ⟨k, h⟩) hk h2 hfit
      refine .inr ⟨i, v, e, rfl, Nat.le_refl _, by simp, by simp [Instr.findNow, this], h3, q, by simp, h2, hq⟩
    · rename_i hq
      have := keyEq_now hd hq (by rcases hd with h | ⟨k, h⟩; exact .inr h; exact .inl ⟨k, h⟩) hk h2 hfit
      rcases find_run hd hk hfit (es := es) (ents := ents) (i := i + 1) ⟨by simpa using he.1, fun j k v hj => he.2 (j + 1) k v hj⟩ h with ⟨h4, h5⟩ | ⟨j, v', e', h4, h5, h6, h7, h8, q', h9, h10, h11⟩
      · exact .inl ⟨h4, by simp [Instr.findNow, this, h5]⟩
      · have ej : j - i = (j - (i + 1)) + 1 := by omega
        exact .inr ⟨j, v', e', h4, by omega, by rw [ej]; exact h6, by simp [Instr.findNow, this, h7], h8, q', by rw [ej]; exact h9, h10, h11⟩
    · cases h
theorem keyOk_fit {t : TypeId} {d : TypeDesc} {k : SV} (hu : P.underlying t = some d) (h : keyOk P t k = true) : (∃ l, k = .str l ∧ d = .string) ∨ (∃ kk n, k = .int kk n ∧ ∃ kq, d = .int kq) := by
  unfold keyOk at h
  split at h
  · rw [hu] at h
    split at h
    · rename_i he
      injection he with he
      exact .inr ⟨_, _, rfl, _, he⟩
    · cases h
  · rw [hu] at h
    split at h
    · rename_i he
      injection he with he
      exact .inl ⟨_, rfl, he⟩
    · cases h
  · cases h
theorem run_getMap {r : Nat} {ents : Array MapEntry} {clock : Nat} (h : w.heap[r]? = some (.map ents clock)) : (getObj r).run P w = .ok (.map ents clock) w := by
  simp [getObj, Sem.run, h]
theorem lookupV_run {t : TypeId} {m k p : PV} {um uk : Value} {ok : Bool} (hR : Rel w0 C w) (h : lookupV P t C.H m k ok = some p) (hm : PRel C m um) (hk : PRel C k uk) :
    ∃ v, (Instr.lookup t um uk ok).run P w = .ok v w ∧ PRel C p v := by
  unfold lookupV at h
  split at h
  · rename_i id key
    split at h
    · rename_i es kt et hH hmt
      split at h
      · rename_i hkk
        cases hm with
        | map id es' hc =>
        cases hk with
        | s _ _ hk =>
        obtain ⟨d, hd, hkd⟩ := keyT_eq hkk.1
        have hfit := keyOk_fit hd hkk.2
        obtain ⟨ents, clock, g1, g2, g3⟩ := hR.map id es hH
        have hent : EntRel C.F es ents.toList := ⟨by simpa using g2, fun i k v hi => by
          obtain ⟨e, h1, h2⟩ := g3 i k v hi
          exact ⟨e, by simpa using h1, h2⟩⟩
        have key2 : ∀ (q : PV) (v : Value) (b : Bool), PRel C q v → p = (if ok then .tuple [q, .bool b] else q) → PRel C p (if ok then .tuple #[v, .bool b] else v) := by
          intro q v b hq hp
          subst hp
          cases ok
          · exact hq
          · refine .tuple _ _ rfl (fun i r hr => ?_)
            match i, hr with
            | 0, hr => simp at hr; subst hr; exact hq
            | 1, hr => simp at hr; subst hr; exact .s _ _ (.bool _)
            | i + 2, hr => simp at hr
        have hrun : ∀ j v, Instr.findNow d uk ents.toList 0 = some (some (j, v)) → (Instr.lookup t (.map (some (C.σ id))) uk ok).run P w = .ok (if ok then .tuple #[v, .bool true] else v) w := by
          intro j v hr
          simp only [Instr.lookup, Sem.run_bind, run_underlying (isMapT_eq hmt), Result.andThen_ok, run_getMap g1, Sem.run_pure, run_checkKey hd hkd hk, Instr.findKey, run_underlying hd, hr]
        have hrun0 : ∀ z, (zeroValue et).run P w = .ok z w → Instr.findNow d uk ents.toList 0 = some none → (Instr.lookup t (.map (some (C.σ id))) uk ok).run P w = .ok (if ok then .tuple #[z, .bool false] else z) w := by
          intro z hz hr
          simp only [Instr.lookup, Sem.run_bind, run_underlying (isMapT_eq hmt), Result.andThen_ok, run_getMap g1, Sem.run_pure, run_checkKey hd hkd hk, Instr.findKey, run_underlying hd, hr, hz]
        split at h
        · rename_i r j v y hfind hy
          injection h with h
          rcases find_run hkd hk hfit hent hfind with ⟨h4, _⟩ | ⟨j', v', e, h4, _, _, h5, h6, _⟩
          · cases h4
          · injection h4 with h4
            injection h4 with h7 h8
            subst h7; subst h8
            exact ⟨_, hrun _ _ h5, key2 _ _ true (.s _ _ h6) h.symm⟩
        · rename_i y hfind hy
          split at h
          · rename_i z hz hag
            injection h with h
            obtain ⟨f⟩ := ti_facts hy
            rcases find_run hkd hk hfit hent hfind with ⟨_, h5⟩ | ⟨j', v', e, h4, _⟩
            · have hzr := zero_rel f C.F
              have hz0 : SRel C.F z (f.z.cells.getD 0 undef) := hzr.2 0 z (by rw [hz]; rfl)
              have hone : f.z.cells.size = 1 := by rw [hzr.1, ← f.hn, hz]; rfl
              have hfz : f.z.cells.getD 0 undef = f.z := by
                cases hq : f.z with
                | agg cs =>
                  have := f.hav
                  rw [hq, hag] at this
                  cases this
                | _ => rfl
              rw [hfz] at hz0
              exact ⟨_, hrun0 _ (f.run_zero w) h5, key2 _ _ false (.s _ _ hz0) h.symm⟩
            · cases h4
          · cases h
        · cases h
      · cases h
    · cases h
  · cases h

theorem sameBits_key {key : SV} {u : Value} {t : TypeId} (hk : SRel F key u) (h : keyOk P t key = true) : Instr.sameBits 10000 u u = true := by
  unfold keyOk at h
  split at h
  · cases hk; simp [Instr.sameBits]
  · cases hk
    simp only [Instr.sameBits]
    rw [beq_toListBytes]
    simp
  · cases h
theorem keyEq_same {key q : SV} {u v : Value} (h : keyEq key q = some true) (hk : SRel F key u) (hq : SRel F q v) : u = v := by
  unfold keyEq at h
  split at h
  · split at h
    · rename_i he
      injection h with h
      simp at h
      subst he; subst h
      cases hk; cases hq
      rfl
    · cases h
  · injection h with h
    simp at h
    subst h
    cases hk; cases hq
    rfl
  · cases h
theorem setObj_run {r : Nat} {o o' : Obj} (h : w.heap[r]? = some o) (hn : ∀ a b c, o ≠ .cells a b c) : (setObj r o').run P w = .ok () { w with heap := w.heap.setIfInBounds r o' } := by
  cases o <;> first
    | exact absurd rfl (hn _ _ _)
    | simp [setObj, Sem.run, h]
theorem mapUpdateO_run {t : TypeId} {m k x : PV} {um uk ux : Value} {H' : Ob} (hR : Rel w0 C w) (h : mapUpdateO P t C.H m k x = some H') (hm : PRel C m um) (hk : PRel C k uk) (hx : PRel C x ux) :
    ∃ w' C', (Instr.mapUpdate t um uk ux).run P w = .ok () w' ∧ C'.H = H' ∧ Rel w0 C' w' ∧ Ext C w C' w' := by
  unfold mapUpdateO at h
  split at h
  · rename_i id key v
    split at h
    · rename_i es kt et hH hmt
      split at h
      · rename_i hkk
        cases hm with
        | map id es' hc =>
        cases hk with
        | s _ _ hk =>
        cases hx with
        | s _ _ hx =>
        obtain ⟨d, hd, hkd⟩ := keyT_eq hkk.1
        have hfit := keyOk_fit hd hkk.2
        obtain ⟨ents, clock, g1, g2, g3⟩ := hR.map id es hH
        have hal : (C.H id).alive = true := by rw [hH]; rfl
        have hlt := hR.lt id hal
        have hent : EntRel C.F es ents.toList := ⟨by simpa using g2, fun i k v hi => by
          obtain ⟨e, h1, h2⟩ := g3 i k v hi
          exact ⟨e, by simpa using h1, h2⟩⟩
        have hw : ∀ (es2 : List (SV × SV)) (ents2 : Array MapEntry) (clock2 : Nat), ents2.size = es2.length → (∀ (i : Nat) k v, es2[i]? = some (k, v) → ∃ e, ents2[i]? = some e ∧ SRel C.F k e.key ∧ SRel C.F v e.val) →
            Rel w0 { C with H := C.H.set id (.map es2) } { w with heap := w.heap.setIfInBounds (C.σ id) (.map ents2 clock2) } ∧ Ext C w { C with H := C.H.set id (.map es2) } { w with heap := w.heap.setIfInBounds (C.σ id) (.map ents2 clock2) } := by
          intro es2 ents2 clock2 hs hr
          have hoth : ∀ k, k ≠ C.σ id → (w.heap.setIfInBounds (C.σ id) (.map ents2 clock2))[k]? = w.heap[k]? := fun k hk => by
            rw [Array.getElem?_setIfInBounds, if_neg (Ne.symm hk)]
          refine Rel.write hR hal ⟨hR.below.os, hR.below.tape, hR.below.output, by simp; exact hR.below.size, fun k hk => by rw [hoth k (by omega)]; exact hR.below.block k hk⟩ (by simp) (fun k _ hk => hoth k hk)
            (fun o v hF => by have := hR.cell _ _ _ hF; simp [World.cell?, g1] at this) ?_ ?_
          · unfold Keeps
            rw [hH]
            exact ⟨es2, if_pos rfl, rfl⟩
          · unfold ObjOk
            rw [show ({ C with H := C.H.set id (.map es2) } : Cx).H id = .map es2 from if_pos rfl]
            exact ⟨ents2, clock2, by simp [hlt.2], hs, hr⟩
        split at h
        · rename_i i q hfind
          injection h with h
          subst h
          rcases find_run hkd hk hfit hent hfind with ⟨h4, _⟩ | ⟨j', v', e, h4, _, h41, h5, h6, q', h7, h8, h9⟩
          · cases h4
          · injection h4 with h4
            injection h4 with h10 h11
            subst h10; subst h11
            simp only [Nat.sub_zero] at h41 h7
            have hsame := keyEq_same h9 hk h8
            have hi : i < ents.size := by
              have := (List.getElem?_eq_some_iff.1 h41).1
              simpa using this
            obtain ⟨w1, w2⟩ := hw (es.set i (key, v)) (ents.modify i fun e => { e with key := uk, val := ux }) clock (by simp [g2]) (fun j k2 v2 hj => by
              by_cases e1 : j = i
              · subst e1
                rw [List.getElem?_set_self (by omega)] at hj
                injection hj with hj
                injection hj with e2 e3
                subst e2; subst e3
                refine ⟨{ e with key := uk, val := ux }, ?_, hk, hx⟩
                rw [Array.getElem?_modify, if_pos rfl, show ents[j]? = some e from by simpa using h41]
                rfl
              · rw [List.getElem?_set_ne (Ne.symm e1)] at hj
                obtain ⟨e', h1, h2⟩ := g3 j k2 v2 hj
                exact ⟨e', by rw [Array.getElem?_modify, if_neg (Ne.symm e1)]; exact h1, h2⟩)
            refine ⟨_, _, ?_, rfl, w1, w2⟩
            have hee : ents[i]? = some e := by simpa using h41
            simp only [Instr.mapUpdate, Sem.run_bind, run_underlying (isMapT_eq hmt), Result.andThen_ok, run_getMap g1, run_checkKey hd hkd hk, Instr.findKey, run_underlying hd, h5, Sem.run_pure, hee, Option.map_some, Option.getD_some, Instr.keyThatStays]
            rw [← hsame, sameBits_key hk hkk.2]
            simp only [if_true, Sem.run_pure, Result.andThen_ok]
            rw [setObj_run g1 (fun _ _ _ e => by cases e)]
        · rename_i hfind
          injection h with h
          subst h
          rcases find_run hkd hk hfit hent hfind with ⟨_, h5⟩ | ⟨j', v', e, h4, _⟩
          · obtain ⟨w1, w2⟩ := hw (es ++ [(key, v)]) (ents.push { key := uk, val := ux, born := clock }) (clock + 1) (by simp [g2]) (fun j k2 v2 hj => by
              rcases Nat.lt_or_ge j es.length with hlt | hge
              · rw [List.getElem?_append_left hlt] at hj
                obtain ⟨e', h1, h2⟩ := g3 j k2 v2 hj
                exact ⟨e', by rw [Array.getElem?_push, if_neg (by omega)]; exact h1, h2⟩
              · rw [List.getElem?_append_right hge] at hj
                have e1 : j = es.length := by
                  have := (List.getElem?_eq_some_iff.1 hj).1
                  simp at this
                  omega
                subst e1
                simp at hj
                obtain ⟨e2, e3⟩ := hj
                subst e2; subst e3
                exact ⟨_, by rw [Array.getElem?_push, if_pos (by omega)], hk, hx⟩)
            refine ⟨_, _, ?_, rfl, w1, w2⟩
            simp only [Instr.mapUpdate, Sem.run_bind, run_underlying (isMapT_eq hmt), Result.andThen_ok, run_getMap g1, run_checkKey hd hkd hk, Instr.findKey, run_underlying hd, h5, Sem.run_pure]
            rw [setObj_run g1 (fun _ _ _ e => by cases e)]
          · cases h4
        · cases h
      · cases h
    · cases h
  · cases h
theorem makeMap_run {t : TypeId} {nid : Nat} (hR : Rel w0 C w) (hd : C.H nid = .dead) :
    ∃ v w' C', (Instr.makeMap t none).run P w = .ok v w' ∧ C'.H = C.H.set nid (.map []) ∧ PRel C' (.map nid) v ∧ Rel w0 C' w' ∧ Ext C w C' w' := by
  have hs : (C.new nid w.heap.size 0 (.map [])).σ nid = w.heap.size := if_pos rfl
  have hH : (C.new nid w.heap.size 0 (.map [])).H nid = .map [] := if_pos rfl
  have hok : ObjOk (C.new nid w.heap.size 0 (.map [])) (World.more w (.map #[] 0) w.drawn) nid := by
    unfold ObjOk
    rw [hH, hs]
    exact ⟨#[], 0, more_new _ _ _, rfl, fun i k v hi => by simp at hi⟩
  obtain ⟨h1, h2⟩ := Rel.new hR hd hok
  refine ⟨_, _, _, rfl, rfl, ?_, h1, h2⟩
  have := PRel.map (C := C.new nid w.heap.size 0 (.map [])) nid [] hH
  rw [hs] at this
  exact this
end
end Go.Vm
end
section
set_option linter.unusedVariables false
set_option linter.unusedSimpArgs false
namespace Go.Vm
open Go.RowKit

section
variable {P : Program} {w w0 : World} {F : Fix} {C : Cx}

theorem flatKind_run {t : TypeId} {k : Nat} {a b : SV} {u v : Value} {r : Bool} {d : Nat} (hk : flatKind P t = some k) (h : svEq k a b = some r) (ha : SRel F a u) (hb : SRel F b v) :
    (isAgg t).run P w = .ok false w ∧ (Op.equalIn (d + 1) t u v).run P w = .ok r w := by
  unfold flatKind at hk
  split at hk
  · rename_i hu
    injection hk with hk
    subst hk
    unfold svEq at h
    split at h <;> try (cases h; done)
    · injection h with h
      subst h
      cases ha
      cases hb
      refine ⟨by simp [isAgg, run_underlying hu], ?_⟩
      rw [run_equalIn_bool' w d t _ _ hu, beq_dec]
    · rename_i e; cases e
    · rename_i e; cases e
  · rename_i kk hu
    injection hk with hk
    subst hk
    unfold svEq at h
    split at h <;> try (cases h; done)
    · rename_i e; cases e
    · split at h
      · rename_i e1
        injection h with h
        subst h
        subst e1
        cases ha
        cases hb
        refine ⟨by simp [isAgg, run_underlying hu], ?_⟩
        rw [← beq_dec]
        simp [Op.equalIn, run_underlying hu]
      · cases h
    · rename_i e; cases e
  · rename_i hu
    injection hk with hk
    subst hk
    unfold svEq at h
    split at h <;> try (cases h; done)
    · rename_i e; cases e
    · rename_i e; cases e
    · injection h with h
      subst h
      cases ha
      cases hb
      refine ⟨by simp [isAgg, run_underlying hu], ?_⟩
      rw [run_equalIn_string w d t _ _ hu, toList_mk, toList_mk, beq_dec]
  · cases hk
theorem eqFields_run {d : Nat} {xs ys : Array Value} : ∀ {fs : List Field} {i : Nat} {ks : List Nat} {as bs : List SV} {r : Bool}, flatFields P fs i = some ks → svEqs ks as bs = some r →
    (∀ (j : Nat) a, as[j]? = some a → ∃ u, xs[i + j]? = some u ∧ SRel F a u) → (∀ (j : Nat) a, bs[j]? = some a → ∃ u, ys[i + j]? = some u ∧ SRel F a u) → (Op.eqFields (d + 1) xs ys fs).run P w = .ok r w
  | [], i, ks, as, bs, r, hf, h, ha, hb => by
    simp only [flatFields] at hf
    injection hf with hf
    subst hf
    unfold svEqs at h
    split at h <;> try (cases h; done)
    · injection h with h
      subst h
      rfl
    · rename_i e; cases e
  | f :: fs, i, ks, as, bs, r, hf, h, ha, hb => by
    simp only [flatFields] at hf
    split at hf
    · rename_i hh
      split at hf
      · rename_i k q hk hq
        injection hf with hf
        subst hf
        unfold svEqs at h
        split at h <;> try (cases h; done)
        · rename_i e; cases e
        · rename_i k' ks' a as b bs e
          injection e with e1 e2
          subst e1; subst e2
          split at h
          · rename_i x y hx hy
            injection h with h
            subst h
            obtain ⟨u, hu, hau⟩ := ha 0 a rfl
            obtain ⟨v, hv, hbv⟩ := hb 0 b rfl
            obtain ⟨h1, h2⟩ := flatKind_run (w := w) (d := d) hk hx hau hbv
            rw [Nat.add_zero] at hu hv
            have hrest := eqFields_run (d := d) (xs := xs) (ys := ys) hq hy (fun j a hj => by
              obtain ⟨u, hu, ha⟩ := ha (j + 1) a hj
              exact ⟨u, by rw [show i + 1 + j = i + (j + 1) from by omega]; exact hu, ha⟩) (fun j a hj => by
              obtain ⟨u, hu, ha⟩ := hb (j + 1) a hj
              exact ⟨u, by rw [show i + 1 + j = i + (j + 1) from by omega]; exact hu, ha⟩)
            have hp1 : (part f.type xs f.offset).run P w = .ok u w := by simp [part, h1, hh.1, hu]
            have hp2 : (part f.type ys f.offset).run P w = .ok v w := by simp [part, h1, hh.1, hv]
            simp only [Op.eqFields]
            rw [if_pos hh.2]
            simp only [Sem.run_bind, hp1, hp2, h2, Result.andThen_ok, Sem.run_ite, Sem.run_pure, hrest]
            cases x <;> simp
          · cases h
      · cases hf
    · cases hf
theorem eqAgg_run {t : TypeId} {a b : List PV} {r : Bool} {u v : Value} (h : eqAgg P t a b = some r) (ha : PRel C (.agg a) u) (hb : PRel C (.agg b) v) : tellsEq P w t u v r := by
  unfold eqAgg at h
  split at h
  · rename_i ks x y hks hx hy
    unfold flatEq at hks
    split at hks
    · rename_i fields hu
      split at hks
      · cases hks
      · rename_i hst
        simp only [Bool.or_eq_true, not_or, Bool.not_eq_true] at hst
        cases ha with
        | agg _ us hl1 hr1 =>
        cases hb with
        | agg _ vs hl2 hr2 =>
        have e1 := toSVs_some hx
        have e2 := toSVs_some hy
        have get : ∀ {l : List PV} {q : List SV} {us : Array Value}, l = q.map .s → l.length = us.size → (∀ (i : Nat) p, l[i]? = some p → PRel C p (us.getD i undef)) → ∀ (j : Nat) a, q[j]? = some a → ∃ u, us[0 + j]? = some u ∧ SRel C.F a u := by
          intro l q us e hl hr j a hj
          have hjl := (List.getElem?_eq_some_iff.1 hj).1
          have h1 : l[j]? = some (.s a) := by rw [e, List.getElem?_map, hj]; rfl
          have h2 := hr j _ h1
          have hlt : j < us.size := by
            have := (List.getElem?_eq_some_iff.1 h1).1
            omega
          refine ⟨us.getD j undef, by simp [Array.getD_eq_getD_getElem?, hlt], ?_⟩
          cases h2 with
          | s _ _ h2 => exact h2
        have hrun := eqFields_run (w := w) (d := 9998) hks h (get e1 hl1 hr1) (get e2 hl2 hr2)
        have hfo : P.fieldsOf t = fields := by simp [Program.fieldsOf, hu]
        have heq : (Op.equalIn 10000 t (.agg us) (.agg vs)).run P w = .ok r w := by
          show (Op.equalIn (9999 + 1) t (.agg us) (.agg vs)).run P w = .ok r w
          rw [run_equalIn_struct w 9999 t us vs (by rw [hfo]; exact hu) hst.1, hfo]
          exact hrun
        refine ⟨?_, ?_, fun op ox oy => run_eqGuard_agg w op t ox oy us vs hst.2⟩
        · rw [run_eql_struct w t us vs, heq]; rfl
        · rw [run_neq_struct w t us vs, heq]; rfl
    · cases hks
  · cases h
theorem guard_s {op : BinOp} {t : TypeId} {ox oy : Operand} {p q : SV} {u v : Value} (hp : SRel F p u) (hq : SRel F q v) (h : (∃ k n, p = .int k n) ∨ ∃ l, p = .str l) : (eqGuard op t ox oy u v).run P w = .ok () w := by
  rcases h with ⟨k, n, rfl⟩ | ⟨l, rfl⟩ <;> cases hp <;> cases op <;> rfl
theorem binOpS_run {op : BinOp} {t : TypeId} {x y p : PV} {u v : Value} {ox oy : Operand} (h : binOpS P op t x y = some p) (hx : PRel C x u) (hy : PRel C y v) :
    ∃ r, (do eqGuard op t ox oy u v; binOp op t u v : Sem Value).run P w = .ok r w ∧ PRel C p r := by
  unfold binOpS at h
  split at h
  · rename_i k a k' b
    split at h
    · rename_i r hr
      injection h with h
      subst h
      cases hx with
      | s _ _ hx =>
      cases hy with
      | s _ _ hy =>
      have hg := guard_s (P := P) (w := w) (op := op) (t := t) (ox := ox) (oy := oy) hx hy (.inl ⟨_, _, rfl⟩)
      cases hx
      cases hy
      obtain ⟨r', h1, h2⟩ := binInt_run (P := P) (w := w) (F := C.F) (t := t) hr
      exact ⟨r', by simp only [Sem.run_bind, hg, Result.andThen_ok, h1], .s _ _ h2⟩
    · cases h
  · rename_i a b
    split at h
    · rename_i r hr
      injection h with h
      subst h
      cases hx with
      | s _ _ hx =>
      cases hy with
      | s _ _ hy =>
      have hg := guard_s (P := P) (w := w) (op := op) (t := t) (ox := ox) (oy := oy) hx hy (.inr ⟨_, rfl⟩)
      cases hx
      cases hy
      obtain ⟨r', h1, h2⟩ := binStr_run (P := P) (w := w) (F := C.F) (t := t) hr
      exact ⟨r', by simp only [Sem.run_bind, hg, Result.andThen_ok, h1], .s _ _ h2⟩
    · cases h
  · split at h
    · rename_i r hr
      injection h with h
      subst h
      obtain ⟨h1, h2, h3⟩ := eqAgg_run (w := w) hr hx hy
      exact ⟨_, by simp only [Sem.run_bind, h3, Result.andThen_ok, h1], .s _ _ (.bool _)⟩
    · rename_i r hr
      injection h with h
      subst h
      obtain ⟨h1, h2, h3⟩ := eqAgg_run (w := w) hr hx hy
      exact ⟨_, by simp only [Sem.run_bind, h3, Result.andThen_ok, h2], .s _ _ (.bool _)⟩
    · cases h
  · split at h
    · rename_i r hr
      injection h with h
      subst h
      obtain ⟨h1, h2, h3⟩ := eqOther_run (w := w) hr hx hy
      exact ⟨_, by simp only [Sem.run_bind, h3, Result.andThen_ok, h1], .s _ _ (.bool _)⟩
    · rename_i r hr
      injection h with h
      subst h
      obtain ⟨h1, h2, h3⟩ := eqOther_run (w := w) hr hx hy
      exact ⟨_, by simp only [Sem.run_bind, h3, Result.andThen_ok, h2], .s _ _ (.bool _)⟩
    · cases h
theorem isIfaceT_eq {t : TypeId} (h : isIfaceT P t = true) : ∃ ms, P.underlying t = some (.interface ms) := by
  unfold isIfaceT at h
  split at h
  · exact ⟨_, by assumption⟩
  · cases h
theorem isPtrT_eq {t : TypeId} (h : isPtrT P t = true) : ∃ e, P.underlying t = some (.pointer e) := by
  unfold isPtrT at h
  split at h
  · exact ⟨_, by assumption⟩
  · cases h
theorem nilK_eq {t : TypeId} {k : Nat} (h : nilK P t = some k) : (k = 0 ∧ isIfaceT P t = true) ∨ (k = 1 ∧ isPtrT P t = true) := by
  unfold nilK at h
  split at h
  · rename_i h1
    injection h with h
    exact .inl ⟨h.symm, h1⟩
  · split at h
    · rename_i h1
      injection h with h
      exact .inr ⟨h.symm, h1⟩
    · cases h
theorem run_nn {d : Nat} {t : TypeId} {ms : Array (String × TypeId)} (h : P.underlying t = some (.interface ms)) : (Op.equalIn (d + 1) t .nilIface .nilIface).run P w = .ok true w := by
  simp [Op.equalIn, run_underlying h]
theorem rin_in {d : Nat} {t a : TypeId} {b : Value} {ms : Array (String × TypeId)} (h : P.underlying t = some (.interface ms)) : (Op.equalIn (d + 1) t (.iface a b) .nilIface).run P w = .ok false w := by
  simp [Op.equalIn, run_underlying h]
theorem run_pp {d : Nat} {t e : TypeId} (h : P.underlying t = some (.pointer e)) : (Op.equalIn (d + 1) t (.pointer none) (.pointer none)).run P w = .ok true w := by
  simp [Op.equalIn, run_underlying h]
theorem run_pn {d : Nat} {t e : TypeId} {a : Addr} (h : P.underlying t = some (.pointer e)) : (Op.equalIn (d + 1) t (.pointer (some a)) (.pointer none)).run P w = .ok false w := by
  simp [Op.equalIn, run_underlying h]
theorem two_eq {t : TypeId} {u v : Value} {r : Bool} (h1 : u = .nilIface ∨ (∃ a b, u = .iface a b) ∨ ∃ a, u = .pointer a) (h2 : v = .nilIface ∨ ∃ a, v = .pointer a) (h : (Op.equal t u v).run P w = .ok r w) :
    (binOp .eql t u v).run P w = .ok (.bool r) w ∧ (binOp .neq t u v).run P w = .ok (.bool (!r)) w := by
  rcases h1 with rfl | ⟨a, b, rfl⟩ | ⟨a, rfl⟩ <;> rcases h2 with rfl | ⟨c, rfl⟩ <;> simp [binOp, h]
theorem eqNil_run {t : TypeId} {x y : PV} {r : Bool} {u v : Value} {ox oy : Operand} (hl : litO oy = true) (h : eqNil P t x y = some r) (hx : PRel C x u) (hy : PRel C y v) :
    (binOp .eql t u v).run P w = .ok (.bool r) w ∧ (binOp .neq t u v).run P w = .ok (.bool (!r)) w ∧ ∀ op, (eqGuard op t ox oy u v).run P w = .ok () w := by
  have hc : ∀ op, (eqGuard op t ox oy .nilIface .nilIface).run P w = .ok () w := by
    intro op
    unfold litO at hl
    split at hl
    · cases op <;> simp [eqGuard]
    · cases hl
  have fin : (u = .nilIface ∨ (∃ a b, u = .iface a b) ∨ ∃ a, u = .pointer a) → (v = .nilIface ∨ ∃ a, v = .pointer a) → (Op.equal t u v).run P w = .ok r w → (∀ op, (eqGuard op t ox oy u v).run P w = .ok () w) →
      (binOp .eql t u v).run P w = .ok (.bool r) w ∧ (binOp .neq t u v).run P w = .ok (.bool (!r)) w ∧ ∀ op, (eqGuard op t ox oy u v).run P w = .ok () w :=
    fun h1 h2 h3 h4 => ⟨(two_eq h1 h2 h3).1, (two_eq h1 h2 h3).2, h4⟩
  unfold eqNil at h
  split at h
  · cases hy with
    | s _ _ hy =>
    cases hy
    split at h
    · rename_i hk
      rcases nilK_eq hk with ⟨_, hi⟩ | ⟨e, _⟩
      · obtain ⟨ms, hu⟩ := isIfaceT_eq hi
        unfold isNil at h
        split at h <;> (try (cases h; done)) <;> (injection h with h; subst h)
        · cases hx with
          | s _ _ hx =>
          cases hx
          exact fin (.inl rfl) (.inl rfl) (by rw [equal_eq]; first | exact run_nn hu | exact rin_in hu | exact run_pp hu | exact run_pn hu) hc
        · cases hx with
          | s _ _ hx =>
          cases hx
          exact fin (.inr (.inl ⟨_, _, rfl⟩)) (.inl rfl) (by rw [equal_eq]; first | exact run_nn hu | exact rin_in hu | exact run_pp hu | exact run_pn hu) (fun op => by cases op <;> rfl)
        · cases hx
          exact fin (.inr (.inl ⟨_, _, rfl⟩)) (.inl rfl) (by rw [equal_eq]; first | exact run_nn hu | exact rin_in hu | exact run_pp hu | exact run_pn hu) (fun op => by cases op <;> rfl)
        all_goals (rename_i e; cases e)
      · cases e
    · cases h
  · cases hy with
    | s _ _ hy =>
    cases hy
    split at h
    · rename_i hk
      rcases nilK_eq hk with ⟨e, _⟩ | ⟨_, hi⟩
      · cases e
      · obtain ⟨te, hu⟩ := isPtrT_eq hi
        unfold isNil at h
        split at h <;> (try (cases h; done)) <;> (injection h with h; subst h)
        · rename_i e; cases e
        · rename_i e; cases e
        · rename_i e; cases e
        · cases hx with
          | s _ _ hx =>
          cases hx
          exact fin (.inr (.inr ⟨_, rfl⟩)) (.inr ⟨_, rfl⟩) (by rw [equal_eq]; first | exact run_nn hu | exact rin_in hu | exact run_pp hu | exact run_pn hu) (fun op => by cases op <;> rfl)
        · cases hx
          exact fin (.inr (.inr ⟨_, rfl⟩)) (.inr ⟨_, rfl⟩) (by rw [equal_eq]; first | exact run_nn hu | exact rin_in hu | exact run_pp hu | exact run_pn hu) (fun op => by cases op <;> rfl)
        · cases hx
          exact fin (.inr (.inr ⟨_, rfl⟩)) (.inr ⟨_, rfl⟩) (by rw [equal_eq]; first | exact run_nn hu | exact rin_in hu | exact run_pp hu | exact run_pn hu) (fun op => by cases op <;> rfl)
    · cases h
  · cases h
theorem binOpL_run {op : BinOp} {t : TypeId} {x y p : PV} {u v : Value} {ox oy : Operand} (h : binOpL P op t (litO oy) x y = some p) (hx : PRel C x u) (hy : PRel C y v) :
    ∃ r, (do eqGuard op t ox oy u v; binOp op t u v : Sem Value).run P w = .ok r w ∧ PRel C p r := by
  unfold binOpL at h
  split at h
  · rename_i q hq
    injection h with h
    subst h
    exact binOpS_run hq hx hy
  · split at h
    · rename_i hl
      split at h
      · rename_i r hr hb
        injection h with h
        subst h
        obtain ⟨h1, h2, h3⟩ := eqNil_run (w := w) (ox := ox) hl hr hx hy
        exact ⟨_, by simp only [Sem.run_bind, h3, Result.andThen_ok, h1], .s _ _ (.bool _)⟩
      · rename_i r hr hb
        injection h with h
        subst h
        obtain ⟨h1, h2, h3⟩ := eqNil_run (w := w) (ox := ox) hl hr hx hy
        exact ⟨_, by simp only [Sem.run_bind, h3, Result.andThen_ok, h2], .s _ _ (.bool _)⟩
      · cases h
    · cases h
theorem addr_of {p : PV} {u : Value} {H : Ob} {t : TypeId} {v : PV} (h : loadO P t H p = some v) (hH : C.H = H) (hp : PRel C p u) : ∃ a, u = .pointer (some a) := by
  subst hH
  cases hp <;> simp only [loadO] at h <;> try (cases h; done)
  · exact ⟨_, rfl⟩
  · exact ⟨_, rfl⟩
  · rename_i hc hle h1 he
    split at h
    · rename_i hH
      split at h
      · rename_i hv
        rw [hc] at hH
        injection hH with e1 e2 e3
        have := he (by omega)
        exact ⟨_, this⟩
      · cases h
    · cases h
theorem loadO_run {t : TypeId} {p v : PV} {u : Value} (hR : Rel w0 C w) (h : loadO P t C.H p = some v) (hp : PRel C p u) : ∃ x, (Instr.loadAt t u).run P w = .ok x w ∧ PRel C v x := by
  unfold loadO at h
  split at h
  · split at h
    · rename_i id off d1 d2 y ty cells hy hH
      cases hp with
      | ptr id off ty' cells' hc =>
        obtain ⟨vs, g1, g2, g3, g4⟩ := hR.box id ty cells hH
        obtain ⟨x, h1, h2⟩ := loadP_run (P := P) (w := w) (C := C) hy (b := C.σ id) (o := 0) (off := off) (c := cells) (us := fun j => vs.getD j undef) (fun j q hj => ⟨(g3 j q hj).1, by
          have hlt := (List.getElem?_eq_some_iff.1 hj).1
          rw [Nat.zero_add]
          simp [World.cell?, g1, Array.getD_eq_getD_getElem?, show j < vs.size by omega]⟩) h
        rw [Nat.zero_add] at h1
        exact ⟨x, by simp only [Instr.loadAt, Instr.sureAddr, Sem.run_bind, Sem.run_pure, Result.andThen_ok, h1], h2⟩
    · cases h
  · split at h
    · rename_i es i off d1 d2 y c hy hc
      cases hp with
      | eptr es i off a sz vs g1 g2 g5 g6 =>
        rw [loadS_eq] at h
        obtain ⟨x, h1, h2⟩ := loadP_run (P := P) (w := w) (C := C) hy (b := a.block) (o := a.off + i * sz) (off := off) (c := c.map .s) (us := fun j => vs i j) (fun j q hj => by
          rw [List.getElem?_map] at hj
          cases hq : c[j]? with
          | none => rw [hq] at hj; cases hj
          | some r =>
            rw [hq] at hj
            injection hj with hj
            subst hj
            refine ⟨.s _ _ (g6 i c j r hc hq), ?_⟩
            rw [Nat.add_assoc]
            exact hR.cell _ _ _ (g5 i c j r hc hq)) h
        rw [Nat.add_assoc] at h1
        exact ⟨x, by simp only [Instr.loadAt, Instr.sureAddr, Sem.run_bind, Sem.run_pure, Result.andThen_ok, h1], h2⟩
    · cases h
  · split at h
    · rename_i id ver i off d1 d2 y ty sz v1 fz ap es hy hH
      split at h
      · rename_i hv
        split at h
        · rename_i c hc
          cases hp with
          | aptr id ver i off ty' sz' cur' fz' ap' es' v' hc' hle h1 he =>
            obtain ⟨g1, g2, g3, g4, cur, fr, k1, k2, k2', k3, k4, k5⟩ := hR.sarr _ _ _ _ _ _ _ hH
            rw [hc'] at hH
            injection hH with e1 e2 e3 e4 e5 e6
            subst e1; subst e2; subst e3; subst e4; subst e5; subst e6
            have hu := he hv.symm
            subst hu
            rw [loadS_eq] at h
            obtain ⟨x, h1, h2⟩ := loadP_run (P := P) (w := w) (C := C) hy (b := C.σ id) (o := i * sz') (off := off) (c := c.map .s) (us := fun j => cur.getD (i * sz' + j) undef) (fun j q hj => by
              rw [List.getElem?_map] at hj
              cases hq : c[j]? with
              | none => rw [hq] at hj; cases hj
              | some r =>
                rw [hq] at hj
                injection hj with hj
                subst hj
                refine ⟨.s _ _ (k4 i c j r hc hq), ?_⟩
                have h3 := (List.getElem?_eq_some_iff.1 hc).1
                have h4 := (List.getElem?_eq_some_iff.1 hq).1
                have h5 := g2 c (List.mem_of_getElem? hc)
                have h6 := row_in (size := sz') (n := C.cap id) (i := i) (j := j) (by omega) (by omega)
                simp [World.cell?, k1, Array.getD_eq_getD_getElem?, show i * sz' + j < cur.size by omega]) h
            exact ⟨x, by simp only [Instr.loadAt, Instr.sureAddr, Sem.run_bind, Sem.run_pure, Result.andThen_ok, h1], h2⟩
        · cases h
      · cases h
    · cases h
  · cases h
theorem storeO_run {t : TypeId} {p x : PV} {u v : Value} {H' : Ob} (hR : Rel w0 C w) (h : storeO P t C.H p x = some H') (hp : PRel C p u) (hx : PRel C x v) :
    ∃ w' C', (Instr.storeAt t u v).run P w = .ok () w' ∧ C'.H = H' ∧ Rel w0 C' w' ∧ Ext C w C' w' := by
  unfold storeO at h
  split at h
  · split at h
    · rename_i id off d1 d2 y ty cells hy hH
      split at h
      · rename_i hh
        injection h with h
        subst h
        cases hp with
        | ptr id off ty' cells' hc =>
          obtain ⟨w', h1, h2, h3⟩ := storeO_ptr hR hy hH hx hh.1 hh.2.1 hh.2.2
          exact ⟨w', _, by simp only [Instr.storeAt, Instr.sureAddr, Sem.run_bind, Sem.run_pure, Result.andThen_ok, h1], rfl, h2, h3⟩
      · cases h
    · cases h
  · split at h
    · rename_i id ver i off d1 d2 d3 y ty sz v1 ap es xs0 hxs0 hy hH hth
      split at h
      · rename_i xs hxs
        split at h
        · rename_i hh
          split at h
          · rename_i c hc
            split at h
            · rename_i hle
              injection h with h
              subst h
              cases hp with
              | aptr id ver i off ty' sz' cur' fz' ap' es' v' hc' hle' h1 he =>
                have hH0 := hH
                rw [hc'] at hH
                injection hH with e1 e2 e3 e4 e5 e6
                subst e1; subst e2; subst e3; subst e4; subst e5; subst e6
                have hu := he hh.1.symm
                subst hu
                obtain ⟨w', h1, h2, h3⟩ := storeO_aptr hR hy hH0 hx hxs hh.2 hc hle
                exact ⟨w', _, by simp only [Instr.storeAt, Instr.sureAddr, Sem.run_bind, Sem.run_pure, Result.andThen_ok, h1], rfl, h2, h3⟩
            · cases h
          · cases h
        · cases h
      · cases h
    · cases h
  · cases h
end
end Go.Vm
end
section
set_option linter.unusedVariables false
set_option linter.unusedSimpArgs false
namespace Go.Vm
open Go.RowKit

/-- What an operation comes to: a value (or nothing), the objects turned, all else as it was. -/
def OpOk (P : Program) (w0 : World) (C : Cx) (w : World) (s : Sem Next) (p : PV) (H' : Ob) : Prop :=
  ∃ n w' C', s.run P w = .ok n w' ∧ ((∃ v, n = .value v ∧ PRel C' p v) ∨ n = .skip ∧ p = .undef) ∧ C'.H = H' ∧ Rel w0 C' w' ∧ Ext C w C' w'

section
variable {E : Env} {w w0 : World} {C : Cx} {T : Nat → PV} {ρ : Operand → Value}

theorem ok_pure {s : Sem Value} {p : PV} {v : Value} (hR : Rel w0 C w) (h : s.run E.P w = .ok v w) (hv : PRel C p v) : OpOk E.P w0 C w (do Pure.pure (.value (← s))) p C.H :=
  ⟨.value v, w, C, by simp only [Sem.run_bind, h, Result.andThen_ok, Sem.run_pure], .inl ⟨v, rfl, hv⟩, rfl, hR, Ext.refl C w⟩
theorem ok_value {p : PV} {v : Value} (hR : Rel w0 C w) (hv : PRel C p v) : OpOk E.P w0 C w (Pure.pure (.value v)) p C.H := ⟨.value v, w, C, rfl, .inl ⟨v, rfl, hv⟩, rfl, hR, Ext.refl C w⟩
theorem ok_made {s : Sem Value} {p : PV} {H' : Ob} (h : ∃ v w' C', s.run E.P w = .ok v w' ∧ C'.H = H' ∧ PRel C' p v ∧ Rel w0 C' w' ∧ Ext C w C' w') : OpOk E.P w0 C w (do Pure.pure (.value (← s))) p H' := by
  obtain ⟨v, w', C', h1, h2, h3, h4, h5⟩ := h
  exact ⟨.value v, w', C', by simp only [Sem.run_bind, h1, Result.andThen_ok, Sem.run_pure], .inl ⟨v, rfl, h3⟩, h2, h4, h5⟩
theorem ok_unit {s : Sem Unit} {H' : Ob} (h : ∃ w' C', s.run E.P w = .ok () w' ∧ C'.H = H' ∧ Rel w0 C' w' ∧ Ext C w C' w') : OpOk E.P w0 C w (do s; Pure.pure .skip) .undef H' := by
  obtain ⟨w', C', h1, h2, h4, h5⟩ := h
  exact ⟨.skip, w', C', by simp only [Sem.run_bind, h1, Result.andThen_ok, Sem.run_pure], .inr ⟨rfl, rfl⟩, h2, h4, h5⟩
theorem pureR_some {H : Ob} {o : Option PV} {p : PV} {H' : Ob} (h : pureR H o = some (p, H')) : o = some p ∧ H' = H := by
  unfold pureR at h
  obtain ⟨a, h1, h2⟩ := bnd_eq_some.1 h
  injection h2 with h2
  injection h2 with h3 h4
  subst h3; subst h4
  exact ⟨h1, rfl⟩
theorem unitR_some {o : Option Ob} {p : PV} {H' : Ob} (h : unitR o = some (p, H')) : o = some H' ∧ p = .undef := by
  unfold unitR at h
  obtain ⟨a, h1, h2⟩ := bnd_eq_some.1 h
  injection h2 with h2
  injection h2 with h3 h4
  subst h3; subst h4
  exact ⟨h1, rfl⟩
def Evals (E : Env) (T : Nat → PV) (C : Cx) (ρ : Operand → Value) : Prop := ∀ x p, evalO E T x = some p → PRel C p (ρ x)
theorem evalL_rel (hρ : Evals E T C ρ) : ∀ {l : List Operand} {q : List PV}, evalL E T l = some q → q.length = l.length ∧ ∀ (i : Nat) p, q[i]? = some p → PRel C p ((l.map ρ).getD i undef)
  | [], q, h => by
    simp only [evalL] at h
    injection h with h
    subst h
    exact ⟨rfl, fun i p hi => by simp at hi⟩
  | x :: r, q, h => by
    simp only [evalL] at h
    obtain ⟨a, h1, h2⟩ := bnd_eq_some.1 h
    obtain ⟨b, h3, h4⟩ := bnd_eq_some.1 h2
    injection h4 with h4
    subst h4
    obtain ⟨g1, g2⟩ := evalL_rel hρ h3
    refine ⟨by simp [g1], fun i p hi => ?_⟩
    cases i with
    | zero =>
      simp at hi
      subst hi
      exact hρ _ _ h1
    | succ i => exact g2 i p hi
theorem evalP_rel (hρ : Evals E T C ρ) : ∀ {l : List (Nat × Operand)} {q : List (Nat × PV)}, evalP E T l = some q → PartsRel C q (l.map fun x => (x.1, ρ x.2))
  | [], q, h => by
    simp only [evalP] at h
    injection h with h
    subst h
    exact ⟨rfl, fun i k p hi => by simp at hi⟩
  | (k, x) :: r, q, h => by
    simp only [evalP] at h
    obtain ⟨a, h1, h2⟩ := bnd_eq_some.1 h
    obtain ⟨b, h3, h4⟩ := bnd_eq_some.1 h2
    injection h4 with h4
    subst h4
    obtain ⟨g1, g2⟩ := evalP_rel hρ h3
    refine ⟨by simpa using g1, fun i k' p hi => ?_⟩
    cases i with
    | zero =>
      simp at hi
      obtain ⟨e1, e2⟩ := hi
      subst e1; subst e2
      exact ⟨ρ x, rfl, hρ _ _ h1⟩
    | succ i => exact g2 i k' p hi
theorem evalM_rel (hρ : Evals E T C ρ) {x : Option Operand} {q : Option PV} (h : evalM E T x = some q) : MRel C q (x.map ρ) := by
  cases x with
  | none =>
    simp only [evalM] at h
    injection h with h
    subst h
    trivial
  | some x =>
    simp only [evalM] at h
    obtain ⟨a, h1, h2⟩ := bnd_eq_some.1 h
    injection h2 with h2
    subst h2
    exact hρ _ _ h1
theorem arr1 {α : Type} {a : Array α} {x : α} (h : a.toList = [x]) : a = #[x] := by cases a; simp at h; simp [h]
theorem arr2 {α : Type} {a : Array α} {x y : α} (h : a.toList = [x, y]) : a = #[x, y] := by cases a; simp at h; simp [h]
theorem list1 {l : List Operand} {x : PV} (h : evalL E T l = some [x]) : ∃ a, l = [a] ∧ evalO E T a = some x := by
  cases l with
  | nil => simp only [evalL] at h; cases h
  | cons a r =>
    simp only [evalL] at h
    obtain ⟨p, h1, h2⟩ := bnd_eq_some.1 h
    obtain ⟨q, h3, h4⟩ := bnd_eq_some.1 h2
    injection h4 with h4
    injection h4 with h5 h6
    subst h5; subst h6
    cases r with
    | nil => exact ⟨a, rfl, h1⟩
    | cons b r =>
      simp only [evalL] at h3
      obtain ⟨p', h1', h2'⟩ := bnd_eq_some.1 h3
      obtain ⟨q', h3', h4'⟩ := bnd_eq_some.1 h2'
      cases h4'
theorem list2 {l : List Operand} {x y : PV} (h : evalL E T l = some [x, y]) : ∃ a b, l = [a, b] ∧ evalO E T a = some x ∧ evalO E T b = some y := by
  cases l with
  | nil => simp only [evalL] at h; cases h
  | cons a r =>
    simp only [evalL] at h
    obtain ⟨p, h1, h2⟩ := bnd_eq_some.1 h
    obtain ⟨q, h3, h4⟩ := bnd_eq_some.1 h2
    injection h4 with h4
    injection h4 with h5 h6
    subst h5; subst h6
    obtain ⟨b, rfl, h7⟩ := list1 h3
    exact ⟨a, b, rfl, h1, h7⟩
theorem builtinO_sound {o : Oper} {b : Builtin} {args : Array Operand} {ts : Array TypeId} {nid : Nat} {q : List PV} {p : PV} {H' : Ob} (hR : Rel w0 C w) (hd : C.H nid = .dead) (hρ : Evals E T C ρ)
    (ho : o.op = .call { callee := .builtin b, args := args, argTypes := ts }) (hq : evalL E T args.toList = some q) (h : builtinO E b ts.toList C.H nid q = some (p, H')) : OpOk E.P w0 C w (execOp ρ o) p H' := by
  have ex : execOp ρ o = (do let d ← resolve ρ { callee := .builtin b, args := args, argTypes := ts } o.type; invoke d.target d.args) := by
    unfold execOp
    rw [ho]
  unfold builtinO at h
  split at h
  · rename_i t x e2
    obtain ⟨h1, rfl⟩ := pureR_some h
    obtain ⟨a, ha, hx⟩ := list1 hq
    have e2 := arr1 (by assumption : ts.toList = [t])
    have e3 := arr1 ha
    subst e2; subst e3
    obtain ⟨v, g1, g2⟩ := lenV_run (ty := o.type) hR h1 (hρ _ _ hx)
    refine ⟨.value v, w, C, ?_, .inl ⟨v, rfl, g2⟩, rfl, hR, Ext.refl C w⟩
    rw [ex]
    simp only [resolve, Sem.run_bind, Sem.run_pure, Result.andThen_ok, invoke, builtin]
    have : (#[a] : Array Operand).map ρ = #[ρ a] := by simp
    rw [this, g1]
    rfl
  · rename_i t t2 s x e2
    obtain ⟨a, b, ha, hs, hx⟩ := list2 hq
    have e2 := arr2 (by assumption : ts.toList = [t, t2])
    have e3 := arr2 ha
    subst e2; subst e3
    obtain ⟨v, w', C', g1, g2, g3, g4, g5⟩ := appendO_run (ty := o.type) hR hd h (hρ _ _ hs) (hρ _ _ hx)
    refine ⟨.value v, w', C', ?_, .inl ⟨v, rfl, g3⟩, g2, g4, g5⟩
    rw [ex]
    simp only [resolve, Sem.run_bind, Sem.run_pure, Result.andThen_ok, invoke, builtin]
    have : (#[a, b] : Array Operand).map ρ = #[ρ a, ρ b] := by simp
    rw [this, g1]
    rfl
  · rename_i x r
    obtain ⟨h1, rfl⟩ := pureR_some h
    obtain ⟨hl, hr⟩ := evalL_rel hρ hq
    cases hargs : args.toList with
    | nil => rw [hargs] at hl; simp at hl
    | cons a l =>
      rw [hargs] at hl hr
      simp only [List.map_cons] at hr
      obtain ⟨v, g1, g2⟩ := maxMin_run (P := E.P) (w := w) (t := #[]) (ty := 0) (u := ρ a) (us := l.map ρ) h1 (hr 0 x rfl) (by simpa using hl) (fun i q hi => hr (i + 1) q hi)
      refine ⟨.value v, w, C, ?_, .inl ⟨v, rfl, g2⟩, rfl, hR, Ext.refl C w⟩
      rw [ex]
      simp only [resolve, Sem.run_bind, Sem.run_pure, Result.andThen_ok, invoke, builtin, Builtin.max_]
      have : (args.map ρ).toList = ρ a :: l.map ρ := by simp [hargs]
      rw [this]
      simp only [if_true] at g1
      simp only [g1, Result.andThen_ok]
  · rename_i x r
    obtain ⟨h1, rfl⟩ := pureR_some h
    obtain ⟨hl, hr⟩ := evalL_rel hρ hq
    cases hargs : args.toList with
    | nil => rw [hargs] at hl; simp at hl
    | cons a l =>
      rw [hargs] at hl hr
      simp only [List.map_cons] at hr
      obtain ⟨v, g1, g2⟩ := maxMin_run (P := E.P) (w := w) (t := #[]) (ty := 0) (u := ρ a) (us := l.map ρ) h1 (hr 0 x rfl) (by simpa using hl) (fun i q hi => hr (i + 1) q hi)
      refine ⟨.value v, w, C, ?_, .inl ⟨v, rfl, g2⟩, rfl, hR, Ext.refl C w⟩
      rw [ex]
      simp only [resolve, Sem.run_bind, Sem.run_pure, Result.andThen_ok, invoke, builtin, Builtin.min_]
      have : (args.map ρ).toList = ρ a :: l.map ρ := by simp [hargs]
      rw [this]
      simp only [Bool.false_eq_true, if_false] at g1
      simp only [g1, Result.andThen_ok]
  · cases h
theorem map_toList {α β : Type} (a : Array α) (f : α → β) : a.map f = (a.toList.map f).toArray := by cases a; simp
theorem prel_bool {t : Bool} {v : Value} (h : PRel C (.s (.bool t)) v) : v = .bool t := by
  cases h with
  | s _ _ h => cases h; rfl
theorem opStep_sound {o : Oper} {nid : Nat} {p : PV} {H' : Ob} (hR : Rel w0 C w) (hd : C.H nid = .dead) (hρ : Evals E T C ρ) (h : opStep E o.op T C.H nid = some (p, H')) : OpOk E.P w0 C w (execOp ρ o) p H' := by
  unfold opStep at h
  split at h
  · rename_i x ho
    obtain ⟨h1, rfl⟩ := pureR_some h
    have ex : execOp ρ o = Pure.pure (.value (ρ x)) := by unfold execOp; rw [ho]
    rw [ex]
    exact ok_value hR (hρ _ _ h1)
  · rename_i x ho
    obtain ⟨h1, rfl⟩ := pureR_some h
    have ex : execOp ρ o = Pure.pure (.value (ρ x)) := by unfold execOp; rw [ho]
    rw [ex]
    exact ok_value hR (hρ _ _ h1)
  · rename_i c a b ho
    obtain ⟨pc, h1, hA⟩ := bnd_eq_some.1 h
    obtain ⟨pa, h2, hB⟩ := bnd_eq_some.1 hA
    obtain ⟨pb, h3, hC⟩ := bnd_eq_some.1 hB
    clear h hA hB
    split at hC
    · rename_i t
      injection hC with hC
      injection hC with e1 e2
      subst e1; subst e2
      have hc := hρ _ _ h1
      have ex : execOp ρ o = (do Pure.pure (.value (if ← asBool (ρ c) then ρ a else ρ b))) := by unfold execOp; rw [ho]
      rw [ex, prel_bool hc]
      by_cases ht : t = true
      · rw [if_pos ht]
        have : (do Pure.pure (.value (if ← asBool (.bool t) then ρ a else ρ b)) : Sem Next) = Pure.pure (.value (ρ a)) := by rw [ht]; rfl
        rw [this]
        exact ok_value hR (hρ _ _ h2)
      · rw [if_neg ht]
        have : (do Pure.pure (.value (if ← asBool (.bool t) then ρ a else ρ b)) : Sem Next) = Pure.pure (.value (ρ b)) := by
          have ht' : t = false := by simpa using ht
          rw [ht']
          rfl
        rw [this]
        exact ok_value hR (hρ _ _ h3)
    · cases hC
  · rename_i t ho
    have ex : execOp ρ o = (do Pure.pure (.value (← Instr.alloc t true (.tuple #[])))) := by unfold execOp; rw [ho]
    rw [ex]
    exact ok_made (allocO_run hR hd h)
  · rename_i t x ho
    obtain ⟨px, h1, h⟩ := bnd_eq_some.1 h
    have ex : execOp ρ o = (do Pure.pure (.value (← Instr.box t (ρ x)))) := by unfold execOp; rw [ho]
    rw [ex]
    exact ok_made (boxO_run hR hd h (hρ _ _ h1))
  · rename_i t ps ho
    obtain ⟨q, h1, h⟩ := bnd_eq_some.1 h
    obtain ⟨h2, rfl⟩ := pureR_some h
    have ex : execOp ρ o = (do Pure.pure (.value (← Instr.build t (ps.map fun (i, x) => (i, ρ x))))) := by unfold execOp; rw [ho]
    rw [ex, map_toList]
    obtain ⟨v, g1, g2⟩ := buildV_run (w := w) h2 (evalP_rel hρ h1)
    exact ok_pure hR g1 g2
  · rename_i t n ps ho
    obtain ⟨q, h1, h⟩ := bnd_eq_some.1 h
    have ex : execOp ρ o = (do Pure.pure (.value (← Instr.buildSlice t n (ps.map fun (i, x) => (i, ρ x))))) := by unfold execOp; rw [ho]
    rw [ex, map_toList]
    exact ok_made (buildSliceO_run hR h (evalP_rel hρ h1))
  · rename_i t a ho
    obtain ⟨pa, h1, h⟩ := bnd_eq_some.1 h
    obtain ⟨h2, rfl⟩ := pureR_some h
    have ex : execOp ρ o = (do Pure.pure (.value (← Instr.loadAt t (ρ a)))) := by unfold execOp; rw [ho]
    rw [ex]
    obtain ⟨v, g1, g2⟩ := loadO_run hR h2 (hρ _ _ h1)
    exact ok_pure hR g1 g2
  · rename_i t a x ho
    obtain ⟨pa, h1, h⟩ := bnd_eq_some.1 h
    obtain ⟨px, h2, h⟩ := bnd_eq_some.1 h
    obtain ⟨h3, rfl⟩ := unitR_some h
    have ex : execOp ρ o = (do Instr.storeAt t (ρ a) (ρ x); Pure.pure .skip) := by unfold execOp; rw [ho]
    rw [ex]
    exact ok_unit (storeO_run hR h3 (hρ _ _ h1) (hρ _ _ h2))
  · rename_i x ho
    obtain ⟨px, h1, h⟩ := bnd_eq_some.1 h
    obtain ⟨h2, rfl⟩ := pureR_some h
    obtain ⟨rfl, g2⟩ := nilCheckV_run (P := E.P) (w := w) h2 (hρ _ _ h1) ho rfl
    exact ⟨_, w, C, g2, .inl ⟨_, rfl, hρ _ _ h1⟩, rfl, hR, Ext.refl C w⟩
  · rename_i op t x y yt ho
    obtain ⟨px, h1, h⟩ := bnd_eq_some.1 h
    obtain ⟨py, h2, h⟩ := bnd_eq_some.1 h
    obtain ⟨h3, rfl⟩ := pureR_some h
    have ex : execOp ρ o = (do Pure.pure (.value (← (do eqGuard op t x y (ρ x) (ρ y); binOp op t (ρ x) (ρ y))))) := by unfold execOp; rw [ho]
    rw [ex]
    obtain ⟨v, g1, g2⟩ := binOpL_run (w := w) (ox := x) (oy := y) h3 (hρ _ _ h1) (hρ _ _ h2)
    exact ok_pure hR g1 g2
  · rename_i op t x ho
    obtain ⟨px, h1, h⟩ := bnd_eq_some.1 h
    obtain ⟨h2, rfl⟩ := pureR_some h
    have ex : execOp ρ o = (do Pure.pure (.value (← Op.unary op (ρ x)))) := by unfold execOp; rw [ho]
    rw [ex]
    obtain ⟨v, g1, g2⟩ := unOp_run (P := E.P) (w := w) h2 (hρ _ _ h1)
    exact ok_pure hR g1 g2
  · rename_i sT dT x ho
    obtain ⟨px, h1, h⟩ := bnd_eq_some.1 h
    split at h
    · rename_i hs
      have ex : execOp ρ o = (do Pure.pure (.value (← convert sT dT (ρ x)))) := by unfold execOp; rw [ho]
      rw [ex]
      exact ok_made (convertO_run hR hd h (hρ _ _ h1) (Option.isSome_iff_exists.1 hs))
    · cases h
  · rename_i t x ho
    obtain ⟨px, h1, h⟩ := bnd_eq_some.1 h
    obtain ⟨h2, rfl⟩ := pureR_some h
    have ex : execOp ρ o = (do Pure.pure (.value (← Instr.makeInterface t (ρ x)))) := by unfold execOp; rw [ho]
    rw [ex]
    obtain ⟨v, g1, g2⟩ := ifaceV_run (w := w) h2 (hρ _ _ h1)
    exact ok_pure hR g1 g2
  · rename_i f a b ho
    obtain ⟨qa, h1, h⟩ := bnd_eq_some.1 h
    obtain ⟨qb, h2, h⟩ := bnd_eq_some.1 h
    injection h with h
    injection h with e1 e2
    subst e1; subst e2
    have ex : execOp ρ o = (do Pure.pure (.value (← Instr.makeFunc (.func f) (a.map ρ) (b.map ρ)))) := by unfold execOp; rw [ho]
    rw [ex]
    obtain ⟨l1, r1⟩ := evalL_rel hρ h1
    obtain ⟨l2, r2⟩ := evalL_rel hρ h2
    refine ok_pure hR rfl (.func f qa qb _ _ (by simpa using l1) (fun i p hi => ?_) (by simpa using l2) (fun i p hi => ?_))
    · have := r1 i p hi
      simpa [Array.getD_eq_getD_getElem?, List.getD_eq_getElem?_getD] using this
    · have := r2 i p hi
      simpa [Array.getD_eq_getD_getElem?, List.getD_eq_getElem?_getD] using this
  · rename_i t ho
    injection h with h
    injection h with e1 e2
    subst e1; subst e2
    have ex : execOp ρ o = (do Pure.pure (.value (← Instr.makeMap t none))) := by unfold execOp; rw [ho]; rfl
    rw [ex]
    exact ok_made (makeMap_run hR hd)
  · rename_i t l c ho
    obtain ⟨pl, h1, h⟩ := bnd_eq_some.1 h
    obtain ⟨pc, h2, h⟩ := bnd_eq_some.1 h
    have ex : execOp ρ o = (do Pure.pure (.value (← Instr.makeSlice t (ρ l) (ρ c)))) := by unfold execOp; rw [ho]
    rw [ex]
    exact ok_made (makeSliceO_run hR hd h (hρ _ _ h1) (hρ _ _ h2))
  · rename_i t x l hi ho
    obtain ⟨px, h1, h⟩ := bnd_eq_some.1 h
    obtain ⟨pl, h2, h⟩ := bnd_eq_some.1 h
    obtain ⟨ph, h3, h⟩ := bnd_eq_some.1 h
    obtain ⟨h4, rfl⟩ := pureR_some h
    have ex : execOp ρ o = (do Pure.pure (.value (← Instr.sliceAt t (ρ x) (l.map ρ) (hi.map ρ) none))) := by unfold execOp; rw [ho]; rfl
    rw [ex]
    obtain ⟨v, g1, g2⟩ := sliceV_run hR h4 (hρ _ _ h1) (evalM_rel hρ h2) (evalM_rel hρ h3)
    exact ok_pure hR g1 g2
  · rename_i s x f ho
    obtain ⟨px, h1, h⟩ := bnd_eq_some.1 h
    obtain ⟨h2, rfl⟩ := pureR_some h
    have ex : execOp ρ o = (do Pure.pure (.value (← Instr.fieldAt s (ρ x) f))) := by unfold execOp; rw [ho]
    rw [ex]
    obtain ⟨v, g1, g2⟩ := fieldA_run (w := w) h2 (hρ _ _ h1)
    exact ok_pure hR g1 g2
  · rename_i s x f ho
    obtain ⟨px, h1, h⟩ := bnd_eq_some.1 h
    obtain ⟨h2, rfl⟩ := pureR_some h
    have ex : execOp ρ o = (do Pure.pure (.value (← Instr.field s (ρ x) f))) := by unfold execOp; rw [ho]
    rw [ex]
    obtain ⟨v, g1, g2⟩ := fieldV_run (w := w) h2 (hρ _ _ h1)
    exact ok_pure hR g1 g2
  · rename_i t x i ho
    obtain ⟨px, h1, h⟩ := bnd_eq_some.1 h
    obtain ⟨pi, h2, h⟩ := bnd_eq_some.1 h
    obtain ⟨h3, rfl⟩ := pureR_some h
    have ex : execOp ρ o = (do Pure.pure (.value (← Instr.indexAt t (ρ x) (ρ i)))) := by unfold execOp; rw [ho]
    rw [ex]
    obtain ⟨v, g1, g2⟩ := indexA_run hR h3 (hρ _ _ h1) (hρ _ _ h2)
    exact ok_pure hR g1 g2
  · rename_i t x i ho
    obtain ⟨px, h1, h⟩ := bnd_eq_some.1 h
    obtain ⟨pi, h2, h⟩ := bnd_eq_some.1 h
    obtain ⟨h3, rfl⟩ := pureR_some h
    have ex : execOp ρ o = (do Pure.pure (.value (← Instr.index t (ρ x) (ρ i)))) := by unfold execOp; rw [ho]
    rw [ex]
    obtain ⟨v, g1, g2⟩ := indexV_run (w := w) h3 (hρ _ _ h1) (hρ _ _ h2)
    exact ok_pure hR g1 g2
  · rename_i t m k ok ho
    obtain ⟨pm, h1, h⟩ := bnd_eq_some.1 h
    obtain ⟨pk, h2, h⟩ := bnd_eq_some.1 h
    obtain ⟨h3, rfl⟩ := pureR_some h
    have ex : execOp ρ o = (do Pure.pure (.value (← Instr.lookup t (ρ m) (ρ k) ok))) := by unfold execOp; rw [ho]
    rw [ex]
    obtain ⟨v, g1, g2⟩ := lookupV_run hR h3 (hρ _ _ h1) (hρ _ _ h2)
    exact ok_pure hR g1 g2
  · rename_i t m k x ho
    obtain ⟨pm, h1, h⟩ := bnd_eq_some.1 h
    obtain ⟨pk, h2, h⟩ := bnd_eq_some.1 h
    obtain ⟨px, h3, h⟩ := bnd_eq_some.1 h
    obtain ⟨h4, rfl⟩ := unitR_some h
    have ex : execOp ρ o = (do Instr.mapUpdate t (ρ m) (ρ k) (ρ x); Pure.pure .skip) := by unfold execOp; rw [ho]
    rw [ex]
    exact ok_unit (mapUpdateO_run hR h4 (hρ _ _ h1) (hρ _ _ h2) (hρ _ _ h3))
  · rename_i t m k x ho
    obtain ⟨pm, h1, h⟩ := bnd_eq_some.1 h
    obtain ⟨pk, h2, h⟩ := bnd_eq_some.1 h
    obtain ⟨px, h3, h⟩ := bnd_eq_some.1 h
    obtain ⟨h4, rfl⟩ := unitR_some h
    have ex : execOp ρ o = (do Instr.mapUpdate t (ρ m) (ρ k) (ρ x); Pure.pure .skip) := by unfold execOp; rw [ho]
    rw [ex]
    exact ok_unit (mapUpdateO_run hR h4 (hρ _ _ h1) (hρ _ _ h2) (hρ _ _ h3))
  · rename_i x xt t ok ho
    obtain ⟨px, h1, h⟩ := bnd_eq_some.1 h
    obtain ⟨h2, rfl⟩ := pureR_some h
    have ex : execOp ρ o = (do Pure.pure (.value (← Instr.typeAssert (ρ x) xt t ok))) := by unfold execOp; rw [ho]
    rw [ex]
    obtain ⟨v, g1, g2⟩ := typeAssertV_run (w := w) h2 (hρ _ _ h1)
    exact ok_pure hR g1 g2
  · rename_i x i ho
    obtain ⟨px, h1, h⟩ := bnd_eq_some.1 h
    obtain ⟨h2, rfl⟩ := pureR_some h
    have ex : execOp ρ o = (do Pure.pure (.value (← Instr.extract (ρ x) i))) := by unfold execOp; rw [ho]
    rw [ex]
    obtain ⟨v, g1, g2⟩ := extractV_run (P := E.P) (w := w) h2 (hρ _ _ h1)
    exact ok_pure hR g1 g2
  · rename_i c ho
    obtain ⟨callee, args, ts⟩ := c
    split at h
    · rename_i b hb
      simp only at hb h
      subst hb
      obtain ⟨q, h1, h⟩ := bnd_eq_some.1 h
      exact builtinO_sound hR hd hρ ho h1 h
    · cases h
  · cases h
end
end Go.Vm
end
