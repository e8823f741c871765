/- Each operation of the abstract machine is what the model's own operation does: conversions, maps, comparisons; and all of them together. -/
import Derived.Test.YtfgkhgkgaedcmaaVmI
set_option linter.unusedVariables false
set_option linter.unusedSimpArgs false
namespace Go.Vm
open Go.RowKit

section
variable {P : Program} {w w0 : World} {F : Fix} {C : Cx}

theorem freeze_more {w : World} {cur : Array Value} {t : TypeId} (d : Nat) : (World.more w (.cells cur t) d).freeze ⟨w.heap.size, cur.size, none⟩ 1 = World.more w (.cells cur t (cur.size, cur.size + 1)) d := by
  refine world_heap_ext rfl rfl rfl rfl (fun k => ?_)
  show ((w.heap.push (.cells cur t)).modify w.heap.size _)[k]? = (w.heap.push (.cells cur t (cur.size, cur.size + 1)))[k]?
  simp only [Array.getElem?_modify, Array.getElem?_push]
  by_cases e : w.heap.size = k
  · subst e
    simp
  · rw [if_neg e, if_neg (Ne.symm e), if_neg (Ne.symm e)]
theorem bytes_run {t e : TypeId} {l : List UInt8} (hl : l.length ≤ 1073741824) :
    ∃ cap d cur, l.length ≤ cap ∧ cap ≤ maxLen ∧ cur.size = cap ∧ (∀ (i : Nat) b, l[i]? = some b → cur.getD i undef = .int .u8 b.toNat) ∧
      (Conv.stringToBytes e ⟨⟨l⟩⟩).run P w = .ok (.slice (some ⟨w.heap.size, 0, none⟩) l.length cap) (World.more w (.cells cur e (cap, cap + 1)) d) := by
  have hcap := grownCap_ge w l.length 0 e
  have hmax := grownCap_le_maxLen w l.length 0 e (by unfold maxLen; omega)
  let cap := grownCap w l.length 0 e
  let cur : Array Value := (l.map fun b => Value.int .u8 b.toNat).toArray ++ Array.replicate (cap - l.length) (.int .u8 0)
  have hsz : cur.size = cap := by simp [cur]; omega
  refine ⟨cap, w.drawn + 1, cur, hcap, hmax, hsz, fun i b hi => ?_, ?_⟩
  · have hlt := (List.getElem?_eq_some_iff.1 hi).1
    have hb := (List.getElem?_eq_some_iff.1 hi).2
    simp [cur, Array.getD_eq_getD_getElem?, Array.getElem?_append, hlt, hb]
  · have h1 : (Array.map (fun b : UInt8 => Value.int IntKind.u8 (b.toNat : Int)) ⟨l⟩ ++ Array.replicate (cap - l.length) (.int .u8 0)) = cur := by simp [cur]
    simp only [Conv.stringToBytes, Sem.run_bind, run_choose, Question.forced, Bool.false_eq_true, if_false, Result.andThen_ok, size_mk]
    have h2 : (Question.appendCap l.length 0 e).cut (w.tape w.drawn (Question.appendCap l.length 0 e)) = cap := rfl
    rw [h2, h1]
    have h3 : (newRow e cur).run P { w with drawn := w.drawn + 1 } = .ok ⟨w.heap.size, 0, none⟩ (World.more w (.cells cur e) (w.drawn + 1)) := rfl
    rw [h3]
    simp only [Result.andThen_ok, markStringish, Sem.run_bind, run_shape]
    have h4 : (World.more w (.cells cur e) (w.drawn + 1)).shape? w.heap.size = some (e, cur.size) := by
      unfold World.shape?
      rw [more_new]
    rw [h4]
    simp only [run_freeze, Result.andThen_ok, Sem.run_pure]
    rw [freeze_more, hsz]
theorem bytesOf_get : ∀ {rows : List (List SV)} {l : List UInt8}, bytesOf rows = some l → l.length = rows.length ∧ ∃ ns : List Int, ns.length = rows.length ∧ l = ns.map (fun n => UInt8.ofNat n.toNat) ∧ ∀ (i : Nat) c, rows[i]? = some c → ∃ n, ns[i]? = some n ∧ c = [.int .u8 n]
  | [], l, h => by
    simp only [bytesOf] at h
    injection h with h
    subst h
    exact ⟨rfl, [], rfl, rfl, fun i c hi => by simp at hi⟩
  | r :: rows, l, h => by
    unfold bytesOf at h
    split at h
    · rename_i heq; cases heq
    · rename_i n rows' heq
      injection heq with e1 e2
      subst e1; subst e2
      split at h
      · rename_i q hq
        injection h with h
        subst h
        obtain ⟨h1, ns, h2, h3, h4⟩ := bytesOf_get hq
        refine ⟨by simp [h1], n :: ns, by simp [h2], by simp [h3], fun i c hi => ?_⟩
        cases i with
        | zero => simp at hi; exact ⟨n, rfl, hi.symm⟩
        | succ i => exact h4 i c hi
      · cases h
    · cases h
theorem foldl_push (ns : List Int) : ∀ (l : List UInt8), ns.foldl (fun r n => r.push (UInt8.ofNat n.toNat)) (⟨⟨l⟩⟩ : ByteArray) = ⟨⟨l ++ ns.map (fun n => UInt8.ofNat n.toNat)⟩⟩ := by
  induction ns with
  | nil => intro l; simp
  | cons n ns ih =>
    intro l
    simp only [List.foldl_cons, List.map_cons]
    have : (⟨⟨l⟩⟩ : ByteArray).push (UInt8.ofNat n.toNat) = ⟨⟨l ++ [UInt8.ofNat n.toNat]⟩⟩ := by
      apply ByteArray.ext
      simp [ByteArray.push]
    rw [this, ih]
    simp
theorem convertO_run {src dst : TypeId} {nid : Nat} {x p : PV} {H' : Ob} {u : Value} (hR : Rel w0 C w) (hd : C.H nid = .dead) (h : convertO P src dst C.H nid x = some (p, H')) (hx : PRel C x u) (hsrc : ∃ d, P.underlying src = some d) :
    ∃ v w' C', (convert src dst u).run P w = .ok v w' ∧ C'.H = H' ∧ PRel C' p v ∧ Rel w0 C' w' ∧ Ext C w C' w' := by
  obtain ⟨sd, hsd⟩ := hsrc
  unfold convertO at h
  split at h
  · rename_i k0 n
    split at h
    · rename_i k hk
      injection h with h
      injection h with e1 e2
      subst e1; subst e2
      cases hx with
      | s _ _ hx =>
      cases hx
      refine ⟨_, w, C, ?_, rfl, .s _ _ (.int _ _), hR, Ext.refl C w⟩
      simp only [convert, Sem.run_bind, run_underlying hsd, run_underlying (intT_eq hk), Result.andThen_ok, Conv.intToInt, Sem.run_pure]
    · cases h
  · rename_i l
    split at h
    · rename_i hs
      injection h with h
      injection h with e1 e2
      subst e1; subst e2
      cases hx with
      | s _ _ hx =>
      cases hx
      refine ⟨_, w, C, ?_, rfl, .s _ _ (.str _), hR, Ext.refl C w⟩
      simp only [convert, Sem.run_bind, run_underlying hsd, run_underlying (isStringT_eq hs), Result.andThen_ok, Sem.run_pure]
    · split at h
      · rename_i e he
        split at h
        · rename_i hh
          injection h with h
          injection h with e1 e2
          subst e1; subst e2
          cases hx with
          | s _ _ hx =>
          cases hx
          obtain ⟨cap, d, cur, h1, h2, h3, h4, h5⟩ := bytes_run (P := P) (w := w) (t := src) (e := e) hh.2
          have hll : (l.map fun b => [SV.int .u8 (b.toNat : Int)]).length = l.length := by simp
          obtain ⟨g1, g2, g3⟩ := sarr_new (nid := nid) (ty := e) (sz := 1) (cap := cap) (ap := false) (es := l.map fun b => [SV.int .u8 (b.toNat : Int)]) (cur := cur) (fr := (cap, cap + 1)) hR hd (by omega)
            (fun c hc => by obtain ⟨b, _, rfl⟩ := List.mem_map.1 hc; rfl) (by rw [hll]; exact h1) h2 (by rw [h3, Nat.mul_one]) (fun hf => by cases hf) (.inr (by rw [h3]; exact Nat.le_refl _))
            (fun i c j p hi hj => by
              rw [List.getElem?_map] at hi
              cases hq : l[i]? with
              | none => rw [hq] at hi; cases hi
              | some b =>
                rw [hq] at hi
                injection hi with hi
                subst hi
                cases j with
                | zero =>
                  simp at hj
                  subst hj
                  rw [Nat.mul_one, Nat.add_zero, h4 i b hq]
                  exact .int _ _
                | succ j => simp at hj) d
          rw [hll] at g3
          refine ⟨_, _, _, ?_, rfl, g3, g1, g2⟩
          simp only [convert, Sem.run_bind, run_underlying hsd, run_underlying (elemT_eq he), Result.andThen_ok, run_underlying (intT_eq hh.1)]
          exact h5
        · cases h
      · cases h
  · rename_i hnint hnstr
    split at h
    · rename_i hs
      split at h
      · rename_i e he
        split at h
        · rename_i hk
          split at h
          · rename_i rows hrows
            split at h
            · rename_i l hl
              injection h with h
              injection h with e1 e2
              subst e1; subst e2
              obtain ⟨b1, ns, b2, b3, b4⟩ := bytesOf_get hl
              have hone : ∀ c, c ∈ rows → c.length = 1 := by
                intro c hc
                obtain ⟨i, hi, ei⟩ := List.mem_iff_getElem.1 hc
                obtain ⟨n, _, e⟩ := b4 i c (List.getElem?_eq_some_iff.2 ⟨hi, ei⟩)
                rw [e]
                rfl
              obtain ⟨vs, hv⟩ := rowVals (P := P) hR hrows hx (by omega : 0 < 1) hone
              have hfc := hv.run w.drawn
              have ew : ({ w with drawn := w.drawn } : World) = w := rfl
              rw [ew] at hfc
              have hfl : flat rows.length 1 vs = ns.map (Value.int .u8) := by
                apply List.ext_getElem?
                intro k
                by_cases hk : k < rows.length
                · have h1 : rows[k]? = some rows[k] := List.getElem?_eq_getElem hk
                  obtain ⟨n, hn, e⟩ := b4 k _ h1
                  have h2 := flat_get (vs := vs) (sz := 1) (j := 0) hk (by omega)
                  rw [Nat.mul_one, Nat.add_zero] at h2
                  have h3 := hv.rel k rows[k] 0 (.int .u8 n) h1 (by rw [e]; rfl)
                  rw [h2, List.getElem?_map, hn]
                  cases hq : vs k 0 with
                  | int kk nn => rw [hq] at h3; cases h3; rfl
                  | _ => rw [hq] at h3; cases h3
                · rw [List.getElem?_eq_none (by rw [flat_length]; omega), List.getElem?_eq_none (by simp; omega)]
              refine ⟨.string ⟨⟨l⟩⟩, w, C, ?_, rfl, .s _ _ (.str _), hR, Ext.refl C w⟩
              have hlenr := hv.len w
              cases u with
              | slice a n c =>
                simp [Builtin.lenOf] at hlenr
                subst hlenr
                simp only [convert, Sem.run_bind, run_underlying hsd, run_underlying (isStringT_eq hs), Result.andThen_ok]
                have hsd' : sd = .slice e := by
                  have := elemT_eq he
                  rw [hsd] at this
                  injection this
                subst hsd'
                simp only [Sem.run_bind, run_underlying (intT_eq hk), Result.andThen_ok]
                cases a with
                | none =>
                  simp only [Conv.bytesToString, Sem.run_pure]
                  have : (flat rows.length 1 vs).toArray = #[] := by
                    simp [Builtin.firstCells] at hfc
                    rw [← hfc]
                  have hz : rows.length = 0 := by
                    have := congrArg Array.size this
                    simpa [flat_length] using this
                  have hl0 : l = [] := List.eq_nil_of_length_eq_zero (by omega)
                  subst hl0
                  rfl
                | some a =>
                  simp only [Builtin.firstCells, Nat.mul_one] at hfc
                  rw [hfl] at hfc
                  rw [run_bytesToString w a rows.length c ns hfc]
                  have := foldl_push ns []
                  have e0 : ByteArray.empty = ⟨⟨[]⟩⟩ := rfl
                  rw [e0, this, b3]
                  simp
              | string s =>
                have hsd' : sd = .slice e := by
                  have := elemT_eq he
                  rw [hsd] at this
                  injection this
                cases hx with
                | s q _ hx =>
                  cases hx
                  exact (hnstr _ rfl).elim
                | aptr id ver i off ty sz cur fz ap es v hc hle' h1' he' => simp [rowsOf] at hrows
                | hsl id ver off n ty' sz'' cur' fz' ap' es' v' hc hle' h1' he' =>
                  obtain ⟨ty, sz', fz, ap, es0, hH, hle, _⟩ := rowsOf_hsl hrows
                  rw [hc] at hH
                  injection hH with e1 e2 e3 e4 e5 e6
                  obtain ⟨_, hv'⟩ := he' e3.symm
                  cases hv'
              | _ => simp [Builtin.lenOf] at hlenr
            · cases h
          · cases h
        · cases h
      · cases h
    · cases h

theorem maxMin_run {mx : Bool} {t : Array TypeId} {ty : TypeId} : ∀ {r : List PV} {x p : PV} {u : Value} {us : List Value}, maxMin mx x r = some p → PRel C x u → r.length = us.length → (∀ (i : Nat) q, r[i]? = some q → PRel C q (us.getD i undef)) →
    ∃ v, ((us.foldlM (if mx then Builtin.max2 else Builtin.min2) u : Sem Value)).run P w = .ok v w ∧ PRel C p v
  | [], x, p, u, us, h, hx, hl, hr => by
    simp only [maxMin] at h
    injection h with h
    subst h
    have : us = [] := List.eq_nil_of_length_eq_zero (by simpa using hl.symm)
    subst this
    exact ⟨u, by simp, hx⟩
  | y :: r, x, p, u, [], h, hx, hl, hr => by simp at hl
  | y :: r, x, p, u, v :: us, h, hx, hl, hr => by
    have hy := hr 0 y rfl
    unfold maxMin at h
    split at h
    · rename_i heq; cases heq
    · rename_i k a k' b r' heq
      injection heq with e1 e2
      subst e1; subst e2
      cases hx with
      | s _ _ hx =>
      cases hx
      have hy' : PRel C (.s (.int k' b)) v := hy
      cases hy' with
      | s _ _ hy' =>
      cases hy'
      obtain ⟨v', hv1, hv2⟩ := maxMin_run (t := t) (ty := ty) h (.s _ _ (.int _ _)) (by simpa using hl) (fun i q hq => hr (i + 1) q hq)
      refine ⟨v', ?_, hv2⟩
      simp only [List.foldlM_cons, Sem.run_bind]
      cases mx
      · simp only [Bool.false_eq_true, if_false, Builtin.min2, Sem.run_pure, Result.andThen_ok] at hv1 ⊢
        exact hv1
      · simp only [if_true, Builtin.max2, Sem.run_pure, Result.andThen_ok] at hv1 ⊢
        exact hv1
    · cases h
end
end Go.Vm
