/- Code without types does what the code does. -/
import Derived.Test.YtfgkhgkgaedcmaaVmU
set_option linter.unusedVariables false
set_option linter.unusedSimpArgs false
namespace Go.Vm
open Go.RowKit

section
variable {E : Env} {T : Nat → PV}

theorem cX_ok {x : Operand} {m : MX} (h : cX E x = some m) : evalO E T x = some (valX T m) := by
  cases x with
  | tmp t => simp only [cX] at h; injection h with h; subst h; rfl
  | const v =>
    simp only [cX] at h
    cases hv : ofConst v with
    | none => rw [hv] at h; cases h
    | some p => rw [hv] at h; injection h with h; subst h; simp only [evalO, hv, valX]
  | func f => simp only [cX] at h; injection h with h; subst h; rfl
  | global g =>
    simp only [cX] at h
    cases hv : E.G g with
    | none => rw [hv] at h; cases h
    | some p => rw [hv] at h; injection h with h; subst h; simp only [evalO, hv, valX]
theorem cL_ok : ∀ {l : List Operand} {q : List MX}, cL E l = some q → evalL E T l = some (q.map (valX T))
  | [], q, h => by simp only [cL] at h; injection h with h; subst h; rfl
  | x :: r, q, h => by
    simp only [cL] at h
    obtain ⟨a, h1, h⟩ := bnd_eq_some.1 h
    obtain ⟨b, h2, h⟩ := bnd_eq_some.1 h
    injection h with h
    subst h
    simp only [evalL, cX_ok h1, cL_ok h2, bnd_some, List.map_cons]
theorem cP_ok : ∀ {l : List (Nat × Operand)} {q : List (Nat × MX)}, cP E l = some q → evalP E T l = some (q.map fun x => (x.1, valX T x.2))
  | [], q, h => by simp only [cP] at h; injection h with h; subst h; rfl
  | (i, x) :: r, q, h => by
    simp only [cP] at h
    obtain ⟨a, h1, h⟩ := bnd_eq_some.1 h
    obtain ⟨b, h2, h⟩ := bnd_eq_some.1 h
    injection h with h
    subst h
    simp only [evalP, cX_ok h1, cP_ok h2, bnd_some, List.map_cons]
theorem cM_ok {x : Option Operand} {q : Option MX} (h : cM E x = some q) : evalM E T x = some (valM T q) := by
  cases x with
  | none => simp only [cM] at h; injection h with h; subst h; rfl
  | some x =>
    simp only [cM] at h
    obtain ⟨a, h1, h⟩ := bnd_eq_some.1 h
    injection h with h
    subst h
    simp only [evalM, cX_ok h1, bnd_some, valM]
theorem cB_ok {t : TypeId} : ∀ {l : List (Nat × Operand)} {q : List (Nat × Nat × MX)}, cB E t l = some q → ∃ ps, evalP E T l = some ps ∧ ∀ c r, buildM c (q.map fun x => (x.1, x.2.1, valX T x.2.2)) = some r → buildParts E.P t c ps = some r
  | [], q, h => by
    simp only [cB] at h
    injection h with h
    subst h
    exact ⟨[], rfl, fun c r hr => hr⟩
  | (i, x) :: l, q, h => by
    simp only [cB] at h
    obtain ⟨f, h1, h⟩ := bnd_eq_some.1 h
    obtain ⟨y, h2, h⟩ := bnd_eq_some.1 h
    obtain ⟨a, h3, h⟩ := bnd_eq_some.1 h
    obtain ⟨b, h4, h⟩ := bnd_eq_some.1 h
    injection h with h
    subst h
    obtain ⟨ps, g1, g2⟩ := cB_ok h4
    refine ⟨(i, valX T a) :: ps, by simp only [evalP, cX_ok h3, g1, bnd_some], fun c r hr => ?_⟩
    obtain ⟨o, ft⟩ := f
    simp only [List.map_cons, buildM] at hr
    simp only [buildParts, h1]
    simp only at h2
    rw [h2]
    simp only
    split at hr
    · rename_i hc
      rw [if_pos hc]
      exact g2 _ _ hr
    · cases hr
theorem loadM_ok {P : Program} {t : TypeId} {y : TI} {H : Ob} {p v : PV} (hy : ti P t = some y) (h : loadM y.agg y.size H p = some v) : loadO P t H p = some v := by
  cases p with
  | ptr id off =>
    simp only [loadM] at h
    simp only [loadO, hy]
    cases hH : H id <;> rw [hH] at h <;> simp at h ⊢
    exact h
  | eptr es i off =>
    simp only [loadM] at h
    simp only [loadO, hy]
    cases hH : es[i]? <;> rw [hH] at h <;> simp at h ⊢
    exact h
  | aptr id ver i off =>
    simp only [loadM] at h
    simp only [loadO, hy]
    cases hH : H id <;> rw [hH] at h <;> simp at h ⊢
    exact h
  | _ => simp [loadM] at h
theorem storeM_ok {P : Program} {t : TypeId} {y : TI} {H H' : Ob} {p x : PV} (hy : ti P t = some y) (h : storeM y.size H p x = some H') : storeO P t H p x = some H' := by
  cases p with
  | ptr id off =>
    simp only [storeM] at h
    simp only [storeO, hy]
    cases hH : H id <;> rw [hH] at h <;> simp at h ⊢
    exact h
  | aptr id ver i off =>
    simp only [storeM] at h
    simp only [storeO, hy]
    cases hx : toSVs x.cells with
    | none =>
      rw [hx] at h
      cases hH : H id <;> rw [hH] at h <;> simp at h
    | some xs =>
      rw [hx] at h
      rw [toSVs_thaws hx]
      cases hH : H id with
      | sarr ty sz v fz ap es =>
        rw [hH] at h
        cases fz with
        | false => exact h
        | true => simp at h
      | _ => rw [hH] at h; simp at h
  | _ => simp [storeM] at h
theorem fieldAM_ok {P : Program} {s t : TypeId} {f o : Nat} {H : Ob} {p v : PV} (hf : fo P s f = some (o, t)) (h : fieldAM o H p = some v) : fieldA P s H f p = some v := by
  cases p with
  | ptr id off => simp only [fieldA, hf]; exact h
  | eptr es i off => simp only [fieldA, hf]; exact h
  | aptr id ver i off =>
    simp only [fieldAM] at h
    simp only [fieldA, hf]
    cases hH : H id <;> rw [hH] at h <;> simp at h ⊢
    exact h
  | _ => simp [fieldAM] at h
theorem fieldVM_ok {P : Program} {s t : TypeId} {f o : Nat} {y : TI} {p v : PV} (hf : fo P s f = some (o, t)) (hy : ti P t = some y) (h : fieldVM o y.agg y.size p = some v) : fieldV P s f p = some v := by
  cases p with
  | agg cs => simp only [fieldV, hf, hy]; exact h
  | _ => simp [fieldVM] at h
theorem indexAM_sl {P : Program} {t e : TypeId} {y : TI} {H : Ob} {x i v : PV} (he : elemT P t = some e) (hy : ti P e = some y) (h : indexAM (.sl y.size) H x i = some v) : indexA P t H x i = some v := by
  unfold indexAM at h
  split at h
  · rename_i size es f k i hk
    injection hk with hk
    subst hk
    simp only [indexA, he, hy]
    exact h
  · rename_i size id ver off n k i hk
    injection hk with hk
    subst hk
    simp only [indexA, he, hy]
    cases hH : H id <;> rw [hH] at h <;> simp at h ⊢
    exact h
  · rename_i hk; cases hk
  · rename_i hk; cases hk
  · cases h
theorem indexAM_arr {P : Program} {t e : TypeId} {n : Nat} {y : TI} {H : Ob} {x i v : PV} (he : arrT P t = some (n, e)) (hy : ti P e = some y) (h : indexAM (.arr n y.agg y.size) H x i = some v) : indexA P t H x i = some v := by
  unfold indexAM at h
  split at h
  · rename_i hk; cases hk
  · rename_i hk; cases hk
  · rename_i hk
    injection hk with e1 e2 e3
    subst e1; subst e3
    simp only [indexA, he, hy]
    exact h
  · rename_i hk
    injection hk with e1 e2 e3
    subst e1; subst e3
    simp only [indexA, he, hy]
    exact h
  · cases h
theorem indexVM_str {P : Program} {t : TypeId} {x i v : PV} (hs : isStringT P t = true) (h : indexVM .str x i = some v) : indexV P t x i = some v := by
  unfold indexVM at h
  split at h
  · rename_i hk
    simp only [indexV, hs, true_and]
    exact h
  · rename_i hk; cases hk
  · cases h
theorem indexVM_arr {P : Program} {t e : TypeId} {n : Nat} {y : TI} {x i v : PV} (he : arrT P t = some (n, e)) (hy : ti P e = some y) (h : indexVM (.arr n y.agg y.size) x i = some v) : indexV P t x i = some v := by
  unfold indexVM at h
  split at h
  · rename_i hk; cases hk
  · rename_i hk
    injection hk with e1 e2 e3
    subst e1; subst e2; subst e3
    simp only [indexV, he, hy]
    exact h
  · cases h
theorem sliceM_str {P : Program} {t : TypeId} {H : Ob} {x v : PV} {lo hi : Option PV} (hs : isStringT P t = true) (h : sliceM .str H x lo hi = some v) : sliceV P t H x lo hi = some v := by
  unfold sliceM at h
  split at h <;> first
    | (simp only [sliceV, hs, if_true]; exact h)
    | (rename_i hk; cases hk; done)
    | cases h
theorem sliceM_sl {P : Program} {t e : TypeId} {y : TI} {H : Ob} {x v : PV} {lo hi : Option PV} (he : elemT P t = some e) (hy : ti P e = some y) (h : sliceM (.sl y.size) H x lo hi = some v) : sliceV P t H x lo hi = some v := by
  unfold sliceM at h
  split at h
  · rename_i hk; cases hk
  · rename_i hk
    simp only [sliceV, he, hy]
    exact h
  · rename_i hk
    injection hk with hk
    subst hk
    simp only [sliceV, he, hy]
    exact h
  · rename_i hk
    injection hk with hk
    subst hk
    simp only [sliceV, he, hy]
    rename_i id ver off n
    cases hH : H id <;> rw [hH] at h <;> simp at h ⊢
    exact h
  · cases h
theorem lenM_str {P : Program} {t : TypeId} {H : Ob} {x v : PV} (hs : isStringT P t = true) (h : lenM .str H x = some v) : lenV P t H x = some v := by
  unfold lenM at h
  split at h <;> first
    | (simp only [lenV, hs, if_true]; exact h)
    | (rename_i hk; cases hk; done)
    | cases h
theorem lenM_sl {P : Program} {t : TypeId} {H : Ob} {x v : PV} (hs : isSliceT P t = true) (h : lenM (.sl 0) H x = some v) : lenV P t H x = some v := by
  unfold lenM at h
  split at h
  · rename_i hk; cases hk
  · simp only [lenV, hs, if_true]; exact h
  · simp only [lenV, hs, if_true]; exact h
  · rename_i id ver off n hk
    simp only [lenV, hs, true_and]
    cases hH : H id <;> rw [hH] at h <;> simp at h ⊢
    exact h
  · rename_i hk; cases hk
  · cases h
theorem lenM_map {P : Program} {t : TypeId} {H : Ob} {x v : PV} (hs : (isMapT P t).isSome = true) (h : lenM .map H x = some v) : lenV P t H x = some v := by
  obtain ⟨kt, hk⟩ := Option.isSome_iff_exists.1 hs
  unfold lenM at h
  split at h <;> first
    | (rename_i hk; cases hk; done)
    | skip
  · rename_i id hkk
    simp only [lenV, hk]
    cases hH : H id <;> rw [hH] at h <;> simp at h ⊢
    exact h
  · cases h
theorem appendM_ok {P : Program} {t t2 e : TypeId} {y : TI} {H H' : Ob} {nid : Nat} {s x p : PV} (he : elemT P t = some e) (hy : ti P e = some y) (hc : 0 < y.size ∧ y.bytes ≤ 65536 ∧ (t2 = t ∨ (isStringT P t2 = true ∧ intT P e = some .u8)))
    (h : appendM e y.size H nid s x = some (p, H')) : appendO P t t2 H nid s x = some (p, H') := by
  unfold appendM at h
  unfold appendO
  rw [he]
  cases hr : rowsOf H x with
  | none => rw [hr] at h; cases h
  | some new =>
    rw [hr] at h
    simp only [hy] at h ⊢
    split at h
    · rename_i hall
      rw [if_pos ⟨hall, hc⟩]
      exact h
    · cases h
theorem eqM_ok {P : Program} {t : TypeId} {x y : PV} {r : Bool} (hx : ∀ a b, ¬ (x = .agg a ∧ y = .agg b)) (h : eqM (cK P t) x y = some r) : eqOther P t x y = some r := by
  unfold cK at h
  unfold eqM at h
  split at h
  · split at h
    · rename_i hk
      split at hk
      · rename_i hb; simp only [eqOther, hb, if_true]; exact h
      · split at hk
        · cases hk
        · split at hk <;> cases hk
    · cases h
  · split at h
    · rename_i hk
      split at hk
      · cases hk
      · split at hk
        · rename_i hb; simp only [eqOther, hb, if_true]; exact h
        · split at hk <;> cases hk
    · cases h
  · split at h
    · rename_i hk
      split at hk
      · cases hk
      · split at hk
        · rename_i hb; simp only [eqOther, hb, if_true]; exact h
        · split at hk <;> cases hk
    · cases h
  · split at h
    · rename_i hk
      split at hk
      · cases hk
      · split at hk
        · rename_i hb; simp only [eqOther, hb, if_true]; exact h
        · split at hk <;> cases hk
    · cases h
  · exact absurd ⟨rfl, rfl⟩ (hx _ _)
  · cases h
theorem eqM_agg {P : Program} {t : TypeId} {a b : List PV} {r : Bool} (h : eqM (cK P t) (.agg a) (.agg b) = some r) : eqAgg P t a b = some r := by
  simp only [eqM] at h
  unfold cK at h
  unfold eqAgg
  split at h
  · rename_i ks x y hk h1 h2
    split at hk
    · cases hk
    · split at hk
      · cases hk
      · split at hk
        · rename_i hf
          injection hk with hk
          subst hk
          rw [hf, h1, h2]
          exact h
        · cases hk
  · cases h
theorem binM_ok {P : Program} {op : BinOp} {t : TypeId} {x y v : PV} (h : binM op (cK P t) x y = some v) : binOpS P op t x y = some v := by
  unfold binM at h
  split at h
  · exact h
  · exact h
  · rename_i hn1 hn2
    have agg : ∀ a b, x = .agg a → y = .agg b → binOpS P op t x y = some v := by
      intro a b e1 e2
      subst e1; subst e2
      simp only [binOpS]
      split at h
      · split at h
        · rename_i r hr
          rw [eqM_agg hr]
          exact h
        · cases h
      · split at h
        · rename_i r hr
          rw [eqM_agg hr]
          exact h
        · cases h
      · cases h
    by_cases hagg : ∃ a b, x = .agg a ∧ y = .agg b
    · obtain ⟨a, b, e1, e2⟩ := hagg
      exact agg a b e1 e2
    · have hx : ∀ a b, ¬ (x = .agg a ∧ y = .agg b) := fun a b hab => hagg ⟨a, b, hab⟩
      unfold binOpS
      split
      · exact absurd rfl (hn1 _ _ _ _ rfl)
      · exact absurd rfl (hn2 _ _ rfl)
      · exact absurd ⟨rfl, rfl⟩ (hx _ _)
      · split at h
        · split at h
          · rename_i r hr
            rw [eqM_ok hx hr]
            exact h
          · cases h
        · split at h
          · rename_i r hr
            rw [eqM_ok hx hr]
            exact h
          · cases h
        · cases h
theorem convM_int {P : Program} {s d : TypeId} {k : IntKind} {H H' : Ob} {nid : Nat} {x p : PV} (hk : intT P d = some k) (h : convM (.int k) H nid x = some (p, H')) : convertO P s d H nid x = some (p, H') := by
  unfold convM at h
  split at h <;> first
    | (rename_i hk; cases hk; done)
    | skip
  · rename_i k' kk n hkk
    injection hkk with hkk
    subst hkk
    simp only [convertO, hk]
    exact h
  · cases h
theorem convM_str {P : Program} {s d : TypeId} {b : Bool} {H H' : Ob} {nid : Nat} {x p : PV} (hd : isStringT P d = true) (hb : b = true → ∃ e, elemT P s = some e ∧ intT P e = some .u8) (h : convM (.str b) H nid x = some (p, H')) : convertO P s d H nid x = some (p, H') := by
  unfold convM at h
  split at h <;> first
    | (rename_i hk; cases hk; done)
    | skip
  · rename_i l hk
    simp only [convertO, hd, if_true]
    exact h
  · rename_i hk
    injection hk with hk
    obtain ⟨e, e1, e2⟩ := hb hk
    simp only [convertO, hd, if_true, e1, e2, rowsOf, bytesOf]
    exact h
  · rename_i es f hk
    injection hk with hk
    obtain ⟨e, e1, e2⟩ := hb hk
    simp only [convertO, hd, if_true, e1, e2, rowsOf]
    exact h
  · rename_i id ver off n hk
    injection hk with hk
    obtain ⟨e, e1, e2⟩ := hb hk
    simp only [convertO, hd, if_true, e1, e2]
    exact h
  · cases h
theorem convM_bytes {P : Program} {s d e : TypeId} {H H' : Ob} {nid : Nat} {x p : PV} (hd : ¬ isStringT P d = true) (he : elemT P d = some e) (hu : intT P e = some .u8) (h : convM (.bytes e) H nid x = some (p, H')) : convertO P s d H nid x = some (p, H') := by
  unfold convM at h
  split at h <;> first
    | (rename_i hk; cases hk; done)
    | skip
  · rename_i e' l hk
    injection hk with hk
    subst hk
    simp only [convertO, if_neg hd, he, hu, true_and]
    exact h
  · cases h
theorem tassertM_ok {P : Program} {t : TypeId} {ok : Bool} {x v : PV} (hi : ¬ isIface P t = true) (h : tassertM t ok x = some v) : typeAssertV P t ok x = some v := by
  unfold typeAssertV
  rw [if_neg hi]
  exact h
theorem ifaceM_ok {P : Program} {t : TypeId} {x : PV} (hi : ¬ isIface P t = true) : ifaceV P t x = some (ifaceM t x) := by
  unfold ifaceV
  rw [if_neg hi]
  cases x <;> rfl
theorem keyM_ok {P : Program} {t : TypeId} {k : MKey} {key : SV} (hk : cKey P t = some k) (h : keyM k key = true) : keyT P t = true ∧ keyOk P t key = true := by
  unfold cKey at hk
  unfold keyT keyOk
  split at hk
  · rename_i hu
    injection hk with hk
    subst hk
    cases key <;> simp [keyM] at h
    simp [hu]
  · rename_i hu
    injection hk with hk
    subst hk
    cases key <;> simp [keyM] at h
    simp [hu]
  · cases hk
theorem lookM_ok {P : Program} {t : TypeId} {kt : TypeId × TypeId} {key : MKey} {y : TI} {ok : Bool} {H : Ob} {m k v : PV} (hm : isMapT P t = some kt) (hk : cKey P kt.1 = some key) (hy : ti P kt.2 = some y)
    (h : lookM key (match y.zero, y.agg with | [z], false => some z | _, _ => none) ok H m k = some v) : lookupV P t H m k ok = some v := by
  obtain ⟨a, b⟩ := kt
  simp only at hk hy
  unfold lookM at h
  split at h
  · rename_i id kk
    simp only [lookupV, hm]
    split at h
    · rename_i es hH
      rw [hH]
      simp only
      split at h
      · rename_i hkk
        rw [if_pos (keyM_ok hk hkk), hy]
        split at h
        · rename_i hf
          rw [hf]
          exact h
        · rename_i hf
          rw [hf]
          simp only
          split at h
          · rename_i z hz
            split at hz
            · rename_i h1 h2
              injection hz with hz
              subst hz
              rw [h1, h2]
              exact h
            · cases hz
          · cases h
        · cases h
      · cases h
    · cases h
  · cases h
theorem mupdM_ok {P : Program} {t : TypeId} {kt : TypeId × TypeId} {key : MKey} {H H' : Ob} {m k x : PV} (hm : isMapT P t = some kt) (hk : cKey P kt.1 = some key) (h : mupdM key H m k x = some H') : mapUpdateO P t H m k x = some H' := by
  obtain ⟨a, b⟩ := kt
  simp only at hk
  unfold mupdM at h
  split at h
  · rename_i id kk vv
    simp only [mapUpdateO, hm]
    split at h
    · rename_i es hH
      rw [hH]
      simp only
      split at h
      · rename_i hkk
        rw [if_pos (keyM_ok hk hkk)]
        exact h
      · cases h
    · cases h
  · cases h
theorem mksM_ok {P : Program} {t e : TypeId} {y : TI} {H H' : Ob} {nid : Nat} {l c p : PV} (he : elemT P t = some e) (hy : ti P e = some y) (hc : y.bytes ≤ 65536 ∧ 0 < y.size) (h : mksM e y.size y.zero H nid l c = some (p, H')) : makeSliceO P t H nid l c = some (p, H') := by
  unfold mksM at h
  split at h
  · simp only [makeSliceO, he, hy]
    split at h
    · rename_i h1
      rw [if_pos ⟨h1.1, h1.2.1, h1.2.2, hc.1, hc.2⟩]
      exact h
    · cases h
  · cases h

theorem pureR_of {H : Ob} {o o' : Option PV} {r : PV × Ob} (h : pureR H o = some r) (ho : ∀ v, o = some v → o' = some v) : pureR H o' = some r := by
  obtain ⟨p, H'⟩ := r
  obtain ⟨h1, h2⟩ := pureR_some h
  rw [ho p h1, h2]
  rfl
theorem unitR_of {o o' : Option Ob} {r : PV × Ob} (h : unitR o = some r) (ho : ∀ v, o = some v → o' = some v) : unitR o' = some r := by
  obtain ⟨p, H'⟩ := r
  obtain ⟨h1, h2⟩ := unitR_some h
  rw [ho H' h1, h2]
  rfl
end
end Go.Vm
