/- Drawn regions, first part: what an operation looks at and what it turns. -/
import Derived.Test.YtfgkhgkgaedcmaaVmQ
set_option linter.unusedVariables false
set_option linter.unusedSimpArgs false
namespace Go.Vm
open Go.RowKit

section
variable {E : Env}

theorem evalL_congr {T T2 : Nat → PV} : ∀ {l : List Operand}, (∀ x ∈ l, evalO E T2 x = evalO E T x) → evalL E T2 l = evalL E T l
  | [], h => rfl
  | x :: r, h => by
    simp only [evalL]
    rw [h x (List.mem_cons_self ..), evalL_congr (fun y hy => h y (List.mem_cons_of_mem _ hy))]
theorem evalP_congr {T T2 : Nat → PV} : ∀ {l : List (Nat × Operand)}, (∀ x ∈ l.map (·.2), evalO E T2 x = evalO E T x) → evalP E T2 l = evalP E T l
  | [], h => rfl
  | (i, x) :: r, h => by
    simp only [evalP]
    rw [h x (List.mem_cons_self ..), evalP_congr (fun y hy => h y (List.mem_cons_of_mem _ hy))]
theorem evalM_congr {T T2 : Nat → PV} {x : Option Operand} (h : ∀ y ∈ x.toArray, evalO E T2 y = evalO E T y) : evalM E T2 x = evalM E T x := by
  cases x with
  | none => rfl
  | some x =>
    simp only [evalM]
    rw [h x (by simp)]
theorem evalL_mem {T : Nat → PV} : ∀ {l : List Operand} {q : List PV}, evalL E T l = some q → ∀ p ∈ q, ∃ x ∈ l, evalO E T x = some p
  | [], q, h, p, hp => by
    simp only [evalL] at h
    injection h with h
    subst h
    cases hp
  | x :: r, q, h, p, hp => by
    simp only [evalL] at h
    obtain ⟨a, h1, h2⟩ := bnd_eq_some.1 h
    obtain ⟨b, h3, h4⟩ := bnd_eq_some.1 h2
    injection h4 with h4
    subst h4
    rcases List.mem_cons.1 hp with e | hp
    · exact ⟨x, List.mem_cons_self .., by rw [e]; exact h1⟩
    · obtain ⟨y, hy, e⟩ := evalL_mem h3 p hp
      exact ⟨y, List.mem_cons_of_mem _ hy, e⟩

theorem opStep_congr {op : Op} {T T2 : Nat → PV} {H : Ob} {nid : Nat} (h : ∀ x ∈ op.operands, evalO E T2 x = evalO E T x) : opStep E op T2 H nid = opStep E op T H nid := by
  cases op with
  | build t ps =>
    simp only [opStep]
    rw [evalP_congr (fun x hx => h x (by simpa [Op.operands] using hx))]
  | buildSlice t n ps =>
    simp only [opStep]
    rw [evalP_congr (fun x hx => h x (by simpa [Op.operands] using hx))]
  | makeFunc fn a b =>
    cases fn with
    | func f =>
      simp only [opStep]
      rw [evalL_congr (fun x hx => h x (by simp [Op.operands] at hx ⊢; exact .inl hx)), evalL_congr (fun x hx => h x (by simp [Op.operands] at hx ⊢; exact .inr hx))]
    | _ => rfl
  | slice t x l h' m =>
    cases m with
    | none =>
      simp only [opStep]
      rw [h x (by simp [Op.operands]), evalM_congr (fun y hy => h y (by simp [Op.operands] at hy ⊢; exact .inr (.inl hy))), evalM_congr (fun y hy => h y (by simp [Op.operands] at hy ⊢; exact .inr (.inr hy)))]
    | some m => rfl
  | makeMap t r => cases r <;> rfl
  | call c =>
    obtain ⟨ce, args, ts⟩ := c
    cases ce with
    | builtin b =>
      simp only [opStep]
      rw [evalL_congr (fun x hx => h x (by simp [Op.operands, Call.operands] at hx ⊢; exact hx))]
    | _ => rfl
  | _ => first
    | rfl
    | (simp only [opStep]; simp only [Op.operands] at h; simp only [List.mem_toArray, List.mem_cons, List.not_mem_nil, or_false, forall_eq_or_imp, forall_eq] at h; simp only [h])

def mix (F : List Nat) (A B : Ob) : Ob := fun j => if j ∈ F then A j else B j
theorem mix_same {F : List Nat} {H H2 : Ob} (h : ∀ j ∈ F, H2 j = H j) : mix F H H2 = H2 := by
  funext j
  unfold mix
  split
  · rename_i hj; exact (h j hj).symm
  · rfl
theorem mix_set {F : List Nat} {H H2 : Ob} {id : Nat} {o : HObj} (h : ∀ j ∈ F, H2 j = H j) (hid : id ∈ F) : mix F (H.set id o) H2 = H2.set id o := by
  funext j
  unfold mix Ob.set
  split
  · rename_i hj
    split
    · rfl
    · exact (h j hj).symm
  · rename_i hj
    rw [if_neg (fun e : j = id => hj (by rw [e]; exact hid))]
theorem set_off {F : List Nat} {H : Ob} {id j : Nat} {o : HObj} (hid : id ∈ F) (hj : j ∉ F) : (H.set id o) j = H j := by
  unfold Ob.set
  rw [if_neg (fun e : j = id => hj (by rw [e]; exact hid))]

/-- One of two runs at like objects: the same value; the objects turned alike. -/
def Fr (F : List Nat) (H H2 : Ob) (o o2 : Option (PV × Ob)) : Prop := ∀ p H', o = some (p, H') → (H' = H ∧ o2 = some (p, H2)) ∨ ∃ id ∈ F, ∃ ob, H' = H.set id ob ∧ o2 = some (p, H2.set id ob)
theorem fr_pure {F : List Nat} {H H2 : Ob} {o : Option PV} : Fr F H H2 (pureR H o) (pureR H2 o) := fun p H' h => by
  obtain ⟨h1, h2⟩ := pureR_some h
  refine .inl ⟨h2, ?_⟩
  rw [h1]
  rfl
theorem fr_pure' {F : List Nat} {H H2 : Ob} {o o2 : Option PV} (e : o2 = o) : Fr F H H2 (pureR H o) (pureR H2 o2) := by rw [e]; exact fr_pure
theorem fr_none {F : List Nat} {H H2 : Ob} {o : Option (PV × Ob)} : Fr F H H2 none o := fun p H' h => by cases h
theorem fr_bnd {α : Type} {F : List Nat} {H H2 : Ob} {o : Option α} {f g : α → Option (PV × Ob)} (h : ∀ a, o = some a → Fr F H H2 (f a) (g a)) : Fr F H H2 (bnd o f) (bnd o g) := fun p H' e => by
  obtain ⟨a, h1, h2⟩ := bnd_eq_some.1 e
  rw [h1]
  exact h a h1 p H' h2
theorem fr_some {F : List Nat} {H H2 : Ob} {p : PV} : Fr F H H2 (some (p, H)) (some (p, H2)) := fun q H' h => by
  injection h with h
  injection h with h1 h2
  exact .inl ⟨h2.symm, by rw [h1]⟩
theorem fr_set {F : List Nat} {H H2 : Ob} {p : PV} {id : Nat} {ob : HObj} (hid : id ∈ F) : Fr F H H2 (some (p, H.set id ob)) (some (p, H2.set id ob)) := fun q H' h => by
  injection h with h
  injection h with h1 h2
  exact .inr ⟨id, hid, ob, h2.symm, by rw [h1]⟩
theorem fr_unit {F : List Nat} {H H2 : Ob} {o o2 : Option Ob} (h : ∀ H', o = some H' → (H' = H ∧ o2 = some H2) ∨ ∃ id ∈ F, ∃ ob, H' = H.set id ob ∧ o2 = some (H2.set id ob)) : Fr F H H2 (unitR o) (unitR o2) := fun p H' e => by
  obtain ⟨h1, h2⟩ := unitR_some e
  subst h2
  rcases h H' h1 with ⟨a, b⟩ | ⟨id, hid, ob, a, b⟩
  · exact .inl ⟨a, by rw [b]; rfl⟩
  · exact .inr ⟨id, hid, ob, a, by rw [b]; rfl⟩

set_option linter.unusedSectionVars false
section
variable {P : Program} {F : List Nat} {H H2 : Ob} (hA : ∀ j ∈ F, H2 j = H j)
include hA
theorem loadO_fr {t : TypeId} {p : PV} (hp : ∀ j ∈ heads p, j ∈ F) : loadO P t H2 p = loadO P t H p := by
  cases p <;> simp only [loadO]
  · rw [hA _ (hp _ (by simp [heads, heads1, heads0]))]
  · rw [hA _ (hp _ (by simp [heads, heads1, heads0]))]
theorem fieldA_fr {t : TypeId} {p : PV} {f : Nat} (hp : ∀ j ∈ heads p, j ∈ F) : fieldA P t H2 f p = fieldA P t H f p := by
  cases p <;> simp only [fieldA]
  · rw [hA _ (hp _ (by simp [heads, heads1, heads0]))]
theorem indexA_fr {t : TypeId} {x i : PV} (hp : ∀ j ∈ heads x, j ∈ F) : indexA P t H2 x i = indexA P t H x i := by
  cases i with
  | s v => cases v with
    | int k n => cases x with
      | hsl id ver off n => simp only [indexA]; rw [hA _ (hp _ (by simp [heads, heads1, heads0]))]
      | s v => cases v <;> rfl
      | _ => rfl
    | _ => rfl
  | _ => rfl
theorem sliceV_fr {t : TypeId} {x : PV} {l h : Option PV} (hp : ∀ j ∈ heads x, j ∈ F) : sliceV P t H2 x l h = sliceV P t H x l h := by
  cases x with
  | hsl id ver off n => simp only [sliceV]; rw [hA _ (hp _ (by simp [heads, heads1, heads0]))]
  | s v => cases v <;> rfl
  | _ => rfl
theorem lenV_fr {t : TypeId} {x : PV} (hp : ∀ j ∈ heads x, j ∈ F) : lenV P t H2 x = lenV P t H x := by
  cases x with
  | hsl id ver off n => simp only [lenV]; rw [hA _ (hp _ (by simp [heads, heads1, heads0]))]
  | map id => simp only [lenV]; rw [hA _ (hp _ (by simp [heads, heads1, heads0]))]
  | s v => cases v <;> rfl
  | _ => rfl
theorem rowsOf_fr {x : PV} (hp : ∀ j ∈ heads x, j ∈ F) : rowsOf H2 x = rowsOf H x := by
  cases x with
  | hsl id ver off n => simp only [rowsOf]; rw [hA _ (hp _ (by simp [heads, heads1, heads0]))]
  | s v => cases v <;> rfl
  | _ => rfl
theorem lookupV_fr {t : TypeId} {m k : PV} {ok : Bool} (hp : ∀ j ∈ heads m, j ∈ F) : lookupV P t H2 m k ok = lookupV P t H m k ok := by
  cases m with
  | map id => cases k with
    | s k => simp only [lookupV]; rw [hA _ (hp _ (by simp [heads, heads1, heads0]))]
    | _ => rfl
  | _ => rfl
omit hA in
theorem toSVs_thaws {H : Ob} : ∀ {l : List PV} {q : List SV}, toSVs l = some q → thaws H l = some (q, H)
  | [], q, h => by
    simp only [toSVs] at h
    injection h with h
    subst h
    rfl
  | p :: r, q, h => by
    cases p with
    | s v =>
      simp only [toSVs] at h
      split at h
      · rename_i q1 h1
        injection h with h
        subst h
        simp only [thaws, thaw, toSVs_thaws h1]
      · cases h
    | _ => simp [toSVs] at h
theorem storeO_fr {t : TypeId} {p x : PV} (hp : ∀ j ∈ heads p, j ∈ F) : ∀ H', storeO P t H p x = some H' → (H' = H ∧ storeO P t H2 p x = some H2) ∨ ∃ id ∈ F, ∃ ob, H' = H.set id ob ∧ storeO P t H2 p x = some (H2.set id ob) := by
  intro H' h
  cases p with
  | ptr id off =>
    have hid : id ∈ F := hp _ (by simp [heads, heads1, heads0])
    simp only [storeO] at h ⊢
    rw [hA _ hid]
    split at h
    · split at h
      · rename_i hc
        injection h with h
        exact .inr ⟨id, hid, _, h.symm, by rw [if_pos hc]⟩
      · cases h
    · cases h
  | aptr id ver i off =>
    have hid : id ∈ F := hp _ (by simp [heads, heads1, heads0])
    simp only [storeO] at h ⊢
    rw [hA _ hid]
    cases hx : toSVs x.cells with
    | none =>
      rw [hx] at h
      split at h
      · cases h
      · cases h
    | some xs =>
      rw [toSVs_thaws hx] at h ⊢
      rw [hx] at h
      split at h
      · rename_i y ty sz v ap es xs' _ e1 e2 e3
        simp only at h
        split at h
        · rename_i hc
          split at h
          · rename_i c hc2
            split at h
            · rename_i hc3
              injection h with h
              refine .inr ⟨id, hid, _, h.symm, ?_⟩
              simp only [e1, e2, hx, if_pos hc, hc2, if_pos hc3]
            · cases h
          · cases h
        · cases h
      · cases h
  | _ => simp [storeO] at h
theorem mapUpdateO_fr {t : TypeId} {m k x : PV} (hp : ∀ j ∈ heads m, j ∈ F) : ∀ H', mapUpdateO P t H m k x = some H' → (H' = H ∧ mapUpdateO P t H2 m k x = some H2) ∨ ∃ id ∈ F, ∃ ob, H' = H.set id ob ∧ mapUpdateO P t H2 m k x = some (H2.set id ob) := by
  intro H' h
  unfold mapUpdateO at h
  split at h
  · rename_i id key v
    have hid : id ∈ F := hp _ (by simp [heads, heads1, heads0])
    split at h
    · rename_i es kt et h1 h2
      split at h
      · rename_i hc
        split at h
        · rename_i h3
          injection h with h
          exact .inr ⟨id, hid, _, h.symm, by simp only [mapUpdateO, hA _ hid, h1, h2, if_pos hc, h3]⟩
        · rename_i h3
          injection h with h
          exact .inr ⟨id, hid, _, h.symm, by simp only [mapUpdateO, hA _ hid, h1, h2, if_pos hc, h3]⟩
        · cases h
      · cases h
    · cases h
  · cases h
theorem convertO_fr {s d : TypeId} {nid : Nat} {x : PV} (hn : nid ∈ F) (hp : ∀ j ∈ heads x, j ∈ F) : Fr F H H2 (convertO P s d H nid x) (convertO P s d H2 nid x) := by
  have hr := rowsOf_fr hA hp
  have tail : Fr F H H2 (if isStringT P d = true then match elemT P s with
      | some e => if intT P e = some .u8 then match rowsOf H x with
          | some rows => match bytesOf rows with
            | some l => some (.s (.str l), H)
            | none => none
          | none => none
        else none
      | none => none
    else none) (if isStringT P d = true then match elemT P s with
      | some e => if intT P e = some .u8 then match rowsOf H x with
          | some rows => match bytesOf rows with
            | some l => some (.s (.str l), H2)
            | none => none
          | none => none
        else none
      | none => none
    else none) := by
    by_cases hd : isStringT P d = true
    · rw [if_pos hd, if_pos hd]
      cases elemT P s with
      | none => exact fr_none
      | some e =>
        simp only
        by_cases hi : intT P e = some .u8
        · rw [if_pos hi, if_pos hi]
          cases rowsOf H x with
          | none => exact fr_none
          | some rows =>
            simp only
            cases bytesOf rows with
            | none => exact fr_none
            | some l => exact fr_some
        · rw [if_neg hi]
          exact fr_none
    · rw [if_neg hd]
      exact fr_none
  cases x with
  | s v =>
    cases v with
    | int k n =>
      simp only [convertO]
      cases intT P d with
      | none => exact fr_none
      | some k => exact fr_some
    | str l =>
      simp only [convertO]
      by_cases hd : isStringT P d = true
      · rw [if_pos hd, if_pos hd]
        exact fr_some
      · rw [if_neg hd, if_neg hd]
        cases elemT P d with
        | none => exact fr_none
        | some e =>
          simp only
          split
          · exact fr_set hn
          · exact fr_none
    | _ =>
      simp only [convertO]
      rw [hr]
      exact tail
  | _ =>
    simp only [convertO]
    rw [hr]
    exact tail
theorem makeSliceO_fr {t : TypeId} {nid : Nat} {l c : PV} (hn : nid ∈ F) : Fr F H H2 (makeSliceO P t H nid l c) (makeSliceO P t H2 nid l c) := by
  unfold makeSliceO
  repeat' split
  all_goals first
    | exact fr_none
    | exact fr_some
    | exact fr_set hn
theorem appendO_fr {t t2 : TypeId} {nid : Nat} {s x : PV} (hn : nid ∈ F) (hs : ∀ j ∈ heads s, j ∈ F) (hp : ∀ j ∈ heads x, j ∈ F) : Fr F H H2 (appendO P t t2 H nid s x) (appendO P t t2 H2 nid s x) := by
  have hr := rowsOf_fr hA hp
  unfold appendO
  rw [hr]
  cases elemT P t with
  | none => exact fr_none
  | some e =>
  cases rowsOf H x with
  | none => exact fr_none
  | some new =>
  simp only
  cases ti P e with
  | none => exact fr_none
  | some y =>
  simp only
  by_cases hc : new.all (fun c => decide (c.length = y.size)) = true ∧ 0 < y.size ∧ y.bytes ≤ 65536 ∧ (t2 = t ∨ (isStringT P t2 = true ∧ intT P e = some .u8))
  · rw [if_pos hc, if_pos hc]
    cases s with
    | s v =>
      cases v with
      | nils =>
        simp only
        split
        · split
          · exact fr_some
          · exact fr_set hn
        · exact fr_none
      | slice es full =>
        simp only
        split
        · split
          · exact fr_some
          · split
            · exact fr_set hn
            · exact fr_none
        · exact fr_none
      | _ => exact fr_none
    | hsl id ver off n =>
      have hid : id ∈ F := hs _ (by simp [heads, heads1, heads0])
      simp only
      rw [hA _ hid]
      cases H id with
      | sarr ty sz v fz ap es =>
        cases ap with
        | true =>
          simp only
          split
          · split
            · exact fr_some
            · exact fr_set hid
          · exact fr_none
        | false => exact fr_none
      | _ => exact fr_none
    | _ => exact fr_none
  · rw [if_neg hc]
    exact fr_none
theorem boxO_fr {t : TypeId} {nid : Nat} {x : PV} (hn : nid ∈ F) : Fr F H H2 (boxO H nid t x) (boxO H2 nid t x) := by
  unfold boxO
  split
  · exact fr_set hn
  · exact fr_none
theorem allocO_fr {t : TypeId} {nid : Nat} (hn : nid ∈ F) : Fr F H H2 (allocO P H nid t) (allocO P H2 nid t) := by
  unfold allocO
  split
  · exact fr_set hn
  · exact fr_none
theorem builtinO_fr {E : Env} {b : Builtin} {ts : List TypeId} {nid : Nat} {args : List PV} (hn : ∀ x y, b = .append → args = [x, y] → nid ∈ F) (hp : b ≠ .max → b ≠ .min → ∀ p ∈ args, ∀ j ∈ heads p, j ∈ F) : Fr F H H2 (builtinO E b ts H nid args) (builtinO E b ts H2 nid args) := by
  unfold builtinO
  split
  · rename_i t x
    exact fr_pure' (lenV_fr hA (hp (by simp) (by simp) x (by simp)))
  · rename_i t t2 s x
    exact appendO_fr hA (hn s x rfl rfl) (hp (by simp) (by simp) s (by simp)) (hp (by simp) (by simp) x (by simp))
  · exact fr_pure
  · exact fr_pure
  · exact fr_none
end
end
end Go.Vm
