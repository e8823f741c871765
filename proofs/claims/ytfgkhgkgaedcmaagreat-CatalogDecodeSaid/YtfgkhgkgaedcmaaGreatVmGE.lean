/- Drawn regions, first part: what an operation looks at and what it turns. -/
import Derived.Test.YtfgkhgkgaedcmaaGreatVmGD
section
set_option linter.unusedVariables false
set_option linter.unusedSimpArgs false
namespace Go.Vm
open Go.RowKit

section
variable {E : Env}

theorem evalL_congr {T T2 : Nat → PV} : ∀ {l : List Operand}, (∀ x ∈ l, evalO E T2 x = evalO E T x) → evalL E T2 l = evalL E T l
  | [], h => rfl
  | x :: r, h => by
    simp only [evalL]
    rw [h x (List.mem_cons_self ..), evalL_congr (fun y hy => h y (List.mem_cons_of_mem _ hy))]
theorem evalP_congr {T T2 : Nat → PV} : ∀ {l : List (Nat × Operand)}, (∀ x ∈ l.map (·.2), evalO E T2 x = evalO E T x) → evalP E T2 l = evalP E T l
  | [], h => rfl
  | (i, x) :: r, h => by
    simp only [evalP]
    rw [h x (List.mem_cons_self ..), evalP_congr (fun y hy => h y (List.mem_cons_of_mem _ hy))]
theorem evalM_congr {T T2 : Nat → PV} {x : Option Operand} (h : ∀ y ∈ x.toArray, evalO E T2 y = evalO E T y) : evalM E T2 x = evalM E T x := by
  cases x with
  | none => rfl
  | some x =>
    simp only [evalM]
    rw [h x (by simp)]
theorem evalL_mem {T : Nat → PV} : ∀ {l : List Operand} {q : List PV}, evalL E T l = some q → ∀ p ∈ q, ∃ x ∈ l, evalO E T x = some p
  | [], q, h, p, hp => by
    simp only [evalL] at h
    injection h with h
    subst h
    cases hp
  | x :: r, q, h, p, hp => by
    simp only [evalL] at h
    obtain ⟨a, h1, h2⟩ := bnd_eq_some.1 h
    obtain ⟨b, h3, h4⟩ := bnd_eq_some.1 h2
    injection h4 with h4
    subst h4
    rcases List.mem_cons.1 hp with e | hp
    · exact ⟨x, List.mem_cons_self .., by rw [e]; exact h1⟩
    · obtain ⟨y, hy, e⟩ := evalL_mem h3 p hp
      exact ⟨y, List.mem_cons_of_mem _ hy, e⟩

theorem opStep_congr {op : Op} {T T2 : Nat → PV} {H : Ob} {nid : Nat} (h : ∀ x ∈ op.operands, evalO E T2 x = evalO E T x) : opStep E op T2 H nid = opStep E op T H nid := by
  cases op with
  | build t ps =>
    simp only [opStep]
    rw [evalP_congr (fun x hx => h x (by simpa [Op.operands] using hx))]
  | buildSlice t n ps =>
    simp only [opStep]
    rw [evalP_congr (fun x hx => h x (by simpa [Op.operands] using hx))]
  | makeFunc fn a b =>
    cases fn with
    | func f =>
      simp only [opStep]
      rw [evalL_congr (fun x hx => h x (by simp [Op.operands] at hx ⊢; exact .inl hx)), evalL_congr (fun x hx => h x (by simp [Op.operands] at hx ⊢; exact .inr hx))]
    | _ => rfl
  | slice t x l h' m =>
    cases m with
    | none =>
      simp only [opStep]
      rw [h x (by simp [Op.operands]), evalM_congr (fun y hy => h y (by simp [Op.operands] at hy ⊢; exact .inr (.inl hy))), evalM_congr (fun y hy => h y (by simp [Op.operands] at hy ⊢; exact .inr (.inr hy)))]
    | some m => rfl
  | makeMap t r => cases r <;> rfl
  | call c =>
    obtain ⟨ce, args, ts⟩ := c
    cases ce with
    | builtin b =>
      simp only [opStep]
      rw [evalL_congr (fun x hx => h x (by simp [Op.operands, Call.operands] at hx ⊢; exact hx))]
    | _ => rfl
  | _ => first
    | rfl
    | (simp only [opStep]; simp only [Op.operands] at h; simp only [List.mem_toArray, List.mem_cons, List.not_mem_nil, or_false, forall_eq_or_imp, forall_eq] at h; simp only [h])

def mix (F : List Nat) (A B : Ob) : Ob := fun j => if j ∈ F then A j else B j
theorem mix_same {F : List Nat} {H H2 : Ob} (h : ∀ j ∈ F, H2 j = H j) : mix F H H2 = H2 := by
  funext j
  unfold mix
  split
  · rename_i hj; exact (h j hj).symm
  · rfl
theorem mix_set {F : List Nat} {H H2 : Ob} {id : Nat} {o : HObj} (h : ∀ j ∈ F, H2 j = H j) (hid : id ∈ F) : mix F (H.set id o) H2 = H2.set id o := by
  funext j
  unfold mix Ob.set
  split
  · rename_i hj
    split
    · rfl
    · exact (h j hj).symm
  · rename_i hj
    rw [if_neg (fun e : j = id => hj (by rw [e]; exact hid))]
theorem set_off {F : List Nat} {H : Ob} {id j : Nat} {o : HObj} (hid : id ∈ F) (hj : j ∉ F) : (H.set id o) j = H j := by
  unfold Ob.set
  rw [if_neg (fun e : j = id => hj (by rw [e]; exact hid))]

/-- One of two runs at like objects: the same value; the objects turned alike. -/
def Fr (F : List Nat) (H H2 : Ob) (o o2 : Option (PV × Ob)) : Prop := ∀ p H', o = some (p, H') → (H' = H ∧ o2 = some (p, H2)) ∨ ∃ id ∈ F, ∃ ob, H' = H.set id ob ∧ o2 = some (p, H2.set id ob)
theorem fr_pure {F : List Nat} {H H2 : Ob} {o : Option PV} : Fr F H H2 (pureR H o) (pureR H2 o) := fun p H' h => by
  obtain ⟨h1, h2⟩ := pureR_some h
  refine .inl ⟨h2, ?_⟩
  rw [h1]
  rfl
theorem fr_pure' {F : List Nat} {H H2 : Ob} {o o2 : Option PV} (e : o2 = o) : Fr F H H2 (pureR H o) (pureR H2 o2) := by rw [e]; exact fr_pure
theorem fr_none {F : List Nat} {H H2 : Ob} {o : Option (PV × Ob)} : Fr F H H2 none o := fun p H' h => by cases h
theorem fr_bnd {α : Type} {F : List Nat} {H H2 : Ob} {o : Option α} {f g : α → Option (PV × Ob)} (h : ∀ a, o = some a → Fr F H H2 (f a) (g a)) : Fr F H H2 (bnd o f) (bnd o g) := fun p H' e => by
  obtain ⟨a, h1, h2⟩ := bnd_eq_some.1 e
  rw [h1]
  exact h a h1 p H' h2
theorem fr_some {F : List Nat} {H H2 : Ob} {p : PV} : Fr F H H2 (some (p, H)) (some (p, H2)) := fun q H' h => by
  injection h with h
  injection h with h1 h2
  exact .inl ⟨h2.symm, by rw [h1]⟩
theorem fr_set {F : List Nat} {H H2 : Ob} {p : PV} {id : Nat} {ob : HObj} (hid : id ∈ F) : Fr F H H2 (some (p, H.set id ob)) (some (p, H2.set id ob)) := fun q H' h => by
  injection h with h
  injection h with h1 h2
  exact .inr ⟨id, hid, ob, h2.symm, by rw [h1]⟩
theorem fr_unit {F : List Nat} {H H2 : Ob} {o o2 : Option Ob} (h : ∀ H', o = some H' → (H' = H ∧ o2 = some H2) ∨ ∃ id ∈ F, ∃ ob, H' = H.set id ob ∧ o2 = some (H2.set id ob)) : Fr F H H2 (unitR o) (unitR o2) := fun p H' e => by
  obtain ⟨h1, h2⟩ := unitR_some e
  subst h2
  rcases h H' h1 with ⟨a, b⟩ | ⟨id, hid, ob, a, b⟩
  · exact .inl ⟨a, by rw [b]; rfl⟩
  · exact .inr ⟨id, hid, ob, a, by rw [b]; rfl⟩

set_option linter.unusedSectionVars false
section
variable {P : Program} {F : List Nat} {H H2 : Ob} (hA : ∀ j ∈ F, H2 j = H j)
include hA
theorem loadO_fr {t : TypeId} {p : PV} (hp : ∀ j ∈ heads p, j ∈ F) : loadO P t H2 p = loadO P t H p := by
  cases p <;> simp only [loadO]
  · rw [hA _ (hp _ (by simp [heads, heads1, heads0]))]
  · rw [hA _ (hp _ (by simp [heads, heads1, heads0]))]
theorem fieldA_fr {t : TypeId} {p : PV} {f : Nat} (hp : ∀ j ∈ heads p, j ∈ F) : fieldA P t H2 f p = fieldA P t H f p := by
  cases p <;> simp only [fieldA]
  · rw [hA _ (hp _ (by simp [heads, heads1, heads0]))]
theorem indexA_fr {t : TypeId} {x i : PV} (hp : ∀ j ∈ heads x, j ∈ F) : indexA P t H2 x i = indexA P t H x i := by
  cases i with
  | s v => cases v with
    | int k n => cases x with
      | hsl id ver off n => simp only [indexA]; rw [hA _ (hp _ (by simp [heads, heads1, heads0]))]
      | s v => cases v <;> rfl
      | _ => rfl
    | _ => rfl
  | _ => rfl
theorem sliceV_fr {t : TypeId} {x : PV} {l h : Option PV} (hp : ∀ j ∈ heads x, j ∈ F) : sliceV P t H2 x l h = sliceV P t H x l h := by
  cases x with
  | hsl id ver off n => simp only [sliceV]; rw [hA _ (hp _ (by simp [heads, heads1, heads0]))]
  | s v => cases v <;> rfl
  | _ => rfl
theorem lenV_fr {t : TypeId} {x : PV} (hp : ∀ j ∈ heads x, j ∈ F) : lenV P t H2 x = lenV P t H x := by
  cases x with
  | hsl id ver off n => simp only [lenV]; rw [hA _ (hp _ (by simp [heads, heads1, heads0]))]
  | map id => simp only [lenV]; rw [hA _ (hp _ (by simp [heads, heads1, heads0]))]
  | s v => cases v <;> rfl
  | _ => rfl
theorem rowsOf_fr {x : PV} (hp : ∀ j ∈ heads x, j ∈ F) : rowsOf H2 x = rowsOf H x := by
  cases x with
  | hsl id ver off n => simp only [rowsOf]; rw [hA _ (hp _ (by simp [heads, heads1, heads0]))]
  | s v => cases v <;> rfl
  | _ => rfl
theorem lookupV_fr {t : TypeId} {m k : PV} {ok : Bool} (hp : ∀ j ∈ heads m, j ∈ F) : lookupV P t H2 m k ok = lookupV P t H m k ok := by
  cases m with
  | map id => cases k with
    | s k => simp only [lookupV]; rw [hA _ (hp _ (by simp [heads, heads1, heads0]))]
    | _ => rfl
  | _ => rfl
omit hA in
theorem toSVs_thaws {H : Ob} : ∀ {l : List PV} {q : List SV}, toSVs l = some q → thaws H l = some (q, H)
  | [], q, h => by
    simp only [toSVs] at h
    injection h with h
    subst h
    rfl
  | p :: r, q, h => by
    cases p with
    | s v =>
      simp only [toSVs] at h
      split at h
      · rename_i q1 h1
        injection h with h
        subst h
        simp only [thaws, thaw, toSVs_thaws h1]
      · cases h
    | _ => simp [toSVs] at h
theorem storeO_fr {t : TypeId} {p x : PV} (hp : ∀ j ∈ heads p, j ∈ F) : ∀ H', storeO P t H p x = some H' → (H' = H ∧ storeO P t H2 p x = some H2) ∨ ∃ id ∈ F, ∃ ob, H' = H.set id ob ∧ storeO P t H2 p x = some (H2.set id ob) := by
  intro H' h
  cases p with
  | ptr id off =>
    have hid : id ∈ F := hp _ (by simp [heads, heads1, heads0])
    simp only [storeO] at h ⊢
    rw [hA _ hid]
    split at h
    · split at h
      · rename_i hc
        injection h with h
        exact .inr ⟨id, hid, _, h.symm, by rw [if_pos hc]⟩
      · cases h
    · cases h
  | aptr id ver i off =>
    have hid : id ∈ F := hp _ (by simp [heads, heads1, heads0])
    simp only [storeO] at h ⊢
    rw [hA _ hid]
    cases hx : toSVs x.cells with
    | none =>
      rw [hx] at h
      split at h
      · cases h
      · cases h
    | some xs =>
      rw [toSVs_thaws hx] at h ⊢
      rw [hx] at h
      split at h
      · rename_i y ty sz v ap es xs' _ e1 e2 e3
        simp only at h
        split at h
        · rename_i hc
          split at h
          · rename_i c hc2
            split at h
            · rename_i hc3
              injection h with h
              refine .inr ⟨id, hid, _, h.symm, ?_⟩
              simp only [e1, e2, hx, if_pos hc, hc2, if_pos hc3]
            · cases h
          · cases h
        · cases h
      · cases h
  | _ => simp [storeO] at h
theorem mapUpdateO_fr {t : TypeId} {m k x : PV} (hp : ∀ j ∈ heads m, j ∈ F) : ∀ H', mapUpdateO P t H m k x = some H' → (H' = H ∧ mapUpdateO P t H2 m k x = some H2) ∨ ∃ id ∈ F, ∃ ob, H' = H.set id ob ∧ mapUpdateO P t H2 m k x = some (H2.set id ob) := by
  intro H' h
  unfold mapUpdateO at h
  split at h
  · rename_i id key v
    have hid : id ∈ F := hp _ (by simp [heads, heads1, heads0])
    split at h
    · rename_i es kt et h1 h2
      split at h
      · rename_i hc
        split at h
        · rename_i h3
          injection h with h
          exact .inr ⟨id, hid, _, h.symm, by simp only [mapUpdateO, hA _ hid, h1, h2, if_pos hc, h3]⟩
        · rename_i h3
          injection h with h
          exact .inr ⟨id, hid, _, h.symm, by simp only [mapUpdateO, hA _ hid, h1, h2, if_pos hc, h3]⟩
        · cases h
      · cases h
    · cases h
  · cases h
theorem convertO_fr {s d : TypeId} {nid : Nat} {x : PV} (hn : nid ∈ F) (hp : ∀ j ∈ heads x, j ∈ F) : Fr F H H2 (convertO P s d H nid x) (convertO P s d H2 nid x) := by
  have hr := rowsOf_fr hA hp
  have tail : Fr F H H2 (if isStringT P d = true then match elemT P s with
      | some e => if intT P e = some .u8 then match rowsOf H x with
          | some rows => match bytesOf rows with
            | some l => some (.s (.str l), H)
            | none => none
          | none => none
        else none
      | none => none
    else none) (if isStringT P d = true then match elemT P s with
      | some e => if intT P e = some .u8 then match rowsOf H x with
          | some rows => match bytesOf rows with
            | some l => some (.s (.str l), H2)
            | none => none
          | none => none
        else none
      | none => none
    else none) := by
    by_cases hd : isStringT P d = true
    · rw [if_pos hd, if_pos hd]
      cases elemT P s with
      | none => exact fr_none
      | some e =>
        simp only
        by_cases hi : intT P e = some .u8
        · rw [if_pos hi, if_pos hi]
          cases rowsOf H x with
          | none => exact fr_none
          | some rows =>
            simp only
            cases bytesOf rows with
            | none => exact fr_none
            | some l => exact fr_some
        · rw [if_neg hi]
          exact fr_none
    · rw [if_neg hd]
      exact fr_none
  cases x with
  | s v =>
    cases v with
    | int k n =>
      simp only [convertO]
      cases intT P d with
      | none => exact fr_none
      | some k => exact fr_some
    | str l =>
      simp only [convertO]
      by_cases hd : isStringT P d = true
      · rw [if_pos hd, if_pos hd]
        exact fr_some
      · rw [if_neg hd, if_neg hd]
        cases elemT P d with
        | none => exact fr_none
        | some e =>
          simp only
          split
          · exact fr_set hn
          · exact fr_none
    | _ =>
      simp only [convertO]
      rw [hr]
      exact tail
  | _ =>
    simp only [convertO]
    rw [hr]
    exact tail
theorem makeSliceO_fr {t : TypeId} {nid : Nat} {l c : PV} (hn : nid ∈ F) : Fr F H H2 (makeSliceO P t H nid l c) (makeSliceO P t H2 nid l c) := by
  unfold makeSliceO
  repeat' split
  all_goals first
    | exact fr_none
    | exact fr_some
    | exact fr_set hn
theorem appendO_fr {t t2 : TypeId} {nid : Nat} {s x : PV} (hn : nid ∈ F) (hs : ∀ j ∈ heads s, j ∈ F) (hp : ∀ j ∈ heads x, j ∈ F) : Fr F H H2 (appendO P t t2 H nid s x) (appendO P t t2 H2 nid s x) := by
  have hr := rowsOf_fr hA hp
  unfold appendO
  rw [hr]
  cases elemT P t with
  | none => exact fr_none
  | some e =>
  cases rowsOf H x with
  | none => exact fr_none
  | some new =>
  simp only
  cases ti P e with
  | none => exact fr_none
  | some y =>
  simp only
  by_cases hc : new.all (fun c => decide (c.length = y.size)) = true ∧ 0 < y.size ∧ y.bytes ≤ 65536 ∧ (t2 = t ∨ (isStringT P t2 = true ∧ intT P e = some .u8))
  · rw [if_pos hc, if_pos hc]
    cases s with
    | s v =>
      cases v with
      | nils =>
        simp only
        split
        · split
          · exact fr_some
          · exact fr_set hn
        · exact fr_none
      | slice es full =>
        simp only
        split
        · split
          · exact fr_some
          · split
            · exact fr_set hn
            · exact fr_none
        · exact fr_none
      | _ => exact fr_none
    | hsl id ver off n =>
      have hid : id ∈ F := hs _ (by simp [heads, heads1, heads0])
      simp only
      rw [hA _ hid]
      cases H id with
      | sarr ty sz v fz ap es =>
        cases ap with
        | true =>
          simp only
          split
          · split
            · exact fr_some
            · exact fr_set hid
          · exact fr_none
        | false => exact fr_none
      | _ => exact fr_none
    | _ => exact fr_none
  · rw [if_neg hc]
    exact fr_none
theorem boxO_fr {t : TypeId} {nid : Nat} {x : PV} (hn : nid ∈ F) : Fr F H H2 (boxO H nid t x) (boxO H2 nid t x) := by
  unfold boxO
  split
  · exact fr_set hn
  · exact fr_none
theorem allocO_fr {t : TypeId} {nid : Nat} (hn : nid ∈ F) : Fr F H H2 (allocO P H nid t) (allocO P H2 nid t) := by
  unfold allocO
  split
  · exact fr_set hn
  · exact fr_none
theorem builtinO_fr {E : Env} {b : Builtin} {ts : List TypeId} {nid : Nat} {args : List PV} (hn : ∀ x y, b = .append → args = [x, y] → nid ∈ F) (hp : b ≠ .max → b ≠ .min → ∀ p ∈ args, ∀ j ∈ heads p, j ∈ F) : Fr F H H2 (builtinO E b ts H nid args) (builtinO E b ts H2 nid args) := by
  unfold builtinO
  split
  · rename_i t x
    exact fr_pure' (lenV_fr hA (hp (by simp) (by simp) x (by simp)))
  · rename_i t t2 s x
    exact appendO_fr hA (hn s x rfl rfl) (hp (by simp) (by simp) s (by simp)) (hp (by simp) (by simp) x (by simp))
  · exact fr_pure
  · exact fr_pure
  · exact fr_none
end
end
end Go.Vm
end
section
set_option linter.unusedVariables false
set_option linter.unusedSimpArgs false
namespace Go.Vm
open Go.RowKit

section
variable {E : Env}

theorem touch_mem {op : Op} {T : Nat → PV} {nid : Nat} {x : Operand} {p : PV} (hk : kindO E op ≠ 0) (hx : x ∈ op.operands.toList) (hp : evalO E T x = some p) : ∀ j ∈ heads p, j ∈ touchO E op T nid := by
  intro j hj
  have hm : j ∈ op.operands.toList.flatMap (opndIds E T) := List.mem_flatMap.2 ⟨x, hx, by unfold opndIds; rw [hp]; exact hj⟩
  unfold touchO
  split
  · rename_i h; exact absurd h hk
  · exact hm
  · exact List.mem_cons_of_mem _ hm
theorem touch_nid {op : Op} {T : Nat → PV} {nid : Nat} (hk : kindO E op = 2) : nid ∈ touchO E op T nid := by
  unfold touchO
  rw [hk]
  exact List.mem_cons_self ..

theorem opStep_fr {op : Op} {T : Nat → PV} {H H2 : Ob} {nid : Nat} (hb : ∀ t n ps, op ≠ .buildSlice t n ps) (hA : ∀ j ∈ touchO E op T nid, H2 j = H j) : Fr (touchO E op T nid) H H2 (opStep E op T H nid) (opStep E op T H2 nid) := by
  cases op with
  | buildSlice t n ps => exact absurd rfl (hb t n ps)
  | move x => exact fr_pure
  | assign x => exact fr_pure
  | pick c a b =>
    simp only [opStep]
    refine fr_bnd fun c _ => fr_bnd fun a _ => fr_bnd fun b _ => ?_
    split
    · exact fr_some
    · exact fr_none
  | alloc t => exact allocO_fr hA (touch_nid rfl)
  | box t x => exact fr_bnd fun a _ => boxO_fr hA (touch_nid rfl)
  | build t ps => exact fr_bnd fun a _ => fr_pure
  | load t a => exact fr_bnd fun p hp => fr_pure' (loadO_fr hA (touch_mem (by simp [kindO]) (by simp [Op.operands]) hp))
  | store t a x => exact fr_bnd fun p hp => fr_bnd fun q hq => fr_unit (storeO_fr hA (touch_mem (by simp [kindO]) (by simp [Op.operands]) hp))
  | nilCheck x => exact fr_bnd fun a _ => fr_pure
  | binOp op t x y u => exact fr_bnd fun a _ => fr_bnd fun b _ => fr_pure
  | unOp op t x => exact fr_bnd fun a _ => fr_pure
  | convert s d x =>
    refine fr_bnd fun p hp => ?_
    split
    · exact convertO_fr hA (touch_nid rfl) (touch_mem (by simp [kindO]) (by simp [Op.operands]) hp)
    · exact fr_none
  | makeInterface t x => exact fr_bnd fun a _ => fr_pure
  | makeFunc fn a b =>
    cases fn with
    | func f => exact fr_bnd fun a _ => fr_bnd fun b _ => fr_some
    | _ => exact fr_none
  | makeMap t r =>
    cases r with
    | none => exact fr_set (touch_nid rfl)
    | some r => exact fr_none
  | makeSlice t l c => exact fr_bnd fun a _ => fr_bnd fun b _ => makeSliceO_fr hA (touch_nid rfl)
  | slice t x l h m =>
    cases m with
    | none => exact fr_bnd fun p hp => fr_bnd fun b _ => fr_bnd fun c _ => fr_pure' (sliceV_fr hA (touch_mem (by simp [kindO]) (by simp [Op.operands]) hp))
    | some m => exact fr_none
  | fieldAddr s x f => exact fr_bnd fun p hp => fr_pure' (fieldA_fr hA (touch_mem (by simp [kindO]) (by simp [Op.operands]) hp))
  | field s x f => exact fr_bnd fun p hp => fr_pure
  | indexAddr t x i => exact fr_bnd fun p hp => fr_bnd fun i _ => fr_pure' (indexA_fr hA (touch_mem (by simp [kindO]) (by simp [Op.operands]) hp))
  | index t x i => exact fr_bnd fun p hp => fr_bnd fun i _ => fr_pure
  | lookup t m k ok => exact fr_bnd fun p hp => fr_bnd fun i _ => fr_pure' (lookupV_fr hA (touch_mem (by simp [kindO]) (by simp [Op.operands]) hp))
  | mapUpdate t m k x => exact fr_bnd fun p hp => fr_bnd fun q _ => fr_bnd fun r _ => fr_unit (mapUpdateO_fr hA (touch_mem (by simp [kindO]) (by simp [Op.operands]) hp))
  | insert t m k x => exact fr_bnd fun p hp => fr_bnd fun q _ => fr_bnd fun r _ => fr_unit (mapUpdateO_fr hA (touch_mem (by simp [kindO]) (by simp [Op.operands]) hp))
  | typeAssert x s t ok => exact fr_bnd fun p hp => fr_pure
  | extract x i => exact fr_bnd fun p hp => fr_pure
  | call c =>
    obtain ⟨ce, args, ts⟩ := c
    cases ce with
    | builtin b =>
      refine fr_bnd fun q hq => builtinO_fr hA (fun x y e1 e2 => ?_) (fun n1 n2 p hp j hj => ?_)
      · subst e1
        exact touch_nid rfl
      · obtain ⟨x, hx, ex⟩ := evalL_mem hq p hp
        refine touch_mem ?_ (by simp only [Op.operands, Call.operands]; simpa using hx) ex j hj
        cases b <;> first
          | exact absurd rfl n1
          | exact absurd rfl n2
          | simp [kindO]
    | _ => exact fr_none
  | _ => exact fr_none

theorem opStep_keep {op : Op} {T : Nat → PV} {H H' : Ob} {nid : Nat} {p : PV} (hb : ∀ t n ps, op ≠ .buildSlice t n ps) (hk : kindO E op < 2) (h : opStep E op T H nid = some (p, H')) : H' = H := by
  have key : ∀ {o : Option (PV × Ob)}, (∀ q H1, o = some (q, H1) → H1 = H) → o = some (p, H') → H' = H := fun a b => a _ _ b
  have kp : ∀ {o : Option PV}, ∀ q H1, pureR H o = some (q, H1) → H1 = H := fun q H1 e => (pureR_some e).2
  have kb : ∀ {α : Type} {o : Option α} {f : α → Option (PV × Ob)}, (∀ a q H1, f a = some (q, H1) → H1 = H) → ∀ q H1, bnd o f = some (q, H1) → H1 = H := fun hf q H1 e => by
    obtain ⟨a, _, e⟩ := bnd_eq_some.1 e
    exact hf a q H1 e
  have ks : ∀ {q0 : PV} (q : PV) (H1 : Ob), some (q0, H) = some (q, H1) → H1 = H := fun q H1 e => by injection e with e; injection e with _ e; exact e.symm
  have kn : ∀ (q : PV) (H1 : Ob), (none : Option (PV × Ob)) = some (q, H1) → H1 = H := fun q H1 e => by cases e
  refine key ?_ h
  cases op with
  | buildSlice t n ps => exact absurd rfl (hb t n ps)
  | move x => exact kp
  | assign x => exact kp
  | pick c a b =>
    simp only [opStep]
    refine kb fun c => kb fun a => kb fun b => ?_
    split
    · exact ks
    · exact kn
  | build t ps => exact kb fun a => kp
  | load t a => exact kb fun p => kp
  | nilCheck x => exact kb fun a => kp
  | binOp op t x y u => exact kb fun a => kb fun b => kp
  | unOp op t x => exact kb fun a => kp
  | makeInterface t x => exact kb fun a => kp
  | makeFunc fn a b =>
    cases fn with
    | func f => exact kb fun a => kb fun b => ks
    | _ => exact kn
  | slice t x l h m =>
    cases m with
    | none => exact kb fun p => kb fun b => kb fun c => kp
    | some m => exact kn
  | fieldAddr s x f => exact kb fun p => kp
  | field s x f => exact kb fun p => kp
  | indexAddr t x i => exact kb fun p => kb fun i => kp
  | index t x i => exact kb fun p => kb fun i => kp
  | lookup t m k ok => exact kb fun p => kb fun i => kp
  | typeAssert x s t ok => exact kb fun p => kp
  | extract x i => exact kb fun p => kp
  | call c =>
    obtain ⟨ce, args, ts⟩ := c
    cases ce with
    | builtin b =>
      refine kb fun q => ?_
      intro q1 H1 e
      unfold builtinO at e
      split at e
      · exact kp _ _ e
      · simp [kindO] at hk
      · exact kp _ _ e
      · exact kp _ _ e
      · exact kn _ _ e
    | _ => exact kn
  | _ => first
    | exact kn
    | (simp [kindO] at hk; done)

mutual
theorem lend_zero {H : Ob} : ∀ {p : PV}, idb p = 0 → lend H p = some (p, H)
  | .hsl id ver off n, h => by simp [idb] at h
  | .agg cs, h => by
    simp only [idb] at h
    simp only [lend, lendL_zero h, bnd_some]
  | .s v, h => by simp only [lend]
  | .ptr id off, h => by simp [idb] at h
  | .eptr es i off, h => by simp only [lend]
  | .aptr id ver i off, h => by simp [idb] at h
  | .func f a b, h => by simp only [lend]
  | .iface t v, h => by simp only [lend]
  | .map id, h => by simp [idb] at h
  | .tuple vs, h => by simp only [lend]
theorem lendL_zero {H : Ob} : ∀ {l : List PV}, idbL l = 0 → lendL H l = some (l, H)
  | [], h => rfl
  | p :: r, h => by
    simp only [idbL] at h
    simp only [lendL, lend_zero (by omega : idb p = 0), lendL_zero (by omega : idbL r = 0), bnd_some]
end
theorem thaw_zero {H H1 : Ob} {p : PV} {v : SV} (h : idb p = 0) (ht : thaw H p = some (v, H1)) : ∀ H2, thaw H2 p = some (v, H2) := by
  intro H2
  unfold thaw at ht ⊢
  split at ht
  · injection ht with ht; injection ht with e1 e2; subst e1; rfl
  · simp [idb] at h
  · injection ht with ht; injection ht with e1 e2; subst e1; rfl
  · cases ht
theorem thaws_zero : ∀ {l : List PV} {q : List SV} {H H1 : Ob}, idbL l = 0 → thaws H l = some (q, H1) → ∀ H2, thaws H2 l = some (q, H2)
  | [], q, H, H1, h, ht, H2 => by
    simp only [thaws] at ht
    injection ht with ht; injection ht with e1 e2; subst e1; rfl
  | p :: r, q, H, H1, h, ht, H2 => by
    simp only [idbL] at h
    simp only [thaws] at ht ⊢
    split at ht
    · rename_i v Ha ha
      split at ht
      · rename_i q1 Hb hb
        injection ht with ht; injection ht with e1 e2; subst e1
        rw [thaw_zero (by omega) ha H2]
        simp only
        rw [thaws_zero (by omega) hb H2]
      · cases ht
    · cases ht
theorem idb_cells {p : PV} (h : idb p = 0) : idbL p.cells = 0 := by
  cases p <;> simp_all [PV.cells, idbL, idb]
theorem rowParts_zero {size : Nat} : ∀ {l : List (Nat × PV)} {c q : List (List SV)} {H H1 : Ob}, (∀ x ∈ l, idb x.2 = 0) → rowParts size H c l = some (q, H1) → H1 = H ∧ ∀ H2, rowParts size H2 c l = some (q, H2)
  | [], c, q, H, H1, h, ht => by
    simp only [rowParts] at ht
    injection ht with ht; injection ht with e1 e2; subst e1; subst e2
    exact ⟨rfl, fun H2 => rfl⟩
  | (i, x) :: r, c, q, H, H1, h, ht => by
    simp only [rowParts] at ht ⊢
    have hz := idb_cells (h (i, x) (List.mem_cons_self ..))
    split at ht
    · rename_i v Ha ha
      have e : Ha = H := by
        have := thaws_zero hz ha H
        rw [this] at ha
        injection ha with ha
        injection ha with _ ha
        exact ha.symm
      subst e
      split at ht
      · rename_i hc
        obtain ⟨g1, g2⟩ := rowParts_zero (fun y hy => h y (List.mem_cons_of_mem _ hy)) ht
        refine ⟨g1, fun H2 => ?_⟩
        rw [thaws_zero hz ha H2]
        simp only
        rw [if_pos hc]
        exact g2 H2
      · cases ht
    · cases ht
theorem buildSliceO_zero {P : Program} {t : TypeId} {H H1 : Ob} {n : Nat} {ps : List (Nat × PV)} {p : PV} (hz : ∀ x ∈ ps, idb x.2 = 0) (h : buildSliceO P t H n ps = some (p, H1)) : H1 = H ∧ ∀ H2, buildSliceO P t H2 n ps = some (p, H2) := by
  unfold buildSliceO at h ⊢
  split at h
  · rename_i e he
    split at h
    · rename_i y hy
      split at h
      · rename_i hc
        split at h
        · rename_i es Ha ha
          obtain ⟨g1, g2⟩ := rowParts_zero hz ha
          injection h with h
          injection h with e1 e2
          subst e1; subst e2
          refine ⟨g1, fun H2 => ?_⟩
          rw [if_pos hc, g2 H2]
        · cases h
      · cases h
    · cases h
  · cases h
theorem fzC_lend {H : Ob} {p : PV} (h : fzC H p = true) : ∃ q, lend H p = some (q, H) ∧ idb q = 0 ∧ ∀ H2, (∀ j ∈ heads0 p, H2 j = H j) → fzC H2 p = true ∧ lend H2 p = some (q, H2) := by
  cases p with
  | s v => exact ⟨.s v, rfl, rfl, fun H2 _ => ⟨rfl, rfl⟩⟩
  | eptr es i off => exact ⟨.eptr es i off, rfl, rfl, fun H2 _ => ⟨rfl, rfl⟩⟩
  | hsl id ver off n =>
    have key : ∀ H : Ob, fzC H (.hsl id ver off n) = true → ∃ ty sz ap es, H id = .sarr ty sz ver true ap es ∧ off + n ≤ es.length := by
      intro H h
      simp only [fzC] at h
      split at h
      · rename_i ty sz v fz ap es hH
        simp only [Bool.and_eq_true, decide_eq_true_eq] at h
        obtain ⟨⟨h1, h2⟩, h3⟩ := h
        subst h1; subst h2
        exact ⟨ty, sz, ap, es, hH, h3⟩
      · cases h
    obtain ⟨ty, sz, ap, es, hH, hle⟩ := key H h
    have run : ∀ H : Ob, H id = .sarr ty sz ver true ap es → lend H (.hsl id ver off n) = some (.s (.slice ((es.drop off).take n) false), H) := by
      intro H hH
      have hr : rowsOf H (.hsl id ver off n) = some ((es.drop off).take n) := by
        simp only [rowsOf, hH]
        rw [if_pos ⟨trivial, hle⟩]
      have hf : freeze1 H id = H := by
        have e : freeze1 H id = H.set id (.sarr ty sz ver true ap es) := by simp only [freeze1, hH]
        rw [e]
        funext j
        unfold Ob.set
        by_cases hj : j = id
        · rw [if_pos hj, hj, hH]
        · rw [if_neg hj]
      simp only [lend, hr, bnd_some, hf]
    refine ⟨_, run H hH, rfl, fun H2 h2 => ?_⟩
    have h2' : H2 id = .sarr ty sz ver true ap es := by rw [h2 id (List.mem_cons_self ..), hH]
    refine ⟨?_, run H2 h2'⟩
    simp only [fzC, h2']
    simp [hle]
  | _ => cases h
theorem fzC_lendL {H : Ob} : ∀ {l : List PV}, l.all (fzC H) = true → ∃ q, lendL H l = some (q, H) ∧ idbL q = 0 ∧ ∀ H2, (∀ j ∈ l.flatMap heads0, H2 j = H j) → l.all (fzC H2) = true ∧ lendL H2 l = some (q, H2)
  | [], h => ⟨[], rfl, rfl, fun H2 _ => ⟨rfl, rfl⟩⟩
  | p :: r, h => by
    simp only [List.all_cons, Bool.and_eq_true] at h
    obtain ⟨q, h1, h2, h3⟩ := fzC_lend h.1
    obtain ⟨qs, h4, h5, h6⟩ := fzC_lendL h.2
    refine ⟨q :: qs, ?_, ?_, fun H2 hh => ?_⟩
    · simp only [lendL, h1, bnd_some, h4]
    · simp only [idbL, h2, h5]; rfl
    · obtain ⟨k1, k2⟩ := h3 H2 (fun j hj => hh j (by rw [List.flatMap_cons]; exact List.mem_append_left _ hj))
      obtain ⟨k3, k4⟩ := h6 H2 (fun j hj => hh j (by rw [List.flatMap_cons]; exact List.mem_append_right _ hj))
      refine ⟨by simp only [List.all_cons, k1, k3, Bool.and_self], ?_⟩
      simp only [lendL, k2, bnd_some, k4]
theorem fzA_lend {H : Ob} {p : PV} (h : fzA H p = true) : ∃ q, lend H p = some (q, H) ∧ idb q = 0 ∧ ∀ H2, (∀ j ∈ headsA p, H2 j = H j) → fzA H2 p = true ∧ lend H2 p = some (q, H2) := by
  cases p with
  | agg cs =>
    obtain ⟨q, h1, h2, h3⟩ := fzC_lendL (l := cs) h
    refine ⟨.agg q, ?_, ?_, fun H2 hh => ?_⟩
    · simp only [lend, h1, bnd_some]
    · simpa only [idb] using h2
    · obtain ⟨k1, k2⟩ := h3 H2 hh
      exact ⟨k1, by simp only [lend, k2, bnd_some]⟩
  | s v => exact fzC_lend h
  | eptr es i off => exact fzC_lend h
  | hsl id ver off n => exact fzC_lend h
  | _ => cases h
theorem fzA_lendL {H : Ob} : ∀ {l : List PV}, l.all (fzA H) = true → ∃ q, lendL H l = some (q, H) ∧ idbL q = 0 ∧ ∀ H2, (∀ j ∈ l.flatMap headsA, H2 j = H j) → l.all (fzA H2) = true ∧ lendL H2 l = some (q, H2)
  | [], h => ⟨[], rfl, rfl, fun H2 _ => ⟨rfl, rfl⟩⟩
  | p :: r, h => by
    simp only [List.all_cons, Bool.and_eq_true] at h
    obtain ⟨q, h1, h2, h3⟩ := fzA_lend h.1
    obtain ⟨qs, h4, h5, h6⟩ := fzA_lendL h.2
    refine ⟨q :: qs, ?_, ?_, fun H2 hh => ?_⟩
    · simp only [lendL, h1, bnd_some, h4]
    · simp only [idbL, h2, h5]; rfl
    · obtain ⟨k1, k2⟩ := h3 H2 (fun j hj => hh j (by rw [List.flatMap_cons]; exact List.mem_append_left _ hj))
      obtain ⟨k3, k4⟩ := h6 H2 (fun j hj => hh j (by rw [List.flatMap_cons]; exact List.mem_append_right _ hj))
      refine ⟨by simp only [List.all_cons, k1, k3, Bool.and_self], ?_⟩
      simp only [lendL, k2, bnd_some, k4]
theorem doCall_fz {callc : CallC} {run : Run} {f : FuncId} {args : List PV} {H H1 : Ob} {next n1 : Nat} {o : Out} (hlf : E.loc f = false) (h : doCall E callc run true f args H next = some (o, H1, n1)) : H1 = H ∧ n1 = next ∧ ∀ H2 n2, (∀ j ∈ args.flatMap headsA, H2 j = H j) → doCall E callc run true f args H2 n2 = some (o, H2, n2) := by
  unfold doCall at h
  split at h
  · simp at h
  · rename_i hf
    rw [if_neg (by rw [hlf]; exact Bool.false_ne_true)] at h
    obtain ⟨a, h1, h2⟩ := bnd_eq_some.1 h
    simp only at h2
    split at h2
    · cases h2
    · rename_i hz
      have hz : args.all (fzA H) = true := by
        simp only [true_and] at hz
        simpa using hz
      obtain ⟨q, k1, k2, k3⟩ := fzA_lendL hz
      rw [k1] at h1
      injection h1 with h1
      subst h1
      simp only [k2] at h2
      simp only [Nat.zero_le, firstO, List.all_nil, and_self, if_true] at h2
      obtain ⟨r, h3, h4⟩ := bnd_eq_some.1 h2
      injection h4 with h4
      injection h4 with e1 e2
      injection e2 with e2 e3
      subst e1; subst e2; subst e3
      refine ⟨rfl, rfl, fun H2 n2 hh => ?_⟩
      obtain ⟨k4, k5⟩ := k3 H2 hh
      unfold doCall
      rw [if_neg hf, if_neg (by rw [hlf]; exact Bool.false_ne_true), k5]
      simp only [bnd_some, k2, k4, Nat.zero_le, firstO, List.all_nil, and_self, if_true, h3]
      simp
theorem doCall_loc {callc : CallC} {run : Run} {f : FuncId} {args : List PV} {H H1 : Ob} {next n1 : Nat} {o : Out} (hlf : E.loc f = true) (h : doCall E callc run true f args H next = some (o, H1, n1)) : doLoc callc f args H (next - 1) = some (o, H1) ∧ n1 = next := by
  unfold doCall at h
  split at h
  · simp at h
  · obtain ⟨⟨o1, H1'⟩, k1, k2⟩ := bnd_eq_some.1 h
    injection k2 with k2
    injection k2 with q1 k2
    injection k2 with q2 q3
    subst q1; subst q2; subst q3
    exact ⟨k1, rfl⟩
theorem headsA_heads {p : PV} {j : Nat} (h : j ∈ headsA p) : j ∈ heads p := by
  cases p with
  | agg cs =>
    simp only [headsA, heads, List.mem_flatMap] at h ⊢
    obtain ⟨c, hc, h⟩ := h
    refine ⟨c, hc, ?_⟩
    cases c <;> first | exact h | cases h
  | func f a b => cases h
  | _ => exact h
theorem call_kind {fv : Operand} {args : Array Operand} {ts : Array TypeId} : kindO E (.call { callee := .value fv, args := args, argTypes := ts }) ≠ 0 ∧ ∀ {T : Nat → PV} {fv1 : PV} {c : FuncId × List PV × List PV}, evalO E T fv = some fv1 → callee fv1 = some c → E.loc c.1 = true → kindO E (.call { callee := .value fv, args := args, argTypes := ts }) = 2 := by
  constructor
  · unfold kindO
    cases fv with
    | func f => simp only []; split <;> decide
    | _ => simp
  · intro T fv1 c h1 h2 h3
    unfold kindO
    cases fv with
    | func f =>
      simp only [evalO] at h1
      injection h1 with h1
      subst h1
      simp only [callee] at h2
      injection h2 with h2
      subst h2
      simp only at h3
      simp [h3]
    | _ => rfl
/-- What a call looks at is among what its operation touches. -/
theorem call_heads {T : Nat → PV} {fv : Operand} {args : Array Operand} {ts : Array TypeId} {fv1 : PV} {args1 : List PV} {c : FuncId × List PV × List PV} {nid : Nat} (h1 : evalO E T fv = some fv1) (h2 : evalL E T args.toList = some args1) (h3 : callee fv1 = some c) :
    ∀ j ∈ (c.2.1 ++ args1 ++ c.2.2).flatMap headsA, j ∈ touchO E (.call { callee := .value fv, args := args, argTypes := ts }) T nid := by
  intro j hj
  have hk : kindO E (.call { callee := .value fv, args := args, argTypes := ts }) ≠ 0 := call_kind.1
  rw [List.flatMap_append, List.flatMap_append] at hj
  have hfn : ∀ l : List PV, (l = c.2.1 ∨ l = c.2.2) → j ∈ l.flatMap headsA → j ∈ heads fv1 := by
    intro l hl hin
    unfold callee at h3
    split at h3
    · injection h3 with h3
      subst h3
      rcases hl with e | e <;> (subst e; simp at hin)
    · injection h3 with h3
      subst h3
      simp only [heads, heads1, List.flatMap_append, List.mem_append]
      rcases hl with e | e
      · subst e; exact .inl hin
      · subst e; exact .inr hin
    · cases h3
  have hfv : j ∈ heads fv1 → j ∈ touchO E (.call { callee := .value fv, args := args, argTypes := ts }) T nid := fun h => touch_mem hk (by simp [Op.operands, Call.operands]) h1 j h
  rcases List.mem_append.1 hj with hj | hj
  · rcases List.mem_append.1 hj with hj | hj
    · exact hfv (hfn _ (.inl rfl) hj)
    · obtain ⟨p, hp, hj⟩ := List.mem_flatMap.1 hj
      obtain ⟨x, hx, hxp⟩ := evalL_mem h2 p hp
      exact touch_mem hk (by simp [Op.operands, Call.operands]; exact .inr (by simpa using hx)) hxp j (headsA_heads hj)
  · exact hfv (hfn _ (.inr rfl) hj)

/-- One step at two states that the operation cannot tell apart. -/
theorem stepO_fr {callc : CallC} {run : Run} {ops : Array Oper} {o : Oper} {T T1 : Nat → PV} {H H1 : Ob} {next n1 : Nat} (h : stepO E callc run ops true o T H next = some (.go T1 H1 n1)) :
    n1 = next + 1 ∧ (kindO E o.op < 2 → H1 = H) ∧ (∀ j, j ∉ touchO E o.op T next → H1 j = H j) ∧ ∃ p, T1 = putT T o.dst p ∧ ∀ (T2 : Nat → PV) (H2 : Ob), (∀ x ∈ o.op.operands, evalO E T2 x = evalO E T x) → wantedS ops T2 o.guard = wantedS ops T o.guard →
      (∀ j ∈ touchO E o.op T next, H2 j = H j) → stepO E callc run ops true o T2 H2 next = some (.go (putT T2 o.dst p) (mix (touchO E o.op T next) H1 H2) n1) := by
  unfold stepO at h
  split at h
  rotate_left
  · rename_i hw
    injection h with h
    injection h with e1 e2 e3
    subst e1; subst e2; subst e3
    refine ⟨rfl, fun _ => rfl, fun _ _ => rfl, .undef, rfl, fun T2 H2 hx hg hA => ?_⟩
    unfold stepO
    rw [hg, if_neg hw, mix_same hA]
  rename_i hw
  split at h
  · rename_i fv args ts hop
    obtain ⟨fv1, h1, h⟩ := bnd_eq_some.1 h
    obtain ⟨args1, h2, h⟩ := bnd_eq_some.1 h
    obtain ⟨c, h3, h⟩ := bnd_eq_some.1 h
    obtain ⟨r, h4, h⟩ := bnd_eq_some.1 h
    obtain ⟨ro, rH, rn⟩ := r
    cases ro with
    | panic v => simp at h
    | ret v =>
      simp only at h
      injection h with h
      injection h with e1 e2 e3
      have hch := call_heads (ts := ts) (nid := next) h1 h2 h3
      rw [← hop] at hch
      by_cases hlf : E.loc c.1 = true
      · have hk2 := (call_kind (fv := fv) (args := args) (ts := ts)).2 h1 h3 hlf
        rw [← hop] at hk2
        unfold doCall at h4
        split at h4
        · simp at h4
        rename_i href
        obtain ⟨⟨o1, H1'⟩, k1, k2⟩ := bnd_eq_some.1 h4
        injection k2 with k2
        injection k2 with q1 k2
        injection k2 with q2 q3
        simp only at q1 q2
        rw [Nat.add_sub_cancel] at k1
        subst q1; subst q2; subst q3; subst e1; subst e2; subst e3
        obtain ⟨_, fr, rr⟩ := doLoc_fr k1
        have hids : ∀ j ∈ idsOf (c.2.1 ++ args1 ++ c.2.2), j ∈ touchO E o.op T next := fun j hj => hch j (ids_mem.1 hj)
        have hnid := touch_nid (T := T) (nid := next) hk2
        have hfr : ∀ j, j ∉ touchO E o.op T next → H1' j = H j := fun j hj => fr j (fun hm => hj (hids j hm)) (fun e => hj (e ▸ hnid))
        refine ⟨rfl, fun hk => absurd hk (by omega), hfr, v, rfl, fun T2 H2 hx hg hA => ?_⟩
        unfold stepO
        rw [hg, if_pos hw]
        have hfv : evalO E T2 fv = evalO E T fv := hx fv (by rw [hop]; simp [Op.operands, Call.operands])
        have hal : evalL E T2 args.toList = evalL E T args.toList := evalL_congr (fun x hm => hx x (by rw [hop]; simp [Op.operands, Call.operands]; exact .inr (by simpa using hm)))
        obtain ⟨H2', w1, w2⟩ := rr H2 (fun j hj => hA j (hids j hj)) (hA next hnid)
        have eH : H2' = mix (touchO E o.op T next) H1' H2 := by
          funext j
          unfold mix
          by_cases hj : j ∈ touchO E o.op T next
          · rw [if_pos hj]
            by_cases hm : j ∈ idsOf (c.2.1 ++ args1 ++ c.2.2) ∨ j = next
            · exact (w2 j).1 hm
            · rw [(w2 j).2 (fun x => hm (.inl x)) (fun x => hm (.inr x)), hA j hj]
              exact (fr j (fun x => hm (.inl x)) (fun x => hm (.inr x))).symm
          · rw [if_neg hj]
            exact (w2 j).2 (fun x => hj (hids j x)) (fun x => hj (x ▸ hnid))
        split
        · rename_i fv' args' ts' hop'
          rw [hop] at hop'
          injection hop' with hop'
          injection hop' with e1 e2 e3
          injection e1 with e1
          subst e1; subst e2
          rw [hfv, hal, h1, h2]
          simp only [bnd_some, h3]
          unfold doCall
          rw [if_neg href, if_pos hlf, Nat.add_sub_cancel, w1, eH]
          rfl
        · rename_i y hop'; rw [hop] at hop'; cases hop'
        · rename_i y hop'; rw [hop] at hop'; cases hop'
        · rename_i y hn hop'; exact absurd hop (y _ _ _)
      have hlf : E.loc c.1 = false := by simpa using hlf
      obtain ⟨g1, g2, g3⟩ := doCall_fz hlf h4
      subst e1; subst e2; subst e3; subst g1; subst g2
      refine ⟨rfl, fun _ => rfl, fun _ _ => rfl, v, rfl, fun T2 H2 hx hg hA => ?_⟩
      unfold stepO
      rw [hg, if_pos hw]
      have hfv : evalO E T2 fv = evalO E T fv := hx fv (by rw [hop]; simp [Op.operands, Call.operands])
      have hal : evalL E T2 args.toList = evalL E T args.toList := evalL_congr (fun x hm => hx x (by rw [hop]; simp [Op.operands, Call.operands]; exact .inr (by simpa using hm)))
      rw [mix_same hA]
      split
      · rename_i fv' args' ts' hop'
        rw [hop] at hop'
        injection hop' with hop'
        injection hop' with e1 e2 e3
        injection e1 with e1
        subst e1; subst e2
        rw [hfv, hal, h1, h2]
        simp only [bnd_some, h3, g3 H2 _ (fun j hj => hA j (hch j hj))]
      · rename_i y hop'; rw [hop] at hop'; cases hop'
      · rename_i y hop'; rw [hop] at hop'; cases hop'
      · rename_i y hn hop'; exact absurd hop (y _ _ _)
  · rename_i y hop
    obtain ⟨y1, h1, h⟩ := bnd_eq_some.1 h
    split at h <;> first | (injection h with h; cases h; done) | cases h
  · rename_i t n ps hop
    obtain ⟨q, h1, h⟩ := bnd_eq_some.1 h
    split at h
    · cases h
    · rename_i hq
      obtain ⟨r, h2, h⟩ := bnd_eq_some.1 h
      injection h with h
      injection h with e1 e2 e3
      obtain ⟨p, rH⟩ := r
      simp only at e1 e2
      subst e1; subst e2; subst e3
      have hz : ∀ x ∈ q, idb x.2 = 0 := by
        intro x hx
        simp only [true_and] at hq
        have := List.all_eq_true.1 (by simpa using hq : (q.all fun x => decide (idb x.2 = 0)) = true) x hx
        simpa using this
      obtain ⟨g1, g2⟩ := buildSliceO_zero hz h2
      subst g1
      refine ⟨rfl, fun _ => rfl, fun _ _ => rfl, p, rfl, fun T2 H2 hx hg hA => ?_⟩
      have hev : evalP E T2 ps.toList = evalP E T ps.toList := evalP_congr (fun x hm => hx x (by rw [hop]; simpa [Op.operands] using hm))
      unfold stepO
      rw [hg, if_pos hw, mix_same hA]
      split
      · rename_i hop'; rw [hop] at hop'; cases hop'
      · rename_i hop'; rw [hop] at hop'; cases hop'
      · rename_i t' n' ps' hop'
        rw [hop] at hop'
        injection hop' with e1 e2 e3
        subst e1; subst e2; subst e3
        rw [hev, h1, bnd_some, if_neg hq, g2 H2]
        rfl
      · rename_i hn1 hn2 hn3; exact absurd hop (hn3 _ _ _)
  · rename_i hn1 hn2 hn3
    obtain ⟨r, h2, h⟩ := bnd_eq_some.1 h
    injection h with h
    injection h with e1 e2 e3
    obtain ⟨p, rH⟩ := r
    simp only at e1 e2
    subst e1; subst e2; subst e3
    have hnb : ∀ t n ps, o.op ≠ .buildSlice t n ps := fun t n ps e => hn3 t n ps e
    refine ⟨rfl, fun hk => opStep_keep hnb hk h2, fun j hj => ?_, p, rfl, fun T2 H2 hx hg hA => ?_⟩
    · rcases opStep_fr (H2 := H) hnb (fun _ _ => rfl) p rH h2 with ⟨e, _⟩ | ⟨id, hid, ob, e, _⟩
      · rw [e]
      · rw [e]
        exact set_off hid hj
    · have hst : opStep E o.op T2 H2 next = some (p, mix (touchO E o.op T next) rH H2) := by
        rw [opStep_congr hx]
        rcases opStep_fr hnb hA p rH h2 with ⟨e, e'⟩ | ⟨id, hid, ob, e, e'⟩
        · rw [e', e, mix_same hA]
        · rw [e', e, mix_set hA hid]
      unfold stepO
      rw [hg, if_pos hw]
      split
      · rename_i hop'; exact absurd hop' (hn1 _ _ _)
      · rename_i hop'; exact absurd hop' (hn2 _)
      · rename_i hop'; exact absurd hop' (hn3 _ _ _)
      · rw [hst]
        rfl
end
end Go.Vm
end
section
set_option linter.unusedVariables false
set_option linter.unusedSimpArgs false
namespace Go.Vm
open Go.RowKit

section
variable {E : Env}

theorem looks_eval {ops : Array Oper} {o : Oper} {T : Nat → PV} {dst : Option Tmp} {p : PV} (h : ∀ d, dst = some d → d ∉ o.looksAt ops) : ∀ x ∈ o.op.operands, evalO E (putT T dst p) x = evalO E T x := by
  intro x hx
  cases dst with
  | none => rfl
  | some d =>
    cases x with
    | tmp t =>
      simp only [evalO, putT, upd]
      rw [if_neg]
      intro e
      subst e
      exact h t rfl (List.mem_append_left _ (List.mem_filterMap.2 ⟨.tmp t, by simpa using hx, rfl⟩))
    | _ => rfl
theorem looks_wanted {ops : Array Oper} {o : Oper} {T : Nat → PV} {dst : Option Tmp} {p : PV} (h : ∀ d, dst = some d → d ∉ o.looksAt ops) : wantedS ops (putT T dst p) o.guard = wantedS ops T o.guard := by
  cases dst with
  | none => rfl
  | some d =>
    cases hg : o.guard with
    | none => rfl
    | some g =>
      obtain ⟨j, want⟩ := g
      simp only [wantedS]
      cases hd : (ops[j]?).bind (·.dst) with
      | none => rfl
      | some t =>
        have hne : t ≠ d := fun e => h d rfl (by subst e; simp [Oper.looksAt, hg, hd])
        simp only [putT, upd, if_neg hne]
theorem touchO_congr {op : Op} {T T2 : Nat → PV} {nid : Nat} (h : ∀ x ∈ op.operands, evalO E T2 x = evalO E T x) : touchO E op T2 nid = touchO E op T nid := by
  have hm : op.operands.toList.flatMap (opndIds E T2) = op.operands.toList.flatMap (opndIds E T) := by
    have : ∀ l : List Operand, (∀ x ∈ l, evalO E T2 x = evalO E T x) → l.flatMap (opndIds E T2) = l.flatMap (opndIds E T) := by
      intro l hl
      induction l with
      | nil => rfl
      | cons x r ih =>
        simp only [List.flatMap_cons]
        rw [ih (fun y hy => hl y (List.mem_cons_of_mem _ hy))]
        unfold opndIds
        rw [hl x (List.mem_cons_self ..)]
    exact this _ (fun x hx => h x (by simpa using hx))
  unfold touchO
  rw [hm]
theorem putT_comm {T : Nat → PV} {d e : Option Tmp} {p q : PV} (h : ∀ x, d = some x → e ≠ some x) : putT (putT T d p) e q = putT (putT T e q) d p := by
  cases d with
  | none => rfl
  | some d =>
    cases e with
    | none => rfl
    | some e =>
      have hne : d ≠ e := fun x => h d rfl (by rw [x])
      funext j
      simp only [putT, upd]
      by_cases h1 : j = e
      · have h2 : ¬ j = d := fun x => hne (x.symm.trans h1)
        rw [if_pos h1, if_neg h2, if_pos h1]
      · rw [if_neg h1]
        by_cases h2 : j = d
        · rw [if_pos h2, if_pos h2]
        · rw [if_neg h2, if_neg h2, if_neg h1]

def Runs (E : Env) (callc : CallC) (run : Run) (ops : Array Oper) (n0 : Nat) : List (Nat × List Nat) → (Nat → PV) → Ob → (Nat → PV) → Ob → Prop
  | [], T, H, T', H' => T = T' ∧ H = H'
  | (k, F) :: r, T, H, T', H' => ∃ o T1 H1, ops[k]? = some o ∧ touchO E o.op T (n0 + k) = F ∧ stepO E callc run ops true o T H (n0 + k) = some (.go T1 H1 (n0 + k + 1)) ∧ Runs E callc run ops n0 r T1 H1 T' H'
def Comm (E : Env) (ops : Array Oper) (x y : Nat × List Nat) : Prop := ∃ ok oi, ops[x.1]? = some ok ∧ ops[y.1]? = some oi ∧ ok.apart ops oi = true ∧ (compat (kindO E ok.op) (kindO E oi.op) = true ∨ disj x.2 y.2 = true)

theorem disj_spec {F G : List Nat} (h : disj F G = true) : ∀ j ∈ F, j ∉ G := by
  intro j hj hg
  have := List.all_eq_true.1 h j hj
  simp [hg] at this
theorem swap {callc : CallC} {run : Run} {ops : Array Oper} {n0 : Nat} {x y : Nat × List Nat} {r : List (Nat × List Nat)} {T H T' H'} (hc : Comm E ops x y) (h : Runs E callc run ops n0 (x :: y :: r) T H T' H') : Runs E callc run ops n0 (y :: x :: r) T H T' H' := by
  obtain ⟨k, F⟩ := x
  obtain ⟨i, G⟩ := y
  obtain ⟨o1, T1, H1, a1, a2, a3, o2, T2, H2, b1, b2, b3, rest⟩ := h
  obtain ⟨ok, oi, c1, c2, hap, hcom⟩ := hc
  simp only at c1 c2 hcom
  rw [a1] at c1; injection c1 with c1; subst c1
  rw [b1] at c2; injection c2 with c2; subst c2
  obtain ⟨h1, h2, h3⟩ := Oper.apart_spec hap
  obtain ⟨_, ka, fa, p, eT1, stepa⟩ := stepO_fr a3
  obtain ⟨_, kb, fb, q, eT2, stepb⟩ := stepO_fr b3
  subst eT1
  subst eT2
  have ev1 := looks_eval (E := E) (T := T) (p := p) h1
  have tw1 : touchO E o2.op T (n0 + i) = G := by rw [← b2]; exact (touchO_congr ev1).symm
  rw [a2] at fa stepa
  rw [b2] at fb stepb
  have hFG : (∀ j ∈ F, j ∉ G) ∨ (H1 = H ∧ H2 = H1) := by
    rcases hcom with hk | hd
    · unfold compat at hk
      simp only [Bool.or_eq_true, Bool.and_eq_true, decide_eq_true_eq] at hk
      rcases hk with (⟨u, v⟩ | u) | u
      · exact .inr ⟨ka u, kb v⟩
      · left
        intro j hj
        rw [← a2] at hj
        simp [touchO, u] at hj
      · left
        intro j hj hg
        rw [← b2] at hg
        simp [touchO, u] at hg
    · exact .inl (disj_spec hd)
  have hA : ∀ j ∈ G, H j = H1 j := by
    intro j hj
    rcases hFG with hd | ⟨e1, e2⟩
    · exact (fa j (fun hf => hd j hf hj)).symm
    · rw [e1]
  have s1 := stepb T H (fun x hx => (ev1 x hx).symm) (looks_wanted h1).symm hA
  have ev3 := looks_eval (E := E) (T := T) (p := q) h3
  have hB : ∀ j ∈ F, (mix G H2 H) j = H j := by
    intro j hj
    unfold mix
    rcases hFG with hd | ⟨e1, e2⟩
    · rw [if_neg (hd j hj)]
    · rw [e2, e1]
      split <;> rfl
  have s2 := stepa (putT T o2.dst q) (mix G H2 H) ev3 (looks_wanted h3) hB
  have eH : mix F H1 (mix G H2 H) = H2 := by
    funext j
    unfold mix
    rcases hFG with hd | ⟨e1, e2⟩
    · by_cases hF : j ∈ F
      · rw [if_pos hF]
        exact (fb j (hd j hF)).symm
      · rw [if_neg hF]
        by_cases hG : j ∈ G
        · rw [if_pos hG]
        · rw [if_neg hG, fb j hG, fa j hF]
    · rw [e2, e1]
      split
      · rfl
      · split <;> rfl
  rw [eH] at s2
  refine ⟨o2, _, _, b1, tw1, s1, o1, _, _, a1, ?_, s2, ?_⟩
  · rw [← a2]
    exact touchO_congr ev3
  · rw [putT_comm h2] at rest
    exact rest
theorem front {callc : CallC} {run : Run} {ops : Array Oper} {n0 : Nat} {y : Nat × List Nat} {r : List (Nat × List Nat)} {T' H'} : ∀ (l : List (Nat × List Nat)) {T H}, (∀ x ∈ l, Comm E ops x y) → Runs E callc run ops n0 (l ++ y :: r) T H T' H' → Runs E callc run ops n0 (y :: (l ++ r)) T H T' H'
  | [], T, H, hc, h => h
  | x :: l, T, H, hc, h => by
    obtain ⟨k, F⟩ := x
    obtain ⟨o1, T1, H1, a1, a2, a3, rest⟩ := h
    have := front l (fun z hz => hc z (List.mem_cons_of_mem _ hz)) rest
    exact swap (hc _ (List.mem_cons_self ..)) ⟨o1, T1, H1, a1, a2, a3, this⟩

theorem stepO_dead {callc : CallC} {run : Run} {ops : Array Oper} {o : Oper} {T T1 : Nat → PV} {H H1 : Ob} {next n1 j : Nat} (h : stepO E callc run ops true o T H next = some (.go T1 H1 n1)) (hd : H j = .dead) (hj : j ≠ next) : H1 j = .dead := by
  unfold stepO at h
  split at h
  rotate_left
  · injection h with h
    injection h with e1 e2 e3
    rw [← e2]; exact hd
  split at h
  · obtain ⟨fv1, h1, h⟩ := bnd_eq_some.1 h
    obtain ⟨args1, h2, h⟩ := bnd_eq_some.1 h
    obtain ⟨c, h3, h⟩ := bnd_eq_some.1 h
    obtain ⟨r, h4, h⟩ := bnd_eq_some.1 h
    obtain ⟨ro, rH, rn⟩ := r
    cases ro with
    | panic v => simp at h
    | ret v =>
      simp only at h
      injection h with h
      injection h with e1 e2 e3
      by_cases hlf : E.loc c.1 = true
      · obtain ⟨k1, _⟩ := doCall_loc hlf h4
        obtain ⟨al, fr, _⟩ := doLoc_fr k1
        rw [← e2]
        exact (fr j (fun hm => by have := al j hm; rw [hd] at this; cases this) (by omega)).trans hd
      · obtain ⟨g1, g2, g3⟩ := doCall_fz (by simpa using hlf) h4
        rw [← e2, g1]; exact hd
  · obtain ⟨y1, h1, h⟩ := bnd_eq_some.1 h
    split at h <;> first | (injection h with h; cases h; done) | cases h
  · obtain ⟨q, h1, h⟩ := bnd_eq_some.1 h
    split at h
    · cases h
    · obtain ⟨r, h2, h⟩ := bnd_eq_some.1 h
      injection h with h
      injection h with e1 e2 e3
      rw [← e2]
      exact buildSliceO_dead (p := r.1) h2 hd
  · obtain ⟨r, h2, h⟩ := bnd_eq_some.1 h
    injection h with h
    injection h with e1 e2 e3
    rw [← e2]
    exact opStep_dead (p := r.1) h2 hd hj
end

section
variable {E : Env} {w0 : World} {F0 : Fix} {nt : Nat} {C0 : Cx} {ws : World}

structure AtD (E : Env) (w0 : World) (nt : Nat) (C0 : Cx) (ws : World) (T : Nat → PV) (H : Ob) (a : Act) (w : World) : Prop where
  at_ : ∃ C, C.H = H ∧ Rel w0 C w ∧ Ext C0 ws C w ∧ FRel C T a
  size : a.tmps.size = nt
theorem AtD.step {T : Nat → PV} {H' : Ob} {a : Act} {w w' : World} {C C' : Cx} {dst : Option Tmp} {p : PV} {v : Value} (hs : a.tmps.size = nt) (hd : ∀ d, dst = some d → d < nt) (hF : FRel C T a) (hX0 : Ext C0 ws C w)
    (hH : C'.H = H') (hR : Rel w0 C' w') (hX : Ext C w C' w') (hp : PRel C' p v) : AtD E w0 nt C0 ws (putT T dst p) H' (a.put dst v) w' :=
  ⟨⟨C', hH, hR, hX0.trans hX, (hF.mono hX).put (fun d h => hs ▸ hd d h) hp⟩, put_size.trans hs⟩

theorem stepD_ok {run : Run} {ops : Array Oper} {i : Nat} {o : Oper} {T T1 : Nat → PV} {H H1 : Ob} {nid n1 N : Nat} {a : Act} {w : World} {K : Act → World → Prop} {Q : Exit → Act → World → Prop}
    (hG : GOk E F0) (hB0 : Base F0 C0) (hrun : RunOk E.P w0 F0 run) (hi : ops[i]? = some o) (hd : ∀ d, o.dst = some d → d < nt)
    (h : stepO E (callE E run) run ops true o T H nid = some (.go T1 H1 n1)) (hat : AtD E w0 nt C0 ws T H a w) (hdead : H nid = .dead) (hT : Tail H N) (hK : ∀ a' w', AtD E w0 nt C0 ws T1 H1 a' w' → K a' w') : wpOp E.P ops Q i K a w := by
  obtain ⟨⟨C, hC, hR, hX, hF⟩, hs⟩ := hat
  have hB : Base F0 C := hB0.ext hX
  have hρ := hF.evals hG hB
  apply wpOp_of hi
  unfold stepO at h
  rw [hF.wanted]
  split at h
  rotate_left
  · rename_i hw
    rw [if_neg hw]
    injection h with h
    injection h with e1 e2 e3
    subst e1; subst e2
    exact hK _ _ (AtD.step (C := C) hs hd hF hX hC hR (Ext.refl C w) (undef_rel C))
  rename_i hw
  rw [if_pos hw]
  split at h
  · rename_i fv args ts hop
    obtain ⟨fv1, h1, h⟩ := bnd_eq_some.1 h
    obtain ⟨args1, h2, h⟩ := bnd_eq_some.1 h
    obtain ⟨c, h3, h⟩ := bnd_eq_some.1 h
    obtain ⟨r, h4, h⟩ := bnd_eq_some.1 h
    obtain ⟨f, fst, cap⟩ := c
    obtain ⟨ro, rH, rn⟩ := r
    simp only at h4 h
    obtain ⟨l1, r1⟩ := evalL_rel hρ h2
    have hfv := hρ _ _ h1
    have key : ∃ as bs, a.eval fv = .func (.func f) as bs ∧ fst.length = as.size ∧ (∀ (i : Nat) p, fst[i]? = some p → PRel C p (as.getD i undef)) ∧ cap.length = bs.size ∧ (∀ (i : Nat) p, cap[i]? = some p → PRel C p (bs.getD i undef)) := by
      unfold callee at h3
      split at h3
      · injection h3 with h3
        injection h3 with e1 e2
        injection e2 with e2 e3
        subst e1; subst e2; subst e3
        generalize a.eval fv = u at hfv
        cases hfv with
        | s p v h => cases h with
          | func f => exact ⟨_, _, rfl, rfl, fun i p h => by simp at h, rfl, fun i p h => by simp at h⟩
      · injection h3 with h3
        injection h3 with e1 e2
        injection e2 with e2 e3
        subst e1; subst e2; subst e3
        generalize a.eval fv = u at hfv
        cases hfv with
        | func f first cap as bs g1 g2 g3 g4 => exact ⟨_, _, rfl, g1, g2, g3, g4⟩
      · cases h3
    obtain ⟨as, bs, ev, g1, g2, g3, g4⟩ := key
    have hargs : ArgRel C (fst ++ args1 ++ cap) (as ++ args.map a.eval ++ bs) := by
      refine ⟨by simp [g1, g3, l1], fun i p hi => ?_⟩
      rw [List.append_assoc, List.getElem?_append] at hi
      rw [Array.append_assoc, Array.getD_eq_getD_getElem?, Array.getElem?_append]
      split at hi
      · rename_i hlt
        rw [if_pos (by omega)]
        have := g2 i p hi
        rwa [Array.getD_eq_getD_getElem?] at this
      · rename_i hlt
        rw [if_neg (by omega)]
        rw [List.getElem?_append] at hi
        rw [Array.getElem?_append]
        have hsz : (args.map a.eval).size = args1.length := by simp [l1]
        split at hi
        · rename_i hlt2
          rw [if_pos (by rw [hsz]; omega)]
          have := r1 _ p hi
          rw [map_toList, ← g1]
          simpa [Array.getD_eq_getD_getElem?, List.getD_eq_getElem?_getD] using this
        · rename_i hlt2
          rw [if_neg (by rw [hsz]; omega)]
          have := g4 _ p hi
          rw [hsz, ← g1]
          simpa [Array.getD_eq_getD_getElem?] using this
    have both : FnOk E.P f ∧ Calls E.P f (as ++ args.map a.eval ++ bs) w (LPost w0 C w ro rH) := by
      by_cases hlf : E.loc f = true
      · obtain ⟨k1, _⟩ := doCall_loc hlf h4
        exact doLoc_ok hrun hlf k1 hC (by rw [Nat.add_sub_cancel]; exact hdead) hR hB hargs
      · obtain ⟨z1, z2, z3⟩ := doCall_fz (by simpa using hlf) h4
        obtain ⟨k1, k2⟩ := doCall_ok hrun (z3 H N (fun _ _ => rfl)) hC hT (fun hx => absurd hx hlf) hR hB hargs
        exact ⟨k1, k2.mono fun e w2 ⟨C2, q1, q2, q3, q4, q5, q6⟩ => ⟨C2, q1.trans z1.symm, q4, q5, q6⟩⟩
    obtain ⟨⟨fn, k1, k2, k3⟩, hcall⟩ := both
    have hex : (execOp a.eval o).run E.P w = .ok (.enter f (as ++ args.map a.eval ++ bs)) w := by
      obtain ⟨dst, op, type, pos, after, guard⟩ := o
      simp only at hop
      subst hop
      have k3' : fn.body ≠ none := by intro e; rw [e] at k3; cases k3
      have k2' : fn.name ≠ "runtime.NumGoroutine" := by simpa using k2
      simp [execOp, resolve, Deferred.ofValue, ev, invoke, callFunc, k1, k2', k3']
    unfold Oper.wp
    rw [hex, Oper.upon_enter]
    refine hcall.mono (fun e w2 hp => ?_)
    obtain ⟨C2, q1, q4, q5, q6⟩ := hp
    cases ro with
    | ret v =>
      cases e <;> try exact q6.elim
      injection h with h
      injection h with e1 e2 e3
      subst e1; subst e2
      exact hK _ _ (AtD.step (C := C) hs hd hF hX q1 q4 q5 q6)
    | panic v => simp at h
  · rename_i y hop
    obtain ⟨y1, h1, h⟩ := bnd_eq_some.1 h
    split at h <;> first | (injection h with h; cases h; done) | cases h
  all_goals
    have main : ∀ p H', opStep E o.op T C.H nid = some (p, H') → T1 = putT T o.dst p → H1 = H' → o.wp E.P a w K Q := by
      intro p H' hst e1 e2
      subst e1; subst e2
      obtain ⟨n, w', C', g1, g2, g3, g4, g5⟩ := opStep_sound hR (by rw [hC]; exact hdead) hρ hst
      unfold Oper.wp
      rw [g1]
      rcases g2 with ⟨v, e1, e2⟩ | ⟨e1, e2⟩
      · subst e1
        rw [Oper.upon_value]
        exact hK _ _ (AtD.step (C := C) hs hd hF hX g3 g4 g5 e2)
      · subst e1; subst e2
        rw [Oper.upon_skip]
        exact hK _ _ (AtD.step (C := C) hs hd hF hX g3 g4 g5 (undef_rel C'))
  · rename_i t n ps hop
    obtain ⟨q, h1, h⟩ := bnd_eq_some.1 h
    split at h
    · cases h
    · obtain ⟨r, h2, h⟩ := bnd_eq_some.1 h
      injection h with h
      injection h with e1 e2 e3
      refine main r.1 r.2 ?_ e1.symm e2.symm
      rw [hop, hC]
      simp only [opStep, h1, h2, bnd_some]
  · obtain ⟨r, h2, h⟩ := bnd_eq_some.1 h
    injection h with h
    injection h with e1 e2 e3
    exact main r.1 r.2 (by rw [hC]; exact h2) e1.symm e2.symm

/-! ### the edges -/
theorem mask_bit {M : List Nat} {k : Nat} : ∀ {l : List Edge} {m : Nat}, (l.foldl (fun m e => if Region.binds .any e then m ||| 2 ^ e.on ||| M.getD e.on 0 else m) m).testBit k = true →
    m.testBit k = true ∨ ∃ e ∈ l, Region.binds .any e = true ∧ (e.on = k ∨ (M.getD e.on 0).testBit k = true)
  | [], m, h => .inl h
  | e :: l, m, h => by
    simp only [List.foldl_cons] at h
    rcases mask_bit h with h1 | ⟨e', he, hb, hor⟩
    · split at h1
      · rename_i hb
        rw [Nat.testBit_or, Nat.testBit_or] at h1
        simp only [Bool.or_eq_true] at h1
        rcases h1 with (h1 | h1) | h1
        · exact .inl h1
        · rw [Nat.testBit_two_pow] at h1
          exact .inr ⟨e, List.mem_cons_self .., hb, .inl (by simpa using h1)⟩
        · exact .inr ⟨e, List.mem_cons_self .., hb, .inr h1⟩
      · exact .inl h1
    · exact .inr ⟨e', List.mem_cons_of_mem _ he, hb, hor⟩

theorem drawOk_at {dyn : Bool} {ops : Array Oper} (h : drawOk E dyn ops = true) {j : Nat} {oj : Oper} (hj : ops[j]? = some oj) :
    (masks ops.toList).getD j 0 = maskOf (masks ops.toList) oj ∧ (∀ e ∈ oj.after, Region.binds .any e = true → e.on < j) ∧ ∀ i oi, i < j → ops[i]? = some oi → ((masks ops.toList).getD j 0).testBit i = true ∨ (oi.apart ops oj = true ∧ (dyn = true ∨ compat (kindO E oi.op) (kindO E oj.op) = true)) := by
  unfold drawOk at h
  have hlt : j < ops.size := (Array.getElem?_eq_some_iff.1 hj).1
  have := List.all_eq_true.1 h j (List.mem_range.2 hlt)
  rw [hj] at this
  simp only [Bool.and_eq_true, beq_iff_eq] at this
  obtain ⟨⟨h1, h2⟩, h3⟩ := this
  refine ⟨h1, fun e he hb => ?_, fun i oi hi hoi => ?_⟩
  · have := Array.all_eq_true_iff_forall_mem.1 h2 e he
    rw [hb] at this
    simpa using this
  · have := List.all_eq_true.1 h3 i (List.mem_range.2 hi)
    rw [hoi] at this
    simpa only [Bool.or_eq_true, Bool.and_eq_true] using this

def Closed (ops : Array Oper) (listed : Array Bool) : Prop := ∀ j o, ops[j]? = some o → listed.getD j false = true → ∀ e ∈ o.after, Region.binds .any e = true → listed.getD e.on false = true
theorem mask_closed {dyn : Bool} {ops : Array Oper} {listed : Array Bool} (hok : drawOk E dyn ops = true) (hc : Closed ops listed) (k : Nat) : ∀ (n j : Nat) (o : Oper), j < n → ops[j]? = some o → (∀ e ∈ o.after, Region.binds .any e = true → listed.getD e.on false = true) →
    ((masks ops.toList).getD j 0).testBit k = true → listed.getD k false = true
  | 0, j, o, hj, _, _, _ => by omega
  | n + 1, j, o, hj, ho, hd, hb => by
    obtain ⟨h1, h2, _⟩ := drawOk_at hok ho
    rw [h1] at hb
    unfold maskOf at hb
    rcases mask_bit hb with h | ⟨e, he, hbi, hor⟩
    · simp at h
    · have he' : e ∈ o.after := by simpa using he
      rcases hor with e1 | hb2
      · rw [← e1]
        exact hd e he' hbi
      · have hlt := h2 e he' hbi
        have hl := hd e he' hbi
        have hsz : e.on < ops.size := Nat.lt_trans hlt (Array.getElem?_eq_some_iff.1 ho).1
        have hoe : ops[e.on]? = some ops[e.on] := Array.getElem?_eq_getElem hsz
        exact mask_closed hok hc k n e.on _ (by omega) hoe (hc e.on _ hoe hl) hb2

theorem any_ok {run : Run} {ops : Array Oper} {dyn : Bool} {n0 m : Nat} {Tn : Nat → PV} {Hn : Ob} {Q : Exit → Act → World → Prop} (hG : GOk E F0) (hB0 : Base F0 C0) (hrun : RunOk E.P w0 F0 run) (hok : drawOk E dyn ops = true) (hd : ∀ o ∈ ops.toList, ∀ d, o.dst = some d → d < nt)
    (hms : m ≤ ops.size) (hfull : ∀ i, m ≤ i → i < ops.size → ∀ k, k < m → ((masks ops.toList).getD i 0).testBit k = true)
    (hQ : ∀ (listed : Array Bool) a w, listed.size = ops.size → (∀ i, i < m → listed.getD i true = true) → (∀ i, m ≤ i → i < ops.size → listed.getD i true = false) → AtD E w0 nt C0 ws Tn Hn a w → wpAny E.P .any ops Q (ops.size - m) listed a w) : ∀ (fuel : Nat) (listed : Array Bool) (l : List (Nat × List Nat)) (T : Nat → PV) (H : Ob) (a : Act) (w : World), fuel = l.length → listed.size = ops.size →
    (∀ i, m ≤ i → i < ops.size → listed.getD i true = false) → l.map (·.1) = (List.range m).filter (fun i => !listed.getD i true) → Runs E (callE E run) run ops n0 l T H Tn Hn → l.Pairwise (fun x y => x.1 < y.1 ∧ (((masks ops.toList).getD y.1 0).testBit x.1 = true ∨ Comm E ops x y)) → Closed ops listed →
    AtD E w0 nt C0 ws T H a w → (∀ x ∈ l, H (n0 + x.1) = .dead) → Tail H (n0 + ops.size) → wpAny E.P .any ops Q (fuel + (ops.size - m)) listed a w := by
  intro fuel
  induction fuel with
  | zero =>
    intro listed l T H a w hf hsz hns hm hr hp hc hat hdead hT
    have hl : l = [] := List.eq_nil_of_length_eq_zero hf.symm
    subst hl
    obtain ⟨e1, e2⟩ := hr
    subst e1; subst e2
    rw [Nat.zero_add]
    refine hQ listed a w hsz (fun i hi => ?_) hns hat
    cases h1 : listed.getD i true with
    | true => rfl
    | false =>
      have : i ∈ (List.range m).filter (fun i => !listed.getD i true) := List.mem_filter.2 ⟨List.mem_range.2 hi, by rw [h1]; rfl⟩
      rw [← hm] at this
      cases this
  | succ fuel ih =>
    intro listed l T H a w hf hsz hns hm hr hp hc hat hdead hT
    rw [Nat.add_right_comm]
    have hlow : ∀ i, i ∈ Region.ready .any ops listed → i < m := by
      intro i hi
      apply Classical.byContradiction
      intro hge
      obtain ⟨h1, o, ho, hpre⟩ := mem_ready.1 hi
      have hlt : i < ops.size := (Array.getElem?_eq_some_iff.1 ho).1
      cases l with
      | nil => simp at hf
      | cons x l =>
        have hx : x.1 ∈ (List.range m).filter (fun i => !listed.getD i true) := by rw [← hm]; exact List.mem_cons_self ..
        obtain ⟨hx1, hx2⟩ := List.mem_filter.1 hx
        have hx1 := List.mem_range.1 hx1
        have hl := mask_closed hok hc x.1 (i + 1) i o (by omega) ho hpre (hfull i (by omega) hlt x.1 hx1)
        have h7 : x.1 < listed.size := by omega
        rw [Array.getD_eq_getD_getElem?, Array.getElem?_eq_getElem h7] at hl hx2
        simp only [Option.getD_some] at hl hx2
        rw [hl] at hx2
        cases hx2
    constructor
    · intro hrd
      exfalso
      cases l with
      | nil => simp at hf
      | cons x l =>
        have hx : x.1 ∈ (List.range m).filter (fun i => !listed.getD i true) := by rw [← hm]; exact List.mem_cons_self ..
        obtain ⟨hx1, hx2⟩ := List.mem_filter.1 hx
        have hx1 : x.1 < ops.size := by have := List.mem_range.1 hx1; omega
        have ho : ops[x.1]? = some ops[x.1] := Array.getElem?_eq_getElem hx1
        have : x.1 ∈ Region.ready .any ops listed := by
          refine mem_ready.2 ⟨by simpa using hx2, _, ho, fun e he hb => ?_⟩
          have hlt := (drawOk_at hok ho).2.1 e he hb
          cases hle : listed.getD e.on false with
          | true => rfl
          | false =>
            exfalso
            have hee : e.on < listed.size := by omega
            have hle' : listed.getD e.on true = false := by
              rw [Array.getD_eq_getD_getElem?, Array.getElem?_eq_getElem hee] at hle ⊢
              simpa using hle
            have hmem : e.on ∈ (x :: l).map (·.1) := by rw [hm]; exact List.mem_filter.2 ⟨List.mem_range.2 (by have := List.mem_range.1 (List.mem_filter.1 hx).1; omega), by rw [hle']; rfl⟩
            obtain ⟨y, hy, e1⟩ := List.mem_map.1 hmem
            rcases List.mem_cons.1 hy with e2 | hy
            · subst e2
              omega
            · have := (List.rel_of_pairwise_cons hp hy).1
              omega
        rw [hrd] at this
        cases this
    · intro i hi
      obtain ⟨h1, o, ho, hpre⟩ := mem_ready.1 hi
      have hlt : i < ops.size := (Array.getElem?_eq_some_iff.1 ho).1
      have hmem : i ∈ l.map (·.1) := by rw [hm]; exact List.mem_filter.2 ⟨List.mem_range.2 (hlow i hi), by rw [h1]; rfl⟩
      obtain ⟨y, hy, e1⟩ := List.mem_map.1 hmem
      obtain ⟨l1, l2, e2⟩ := List.append_of_mem hy
      have hcom : ∀ x ∈ l1, Comm E ops x y := by
        intro x hx
        rw [e2] at hp
        have := (List.pairwise_append.1 hp).2.2 x hx y (List.mem_cons_self ..)
        rcases this.2 with hb | hcm
        · exfalso
          rw [e1] at hb
          have hl := mask_closed hok hc x.1 (i + 1) i o (by omega) ho hpre hb
          have hx' : x.1 ∈ l.map (·.1) := by rw [e2]; exact List.mem_map.2 ⟨x, List.mem_append_left _ hx, rfl⟩
          rw [hm] at hx'
          have h5 := (List.mem_filter.1 hx')
          have h6 := List.mem_range.1 h5.1
          have h7 : x.1 < listed.size := by omega
          rw [Array.getD_eq_getD_getElem?, Array.getElem?_eq_getElem h7] at hl
          have h8 := h5.2
          rw [Array.getD_eq_getD_getElem?, Array.getElem?_eq_getElem h7] at h8
          simp only [Option.getD_some] at hl h8
          rw [hl] at h8
          cases h8
        · exact hcm
      rw [e2] at hr
      have hr' := front l1 hcom hr
      obtain ⟨k, G⟩ := y
      simp only at e1
      subst e1
      obtain ⟨o', T1, H1, a1, a2, a3, rest⟩ := hr'
      rw [ho] at a1
      injection a1 with a1
      subst a1
      refine stepD_ok hG hB0 hrun ho (fun d hd' => hd o (by have := Array.mem_of_getElem? ho; simpa using this) d hd') a3 hat (hdead _ hy) hT (fun a' w' hat' => ?_)
      have hset : ∀ j (d : Bool), j ≠ k → (listed.setIfInBounds k true).getD j d = listed.getD j d := fun j d hj => getD_set_ne d (Ne.symm hj)
      have hk : (listed.setIfInBounds k true).getD k true = true := by
        rw [Array.getD_eq_getD_getElem?, Array.getElem?_setIfInBounds_self_of_lt (by omega)]
        rfl
      have hpne : ∀ z ∈ l1 ++ l2, z.1 ≠ k := by
        intro z hz e
        rw [e2] at hp
        rcases List.mem_append.1 hz with hz | hz
        · have := ((List.pairwise_append.1 hp).2.2 z hz (k, G) (List.mem_cons_self ..)).1
          simp only at this
          omega
        · have := (List.rel_of_pairwise_cons (List.pairwise_append.1 hp).2.1 hz).1
          simp only at this
          omega
      have hkm : k < m := hlow k hi
      refine ih _ (l1 ++ l2) T1 H1 a' w' (by rw [e2] at hf; simp at hf ⊢; omega) (by simp [hsz]) (fun i h1 h2 => by rw [hset i true (by omega)]; exact hns i h1 h2) ?_ rest ?_ ?_ hat' (fun z hz => ?_) (fun j hj => ?_)
      · have h9 : (List.range m).filter (fun i => !(listed.setIfInBounds k true).getD i true) = ((List.range m).filter (fun i => !listed.getD i true)).filter (fun i => decide (i ≠ k)) := by
          rw [List.filter_filter]
          apply List.filter_congr
          intro j hj
          by_cases e : j = k
          · subst e
            rw [hk]
            simp
          · rw [hset j true e]
            simp [e]
        have f1 : (l1.map (·.1)).filter (fun i => decide (i ≠ k)) = l1.map (·.1) := List.filter_eq_self.2 (fun j hj => by
          obtain ⟨z, hz, e⟩ := List.mem_map.1 hj
          have := hpne z (List.mem_append_left _ hz)
          simp only [ne_eq, decide_not, Bool.not_eq_true', decide_eq_false_iff_not]
          rw [← e]; exact this)
        have f2 : (l2.map (·.1)).filter (fun i => decide (i ≠ k)) = l2.map (·.1) := List.filter_eq_self.2 (fun j hj => by
          obtain ⟨z, hz, e⟩ := List.mem_map.1 hj
          have := hpne z (List.mem_append_right _ hz)
          simp only [ne_eq, decide_not, Bool.not_eq_true', decide_eq_false_iff_not]
          rw [← e]; exact this)
        rw [h9, ← hm, e2, List.map_append, List.map_append, List.filter_append, List.map_cons, List.filter_cons, f1, f2]
        simp
      · rw [e2] at hp
        obtain ⟨p1, p2, p3⟩ := List.pairwise_append.1 hp
        exact List.pairwise_append.2 ⟨p1, (List.pairwise_cons.1 p2).2, fun u hu v hv => p3 u hu v (List.mem_cons_of_mem _ hv)⟩
      · intro j oj hoj hlj e he hb
        by_cases ej : j = k
        · subst ej
          rw [ho] at hoj
          injection hoj with hoj
          subst hoj
          exact getD_set_true (hpre e he hb)
        · rw [hset j false ej] at hlj
          exact getD_set_true (hc j oj hoj hlj e he hb)
      · refine stepO_dead a3 (hdead z ?_) (fun e => hpne z hz (by omega))
        rw [e2]
        rcases List.mem_append.1 hz with h | h
        · exact List.mem_append_left _ h
        · exact List.mem_append_right _ (List.mem_cons_of_mem _ h)
      · exact stepO_dead a3 (hT j hj) (by omega)

theorem take_at {ops : Array Oper} {m i : Nat} {o : Oper} {os : List Oper} (h : (ops.toList.take m).drop i = o :: os) : ops[i]? = some o := by
  have h1 : ((ops.toList.take m).drop i)[0]? = some o := by rw [h]; rfl
  rw [List.getElem?_drop, List.getElem?_take] at h1
  split at h1
  · simpa using h1
  · cases h1
/-- The text order's run, with what each operation looks at. -/
theorem opsD_runs {run : Run} {ops : Array Oper} {M : List Nat} {n0 m : Nat} {e : Ex} {s : St} : ∀ (os : List Oper) (i : Nat) (tr : List (Nat × List Nat)) {T : Nat → PV} {H : Ob}, (ops.toList.take m).drop i = os → opsD E (callE E run) run ops M i tr os T H (n0 + i) = some (e, s) →
    e = .normal ∧ s.next = n0 + i + os.length ∧ ∃ l, l.map (·.1) = List.range' i os.length ∧ Runs E (callE E run) run ops n0 l T H s.T s.H ∧ (∀ x ∈ tr, ∀ y ∈ l, pairOk E ops M x.1 y.1 x.2 y.2 = true) ∧ l.Pairwise (fun x y => pairOk E ops M x.1 y.1 x.2 y.2 = true)
  | [], i, tr, T, H, hdrop, h => by
    simp only [opsD] at h
    injection h with h
    injection h with e1 e2
    subst e1; subst e2
    exact ⟨rfl, rfl, [], rfl, ⟨rfl, rfl⟩, (fun x hx y hy => by cases hy), List.Pairwise.nil⟩
  | o :: os, i, tr, T, H, hdrop, h => by
    have ho : ops[i]? = some o := take_at hdrop
    have hdrop' : (ops.toList.take m).drop (i + 1) = os := by
      rw [← List.drop_drop, hdrop]
      rfl
    simp only [opsD] at h
    split at h
    · rename_i htr
      obtain ⟨x, h1, h2⟩ := bnd_eq_some.1 h
      cases x with
      | panic v T' H' n' => cases h2
      | go T' H' n' =>
        simp only at h2
        have hn : n' = n0 + (i + 1) := (stepO_fr h1).1
        subst hn
        obtain ⟨g1, g2, l, g3, g4, g5, g6⟩ := opsD_runs os (i + 1) _ hdrop' h2
        refine ⟨g1, by rw [g2]; simp only [List.length_cons]; omega, (i, touchO E o.op T (n0 + i)) :: l, ?_, ⟨o, T', H', ho, rfl, h1, g4⟩, fun x hx y hy => ?_, List.pairwise_cons.2 ⟨fun y hy => g5 _ (List.mem_cons_self ..) y hy, g6⟩⟩
        · simp only [List.map_cons, List.length_cons, g3]
          rfl
        · rcases List.mem_cons.1 hy with e1 | hy
          · subst e1
            exact List.all_eq_true.1 htr x hx
          · exact g5 x (List.mem_cons_of_mem _ hx) y hy
    · cases h

theorem opsO_opsD {run : Run} {ops : Array Oper} {M : List Nat} (hall : ∀ k i F G, k < i → pairOk E ops M k i F G = true) {e : Ex} {s : St} : ∀ (os : List Oper) (i : Nat) (tr : List (Nat × List Nat)) {T : Nat → PV} {H : Ob} {next : Nat}, (∀ x ∈ tr, x.1 < i) →
    opsO E (callE E run) run ops true os T H next = some (e, s) → opsD E (callE E run) run ops M i tr os T H next = some (e, s)
  | [], i, tr, T, H, next, ht, h => h
  | o :: os, i, tr, T, H, next, ht, h => by
    simp only [opsO] at h
    obtain ⟨x, h1, h2⟩ := bnd_eq_some.1 h
    simp only [opsD]
    rw [if_pos (List.all_eq_true.2 (fun x hx => hall _ _ _ _ (ht x hx))), h1]
    cases x with
    | panic v T' H' n' => simp at h2
    | go T' H' n' =>
      simp only [bnd_some] at h2 ⊢
      exact opsO_opsD hall os (i + 1) _ (fun x hx => by
        rcases List.mem_cons.1 hx with e | hx
        · rw [e]; exact Nat.lt_succ_self i
        · exact Nat.lt_succ_of_lt (ht x hx)) h2

theorem frz_run {T : Nat → PV} {w0 w : World} : ∀ {l : List Nat} {C : Cx}, Rel w0 C w → ∃ C', C'.H = frz T l C.H ∧ Froze w0 C C' w
  | [], C, h => ⟨C, rfl, Froze.refl h⟩
  | t :: r, C, h => by
    have one : ∃ C1, C1.H = (match T t with | .hsl id _ _ _ => freeze1 C.H id | _ => C.H) ∧ Froze w0 C C1 w := by
      split
      · rename_i id ver off n hT
        cases hH : C.H id with
        | sarr ty sz ver fz ap es =>
          obtain ⟨C', h1, h2, h3, h4, h5, h6⟩ := sarr_slice h hH
          exact ⟨C', h1, ⟨h2, h4, h5⟩⟩
        | _ =>
          refine ⟨C, ?_, Froze.refl h⟩
          unfold freeze1
          rw [hH]
      · exact ⟨C, rfl, Froze.refl h⟩
    obtain ⟨C1, h1, h2⟩ := one
    obtain ⟨C2, h3, h4⟩ := frz_run (T := T) (l := r) h2.rel
    exact ⟨C2, by rw [h3, h1]; rfl, h2.trans h4⟩
theorem freeze1_tail {H : Ob} {id j : Nat} (h : H j = .dead) : freeze1 H id j = .dead := freeze1_dead h
theorem frz_tail {T : Nat → PV} {j : Nat} : ∀ {l : List Nat} {H : Ob}, H j = .dead → frz T l H j = .dead
  | [], H, h => h
  | t :: r, H, h => by
    unfold frz
    refine frz_tail ?_
    generalize T t = p
    cases p <;> first
      | exact freeze1_dead h
      | exact h
theorem At.frz {s : St} {a : Act} {w : World} {n0 : Nat} {l : List Nat} (h : At E w0 F0 nt C0 ws n0 s a w) : At E w0 F0 nt C0 ws n0 ⟨s.T, Vm.frz s.T l s.H, s.next⟩ a w := by
  obtain ⟨⟨C, hC, hR, hX, hF⟩, hT, hn, hs⟩ := h
  obtain ⟨C', h1, h2⟩ := frz_run (T := s.T) (l := l) hR
  exact ⟨⟨C', by rw [h1, hC], h2.rel, hX.trans h2.ext, hF.mono h2.ext⟩, fun j hj => frz_tail (hT j hj), hn, hs⟩
/-- The part of a drawn region that stands in an open order. -/
theorem part_ok (hm : E.P.follows .mixedOrders = true) (hG : GOk E F0) {run : Run} {dyn : Bool} (hrun : RunOk E.P w0 F0 run) {id m n0 : Nat} {ops : Array Oper} {e : Ex} {s s' : St} {a : Act} {w : World} {Q : Exit → Act → World → Prop} (hB0 : Base F0 C0)
    (hok : drawOk E dyn ops = true) (hd : ∀ o ∈ ops.toList, ∀ d, o.dst = some d → d < nt) (hms : m ≤ ops.size) (hfull : ∀ i, m ≤ i → i < ops.size → ∀ k, k < m → ((masks ops.toList).getD i 0).testBit k = true)
    (hD : opsD E (callE E run) run ops (masks ops.toList) 0 [] (ops.toList.take m) s.T s.H (s.next + 0) = some (e, s')) (hat : At E w0 F0 nt C0 ws n0 s a w)
    (hQ : e = .normal → ∀ (listed : Array Bool) a w, listed.size = ops.size → (∀ i, i < m → listed.getD i true = true) → (∀ i, m ≤ i → i < ops.size → listed.getD i true = false) → At E w0 F0 nt C0 ws n0 s' a w → wpAny E.P .any ops Q (ops.size - m) listed a w) :
    (Code.region id ops true).wp E.P Q a w := by
  obtain ⟨g1, g2, l, g3, g4, g5, g6⟩ := opsD_runs (m := m) (ops.toList.take m) 0 [] rfl hD
  have hQ := hQ g1
  obtain ⟨⟨C, hC, hR, hX, hF⟩, hT, hn, hs⟩ := hat
  refine wp_region_any hm ?_
  have htl : (ops.toList.take m).length = m := by rw [List.length_take]; simp; omega
  have hlen : l.length = m := by
    have := congrArg List.length g3
    rw [htl] at this
    simpa using this
  have hrange : l.map (·.1) = List.range m := by rw [g3, htl, List.range_eq_range']
  have hsize : ops.size = m + (ops.size - m) := by omega
  have key : wpAny E.P .any ops Q (m + (ops.size - m)) (Array.replicate ops.size false) a { w with drawn := w.drawn + 1 } := by
    refine any_ok (Tn := s'.T) (Hn := s'.H) (n0 := s.next) hG hB0 hrun hok hd hms hfull (fun listed a' w' k1 k2 k3 hat' => ?_) m (Array.replicate ops.size false) l s.T s.H a { w with drawn := w.drawn + 1 } hlen.symm (by simp) (fun i _ hi => by simp [Array.getD_eq_getD_getElem?, hi]) ?_ g4 ?_ ?_ ⟨⟨C, hC, hR.drawn _, hX.trans (Ext.drawn C w _), hF⟩, hs⟩ (fun x hx => hT _ (by omega)) (fun j hj => hT j (by omega))
    · have hTn : Tail s'.H s'.next := by
        intro j hj
        have hj' : s.next + m ≤ j := by
          rw [g2, htl] at hj
          omega
        have : ∀ (l : List (Nat × List Nat)) (T : Nat → PV) (H : Ob), (∀ x ∈ l, x.1 < m) → H j = .dead → Runs E (callE E run) run ops s.next l T H s'.T s'.H → s'.H j = .dead := by
          intro l
          induction l with
          | nil =>
            intro T H _ hd hr
            rw [← hr.2]; exact hd
          | cons x l ih =>
            intro T H hx hd hr
            obtain ⟨o, T1, H1, a1, a2, a3, rest⟩ := hr
            have := hx x (List.mem_cons_self ..)
            exact ih T1 H1 (fun z hz => hx z (List.mem_cons_of_mem _ hz)) (stepO_dead a3 hd (by omega)) rest
        refine this l s.T s.H (fun x hx => ?_) (hT j (by omega)) g4
        have : x.1 ∈ l.map (·.1) := List.mem_map.2 ⟨x, hx, rfl⟩
        rw [hrange] at this
        exact List.mem_range.1 this
      exact hQ listed a' w' k1 k2 k3 ⟨hat'.at_, hTn, by rw [g2]; omega, hat'.size⟩
    · rw [hrange]
      symm
      apply List.filter_eq_self.2
      intro j hj
      have hj : j < ops.size := by have := List.mem_range.1 hj; omega
      simp [Array.getD_eq_getD_getElem?, hj]
    · have hlt : l.Pairwise (fun x y => x.1 < y.1) := by
        have : (l.map (·.1)).Pairwise (· < ·) := by rw [hrange]; exact List.pairwise_lt_range
        exact List.pairwise_map.1 this
      have hmem : ∀ x ∈ l, x.1 < ops.size := fun x hx => by
        have : x.1 ∈ l.map (·.1) := List.mem_map.2 ⟨x, hx, rfl⟩
        rw [hrange] at this
        have := List.mem_range.1 this
        omega
      refine (hlt.and g6).imp_of_mem (fun {x y} hx hy hxy => ⟨hxy.1, ?_⟩)
      have hx' := hmem x hx
      have hy' := hmem y hy
      have h1 : ops[x.1]? = some ops[x.1] := Array.getElem?_eq_getElem hx'
      have h2 : ops[y.1]? = some ops[y.1] := Array.getElem?_eq_getElem hy'
      rcases (drawOk_at hok h2).2.2 x.1 _ hxy.1 h1 with hb | ⟨hap, _⟩
      · exact .inl hb
      · have hpk := hxy.2
        unfold pairOk opK at hpk
        rw [h1, h2] at hpk
        simp only [Bool.or_eq_true] at hpk
        rcases hpk with (hb | hb) | hb
        · exact .inl hb
        · exact .inr ⟨_, _, h1, h2, hap, .inl hb⟩
        · exact .inr ⟨_, _, h1, h2, hap, .inr hb⟩
    · intro j o ho hl e he hb
      simp [Array.getD_eq_getD_getElem?] at hl
      rw [Array.getElem?_replicate] at hl
      split at hl <;> simp at hl
  rw [← hsize] at key
  exact key
theorem last_full {E : Env} {ops : Array Oper} (h : lastR E ops = true) : 1 ≤ ops.size ∧ (masks ops.toList).getD (ops.size - 1) 0 = 2 ^ (ops.size - 1) - 1 := by
  unfold lastR at h
  split at h
  · rename_i o ho
    simp only [Bool.and_eq_true, beq_iff_eq] at h
    refine ⟨?_, h.2⟩
    have : ops.toList ≠ [] := by intro e; rw [e] at ho; cases ho
    have := List.length_pos_iff.2 this
    have e : ops.toList.length = ops.size := by simp
    omega
  · cases h
theorem drawn_ok (hm : E.P.follows .mixedOrders = true) (hG : GOk E F0) {run : Run} {dyn : Bool} (hrun : RunOk E.P w0 F0 run) : DrawnOk E w0 F0 dyn run := by
  intro nt C0 ws n0 id ops e s0 s' a w hB0 hok hd h hat
  by_cases hl : dyn = true ∧ lastR E ops = true
  · rw [if_pos hl.1, if_pos hl.2] at h
    unfold runT at h
    obtain ⟨⟨e1, s1⟩, h1, h2⟩ := bnd_eq_some.1 h
    obtain ⟨hpos, hmask⟩ := last_full hl.2
    refine part_ok (m := ops.size - 1) (s := ⟨s0.T, frz s0.T (preL E ops (ops.toList.take (ops.size - 1))) s0.H, s0.next⟩) hm hG hrun hB0 hok hd (by omega) (fun i k1 k2 k k3 => ?_) (by simpa using h1) hat.frz (fun en listed a' w' z1 z2 z3 hat' => ?_)
    · have : i = ops.size - 1 := by omega
      rw [this, hmask, Nat.testBit_two_pow_sub_one]
      simpa using k3
    · subst en
      simp only at h2
      have hL : ops[ops.size - 1]? = some (ops[ops.size - 1]'(by omega)) := Array.getElem?_eq_getElem (by omega)
      have hdr : ops.toList.drop (ops.size - 1) = [ops[ops.size - 1]'(by omega)] := by
        rw [List.drop_eq_getElem_cons (by simp; omega), List.drop_of_length_le (by simp; omega)]
        simp
      rw [hdr] at h2
      simp only [opsO] at h2
      obtain ⟨x, h3, h4⟩ := bnd_eq_some.1 h2
      have hr1 : ops.size - 1 ∈ Region.ready .any ops listed := by
        refine mem_ready.2 ⟨z3 _ (Nat.le_refl _) (by omega), _, hL, fun ed he hb => ?_⟩
        have hlt := (drawOk_at hok hL).2.1 ed he hb
        have := z2 ed.on hlt
        rw [Array.getD_eq_getD_getElem?, Array.getElem?_eq_getElem (by omega)] at this ⊢
        exact this
      rw [show ops.size - (ops.size - 1) = 0 + 1 by omega]
      refine ⟨fun hr => ?_, fun i hi => ?_⟩
      · rw [hr] at hr1; cases hr1
      · have hi' : i = ops.size - 1 := by
          obtain ⟨k1, o, k2, _⟩ := mem_ready.1 hi
          have k3 : i < ops.size := (Array.getElem?_eq_some_iff.1 k2).1
          apply Classical.byContradiction
          intro hne
          rw [z2 i (by omega)] at k1
          cases k1
        subst hi'
        have hdone : Region.ready .any ops (listed.setIfInBounds (ops.size - 1) true) = [] := by
          cases hrd : Region.ready .any ops (listed.setIfInBounds (ops.size - 1) true) with
          | nil => rfl
          | cons j r =>
            exfalso
            have hj : j ∈ Region.ready .any ops (listed.setIfInBounds (ops.size - 1) true) := by rw [hrd]; exact List.mem_cons_self ..
            obtain ⟨k1, o, k2, _⟩ := mem_ready.1 hj
            have k3 : j < ops.size := (Array.getElem?_eq_some_iff.1 k2).1
            by_cases hjl : j = ops.size - 1
            · subst hjl
              rw [Array.getD_eq_getD_getElem?, Array.getElem?_setIfInBounds_self_of_lt (by omega)] at k1
              cases k1
            · rw [getD_set_ne true (Ne.symm hjl), z2 j (by omega)] at k1
              cases k1
        refine stepO_ok hG hB0 hrun hL (fun d hd' => hd _ (by simp) d hd') h3 hat' ?_
        cases x with
        | go T1 H1 n1 =>
          injection h4 with h4
          injection h4 with e1 e2
          subst e1; subst e2
          exact fun a2 w2 hat2 => ⟨hdone, rfl, hat2⟩
        | panic v T1 H1 n1 =>
          simp only [Bool.false_eq_true, if_false] at h4
          injection h4 with h4
          injection h4 with e1 e2
          subst e1; subst e2
          exact fun chain a2 w2 hx => hx
  · have h : (if dyn = true then opsD E (callE E run) run ops (masks ops.toList) 0 [] ops.toList s0.T (frz s0.T (preS E ops) s0.H) s0.next else opsO E (callE E run) run ops true ops.toList s0.T s0.H s0.next) = some (e, s') := by
      cases dyn with
      | true =>
        rw [if_pos rfl] at h ⊢
        rwa [if_neg (fun hx => hl ⟨rfl, hx⟩)] at h
      | false => exact h
    obtain ⟨s, hsT, h, hat⟩ : ∃ s : St, s.T = s0.T ∧ (if dyn = true then opsD E (callE E run) run ops (masks ops.toList) 0 [] ops.toList s.T s.H s.next else opsO E (callE E run) run ops true ops.toList s.T s.H s.next) = some (e, s') ∧ At E w0 F0 nt C0 ws n0 s a w := by
      cases dyn with
      | true => exact ⟨⟨s0.T, frz s0.T (preS E ops) s0.H, s0.next⟩, rfl, h, hat.frz⟩
      | false => exact ⟨s0, rfl, h, hat⟩
    have hD : opsD E (callE E run) run ops (masks ops.toList) 0 [] ops.toList s.T s.H (s.next + 0) = some (e, s') := by
      cases dyn with
      | true => simpa using h
      | false =>
        refine opsO_opsD (fun k i F G hki => ?_) _ _ _ (fun x hx => by cases hx) (by simpa using h)
        unfold pairOk opK
        cases hk : ops[k]? with
        | none => simp [compat]
        | some ok =>
          cases hi : ops[i]? with
          | none => simp [compat]
          | some oi =>
            rcases (drawOk_at hok hi).2.2 k ok hki hk with h1 | ⟨_, h2⟩
            · simp only [h1, Bool.true_or]
            · rcases h2 with h2 | h2
              · cases h2
              · simp only [h2, Bool.or_true, Bool.true_or]
    have htk : ops.toList.take ops.size = ops.toList := List.take_of_length_le (by simp)
    refine part_ok (m := ops.size) (s := s) hm hG hrun hB0 hok hd (Nat.le_refl _) (fun i k1 k2 => by omega) (by rw [htk]; exact hD) hat (fun en listed a' w' z1 z2 z3 hat' => ?_)
    subst en
    rw [Nat.sub_self]
    refine ⟨?_, rfl, hat'⟩
    cases hrd : Region.ready .any ops listed with
    | nil => rfl
    | cons j r =>
      exfalso
      have hj : j ∈ Region.ready .any ops listed := by rw [hrd]; exact List.mem_cons_self ..
      obtain ⟨k1, o, k2, _⟩ := mem_ready.1 hj
      rw [z2 j (Array.getElem?_eq_some_iff.1 k2).1] at k1
      cases k1
end

theorem runF_ok {E : Env} {w0 : World} {F0 : Fix} (hm : E.P.follows .mixedOrders = true) (hG : GOk E F0) (hX : ExtOk E w0 F0) (hC : CodesOk E) (n : Nat) : RunOk E.P w0 F0 (runF E n) :=
  runF_ok' hG hX hC (fun run dyn hr => drawn_ok hm hG hr) n
end Go.Vm
end
