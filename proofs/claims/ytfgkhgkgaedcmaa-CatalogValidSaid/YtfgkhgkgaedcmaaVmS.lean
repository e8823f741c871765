/- Drawn regions, second part: two operations that no edge orders may change places. -/
import Derived.Test.YtfgkhgkgaedcmaaVmR
set_option linter.unusedVariables false
set_option linter.unusedSimpArgs false
namespace Go.Vm
open Go.RowKit

section
variable {E : Env}

theorem touch_mem {op : Op} {T : Nat → PV} {nid : Nat} {x : Operand} {p : PV} (hk : kindO op ≠ 0) (hx : x ∈ op.operands.toList) (hp : evalO E T x = some p) : ∀ j ∈ heads p, j ∈ touchO E op T nid := by
  intro j hj
  have hm : j ∈ op.operands.toList.flatMap (opndIds E T) := List.mem_flatMap.2 ⟨x, hx, by unfold opndIds; rw [hp]; exact hj⟩
  unfold touchO
  split
  · rename_i h; exact absurd h hk
  · exact hm
  · exact List.mem_cons_of_mem _ hm
theorem touch_nid {op : Op} {T : Nat → PV} {nid : Nat} (hk : kindO op = 2) : nid ∈ touchO E op T nid := by
  unfold touchO
  rw [hk]
  exact List.mem_cons_self ..

theorem opStep_fr {op : Op} {T : Nat → PV} {H H2 : Ob} {nid : Nat} (hb : ∀ t n ps, op ≠ .buildSlice t n ps) (hA : ∀ j ∈ touchO E op T nid, H2 j = H j) : Fr (touchO E op T nid) H H2 (opStep E op T H nid) (opStep E op T H2 nid) := by
  cases op with
  | buildSlice t n ps => exact absurd rfl (hb t n ps)
  | move x => exact fr_pure
  | assign x => exact fr_pure
  | pick c a b =>
    simp only [opStep]
    refine fr_bnd fun c _ => fr_bnd fun a _ => fr_bnd fun b _ => ?_
    split
    · exact fr_some
    · exact fr_none
  | alloc t => exact allocO_fr hA (touch_nid rfl)
  | box t x => exact fr_bnd fun a _ => boxO_fr hA (touch_nid rfl)
  | build t ps => exact fr_bnd fun a _ => fr_pure
  | load t a => exact fr_bnd fun p hp => fr_pure' (loadO_fr hA (touch_mem (by simp [kindO]) (by simp [Op.operands]) hp))
  | store t a x => exact fr_bnd fun p hp => fr_bnd fun q hq => fr_unit (storeO_fr hA (touch_mem (by simp [kindO]) (by simp [Op.operands]) hp))
  | nilCheck x => exact fr_bnd fun a _ => fr_pure
  | binOp op t x y u => exact fr_bnd fun a _ => fr_bnd fun b _ => fr_pure
  | unOp op t x => exact fr_bnd fun a _ => fr_pure
  | convert s d x =>
    refine fr_bnd fun p hp => ?_
    split
    · exact convertO_fr hA (touch_nid rfl) (touch_mem (by simp [kindO]) (by simp [Op.operands]) hp)
    · exact fr_none
  | makeInterface t x => exact fr_bnd fun a _ => fr_pure
  | makeFunc fn a b =>
    cases fn with
    | func f => exact fr_bnd fun a _ => fr_bnd fun b _ => fr_some
    | _ => exact fr_none
  | makeMap t r =>
    cases r with
    | none => exact fr_set (touch_nid rfl)
    | some r => exact fr_none
  | makeSlice t l c => exact fr_bnd fun a _ => fr_bnd fun b _ => makeSliceO_fr hA (touch_nid rfl)
  | slice t x l h m =>
    cases m with
    | none => exact fr_bnd fun p hp => fr_bnd fun b _ => fr_bnd fun c _ => fr_pure' (sliceV_fr hA (touch_mem (by simp [kindO]) (by simp [Op.operands]) hp))
    | some m => exact fr_none
  | fieldAddr s x f => exact fr_bnd fun p hp => fr_pure' (fieldA_fr hA (touch_mem (by simp [kindO]) (by simp [Op.operands]) hp))
  | field s x f => exact fr_bnd fun p hp => fr_pure
  | indexAddr t x i => exact fr_bnd fun p hp => fr_bnd fun i _ => fr_pure' (indexA_fr hA (touch_mem (by simp [kindO]) (by simp [Op.operands]) hp))
  | index t x i => exact fr_bnd fun p hp => fr_bnd fun i _ => fr_pure
  | lookup t m k ok => exact fr_bnd fun p hp => fr_bnd fun i _ => fr_pure' (lookupV_fr hA (touch_mem (by simp [kindO]) (by simp [Op.operands]) hp))
  | mapUpdate t m k x => exact fr_bnd fun p hp => fr_bnd fun q _ => fr_bnd fun r _ => fr_unit (mapUpdateO_fr hA (touch_mem (by simp [kindO]) (by simp [Op.operands]) hp))
  | insert t m k x => exact fr_bnd fun p hp => fr_bnd fun q _ => fr_bnd fun r _ => fr_unit (mapUpdateO_fr hA (touch_mem (by simp [kindO]) (by simp [Op.operands]) hp))
  | typeAssert x s t ok => exact fr_bnd fun p hp => fr_pure
  | extract x i => exact fr_bnd fun p hp => fr_pure
  | call c =>
    obtain ⟨ce, args, ts⟩ := c
    cases ce with
    | builtin b =>
      refine fr_bnd fun q hq => builtinO_fr hA (fun x y e1 e2 => ?_) (fun n1 n2 p hp j hj => ?_)
      · subst e1
        exact touch_nid rfl
      · obtain ⟨x, hx, ex⟩ := evalL_mem hq p hp
        refine touch_mem ?_ (by simp only [Op.operands, Call.operands]; simpa using hx) ex j hj
        cases b <;> first
          | exact absurd rfl n1
          | exact absurd rfl n2
          | simp [kindO]
    | _ => exact fr_none
  | _ => exact fr_none

theorem opStep_keep {op : Op} {T : Nat → PV} {H H' : Ob} {nid : Nat} {p : PV} (hb : ∀ t n ps, op ≠ .buildSlice t n ps) (hk : kindO op < 2) (h : opStep E op T H nid = some (p, H')) : H' = H := by
  have key : ∀ {o : Option (PV × Ob)}, (∀ q H1, o = some (q, H1) → H1 = H) → o = some (p, H') → H' = H := fun a b => a _ _ b
  have kp : ∀ {o : Option PV}, ∀ q H1, pureR H o = some (q, H1) → H1 = H := fun q H1 e => (pureR_some e).2
  have kb : ∀ {α : Type} {o : Option α} {f : α → Option (PV × Ob)}, (∀ a q H1, f a = some (q, H1) → H1 = H) → ∀ q H1, bnd o f = some (q, H1) → H1 = H := fun hf q H1 e => by
    obtain ⟨a, _, e⟩ := bnd_eq_some.1 e
    exact hf a q H1 e
  have ks : ∀ {q0 : PV} (q : PV) (H1 : Ob), some (q0, H) = some (q, H1) → H1 = H := fun q H1 e => by injection e with e; injection e with _ e; exact e.symm
  have kn : ∀ (q : PV) (H1 : Ob), (none : Option (PV × Ob)) = some (q, H1) → H1 = H := fun q H1 e => by cases e
  refine key ?_ h
  cases op with
  | buildSlice t n ps => exact absurd rfl (hb t n ps)
  | move x => exact kp
  | assign x => exact kp
  | pick c a b =>
    simp only [opStep]
    refine kb fun c => kb fun a => kb fun b => ?_
    split
    · exact ks
    · exact kn
  | build t ps => exact kb fun a => kp
  | load t a => exact kb fun p => kp
  | nilCheck x => exact kb fun a => kp
  | binOp op t x y u => exact kb fun a => kb fun b => kp
  | unOp op t x => exact kb fun a => kp
  | makeInterface t x => exact kb fun a => kp
  | makeFunc fn a b =>
    cases fn with
    | func f => exact kb fun a => kb fun b => ks
    | _ => exact kn
  | slice t x l h m =>
    cases m with
    | none => exact kb fun p => kb fun b => kb fun c => kp
    | some m => exact kn
  | fieldAddr s x f => exact kb fun p => kp
  | field s x f => exact kb fun p => kp
  | indexAddr t x i => exact kb fun p => kb fun i => kp
  | index t x i => exact kb fun p => kb fun i => kp
  | lookup t m k ok => exact kb fun p => kb fun i => kp
  | typeAssert x s t ok => exact kb fun p => kp
  | extract x i => exact kb fun p => kp
  | call c =>
    obtain ⟨ce, args, ts⟩ := c
    cases ce with
    | builtin b =>
      refine kb fun q => ?_
      intro q1 H1 e
      unfold builtinO at e
      split at e
      · exact kp _ _ e
      · simp [kindO] at hk
      · exact kp _ _ e
      · exact kp _ _ e
      · exact kn _ _ e
    | _ => exact kn
  | _ => first
    | exact kn
    | (simp [kindO] at hk; done)

mutual
theorem lend_zero {H : Ob} : ∀ {p : PV}, idb p = 0 → lend H p = some (p, H)
  | .hsl id ver off n, h => by simp [idb] at h
  | .agg cs, h => by
    simp only [idb] at h
    simp only [lend, lendL_zero h, bnd_some]
  | .s v, h => by simp only [lend]
  | .ptr id off, h => by simp [idb] at h
  | .eptr es i off, h => by simp only [lend]
  | .aptr id ver i off, h => by simp [idb] at h
  | .func f a b, h => by simp only [lend]
  | .iface t v, h => by simp only [lend]
  | .map id, h => by simp [idb] at h
  | .tuple vs, h => by simp only [lend]
theorem lendL_zero {H : Ob} : ∀ {l : List PV}, idbL l = 0 → lendL H l = some (l, H)
  | [], h => rfl
  | p :: r, h => by
    simp only [idbL] at h
    simp only [lendL, lend_zero (by omega : idb p = 0), lendL_zero (by omega : idbL r = 0), bnd_some]
end
theorem thaw_zero {H H1 : Ob} {p : PV} {v : SV} (h : idb p = 0) (ht : thaw H p = some (v, H1)) : ∀ H2, thaw H2 p = some (v, H2) := by
  intro H2
  unfold thaw at ht ⊢
  split at ht
  · injection ht with ht; injection ht with e1 e2; subst e1; rfl
  · simp [idb] at h
  · injection ht with ht; injection ht with e1 e2; subst e1; rfl
  · cases ht
theorem thaws_zero : ∀ {l : List PV} {q : List SV} {H H1 : Ob}, idbL l = 0 → thaws H l = some (q, H1) → ∀ H2, thaws H2 l = some (q, H2)
  | [], q, H, H1, h, ht, H2 => by
    simp only [thaws] at ht
    injection ht with ht; injection ht with e1 e2; subst e1; rfl
  | p :: r, q, H, H1, h, ht, H2 => by
    simp only [idbL] at h
    simp only [thaws] at ht ⊢
    split at ht
    · rename_i v Ha ha
      split at ht
      · rename_i q1 Hb hb
        injection ht with ht; injection ht with e1 e2; subst e1
        rw [thaw_zero (by omega) ha H2]
        simp only
        rw [thaws_zero (by omega) hb H2]
      · cases ht
    · cases ht
theorem idb_cells {p : PV} (h : idb p = 0) : idbL p.cells = 0 := by
  cases p <;> simp_all [PV.cells, idbL, idb]
theorem rowParts_zero {size : Nat} : ∀ {l : List (Nat × PV)} {c q : List (List SV)} {H H1 : Ob}, (∀ x ∈ l, idb x.2 = 0) → rowParts size H c l = some (q, H1) → H1 = H ∧ ∀ H2, rowParts size H2 c l = some (q, H2)
  | [], c, q, H, H1, h, ht => by
    simp only [rowParts] at ht
    injection ht with ht; injection ht with e1 e2; subst e1; subst e2
    exact ⟨rfl, fun H2 => rfl⟩
  | (i, x) :: r, c, q, H, H1, h, ht => by
    simp only [rowParts] at ht ⊢
    have hz := idb_cells (h (i, x) (List.mem_cons_self ..))
    split at ht
    · rename_i v Ha ha
      have e : Ha = H := by
        have := thaws_zero hz ha H
        rw [this] at ha
        injection ha with ha
        injection ha with _ ha
        exact ha.symm
      subst e
      split at ht
      · rename_i hc
        obtain ⟨g1, g2⟩ := rowParts_zero (fun y hy => h y (List.mem_cons_of_mem _ hy)) ht
        refine ⟨g1, fun H2 => ?_⟩
        rw [thaws_zero hz ha H2]
        simp only
        rw [if_pos hc]
        exact g2 H2
      · cases ht
    · cases ht
theorem buildSliceO_zero {P : Program} {t : TypeId} {H H1 : Ob} {n : Nat} {ps : List (Nat × PV)} {p : PV} (hz : ∀ x ∈ ps, idb x.2 = 0) (h : buildSliceO P t H n ps = some (p, H1)) : H1 = H ∧ ∀ H2, buildSliceO P t H2 n ps = some (p, H2) := by
  unfold buildSliceO at h ⊢
  split at h
  · rename_i e he
    split at h
    · rename_i y hy
      split at h
      · rename_i hc
        split at h
        · rename_i es Ha ha
          obtain ⟨g1, g2⟩ := rowParts_zero hz ha
          injection h with h
          injection h with e1 e2
          subst e1; subst e2
          refine ⟨g1, fun H2 => ?_⟩
          rw [if_pos hc, g2 H2]
        · cases h
      · cases h
    · cases h
  · cases h
theorem fzC_lend {H : Ob} {p : PV} (h : fzC H p = true) : ∃ q, lend H p = some (q, H) ∧ idb q = 0 ∧ ∀ H2, (∀ j ∈ heads0 p, H2 j = H j) → fzC H2 p = true ∧ lend H2 p = some (q, H2) := by
  cases p with
  | s v => exact ⟨.s v, rfl, rfl, fun H2 _ => ⟨rfl, rfl⟩⟩
  | eptr es i off => exact ⟨.eptr es i off, rfl, rfl, fun H2 _ => ⟨rfl, rfl⟩⟩
  | hsl id ver off n =>
    have key : ∀ H : Ob, fzC H (.hsl id ver off n) = true → ∃ ty sz ap es, H id = .sarr ty sz ver true ap es ∧ off + n ≤ es.length := by
      intro H h
      simp only [fzC] at h
      split at h
      · rename_i ty sz v fz ap es hH
        simp only [Bool.and_eq_true, decide_eq_true_eq] at h
        obtain ⟨⟨h1, h2⟩, h3⟩ := h
        subst h1; subst h2
        exact ⟨ty, sz, ap, es, hH, h3⟩
      · cases h
    obtain ⟨ty, sz, ap, es, hH, hle⟩ := key H h
    have run : ∀ H : Ob, H id = .sarr ty sz ver true ap es → lend H (.hsl id ver off n) = some (.s (.slice ((es.drop off).take n) false), H) := by
      intro H hH
      have hr : rowsOf H (.hsl id ver off n) = some ((es.drop off).take n) := by
        simp only [rowsOf, hH]
        rw [if_pos ⟨trivial, hle⟩]
      have hf : freeze1 H id = H := by
        have e : freeze1 H id = H.set id (.sarr ty sz ver true ap es) := by simp only [freeze1, hH]
        rw [e]
        funext j
        unfold Ob.set
        by_cases hj : j = id
        · rw [if_pos hj, hj, hH]
        · rw [if_neg hj]
      simp only [lend, hr, bnd_some, hf]
    refine ⟨_, run H hH, rfl, fun H2 h2 => ?_⟩
    have h2' : H2 id = .sarr ty sz ver true ap es := by rw [h2 id (List.mem_cons_self ..), hH]
    refine ⟨?_, run H2 h2'⟩
    simp only [fzC, h2']
    simp [hle]
  | _ => cases h
theorem fzC_lendL {H : Ob} : ∀ {l : List PV}, l.all (fzC H) = true → ∃ q, lendL H l = some (q, H) ∧ idbL q = 0 ∧ ∀ H2, (∀ j ∈ l.flatMap heads0, H2 j = H j) → l.all (fzC H2) = true ∧ lendL H2 l = some (q, H2)
  | [], h => ⟨[], rfl, rfl, fun H2 _ => ⟨rfl, rfl⟩⟩
  | p :: r, h => by
    simp only [List.all_cons, Bool.and_eq_true] at h
    obtain ⟨q, h1, h2, h3⟩ := fzC_lend h.1
    obtain ⟨qs, h4, h5, h6⟩ := fzC_lendL h.2
    refine ⟨q :: qs, ?_, ?_, fun H2 hh => ?_⟩
    · simp only [lendL, h1, bnd_some, h4]
    · simp only [idbL, h2, h5]; rfl
    · obtain ⟨k1, k2⟩ := h3 H2 (fun j hj => hh j (by rw [List.flatMap_cons]; exact List.mem_append_left _ hj))
      obtain ⟨k3, k4⟩ := h6 H2 (fun j hj => hh j (by rw [List.flatMap_cons]; exact List.mem_append_right _ hj))
      refine ⟨by simp only [List.all_cons, k1, k3, Bool.and_self], ?_⟩
      simp only [lendL, k2, bnd_some, k4]
theorem fzA_lend {H : Ob} {p : PV} (h : fzA H p = true) : ∃ q, lend H p = some (q, H) ∧ idb q = 0 ∧ ∀ H2, (∀ j ∈ headsA p, H2 j = H j) → fzA H2 p = true ∧ lend H2 p = some (q, H2) := by
  cases p with
  | agg cs =>
    obtain ⟨q, h1, h2, h3⟩ := fzC_lendL (l := cs) h
    refine ⟨.agg q, ?_, ?_, fun H2 hh => ?_⟩
    · simp only [lend, h1, bnd_some]
    · simpa only [idb] using h2
    · obtain ⟨k1, k2⟩ := h3 H2 hh
      exact ⟨k1, by simp only [lend, k2, bnd_some]⟩
  | s v => exact fzC_lend h
  | eptr es i off => exact fzC_lend h
  | hsl id ver off n => exact fzC_lend h
  | _ => cases h
theorem fzA_lendL {H : Ob} : ∀ {l : List PV}, l.all (fzA H) = true → ∃ q, lendL H l = some (q, H) ∧ idbL q = 0 ∧ ∀ H2, (∀ j ∈ l.flatMap headsA, H2 j = H j) → l.all (fzA H2) = true ∧ lendL H2 l = some (q, H2)
  | [], h => ⟨[], rfl, rfl, fun H2 _ => ⟨rfl, rfl⟩⟩
  | p :: r, h => by
    simp only [List.all_cons, Bool.and_eq_true] at h
    obtain ⟨q, h1, h2, h3⟩ := fzA_lend h.1
    obtain ⟨qs, h4, h5, h6⟩ := fzA_lendL h.2
    refine ⟨q :: qs, ?_, ?_, fun H2 hh => ?_⟩
    · simp only [lendL, h1, bnd_some, h4]
    · simp only [idbL, h2, h5]; rfl
    · obtain ⟨k1, k2⟩ := h3 H2 (fun j hj => hh j (by rw [List.flatMap_cons]; exact List.mem_append_left _ hj))
      obtain ⟨k3, k4⟩ := h6 H2 (fun j hj => hh j (by rw [List.flatMap_cons]; exact List.mem_append_right _ hj))
      refine ⟨by simp only [List.all_cons, k1, k3, Bool.and_self], ?_⟩
      simp only [lendL, k2, bnd_some, k4]
theorem doCall_fz {callc : CallC} {run : Run} {f : FuncId} {args : List PV} {H H1 : Ob} {next n1 : Nat} {o : Out} (h : doCall E callc run true f args H next = some (o, H1, n1)) : H1 = H ∧ n1 = next ∧ ∀ H2 n2, (∀ j ∈ args.flatMap headsA, H2 j = H j) → doCall E callc run true f args H2 n2 = some (o, H2, n2) := by
  unfold doCall at h
  split at h
  · simp at h
  · rename_i hf
    obtain ⟨a, h1, h2⟩ := bnd_eq_some.1 h
    simp only at h2
    split at h2
    · cases h2
    · rename_i hz
      have hz : args.all (fzA H) = true := by
        simp only [true_and] at hz
        simpa using hz
      obtain ⟨q, k1, k2, k3⟩ := fzA_lendL hz
      rw [k1] at h1
      injection h1 with h1
      subst h1
      simp only [k2] at h2
      simp only [Nat.zero_le, firstO, List.all_nil, and_self, if_true] at h2
      obtain ⟨r, h3, h4⟩ := bnd_eq_some.1 h2
      injection h4 with h4
      injection h4 with e1 e2
      injection e2 with e2 e3
      subst e1; subst e2; subst e3
      refine ⟨rfl, rfl, fun H2 n2 hh => ?_⟩
      obtain ⟨k4, k5⟩ := k3 H2 hh
      unfold doCall
      rw [if_neg hf, k5]
      simp only [bnd_some, k2, k4, Nat.zero_le, firstO, List.all_nil, and_self, if_true, h3]
      simp
theorem headsA_heads {p : PV} {j : Nat} (h : j ∈ headsA p) : j ∈ heads p := by
  cases p with
  | agg cs =>
    simp only [headsA, heads, List.mem_flatMap] at h ⊢
    obtain ⟨c, hc, h⟩ := h
    refine ⟨c, hc, ?_⟩
    cases c <;> first | exact h | cases h
  | func f a b => cases h
  | _ => exact h
/-- What a call looks at is among what its operation touches. -/
theorem call_heads {T : Nat → PV} {fv : Operand} {args : Array Operand} {ts : Array TypeId} {fv1 : PV} {args1 : List PV} {c : FuncId × List PV × List PV} {nid : Nat} (h1 : evalO E T fv = some fv1) (h2 : evalL E T args.toList = some args1) (h3 : callee fv1 = some c) :
    ∀ j ∈ (c.2.1 ++ args1 ++ c.2.2).flatMap headsA, j ∈ touchO E (.call { callee := .value fv, args := args, argTypes := ts }) T nid := by
  intro j hj
  have hk : kindO (.call { callee := .value fv, args := args, argTypes := ts }) ≠ 0 := by simp [kindO]
  rw [List.flatMap_append, List.flatMap_append] at hj
  have hfn : ∀ l : List PV, (l = c.2.1 ∨ l = c.2.2) → j ∈ l.flatMap headsA → j ∈ heads fv1 := by
    intro l hl hin
    unfold callee at h3
    split at h3
    · injection h3 with h3
      subst h3
      rcases hl with e | e <;> (subst e; simp at hin)
    · injection h3 with h3
      subst h3
      simp only [heads, heads1, List.flatMap_append, List.mem_append]
      rcases hl with e | e
      · subst e; exact .inl hin
      · subst e; exact .inr hin
    · cases h3
  have hfv : j ∈ heads fv1 → j ∈ touchO E (.call { callee := .value fv, args := args, argTypes := ts }) T nid := fun h => touch_mem hk (by simp [Op.operands, Call.operands]) h1 j h
  rcases List.mem_append.1 hj with hj | hj
  · rcases List.mem_append.1 hj with hj | hj
    · exact hfv (hfn _ (.inl rfl) hj)
    · obtain ⟨p, hp, hj⟩ := List.mem_flatMap.1 hj
      obtain ⟨x, hx, hxp⟩ := evalL_mem h2 p hp
      exact touch_mem hk (by simp [Op.operands, Call.operands]; exact .inr (by simpa using hx)) hxp j (headsA_heads hj)
  · exact hfv (hfn _ (.inr rfl) hj)

/-- One step at two states that the operation cannot tell apart. -/
theorem stepO_fr {callc : CallC} {run : Run} {ops : Array Oper} {o : Oper} {T T1 : Nat → PV} {H H1 : Ob} {next n1 : Nat} (h : stepO E callc run ops true o T H next = some (.go T1 H1 n1)) :
    n1 = next + 1 ∧ (kindO o.op < 2 → H1 = H) ∧ (∀ j, j ∉ touchO E o.op T next → H1 j = H j) ∧ ∃ p, T1 = putT T o.dst p ∧ ∀ (T2 : Nat → PV) (H2 : Ob), (∀ x ∈ o.op.operands, evalO E T2 x = evalO E T x) → wantedS ops T2 o.guard = wantedS ops T o.guard →
      (∀ j ∈ touchO E o.op T next, H2 j = H j) → stepO E callc run ops true o T2 H2 next = some (.go (putT T2 o.dst p) (mix (touchO E o.op T next) H1 H2) n1) := by
  unfold stepO at h
  split at h
  rotate_left
  · rename_i hw
    injection h with h
    injection h with e1 e2 e3
    subst e1; subst e2; subst e3
    refine ⟨rfl, fun _ => rfl, fun _ _ => rfl, .undef, rfl, fun T2 H2 hx hg hA => ?_⟩
    unfold stepO
    rw [hg, if_neg hw, mix_same hA]
  rename_i hw
  split at h
  · rename_i fv args ts hop
    obtain ⟨fv1, h1, h⟩ := bnd_eq_some.1 h
    obtain ⟨args1, h2, h⟩ := bnd_eq_some.1 h
    obtain ⟨c, h3, h⟩ := bnd_eq_some.1 h
    obtain ⟨r, h4, h⟩ := bnd_eq_some.1 h
    obtain ⟨ro, rH, rn⟩ := r
    obtain ⟨g1, g2, g3⟩ := doCall_fz h4
    cases ro with
    | panic v => simp at h
    | ret v =>
      simp only at h
      injection h with h
      injection h with e1 e2 e3
      subst e1; subst e2; subst e3; subst g1; subst g2
      have hch := call_heads (ts := ts) (nid := next) h1 h2 h3
      rw [← hop] at hch
      refine ⟨rfl, fun _ => rfl, fun _ _ => rfl, v, rfl, fun T2 H2 hx hg hA => ?_⟩
      unfold stepO
      rw [hg, if_pos hw]
      have hfv : evalO E T2 fv = evalO E T fv := hx fv (by rw [hop]; simp [Op.operands, Call.operands])
      have hal : evalL E T2 args.toList = evalL E T args.toList := evalL_congr (fun x hm => hx x (by rw [hop]; simp [Op.operands, Call.operands]; exact .inr (by simpa using hm)))
      rw [mix_same hA]
      split
      · rename_i fv' args' ts' hop'
        rw [hop] at hop'
        injection hop' with hop'
        injection hop' with e1 e2 e3
        injection e1 with e1
        subst e1; subst e2
        rw [hfv, hal, h1, h2]
        simp only [bnd_some, h3, g3 H2 _ (fun j hj => hA j (hch j hj))]
      · rename_i y hop'; rw [hop] at hop'; cases hop'
      · rename_i y hop'; rw [hop] at hop'; cases hop'
      · rename_i y hn hop'; exact absurd hop (y _ _ _)
  · rename_i y hop
    obtain ⟨y1, h1, h⟩ := bnd_eq_some.1 h
    split at h <;> first | (injection h with h; cases h; done) | cases h
  · rename_i t n ps hop
    obtain ⟨q, h1, h⟩ := bnd_eq_some.1 h
    split at h
    · cases h
    · rename_i hq
      obtain ⟨r, h2, h⟩ := bnd_eq_some.1 h
      injection h with h
      injection h with e1 e2 e3
      obtain ⟨p, rH⟩ := r
      simp only at e1 e2
      subst e1; subst e2; subst e3
      have hz : ∀ x ∈ q, idb x.2 = 0 := by
        intro x hx
        simp only [true_and] at hq
        have := List.all_eq_true.1 (by simpa using hq : (q.all fun x => decide (idb x.2 = 0)) = true) x hx
        simpa using this
      obtain ⟨g1, g2⟩ := buildSliceO_zero hz h2
      subst g1
      refine ⟨rfl, fun _ => rfl, fun _ _ => rfl, p, rfl, fun T2 H2 hx hg hA => ?_⟩
      have hev : evalP E T2 ps.toList = evalP E T ps.toList := evalP_congr (fun x hm => hx x (by rw [hop]; simpa [Op.operands] using hm))
      unfold stepO
      rw [hg, if_pos hw, mix_same hA]
      split
      · rename_i hop'; rw [hop] at hop'; cases hop'
      · rename_i hop'; rw [hop] at hop'; cases hop'
      · rename_i t' n' ps' hop'
        rw [hop] at hop'
        injection hop' with e1 e2 e3
        subst e1; subst e2; subst e3
        rw [hev, h1, bnd_some, if_neg hq, g2 H2]
        rfl
      · rename_i hn1 hn2 hn3; exact absurd hop (hn3 _ _ _)
  · rename_i hn1 hn2 hn3
    obtain ⟨r, h2, h⟩ := bnd_eq_some.1 h
    injection h with h
    injection h with e1 e2 e3
    obtain ⟨p, rH⟩ := r
    simp only at e1 e2
    subst e1; subst e2; subst e3
    have hnb : ∀ t n ps, o.op ≠ .buildSlice t n ps := fun t n ps e => hn3 t n ps e
    refine ⟨rfl, fun hk => opStep_keep hnb hk h2, fun j hj => ?_, p, rfl, fun T2 H2 hx hg hA => ?_⟩
    · rcases opStep_fr (H2 := H) hnb (fun _ _ => rfl) p rH h2 with ⟨e, _⟩ | ⟨id, hid, ob, e, _⟩
      · rw [e]
      · rw [e]
        exact set_off hid hj
    · have hst : opStep E o.op T2 H2 next = some (p, mix (touchO E o.op T next) rH H2) := by
        rw [opStep_congr hx]
        rcases opStep_fr hnb hA p rH h2 with ⟨e, e'⟩ | ⟨id, hid, ob, e, e'⟩
        · rw [e', e, mix_same hA]
        · rw [e', e, mix_set hA hid]
      unfold stepO
      rw [hg, if_pos hw]
      split
      · rename_i hop'; exact absurd hop' (hn1 _ _ _)
      · rename_i hop'; exact absurd hop' (hn2 _)
      · rename_i hop'; exact absurd hop' (hn3 _ _ _)
      · rw [hst]
        rfl
end
end Go.Vm
