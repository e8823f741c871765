/- Calls of functions that run on their arguments' objects alone: the rules. -/
import Derived.Test.YtfgkhgkgaedcmaaGreatVmGJ
set_option linter.unusedVariables false
set_option linter.unusedSimpArgs false
namespace Go.Vm

section
variable {E : Env}
theorem WC_locG {dr : Bool} {g : FuncId} {args a : List PV} {H : Ob} {n : Nat} {ids : List Nat} {v v' : PV} {hs' : List HObj} {d T r Q} (hr : E.ref g = false) (hlf : E.loc g = true) (hi : idsOf args = ids) (hok : ids.all (fun i => locOk (H i)) = true) (ha : renL (fun i => idxOf ids i 0) args = some a)
    (hc : calL E g a (ids.map H) = some (.ret v, hs')) (hz : hs'.all (fun o => decide (idbO o = 0)) = true) (hl : hs'.length = ids.length) (hv : ren (fun k => ids[k]?) v = some v') (hk : WS E dr r (putT T d v') (setL H ids hs') n Q) : WCs E dr g args H n d T r Q := by
  refine ⟨v', setL H ids hs', n, ?_, hk⟩
  unfold doCall
  rw [hr, hlf]
  simp only [Bool.false_eq_true, if_false, if_true]
  unfold doLoc
  rw [hi]
  simp only [hok, if_true, ha, bnd_some, hc, hz, hl, renOut, hv]
/-- One object. -/
theorem WC_loc1 {dr : Bool} {g : FuncId} {args a : List PV} {H : Ob} {n : Nat} {id : Nat} {ob ob' : HObj} {v v' : PV} {d T r Q} (hr : E.ref g = false) (hlf : E.loc g = true) (hi : idsOf args = [id]) (ha : renL (fun i => idxOf [id] i 0) args = some a) (hH : H id = ob) (ho : locOk ob = true)
    (hc : calL E g a [ob] = some (.ret v, [ob'])) (hz : idbO ob' = 0) (hv : ren (fun k => [id][k]?) v = some v') (hk : WS E dr r (putT T d v') (H.set id ob') n Q) : WCs E dr g args H n d T r Q := by
  subst hH
  exact WC_locG hr hlf hi (by simp [ho]) ha hc (by simp [hz]) rfl hv hk
/-- No object; the result may be a new array. -/
theorem WC_loc0 {dr : Bool} {g : FuncId} {args : List PV} {H : Ob} {n : Nat} {v : PV} {d T r Q} (hr : E.ref g = false) (hlf : E.loc g = true) (hi : idsOf args = []) (ha : renL (fun i => idxOf [] i 0) args = some args)
    (hc : calL E g args [] = some (.ret v, [])) (hv : ren (fun k => ([] : List Nat)[k]?) v = some v) (hk : WS E dr r (putT T d v) H n Q) : WCs E dr g args H n d T r Q :=
  WC_locG (ids := []) (hs' := []) hr hlf hi rfl ha hc rfl rfl hv hk

/-! ### functions that append to their first argument -/
/-- What such a call gives: in the object handed over (cp: false), or beside it. -/
def AppR (cp : Bool) (e : TypeId) (sz : Nat) (hs : List HObj) (all : List (List SV)) (o : PV) (hs' : List HObj) : Prop :=
  (o = .s .nils ∧ all = [] ∧ hs' = hs ∧ (hs = [] ∨ cp = true)) ∨ (o = .s (.slice all true) ∧ (∀ c ∈ all, c.length = sz) ∧ hs' = hs ∧ (hs = [] ∨ cp = true)) ∨ (∃ ver fz, hs.length = 1 ∧ cp = false ∧ o = .hsl 0 ver 0 all.length ∧ hs' = [.sarr e sz ver fz true all]) ∨
    ∃ fz, o = .hsl hs.length 0 0 all.length ∧ hs' = hs ++ [.sarr e sz 0 fz true all] ∧ (hs = [] ∨ cp = true)
structure AppC (cp : Bool) (E : Env) (g : FuncId) (e : TypeId) (sz : Nat) (x : List PV) (rows all : List (List SV)) : Prop where
  nil : rows = [] → ∃ o hs', calL E g (.s .nils :: x) [] = some (.ret o, hs') ∧ AppR cp e sz [] all o hs'
  lit : (∀ c ∈ rows, c.length = sz) → ∃ o hs', calL E g (.s (.slice rows true) :: x) [] = some (.ret o, hs') ∧ AppR cp e sz [] all o hs'
  obj : ∀ ver fz, ∃ o hs', calL E g (.hsl 0 ver 0 rows.length :: x) [.sarr e sz ver fz true rows] = some (.ret o, hs') ∧ AppR cp e sz [.sarr e sz ver fz true rows] all o hs'
/-- Where such a function stands: its own slice, and the object that it was handed. -/
def Stand (cp : Bool) (e : TypeId) (sz : Nat) (hs : List HObj) (H : Ob) (n : Nat) (p : PV) (rows : List (List SV)) : Prop :=
  match cp with
  | true => Own hs.length e sz H n p rows ∧ ∀ j, j < hs.length → H j = Ob.of hs j
  | false => Own 0 e sz H n p rows ∧ ∀ j, j < hs.length → ¬ Off p j
/-- The end of such a function. -/
def FinA (cp : Bool) (e : TypeId) (sz : Nat) (hs : List HObj) (rs : List MR) (all : List (List SV)) : Qt := fun x T H n => (x = .ret ∨ x = .normal) ∧ ∃ vs, resM T H rs = some vs ∧ Stand cp e sz hs H n (packR vs) all
theorem FinA_ret {cp e sz hs rs all T H n} : FinA cp e sz hs rs all .ret T H n = WX (resM T H rs) fun vs => Stand cp e sz hs H n (packR vs) all := by simp [FinA, WX]
theorem FinA_normal {cp e sz hs rs all T H n} : FinA cp e sz hs rs all .normal T H n = WX (resM T H rs) fun vs => Stand cp e sz hs H n (packR vs) all := by simp [FinA, WX]
theorem firstO_of {hs : List HObj} {H : Ob} (h : ∀ j, j < hs.length → H j = Ob.of hs j) : firstO H hs.length = hs := by
  refine List.ext_getElem? fun i => ?_
  by_cases hi : i < hs.length
  · rw [firstO_get _ _ _ hi, h i hi]
    unfold Ob.of
    rw [List.getD_eq_getElem?_getD, List.getElem?_eq_getElem hi]
    rfl
  · rw [List.getElem?_eq_none (by rw [firstO_length]; omega), List.getElem?_eq_none (by omega)]
theorem fin_own {cp : Bool} {e : TypeId} {sz : Nat} {hs : List HObj} {H : Ob} {n : Nat} {p : PV} {all : List (List SV)} (hk : hs.length ≤ 1) (hsa : ∀ o ∈ hs, ∃ ty sz ver fz ap es, o = .sarr ty sz ver fz ap es) (h : Stand cp e sz hs H n p all) :
    ∃ o hs', finE true hs.length (.ret p, H, n) = some (.ret o, hs') ∧ AppR cp e sz hs all o hs' := by
  have objs : ∀ l : List HObj, (∀ o ∈ l, ∃ ty sz ver fz ap es, o = .sarr ty sz ver fz ap es) → ownObjs hs.length H l = some l := by
    intro l
    induction l with
    | nil => intro _; rfl
    | cons a r ih =>
      intro hl
      obtain ⟨ty, sz, ver, fz, ap, es, rfl⟩ := hl a (by simp)
      simp only [ownObjs, ownObj, bnd_some, ih fun o ho => hl o (List.mem_cons_of_mem _ ho)]
  unfold finE
  rw [if_pos rfl]
  obtain ⟨lo, ho, hc⟩ : ∃ lo, Own lo e sz H n p all ∧ ((cp = true ∧ lo = hs.length ∧ ∀ j, j < hs.length → H j = Ob.of hs j) ∨ (cp = false ∧ ∀ j, j < hs.length → ¬ Off p j)) := by
    cases cp with
    | true => exact ⟨_, h.1, .inl ⟨rfl, rfl, h.2⟩⟩
    | false => exact ⟨_, h.1, .inr ⟨rfl, h.2⟩⟩
  have frs : ∀ v : SV, p = .s v → (hs = [] ∨ cp = true) ∧ ∀ j, j < hs.length → H j = Ob.of hs j := by
    rintro v rfl
    rcases hc with ⟨h1, _, h2⟩ | ⟨h1, h2⟩
    · exact ⟨.inr h1, h2⟩
    · have : hs.length = 0 := by
        apply Classical.byContradiction
        intro hne
        exact h2 0 (by omega) .s
      exact ⟨.inl (List.eq_nil_of_length_eq_zero this), fun j hj => by omega⟩
  clear h
  rcases ho with ⟨rfl, rfl⟩ | ⟨rfl, hcl⟩ | ⟨id, ver, fz, h1, h2, rfl, h⟩
  · obtain ⟨f1, f2⟩ := frs _ rfl
    have hf := firstO_of f2
    refine ⟨_, _, ?_, .inl ⟨rfl, rfl, rfl, f1⟩⟩
    simp only [finD, finC, ownOut, own, bnd_some, hf, objs hs hsa]
  · obtain ⟨f1, f2⟩ := frs _ rfl
    have hf := firstO_of f2
    refine ⟨_, _, ?_, .inr (.inl ⟨rfl, hcl, rfl, f1⟩)⟩
    simp only [finD, finC, ownOut, own, bnd_some, hf, objs hs hsa]
  · by_cases hlt : hs.length ≤ id
    · have f2 : (hs = [] ∨ cp = true) ∧ ∀ j, j < hs.length → H j = Ob.of hs j := by
        rcases hc with ⟨h1, _, h2⟩ | ⟨h1, h2⟩
        · exact ⟨.inr h1, h2⟩
        · have : hs.length = 0 := by
            apply Classical.byContradiction
            intro hne
            exact h2 0 (by omega) (fun id' _ _ _ e1 => by injection e1 with e1; omega)
          exact ⟨.inl (List.eq_nil_of_length_eq_zero this), fun j hj => by omega⟩
      have hf := firstO_of f2.2
      refine ⟨_, _, ?_, .inr (.inr (.inr ⟨fz, rfl, rfl, f2.1⟩))⟩
      simp only [finD]
      rw [if_pos hlt, h]
      simp only [hf]
      rw [if_pos ⟨trivial, trivial, trivial, List.all_eq_true.2 fun o ho => by obtain ⟨ty, sz, ver, fz, ap, es, rfl⟩ := hsa o ho; rfl⟩]
    · have h0 : id = 0 := by omega
      have h3 : hs.length = 1 := by omega
      have h4 : cp = false := by
        rcases hc with ⟨_, h5, _⟩ | ⟨h5, _⟩
        · omega
        · exact h5
      subst h0
      refine ⟨_, _, ?_, .inr (.inr (.inl ⟨ver, fz, h3, h4, rfl, rfl⟩))⟩
      simp only [finD]
      rw [if_neg hlt]
      simp only [finC, ownOut, own]
      rw [if_pos (by omega), h3]
      simp only [bnd_some, firstO, h, List.nil_append, ownObjs, ownObj]
theorem appC_of {cp : Bool} {g : FuncId} {D : List Nat} {nt : Nat} {rs : List MR} {c : SC} {e : TypeId} {sz : Nat} {x : List PV} {rows all : List (List SV)} (hf : sF E g D = some ⟨nt, rs, c⟩) (hlf : E.loc g = true) (hl : x.length + 1 ≤ nt)
    (h : ∀ (hs : List HObj) (q : PV), hs.length ≤ 1 → Own 0 e sz (Ob.of hs) hs.length q rows → (∀ j, j < hs.length → ¬ Off q j) → WP E c (enter (q :: x)) (Ob.of hs) hs.length (FinA cp e sz hs rs all)) : AppC cp E g e sz x rows all := by
  have one : ∀ (hs : List HObj) (q : PV), hs.length ≤ 1 → (∀ o ∈ hs, ∃ ty sz ver fz ap es, o = .sarr ty sz ver fz ap es) → Own 0 e sz (Ob.of hs) hs.length q rows → (∀ j, j < hs.length → ¬ Off q j) → ∃ o hs', calL E g (q :: x) hs = some (.ret o, hs') ∧ AppR cp e sz hs all o hs' := by
    intro hs q hk hsa hq hoff
    obtain ⟨ex, T1, H1, n1, h1, _, h2, vs, h3, h4⟩ := h hs q hk hq hoff
    obtain ⟨o, hs', k1, k2⟩ := fin_own hk hsa h4
    refine ⟨o, hs', calS_of (r := (.ret (packR vs), H1, n1)) hf hl h1 ?_ (by rw [hlf]; exact k1), k2⟩
    unfold finM
    rcases h2 with e1 | e1 <;> (subst e1; simp only [h3, bnd_some])
  refine ⟨fun hr => one [] _ (by simp) nofun (.inl ⟨rfl, hr⟩) nofun, fun hc => one [] _ (by simp) nofun (.inr (.inl ⟨rfl, hc⟩)) nofun, fun ver fz => one [_] _ (Nat.le_refl _) (fun o ho => ?_) (.inr (.inr ⟨0, ver, fz, Nat.le_refl _, Nat.lt_succ_self 0, rfl, rfl⟩)) fun j hj ho => ?_⟩
  · exact ⟨_, _, _, _, _, _, List.mem_singleton.1 ho⟩
  · have hj : j < 1 := hj
    exact ho _ _ _ _ rfl (by omega)
theorem ren_map {g : Nat → Option Nat} : ∀ m : List SV, renL g (m.map .s) = some (m.map .s) ∧ (m.map PV.s).flatMap heads0 = []
  | [] => ⟨rfl, rfl⟩
  | v :: m => by
    obtain ⟨h1, h2⟩ := ren_map (g := g) m
    exact ⟨by simp only [List.map_cons, renL, ren, bnd_some, h1], by rw [List.map_cons, List.flatMap_cons, h2]; rfl⟩
theorem ids_pure : ∀ {x : List PV}, pureA x = true → x.flatMap headsA = [] ∧ ∀ g, renL g x = some x
  | [], _ => ⟨rfl, fun _ => rfl⟩
  | .s v :: r, h => by
    obtain ⟨k1, k2⟩ := ids_pure (x := r) h
    exact ⟨by rw [List.flatMap_cons, k1]; rfl, fun g => by simp only [renL, ren, k2, bnd_some]⟩
  | .agg l :: r, h => by
    rw [pureA, Bool.and_eq_true] at h
    obtain ⟨m, rfl⟩ := pureA_map h.1
    obtain ⟨k1, k2⟩ := ids_pure (x := r) h.2
    exact ⟨by rw [List.flatMap_cons, k1, List.append_nil]; exact (ren_map (g := fun _ => none) m).2, fun g => by simp only [renL, ren, (ren_map m).1, k2, bnd_some]⟩
theorem ids_one {id ver off n : Nat} {x : List PV} (h : pureA x = true) : idsOf (.hsl id ver off n :: x) = [id] ∧ renL (fun i => idxOf [id] i 0) (.hsl id ver off n :: x) = some (.hsl 0 ver off n :: x) := by
  obtain ⟨k1, k2⟩ := ids_pure h
  refine ⟨?_, ?_⟩
  · unfold idsOf
    rw [List.flatMap_cons, k1]
    rfl
  · simp only [renL, ren, idxOf, if_true, bnd_some, k2]
theorem ids_none {v : SV} {x : List PV} (h : pureA x = true) : idsOf (.s v :: x) = [] ∧ renL (fun i => idxOf [] i 0) (.s v :: x) = some (.s v :: x) := by
  obtain ⟨k1, k2⟩ := ids_pure h
  refine ⟨?_, ?_⟩
  · unfold idsOf
    rw [List.flatMap_cons, k1]
    rfl
  · simp only [renL, ren, bnd_some, k2]
theorem doLoc_old {callc : CallC} {g : FuncId} {args a : List PV} {H : Ob} {nid : Nat} {ids : List Nat} {o o' : Out} {hs' : List HObj} (hi : idsOf args = ids) (hok : ids.all (fun i => locOk (H i)) = true) (ha : renL (fun i => idxOf ids i 0) args = some a) (hc : callc g a (ids.map H) = some (o, hs'))
    (hz : ∀ x ∈ hs', idbO x = 0) (hl : hs'.length = ids.length) (ho : renOut (fun k => ids[k]?) o = some o') : doLoc callc g args H nid = some (o', setL H ids hs') := by
  have hz' : hs'.all (fun o => decide (idbO o = 0)) = true := List.all_eq_true.2 fun x hx => decide_eq_true (hz x hx)
  unfold doLoc
  rw [hi]
  simp only [hok, if_true, ha, bnd_some, hc, hz', hl, ho]
theorem doLoc_new {callc : CallC} {g : FuncId} {args a : List PV} {H : Ob} {nid : Nat} {ids : List Nat} {hs : List HObj} {ty : TypeId} {sz n : Nat} {fz ap : Bool} {es : List (List SV)} (hi : idsOf args = ids) (hok : ids.all (fun i => locOk (H i)) = true) (ha : renL (fun i => idxOf ids i 0) args = some a)
    (hc : callc g a (ids.map H) = some (.ret (.hsl ids.length 0 0 n), hs ++ [.sarr ty sz 0 fz ap es])) (hz : ∀ x ∈ hs, idbO x = 0) (hl : hs.length = ids.length) (hn : n = es.length) : doLoc callc g args H nid = some (.ret (.hsl nid 0 0 n), (setL H ids hs).set nid (.sarr ty sz 0 fz ap es)) := by
  have hz' : (hs ++ [HObj.sarr ty sz 0 fz ap es]).all (fun o => decide (idbO o = 0)) = true := List.all_eq_true.2 fun x hx => by
    rcases List.mem_append.1 hx with h | h
    · exact decide_eq_true (hz x h)
    · rw [List.mem_singleton.1 h]; rfl
  have h1 : (hs ++ [HObj.sarr ty sz 0 fz ap es]).length = ids.length + 1 := by rw [List.length_append, hl]; rfl
  have h2 : (hs ++ [HObj.sarr ty sz 0 fz ap es])[ids.length]? = some (.sarr ty sz 0 fz ap es) := by
    rw [List.getElem?_append_right (by omega), hl, Nat.sub_self]
    rfl
  unfold doLoc
  rw [hi]
  simp only [hok, if_true, ha, bnd_some, hc, hz']
  rw [if_neg (by omega), h2]
  simp only
  rw [if_pos ⟨trivial, hn, h1⟩, setL_app hl]
theorem Own.app2 {lo e sz H n nid p rows x new} (h : Own lo e sz H n p rows) (hx : rowsOf H x = some new) (hc : ∀ c ∈ new, c.length = sz) (hl : rows.length + new.length ≤ 1073741824) (hn : n ≤ nid) (hlo : lo ≤ nid) :
    ∃ p' H', appendM e sz H nid p x = some (p', H') ∧ Own lo e sz H' (nid + 1) p' (rows ++ new) ∧ (∀ j, j ≠ nid → Off p j → H' j = H j) ∧ (∀ j, j ≠ nid → Off p j → Off p' j) ∧ ∀ j, j ≠ nid → Off p' j → Off p j := by
  have hall : new.all (fun c => decide (c.length = sz)) = true := List.all_eq_true.2 (fun c hc' => decide_eq_true (hc c hc'))
  by_cases he : new = []
  · subst he
    refine ⟨p, H, ?_, ?_, fun _ _ _ => rfl, fun _ _ h => h, fun _ _ h => h⟩
    · unfold appendM
      rw [hx]
      rcases h with ⟨rfl, rfl⟩ | ⟨rfl, h⟩ | ⟨id, ver, fz, h1, h2, rfl, h⟩
      · rfl
      · have h2 : rows.all (fun c => decide (c.length = sz)) = true := List.all_eq_true.2 (fun c hc' => decide_eq_true (h c hc'))
        simp only
        rw [if_pos hall, if_pos ⟨h2, by simpa using hl⟩]
        rfl
      · simp only [h]
        rw [if_pos hall, if_pos ⟨trivial, trivial, trivial, trivial, trivial, by simpa using hl⟩]
        rfl
    · rw [List.append_nil]
      exact h.keep (by omega) (fun _ _ _ _ => rfl)
  · have hne : new.isEmpty = false := by cases new <;> first | rfl | exact absurd rfl he
    rcases h with ⟨rfl, rfl⟩ | ⟨rfl, h⟩ | ⟨id, ver, fz, h1, h2, rfl, h⟩
    · refine ⟨.hsl nid 0 0 new.length, H.set nid (.sarr e sz 0 false true new), ?_, .inr (.inr ⟨nid, 0, false, hlo, by omega, rfl, if_pos rfl⟩), fun j hj _ => if_neg hj, fun j hj _ id ver off m e1 => ?_, fun _ _ _ => .s⟩
      · simp only [appendM, hx, hall, hne, if_true, Bool.false_eq_true, if_false]
        rw [if_pos (by simpa using hl)]
      · injection e1 with e1
        omega
    · have h2 : rows.all (fun c => decide (c.length = sz)) = true := List.all_eq_true.2 (fun c hc' => decide_eq_true (h c hc'))
      refine ⟨.hsl nid 0 0 (rows.length + new.length), H.set nid (.sarr e sz 0 false true (rows ++ new)), ?_, .inr (.inr ⟨nid, 0, false, hlo, by omega, by rw [List.length_append], if_pos rfl⟩), fun j hj _ => if_neg hj, fun j hj _ id ver off m e1 => ?_, fun _ _ _ => .s⟩
      · simp only [appendM, hx, hall, hne, if_true, Bool.false_eq_true, if_false]
        rw [if_pos ⟨h2, hl⟩]
      · injection e1 with e1
        omega
    · refine ⟨.hsl id (ver + 1) 0 (rows.length + new.length), H.set id (.sarr e sz (ver + 1) fz true (rows ++ new)), ?_, .inr (.inr ⟨id, ver + 1, fz, h1, by omega, by rw [List.length_append], if_pos rfl⟩), fun j _ hj => if_neg (hj _ _ _ _ rfl), fun j _ hj id' ver' off m e1 => ?_, fun j _ hj id' ver' off m e1 => by injection e1 with e1; subst e1; exact hj _ _ _ _ rfl⟩
      · simp only [appendM, hx, h, hall, hne, if_true, Bool.false_eq_true, if_false]
        rw [if_pos ⟨trivial, trivial, trivial, trivial, trivial, hl⟩]
      · injection e1 with e1
        subst e1
        exact hj _ _ _ _ rfl
theorem WX_app2 {E : Env} {dr : Bool} {T : Nat → PV} {d l Q} {lo e sz H n nid p rows x new} (h : Own lo e sz H n p rows) (hx : rowsOf H x = some new) (hc : ∀ c ∈ new, c.length = sz) (hl : rows.length + new.length ≤ 1073741824) (hn : n ≤ nid) (hlo : lo ≤ nid)
    (hk : ∀ p' H', Own lo e sz H' (nid + 1) p' (rows ++ new) → (∀ j, j ≠ nid → Off p j → H' j = H j) → (∀ j, j ≠ nid → Off p j → Off p' j) → (∀ j, j ≠ nid → Off p' j → Off p j) → WS E dr l (putT T d p') H' (nid + 1) Q) : WApp E dr e sz p x H nid d T l Q := by
  obtain ⟨p', H', h1, h2, h3, h4, h5⟩ := h.app2 hx hc hl hn hlo
  exact ⟨_, h1, hk p' H' h2 h3 h4 h5⟩
/-- How an append, or a call that appends, leaves the rest. -/
def Fra (cp : Bool) (nid : Nat) (p p1 : PV) (H H1 : Ob) : Prop :=
  match cp with
  | true => ∀ j, j ≠ nid → Off p1 j ∧ H1 j = H j
  | false => ∀ j, j ≠ nid → Off p1 j → Off p j
theorem Stand.own {cp e sz hs H n p rows} (h : Stand cp e sz hs H n p rows) : Own 0 e sz H n p rows := by
  cases cp with
  | true =>
    rcases h.1 with h | h | ⟨id, ver, fz, h1, h2, h3⟩
    · exact .inl h
    · exact .inr (.inl h)
    · exact .inr (.inr ⟨id, ver, fz, Nat.zero_le _, h2, h3⟩)
  | false => exact h.1
/-- A call that appends to an own slice. -/
theorem WC_app {cp : Bool} {dr : Bool} {g : FuncId} {e : TypeId} {sz lo : Nat} {H : Ob} {n0 nid : Nat} {p : PV} {x : List PV} {rows all : List (List SV)} {d T r Q} (h : Own lo e sz H n0 p rows) (hr : E.ref g = false) (hlf : E.loc g = true) (hp : pureA x = true) (hc : AppC cp E g e sz x rows all) (hn : n0 ≤ nid) (hlo : lo ≤ nid)
    (hk : ∀ p1 H1, Own lo e sz H1 (nid + 1) p1 all → (∀ j, j ≠ nid → Off p j → H1 j = H j) → (∀ j, j ≠ nid → Off p j → Off p1 j) → Fra cp nid p p1 H H1 → WS E dr r (putT T d p1) H1 (nid + 1) Q) : WCs E dr g (p :: x) H (nid + 1) d T r Q := by
  have st : ∀ (X : Ob) (ob : HObj) j, j ≠ nid → (X.set nid ob) j = X j := fun X ob j hj => if_neg hj
  have go : ∀ {v : PV} {H1 : Ob}, doLoc (calL E) g (p :: x) H nid = some (.ret v, H1) → WS E dr r (putT T d v) H1 (nid + 1) Q → WCs E dr g (p :: x) H (nid + 1) d T r Q := fun {v H1} h1 h2 => by
    refine ⟨v, H1, nid + 1, ?_, h2⟩
    unfold doCall
    rw [hr, hlf]
    simp only [Bool.false_eq_true, if_false, if_true, Nat.add_sub_cancel, h1, bnd_some]
  have none_ : ∀ v : SV, p = .s v → (∃ o hs', calL E g (.s v :: x) [] = some (.ret o, hs') ∧ AppR cp e sz [] all o hs') → WCs E dr g (p :: x) H (nid + 1) d T r Q := by
    rintro v rfl ⟨o, hs', k1, k2⟩
    obtain ⟨i1, i2⟩ := ids_none (v := v) hp
    have fr : ∀ {p1 : PV} {H1 : Ob}, (∀ j, j ≠ nid → Off p1 j) → (∀ j, j ≠ nid → H1 j = H j) → Fra cp nid (.s v) p1 H H1 := fun h1 h2 => by
      cases cp with
      | true => exact fun j hj => ⟨h1 j hj, h2 j hj⟩
      | false => exact fun _ _ _ => .s
    rcases k2 with ⟨rfl, rfl, rfl, _⟩ | ⟨rfl, hcl, rfl, _⟩ | ⟨ver, fz, h1, _⟩ | ⟨fz, rfl, rfl, _⟩
    · exact go (doLoc_old i1 rfl i2 k1 nofun rfl rfl) (hk _ _ (.inl ⟨rfl, rfl⟩) (fun _ _ _ => rfl) (fun _ _ _ => .s) (fr (fun _ _ => .s) fun _ _ => rfl))
    · exact go (doLoc_old i1 rfl i2 k1 nofun rfl rfl) (hk _ _ (.inr (.inl ⟨rfl, hcl⟩)) (fun _ _ _ => rfl) (fun _ _ _ => .s) (fr (fun _ _ => .s) fun _ _ => rfl))
    · exact absurd h1 (by decide)
    · exact go (doLoc_new (ids := []) (hs := []) i1 rfl i2 k1 nofun rfl rfl) (hk _ _ (.inr (.inr ⟨nid, 0, fz, hlo, Nat.lt_succ_self _, rfl, if_pos rfl⟩)) (fun j hj _ => st _ _ j hj) (fun j hj _ id ver off m e1 => by injection e1 with e1; omega) (fr (fun j hj id ver off m e1 => by injection e1 with e1; omega) fun j hj => st _ _ j hj))
  rcases h with ⟨rfl, hr0⟩ | ⟨rfl, hcl⟩ | ⟨id, ver, fz, h1, h2, rfl, h⟩
  · exact none_ _ rfl (hc.nil hr0)
  · exact none_ _ rfl (hc.lit hcl)
  · obtain ⟨o, hs', k1, k2⟩ := hc.obj ver fz
    obtain ⟨i1, i2⟩ := ids_one (id := id) (ver := ver) (off := 0) (n := rows.length) hp
    have hok : [id].all (fun i => locOk (H i)) = true := by simp [h, locOk, HObj.alive, idbO]
    have st2 : ∀ (ob : HObj) j, j ≠ id → (H.set id ob) j = H j := fun ob j hj => if_neg hj
    have same : ∀ j, (H.set id (.sarr e sz ver fz true rows)) j = H j := fun j => by
      by_cases hj : j = id
      · rw [hj, h]; exact if_pos rfl
      · exact st2 _ j hj
    have offid : ∀ {j}, Off (.hsl id ver 0 rows.length) j → j ≠ id := fun hj => hj _ _ _ _ rfl
    have hm : [id].map H = [.sarr e sz ver fz true rows] := by rw [List.map_cons, h]; rfl
    rw [← hm] at k1
    have hz : ∀ (ver : Nat) (fz : Bool) (rows : List (List SV)), ∀ x ∈ [HObj.sarr e sz ver fz true rows], idbO x = 0 := fun ver fz rows x hx => by rw [List.mem_singleton.1 hx]; rfl
    rcases k2 with ⟨rfl, rfl, rfl, hcp⟩ | ⟨rfl, hcl, rfl, hcp⟩ | ⟨ver', fz', _, hcp, rfl, rfl⟩ | ⟨fz', rfl, rfl, hcp⟩
    · have hcp := hcp.resolve_left nofun
      subst hcp
      exact go (doLoc_old i1 hok i2 k1 (hz _ _ _) rfl rfl) (hk _ _ (.inl ⟨rfl, rfl⟩) (fun j _ hj => st2 _ j (offid hj)) (fun _ _ _ => .s) fun j hj => ⟨.s, same j⟩)
    · have hcp := hcp.resolve_left nofun
      subst hcp
      exact go (doLoc_old i1 hok i2 k1 (hz _ _ _) rfl rfl) (hk _ _ (.inr (.inl ⟨rfl, hcl⟩)) (fun j _ hj => st2 _ j (offid hj)) (fun _ _ _ => .s) fun j hj => ⟨.s, same j⟩)
    · subst hcp
      exact go (doLoc_old i1 hok i2 k1 (hz _ _ _) rfl rfl) (hk _ _ (.inr (.inr ⟨id, ver', fz', h1, by omega, rfl, if_pos rfl⟩)) (fun j _ hj => st2 _ j (offid hj)) (fun j _ hj id' ver'' off m e1 => by
        injection e1 with e1
        subst e1
        exact offid hj) fun j _ hj id' ver'' off m e1 => by
        injection e1 with e1
        subst e1
        exact hj _ _ _ _ rfl)
    · have hcp := hcp.resolve_left nofun
      subst hcp
      exact go (doLoc_new (ids := [id]) (hs := [_]) i1 hok i2 k1 (hz _ _ _) rfl rfl) (hk _ _ (.inr (.inr ⟨nid, 0, fz', hlo, Nat.lt_succ_self _, rfl, if_pos rfl⟩)) (fun j hj ho => by rw [st _ _ j hj]; exact st2 _ j (offid ho)) (fun j hj _ id' ver'' off m e1 => by injection e1 with e1; omega) fun j hj => ⟨fun id' ver'' off m e1 => by injection e1 with e1; omega, by rw [st _ _ j hj]; exact same j⟩)
/-- Appends, from stand to stand. -/
theorem Stand.next {cp e sz hs H H1 n nid p p1 rows all} (h : Stand cp e sz hs H n p rows) (hn : hs.length ≤ nid) (ho : Own (if cp then hs.length else 0) e sz H1 (nid + 1) p1 all) (hfr : ∀ j, j ≠ nid → Off p j → H1 j = H j) (hf : ∀ j, j ≠ nid → Off p1 j → Off p j) : Stand cp e sz hs H1 (nid + 1) p1 all := by
  cases cp with
  | true => exact ⟨ho, fun j hj => by rw [hfr j (by omega) (h.1.off (.inl hj))]; exact h.2 j hj⟩
  | false => exact ⟨ho, fun j hj hoff => h.2 j hj (hf j (by omega) hoff)⟩
theorem Stand.lo {cp e sz hs H n p rows} (h : Stand cp e sz hs H n p rows) : Own (if cp then hs.length else 0) e sz H n p rows := by
  cases cp with
  | true => exact h.1
  | false => exact h.1
theorem Stand.keep {cp e sz hs H H' n n' p rows} (h : Stand cp e sz hs H n p rows) (hs' : hs.length ≤ n) (hn : n ≤ n') (hH : ∀ j, j < n → H' j = H j) : Stand cp e sz hs H' n' p rows := by
  cases cp with
  | true => exact ⟨h.1.kept hn fun j _ hj => hH j hj, fun j hj => by rw [hH j (by omega)]; exact h.2 j hj⟩
  | false => exact ⟨h.1.kept hn fun j _ hj => hH j hj, h.2⟩
theorem no_s {v : SV} {j : Nat} : j ∉ heads (.s v) := by simp [heads, heads1, heads0]
theorem no_own {lo e sz H n p rows} (h : Own lo e sz H n p rows) {j : Nat} (ho : Off p j) : j ∉ heads p := fun hj => h.heads hj ho
theorem heldP {T : Nat → PV} {n0 k i c id off : Nat} {l : List MX} (hc : T c = .ptr id off) (hne : n0 + k ≠ id) (hl : ∀ x ∈ l, id ∉ heads (valX T x)) : heldX T n0 (k, 2, l, i, 1, [.t c]) = true := by
  have e2 : touchX T (n0 + i) 1 [.t c] = [id] := by simp [touchX, valX, hc, heads_ptr]
  unfold heldX disj
  simp only [e2]
  refine List.all_eq_true.2 fun j hj => ?_
  have : j ≠ id := by
    rintro rfl
    rcases List.mem_cons.1 hj with h | h
    · exact hne h.symm
    · obtain ⟨x, hx, h⟩ := List.mem_flatMap.1 h
      exact hl x hx h
  simp [this]
theorem heldQ {T : Nat → PV} {n0 k i c id off : Nat} {l : List MX} (hc : T c = .ptr id off) (hne : n0 + i ≠ id) (hl : ∀ x ∈ l, id ∉ heads (valX T x)) : heldX T n0 (k, 1, [.t c], i, 2, l) = true := by
  have e2 : touchX T (n0 + k) 1 [.t c] = [id] := by simp [touchX, valX, hc, heads_ptr]
  unfold heldX disj
  simp only [e2]
  refine List.all_eq_true.2 fun j hj => ?_
  have hj : j = id := List.mem_singleton.1 hj
  subst hj
  have : j ∉ touchX T (n0 + i) 2 l := by
    intro h
    rcases List.mem_cons.1 h with h | h
    · exact hne h.symm
    · obtain ⟨x, hx, h⟩ := List.mem_flatMap.1 h
      exact hl x hx h
  cases hx : (touchX T (n0 + i) 2 l).contains j with
  | false => rfl
  | true => exact absurd (by simpa using hx) this
theorem heldS {T : Nat → PV} {n0 k i c : Nat} {l : List MX} {v : SV} (hc : T c = .s v) : heldX T n0 (k, 2, l, i, 1, [.t c]) = true := by
  have e2 : touchX T (n0 + i) 1 [.t c] = [] := by simp [touchX, valX, hc, heads_s]
  unfold heldX disj
  simp only [e2]
  exact List.all_eq_true.2 fun j hj => rfl
theorem bi_or {k : IntKind} {a b : Int} : binM .or .num (.s (.int k a)) (.s (.int k b)) = some (.s (.int k (k.wrap ((BitVec.ofInt k.bits a ||| BitVec.ofInt k.bits b).toNat)))) := by
  simp [binM, binInt]
theorem bi_and {k : IntKind} {a b : Int} : binM .and .num (.s (.int k a)) (.s (.int k b)) = some (.s (.int k (k.wrap ((BitVec.ofInt k.bits a &&& BitVec.ofInt k.bits b).toNat)))) := by
  simp [binM, binInt]
theorem bi_shr {k k' : IntKind} {a b : Int} : binM .shr .num (.s (.int k a)) (.s (.int k' b)) = gd (0 ≤ b) (.s (.int k (a.fdiv (2 ^ (min b.toNat k.bits))))) := by
  unfold gd
  by_cases h : 0 ≤ b
  · rw [if_pos h]
    simp only [binM, binInt, if_neg (show ¬ b < 0 by omega)]
  · rw [if_neg h]
    simp only [binM, binInt, if_pos (show b < 0 by omega)]
theorem bi_shl {k k' : IntKind} {a b : Int} : binM .shl .num (.s (.int k a)) (.s (.int k' b)) = gd (0 ≤ b) (.s (.int k (k.wrap (a * 2 ^ (min b.toNat k.bits))))) := by
  unfold gd
  by_cases h : 0 ≤ b
  · rw [if_pos h]
    simp only [binM, binInt, if_neg (show ¬ b < 0 by omega)]
  · rw [if_neg h]
    simp only [binM, binInt, if_pos (show b < 0 by omega)]
end
attribute [go_sem] FinA_ret FinA_normal FinL_ret FinL_normal bi_or bi_and bi_shr bi_shl
end Go.Vm
