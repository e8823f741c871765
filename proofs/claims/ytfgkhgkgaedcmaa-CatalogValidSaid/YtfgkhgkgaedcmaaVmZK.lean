/- Rules for slices that grow, maps of seen keys, calls; plain facts about lists and numbers. -/
import Derived.Test.YtfgkhgkgaedcmaaVmZL
set_option linter.unusedVariables false
set_option linter.unusedSimpArgs false
namespace Go.Vm

theorem wrap_in {x : Int} (h0 : -9223372036854775808 ≤ x) (h1 : x ≤ 9223372036854775807) : IntKind.i64.wrap x = x := IntWalk.i64_in _ ⟨h0, h1⟩
theorem wrap_succ {j : Nat} (h : j < 4611686018427387904) : IntKind.i64.wrap ((j : Int) + 1) = ((j + 1 : Nat) : Int) := by
  rw [wrap_in (by omega) (by omega)]
  omega
theorem u8_default : (default : UInt8) = 0 := rfl
theorem take_step {α : Type} {l : List α} {j : Nat} (d : α) (h : j < l.length) : l.take (j + 1) = l.take j ++ [l.getD j d] := by
  rw [List.take_add_one, List.getElem?_eq_getElem h, List.getD_eq_getElem?_getD, List.getElem?_eq_getElem h]
  rfl
theorem take_all {α : Type} {l : List α} {j : Nat} (h : ¬ j < l.length) : l.take j = l := List.take_of_length_le (by omega)
theorem getD_mem {α : Type} {l : List α} {j : Nat} (d : α) (h : j < l.length) : l.getD j d ∈ l := by
  rw [List.getD_eq_getElem?_getD, List.getElem?_eq_getElem h]
  exact List.getElem_mem h
theorem all_not {α : Type} {l : List α} {j : Nat} {p : α → Bool} (d : α) (h : j < l.length) (hp : p (l.getD j d) = false) : l.all p = false := by
  rw [List.all_eq_false]
  exact ⟨_, getD_mem d h, by simp only [hp]; exact Bool.false_ne_true⟩
theorem all_next {α : Type} {l : List α} {j : Nat} {p : α → Bool} (d : α) (h : j < l.length) (ha : (l.take j).all p = true) (hp : p (l.getD j d) = true) : (l.take (j + 1)).all p = true := by
  rw [take_step d h, List.all_append, ha]
  simp only [List.all_cons, hp, List.all_nil, Bool.and_self]
theorem all_end {α : Type} {l : List α} {j : Nat} {p : α → Bool} (h : ¬ j < l.length) (ha : (l.take j).all p = true) : l.all p = true := by rw [take_all h] at ha; exact ha

theorem own_s {m : Nat} {H : Ob} {v : SV} : own m H (.s v) = some (.s v) := by simp only [own]
theorem own_agg {m : Nat} {H : Ob} {cs : List PV} : own m H (.agg cs) = bnd (ownL m H cs) fun cs => some (.agg cs) := by simp only [own]
theorem own_tuple {m : Nat} {H : Ob} {cs : List PV} : own m H (.tuple cs) = bnd (ownL m H cs) fun cs => some (.tuple cs) := by simp only [own]
theorem ownL_nil {m : Nat} {H : Ob} : ownL m H [] = some [] := by simp only [ownL]
theorem ownL_cons {m : Nat} {H : Ob} {p r} : ownL m H (p :: r) = bnd (own m H p) fun p => bnd (ownL m H r) fun r => some (p :: r) := by simp only [ownL]
theorem lend_s {H : Ob} {v : SV} : lend H (.s v) = some (.s v, H) := by simp only [lend]
theorem lendL_nil {H : Ob} : lendL H [] = some ([], H) := by simp only [lendL]
theorem lendL_cons {H : Ob} {p r} : lendL H (p :: r) = bnd (lend H p) fun a => bnd (lendL a.2 r) fun b => some (a.1 :: b.1, b.2) := by simp only [lendL]
theorem lendL_map_s {H : Ob} : ∀ {l : List SV}, lendL H (l.map .s) = some (l.map .s, H)
  | [] => lendL_nil
  | v :: r => by rw [List.map_cons, lendL_cons, lend_s, bnd_some, lendL_map_s]; rfl
theorem lend_st {H : Ob} {l : List SV} : lend H (.st l) = some (.st l, H) := by
  unfold PV.st
  simp only [lend, lendL_map_s, bnd_some]
theorem idbL_map_s : ∀ {l : List SV}, idbL (l.map .s) = 0
  | [] => by simp [idbL]
  | v :: r => by simp only [List.map_cons, idbL, idb, idbL_map_s]; rfl
theorem idb_st {l : List SV} : idb (.st l) = 0 := by unfold PV.st; simp only [idb, idbL_map_s]
theorem idb_s {v : SV} : idb (.s v) = 0 := by simp only [idb]
theorem thaws_map_s {H : Ob} : ∀ {l : List SV}, thaws H (l.map .s) = some (l, H)
  | [] => rfl
  | v :: r => by simp only [List.map_cons, thaws, thaw, thaws_map_s]

/-! ### local structs -/
theorem loadP_fs {sz off : Nat} {l : List SV} : loadP false sz (l.map .s) off = bnd l[off]? fun v => some (.s v) := by
  rw [loadP_f, List.getElem?_map]
  cases l[off]? <;> rfl
theorem loadP_ts {sz off : Nat} {l : List SV} : loadP true sz (l.map .s) off = if off + sz ≤ l.length then some (.st ((l.drop off).take sz)) else none := by
  rw [loadP_t, List.length_map, ← List.map_drop, ← List.map_take]
  rfl
theorem setCells_map {m : List SV} : ∀ {l : List SV} {off : Nat}, setCells (l.map PV.s) off (m.map .s) = (setCells l off m).map .s := by
  induction m with
  | nil => intro l off; rfl
  | cons v m ih =>
    intro l off
    simp only [List.map_cons, setCells]
    rw [← ih, List.map_set]
theorem setCells_len {α : Type} {m : List α} : ∀ {l : List α} {off : Nat}, (setCells l off m).length = l.length := by
  induction m with
  | nil => intro l off; rfl
  | cons v m ih => intro l off; simp only [setCells, ih, List.length_set]
theorem setCells_at {α : Type} {m : List α} : ∀ {l : List α} {off i : Nat}, (setCells l off m)[i]? = if off ≤ i ∧ i < off + m.length ∧ i < l.length then m[i - off]? else l[i]? := by
  induction m with
  | nil => intro l off i; simp only [setCells]; rw [if_neg]; simp; omega
  | cons v m ih =>
    intro l off i
    simp only [setCells, ih, List.length_set, List.length_cons]
    by_cases h1 : off + 1 ≤ i ∧ i < off + 1 + m.length ∧ i < l.length
    · rw [if_pos h1, if_pos (by omega)]
      have : i - off = (i - (off + 1)) + 1 := by omega
      rw [this]
      rfl
    · rw [if_neg h1, List.getElem?_set]
      by_cases h2 : off = i
      · subst h2
        rw [if_pos rfl]
        by_cases h3 : off < l.length
        · rw [if_pos h3, if_pos (by omega)]
          simp
        · rw [if_neg h3, if_neg (by omega)]
          rw [List.getElem?_eq_none (by omega)]
      · rw [if_neg h2, if_neg (by omega)]
theorem setCells_all {α : Type} {l m : List α} (h : l.length = m.length) : setCells l 0 m = m := by
  apply List.ext_getElem?
  intro i
  rw [setCells_at]
  by_cases hi : i < m.length
  · rw [if_pos (by omega)]; rfl
  · rw [if_neg (by omega), List.getElem?_eq_none (by omega), List.getElem?_eq_none (by omega)]
theorem all_cellOk {m : List SV} : (m.map PV.s).all cellOk = true := by simp [cellOk]
theorem storeB_st {sz off : Nat} {H : Ob} {id : Nat} {ty : TypeId} {l m : List SV} : storeB sz off (.st m) H id (.box ty (l.map .s)) = if m.length = sz ∧ off + sz ≤ l.length then some (H.set id (.box ty ((setCells l off m).map .s))) else none := by
  have e : (PV.st m).cells = m.map .s := rfl
  rw [storeB_box, e, setCells_map, List.length_map, List.length_map]
  by_cases h : m.length = sz ∧ off + sz ≤ l.length
  · rw [if_pos h, if_pos ⟨h.1, h.2, all_cellOk⟩]
  · rw [if_neg h, if_neg (fun h' => h ⟨h'.1, h'.2.1⟩)]
theorem storeB_s {sz off : Nat} {H : Ob} {id : Nat} {ty : TypeId} {l : List SV} {v : SV} : storeB sz off (.s v) H id (.box ty (l.map .s)) = if 1 = sz ∧ off + sz ≤ l.length then some (H.set id (.box ty ((l.set off v).map .s))) else none := by
  have e : (PV.s v).cells = [v].map .s := rfl
  rw [storeB_box, e, setCells_map, List.length_map, List.length_map]
  by_cases h : 1 = sz ∧ off + sz ≤ l.length
  · rw [if_pos h, if_pos ⟨h.1, h.2, all_cellOk⟩]; rfl
  · rw [if_neg h, if_neg (fun h' => h ⟨h'.1, h'.2.1⟩)]

theorem set_set {H : Ob} {id : Nat} {a b : HObj} : (H.set id a).set id b = H.set id b := by
  funext j
  simp only [set_at]
  by_cases h : j = id <;> simp [h]

/-! ### slices that grow -/
/-- A slice that this run alone holds: nil, a literal, or a whole object of its own. -/
def Own (lo : Nat) (e : TypeId) (sz : Nat) (H : Ob) (n : Nat) (p : PV) (rows : List (List SV)) : Prop :=
  (p = .s .nils ∧ rows = []) ∨ (p = .s (.slice rows true) ∧ ∀ c ∈ rows, c.length = sz) ∨ ∃ id ver fz, lo ≤ id ∧ id < n ∧ p = .hsl id ver 0 rows.length ∧ H id = .sarr e sz ver fz true rows
/-- An object that p does not lie in. -/
def Off (p : PV) (j : Nat) : Prop := ∀ id ver off m, p = .hsl id ver off m → j ≠ id
theorem Own.nil {lo e sz H n} : Own lo e sz H n (.s .nils) [] := .inl ⟨rfl, rfl⟩
theorem Own.lit {lo e sz H n} : Own lo e sz H n (.s (.slice [] true)) [] := .inr (.inl ⟨rfl, fun c hc => by cases hc⟩)
theorem Own.rows {lo e sz H n p rows} (h : Own lo e sz H n p rows) : rowsOf H p = some rows := by
  rcases h with ⟨rfl, rfl⟩ | ⟨rfl, _⟩ | ⟨id, ver, fz, _, _, rfl, h⟩
  · rfl
  · rfl
  · simp only [rowsOf, h]
    rw [if_pos ⟨trivial, by omega⟩]
    simp
theorem Own.len {lo e sz H n p rows k} (h : Own lo e sz H n p rows) : lenM (.sl k) H p = some (.i64 rows.length) := by
  rcases h with ⟨rfl, rfl⟩ | ⟨rfl, _⟩ | ⟨id, ver, fz, _, _, rfl, h⟩
  · rfl
  · rfl
  · simp only [lenM, h, if_true]
theorem Own.keep {lo e sz H H' n n' p rows} (h : Own lo e sz H n p rows) (hn : n ≤ n') (hH : ∀ j, lo ≤ j → j < n → ¬ Off p j → H' j = H j) : Own lo e sz H' n' p rows := by
  rcases h with ⟨rfl, rfl⟩ | h | ⟨id, ver, fz, h1, h2, rfl, h⟩
  · exact .nil
  · exact .inr (.inl h)
  · refine .inr (.inr ⟨id, ver, fz, h1, by omega, rfl, ?_⟩)
    rw [hH id h1 h2 (fun ho => ho _ _ _ _ rfl rfl), h]
/-- Objects below n are as they were. -/
theorem Own.kept {lo e sz H H' n n' p rows} (h : Own lo e sz H n p rows) (hn : n ≤ n') (hH : ∀ j, lo ≤ j → j < n → H' j = H j) : Own lo e sz H' n' p rows := h.keep hn (fun j h1 h2 _ => hH j h1 h2)
theorem Own.off {lo e sz H n p rows j} (h : Own lo e sz H n p rows) (hj : j < lo ∨ n ≤ j) : Off p j := by
  intro id ver off m e1
  rcases h with ⟨rfl, rfl⟩ | ⟨rfl, _⟩ | ⟨id', ver', fz, h1, h2, rfl, h⟩
  · cases e1
  · cases e1
  · injection e1 with e1
    omega
theorem Own.app {lo e sz H n nid p rows x new} (h : Own lo e sz H n p rows) (hx : rowsOf H x = some new) (hc : ∀ c ∈ new, c.length = sz) (hl : rows.length + new.length ≤ 1073741824) (hn : n ≤ nid) (hlo : lo ≤ nid) :
    ∃ p' H', appendM e sz H nid p x = some (p', H') ∧ Own lo e sz H' (nid + 1) p' (rows ++ new) ∧ (∀ j, j ≠ nid → Off p j → H' j = H j) ∧ (∀ j, j ≠ nid → Off p j → Off p' j) := by
  have hall : new.all (fun c => decide (c.length = sz)) = true := List.all_eq_true.2 (fun c hc' => decide_eq_true (hc c hc'))
  by_cases he : new = []
  · subst he
    refine ⟨p, H, ?_, ?_, fun _ _ _ => rfl, fun _ _ h => h⟩
    · unfold appendM
      rw [hx]
      rcases h with ⟨rfl, rfl⟩ | ⟨rfl, h⟩ | ⟨id, ver, fz, h1, h2, rfl, h⟩
      · rfl
      · have h2 : rows.all (fun c => decide (c.length = sz)) = true := List.all_eq_true.2 (fun c hc' => decide_eq_true (h c hc'))
        simp only
        rw [if_pos hall, if_pos ⟨h2, by simpa using hl⟩]
        rfl
      · simp only [h]
        rw [if_pos hall, if_pos ⟨trivial, trivial, trivial, trivial, trivial, by simpa using hl⟩]
        rfl
    · rw [List.append_nil]
      exact h.keep (by omega) (fun _ _ _ _ => rfl)
  · have hne : new.isEmpty = false := by cases new <;> first | rfl | exact absurd rfl he
    rcases h with ⟨rfl, rfl⟩ | ⟨rfl, h⟩ | ⟨id, ver, fz, h1, h2, rfl, h⟩
    · refine ⟨.hsl nid 0 0 new.length, H.set nid (.sarr e sz 0 false true new), ?_, .inr (.inr ⟨nid, 0, false, hlo, by omega, rfl, if_pos rfl⟩), fun j hj _ => if_neg hj, fun j hj _ id ver off m e1 => ?_⟩
      · simp only [appendM, hx, hall, hne, if_true, Bool.false_eq_true, if_false]
        rw [if_pos (by simpa using hl)]
      · injection e1 with e1
        omega
    · have h2 : rows.all (fun c => decide (c.length = sz)) = true := List.all_eq_true.2 (fun c hc' => decide_eq_true (h c hc'))
      refine ⟨.hsl nid 0 0 (rows.length + new.length), H.set nid (.sarr e sz 0 false true (rows ++ new)), ?_, .inr (.inr ⟨nid, 0, false, hlo, by omega, by rw [List.length_append], if_pos rfl⟩), fun j hj _ => if_neg hj, fun j hj _ id ver off m e1 => ?_⟩
      · simp only [appendM, hx, hall, hne, if_true, Bool.false_eq_true, if_false]
        rw [if_pos ⟨h2, hl⟩]
      · injection e1 with e1
        omega
    · refine ⟨.hsl id (ver + 1) 0 (rows.length + new.length), H.set id (.sarr e sz (ver + 1) fz true (rows ++ new)), ?_, .inr (.inr ⟨id, ver + 1, fz, h1, by omega, by rw [List.length_append], if_pos rfl⟩), fun j _ hj => if_neg (hj _ _ _ _ rfl), fun j _ hj id' ver' off m e1 => ?_⟩
      · simp only [appendM, hx, h, hall, hne, if_true, Bool.false_eq_true, if_false]
        rw [if_pos ⟨trivial, trivial, trivial, trivial, trivial, hl⟩]
      · injection e1 with e1
        subst e1
        exact hj _ _ _ _ rfl
/-- Two slices that do not lie in one object. -/
def Dis (p q : PV) : Prop := ∀ j, Off p j ∨ Off q j
theorem Dis.symm {p q : PV} (h : Dis p q) : Dis q p := fun j => (h j).symm
theorem Off.s {v : SV} {j : Nat} : Off (.s v) j := fun _ _ _ _ e => by cases e
theorem Dis.s {v : SV} {q : PV} : Dis (.s v) q := fun j => .inl .s
theorem Own.other {lo e sz H H' n n' nid p q rows} (h : Own lo e sz H n q rows) (hd : Dis p q) (hn : n ≤ nid) (hn' : n ≤ n') (hfr : ∀ j, j ≠ nid → Off p j → H' j = H j) : Own lo e sz H' n' q rows :=
  h.keep hn' (fun j _ hj ho => hfr j (by omega) ((hd j).resolve_right ho))
theorem Dis.next {lo e sz H n nid p p' q rows} (hd : Dis p q) (h : Own lo e sz H n q rows) (hn : n ≤ nid) (hof : ∀ j, j ≠ nid → Off p j → Off p' j) : Dis p' q := by
  intro j
  by_cases hj : j = nid
  · exact .inr (h.off (.inr (by omega)))
  · rcases hd j with h1 | h1
    · exact .inl (hof j hj h1)
    · exact .inr h1
theorem Slc.of_map {α : Type} {f : α → List SV} {l : List α} {b : Bool} : SV.slice (l.map f) b = (Slc.mk l b).sv f := rfl
/-- Handed on to a call by content. -/
theorem Own.lend {α : Type} {f : α → List SV} {l : List α} {lo e sz H n p} (h : Own lo e sz H n p (l.map f)) : ∃ (s : Slc α) (H' : Ob), Vm.lend H p = some (.s (s.sv f), H') ∧ s.l = l ∧ Own lo e sz H' n p (l.map f) ∧ (∀ j, Off p j → H' j = H j) := by
  have hr := h.rows
  rcases h with ⟨rfl, h⟩ | ⟨rfl, h⟩ | ⟨id, ver, fz, h1, h2, rfl, h⟩
  · have : l = [] := by simpa using h
    subst this
    exact ⟨.nil, H, lend_s, rfl, .nil, fun _ _ => rfl⟩
  · exact ⟨.mk l true, H, lend_s, rfl, .inr (.inl ⟨rfl, h⟩), fun _ _ => rfl⟩
  · have hf : freeze1 H id = H.set id (.sarr e sz ver true true (l.map f)) := by simp only [freeze1, h]
    refine ⟨.mk l false, freeze1 H id, ?_, rfl, .inr (.inr ⟨id, ver, true, h1, h2, rfl, ?_⟩), fun j hj => ?_⟩
    · simp only [Vm.lend, hr, bnd_some]; rfl
    · rw [hf]; exact if_pos rfl
    · rw [hf]; exact if_neg (hj _ _ _ _ rfl)
/-- Handed back as a result by content. -/
theorem Own.back {α : Type} {f : α → List SV} {l : List α} {lo e sz H n p} (h : Own lo e sz H n p (l.map f)) : ∃ s : Slc α, own 0 H p = some (.s (s.sv f)) ∧ s.l = l := by
  have hr := h.rows
  rcases h with ⟨rfl, h⟩ | ⟨rfl, h⟩ | ⟨id, ver, fz, h1, h2, rfl, h⟩
  · have : l = [] := by simpa using h
    subst this
    exact ⟨.nil, own_s, rfl⟩
  · exact ⟨.mk l true, own_s, rfl⟩
  · refine ⟨.mk l false, ?_, rfl⟩
    simp only [own, hr, bnd_some]
    rw [if_neg (Nat.not_lt_zero _)]
    rfl
/-- Rules: one new element. -/
def row1 (sz : Nat) (dr : Bool) (H : Ob) (p : PV) : Option (List SV × Ob) := if dr = true ∧ idb p ≠ 0 then none else bnd (thaws H p.cells) fun r => if r.1.length = sz then some r else none
theorem rows1 {E : Env} {dr : Bool} {T U : Nat → PV} {H : Ob} {n sz z x d l Q} : WB E dr (.rows sz z 1 [(0, x)]) T H n d U l Q = WX (row1 sz dr H (valX T x)) fun r => WS E dr l (putT U d (.s (.slice [r.1] true))) r.2 (n + 1) Q := by
  rw [WB_rows]
  have e : mstep (.rows sz z 1 [(0, x)]) dr T H n = bnd (row1 sz dr H (valX T x)) fun r => some (.s (.slice [r.1] true), r.2) := by
    simp only [mstep, row1, List.all_cons, List.all_nil, Bool.and_true, List.map_cons, List.map_nil]
    by_cases hd : dr = true ∧ idb (valX T x) ≠ 0
    · have : dr = true ∧ (decide (idb (valX T x) = 0)) = false := ⟨hd.1, decide_eq_false hd.2⟩
      rw [if_pos hd, if_pos this]
      rfl
    · have : ¬ (dr = true ∧ (decide (idb (valX T x) = 0)) = false) := fun h => hd ⟨h.1, of_decide_eq_false h.2⟩
      rw [if_neg hd, if_neg this]
      simp only [rowParts]
      cases thaws H (valX T x).cells with
      | none => rfl
      | some r =>
        simp only [bnd_some]
        by_cases hl : r.1.length = sz
        · rw [if_pos ⟨hl, by simp⟩, if_pos hl]
          simp [rowParts, bnd_some]
        · rw [if_neg (fun h => hl h.1), if_neg hl]
          rfl
  rw [e, WX_bnd]
  simp only [WX_some]
theorem row1_s {dr : Bool} {H : Ob} {v : SV} : row1 1 dr H (.s v) = some ([v], H) := by
  unfold row1
  rw [if_neg (fun h => h.2 idb_s)]
  rfl
theorem row1_st {dr : Bool} {H : Ob} {l : List SV} {sz : Nat} (h : l.length = sz) : row1 sz dr H (.st l) = some (l, H) := by
  unfold row1
  rw [if_neg (fun h => h.2 idb_st)]
  simp only [PV.st, PV.cells, thaws_map_s, bnd_some, h, if_true]
theorem rows0 {E : Env} {dr : Bool} {T U : Nat → PV} {H : Ob} {n sz z d l Q} : WB E dr (.rows sz z 0 []) T H n d U l Q = WS E dr l (putT U d (.s (.slice [] true))) H (n + 1) Q := by
  rw [WB_rows]
  have e : mstep (.rows sz z 0 []) dr T H n = some (.s (.slice [] true), H) := by
    simp [mstep, rowParts, bnd_some]
  rw [e, WX_some]
/-- An append, told as what must hold behind it. -/
theorem WX_app {E : Env} {dr : Bool} {T : Nat → PV} {d l Q} {lo e sz H n nid p rows x new} (h : Own lo e sz H n p rows) (hx : rowsOf H x = some new) (hc : ∀ c ∈ new, c.length = sz) (hl : rows.length + new.length ≤ 1073741824) (hn : n ≤ nid) (hlo : lo ≤ nid)
    (hk : ∀ p' H', Own lo e sz H' (nid + 1) p' (rows ++ new) → (∀ j, j ≠ nid → Off p j → H' j = H j) → (∀ j, j ≠ nid → Off p j → Off p' j) → WS E dr l (putT T d p') H' (nid + 1) Q) : WApp E dr e sz p x H nid d T l Q := by
  obtain ⟨p', H', h1, h2, h3, h4⟩ := h.app hx hc hl hn hlo
  exact ⟨_, h1, hk p' H' h2 h3 h4⟩
theorem rows_slice {H : Ob} {es full} : rowsOf H (.s (.slice es full)) = some es := rfl
theorem rows_nils {H : Ob} : rowsOf H (.s .nils) = some [] := rfl
theorem rows_sv {α : Type} {f : α → List SV} {s : Slc α} {H : Ob} : rowsOf H (.s (s.sv f)) = some (s.l.map f) := by cases s <;> rfl

/-! ### slices in objects -/
def lenH (ver n : Nat) : HObj → Option PV
  | .sarr _ _ v _ _ _ => if v = ver then some (.i64 n) else none
  | _ => none
theorem len_hsl {k : Nat} {H : Ob} {id ver off n : Nat} : lenM (.sl k) H (.hsl id ver off n) = lenH ver n (H id) := by
  simp only [lenM]
  cases H id <;> rfl
theorem lenH_sarr {ty sz v fz ap es ver n} : lenH ver n (.sarr ty sz v fz ap es) = if v = ver then some (.i64 n) else none := rfl
def iaH (size id ver off n : Nat) (i : Int) : HObj → Option PV
  | .sarr _ sz v _ _ es => gd (0 ≤ i ∧ i < n ∧ v = ver ∧ sz = size ∧ off + n ≤ es.length) (.aptr id ver (off + i.toNat) 0)
  | _ => none
theorem ia_hsl {size : Nat} {H : Ob} {id ver off n : Nat} {k : IntKind} {i : Int} : indexAM (.sl size) H (.hsl id ver off n) (.s (.int k i)) = iaH size id ver off n i (H id) := by
  simp only [indexAM]
  cases H id <;> rfl
theorem iaH_sarr {ty sz v fz ap es size id ver off n i} : iaH size id ver off n i (.sarr ty sz v fz ap es) = gd (0 ≤ i ∧ i < n ∧ v = ver ∧ sz = size ∧ off + n ≤ es.length) (.aptr id ver (off + i.toNat) 0) := rfl
def loadH (agg : Bool) (sz ver i off : Nat) : HObj → Option PV
  | .sarr _ _ v _ _ es => if v = ver then bnd es[i]? fun c => loadS agg sz c off else none
  | _ => none
theorem load_aptr {agg sz id ver i off} {H : Ob} : loadM agg sz H (.aptr id ver i off) = loadH agg sz ver i off (H id) := by
  simp only [loadM]
  cases H id with
  | sarr ty s v fz ap es =>
    simp only [loadH]
    by_cases h : v = ver
    · simp only [h, if_true]; cases es[i]? <;> rfl
    · simp only [h, if_false]
  | _ => rfl
theorem loadH_map {α : Type} [Inhabited α] {f : α → List SV} {l : List α} {agg sz ver i off ty s v fz ap} : loadH agg sz ver i off (.sarr ty s v fz ap (l.map f)) = if v = ver then if i < l.length then loadS agg sz (f (l.getD i default)) off else none else none := by
  simp only [loadH, List.getElem?_map]
  by_cases h : i < l.length
  · simp [h, List.getElem?_eq_getElem h, List.getD_eq_getElem?_getD, bnd_some]
  · simp [h, List.getElem?_eq_none (Nat.le_of_not_lt h), bnd_none]
theorem conv_bytes {e : TypeId} {H : Ob} {n : Nat} {l : List UInt8} : convM (.bytes e) H n (.s (.str l)) = gd (l.length ≤ 1073741824) (.hsl n 0 0 l.length, H.set n (.sarr e 1 0 false false (l.map fun b => [.int .u8 b.toNat]))) := rfl

/-! ### maps of keys that were seen -/
theorem find_str (s : List UInt8) : ∀ (l : List (List UInt8)) (i : Nat), mapFind (.str s) (l.map fun x => (SV.str x, SV.bool true)) i = some (if s ∈ l then some (i + l.idxOf s, .bool true) else none)
  | [], i => rfl
  | x :: l, i => by
    simp only [List.map_cons, mapFind, keyEq]
    by_cases h : s = x
    · subst h
      simp
    · have hx : ¬ x = s := fun e => h e.symm
      rw [decide_eq_false h]
      simp only [find_str s l (i + 1)]
      simp only [List.mem_cons, h, false_or, List.idxOf_cons, beq_eq_false_iff_ne.2 hx]
      by_cases hm : s ∈ l
      · simp only [if_pos hm, Bool.cond_false]
        congr 3
        omega
      · simp only [if_neg hm]
theorem find_int {k : IntKind} (s : Int) : ∀ (l : List Int) (i : Nat), mapFind (.int k s) (l.map fun x => (SV.int k x, SV.bool true)) i = some (if s ∈ l then some (i + l.idxOf s, .bool true) else none)
  | [], i => rfl
  | x :: l, i => by
    simp only [List.map_cons, mapFind, keyEq, if_true]
    by_cases h : s = x
    · subst h
      simp
    · have hx : ¬ x = s := fun e => h e.symm
      rw [decide_eq_false h]
      simp only [find_int s l (i + 1)]
      simp only [List.mem_cons, h, false_or, List.idxOf_cons, beq_eq_false_iff_ne.2 hx]
      by_cases hm : s ∈ l
      · simp only [if_pos hm, Bool.cond_false]
        congr 3
        omega
      · simp only [if_neg hm]
theorem look_str {H : Ob} {id : Nat} {l : List (List UInt8)} {s : List UInt8} (h : H id = .map (l.map fun x => (SV.str x, SV.bool true))) : lookM .str (some (.bool false)) false H (.map id) (.s (.str s)) = some (.s (.bool (decide (s ∈ l)))) := by
  simp only [lookM, h, keyM, if_true, find_str]
  by_cases hm : s ∈ l <;> simp [hm]
theorem look_int {k : IntKind} {H : Ob} {id : Nat} {l : List Int} {s : Int} (h : H id = .map (l.map fun x => (SV.int k x, SV.bool true))) : lookM .int (some (.bool false)) false H (.map id) (.s (.int k s)) = some (.s (.bool (decide (s ∈ l)))) := by
  simp only [lookM, h, keyM, if_true, find_int]
  by_cases hm : s ∈ l <;> simp [hm]
theorem mupd_str {H : Ob} {id : Nat} {l : List (List UInt8)} {s : List UInt8} (h : H id = .map (l.map fun x => (SV.str x, SV.bool true))) (hs : s ∉ l) : mupdM .str H (.map id) (.s (.str s)) (.s (.bool true)) = some (H.set id (.map ((l ++ [s]).map fun x => (SV.str x, SV.bool true)))) := by
  simp only [mupdM, h, keyM, if_true, find_str, if_neg hs, List.map_append, List.map_cons, List.map_nil]
theorem mupd_int {k : IntKind} {H : Ob} {id : Nat} {l : List Int} {s : Int} (h : H id = .map (l.map fun x => (SV.int k x, SV.bool true))) (hs : s ∉ l) : mupdM .int H (.map id) (.s (.int k s)) (.s (.bool true)) = some (H.set id (.map ((l ++ [s]).map fun x => (SV.int k x, SV.bool true)))) := by
  simp only [mupdM, h, keyM, if_true, find_int, if_neg hs, List.map_append, List.map_cons, List.map_nil]

/-! ### calls -/
/-- A call that leaves the objects that were there as they were. -/
def CF (E : Env) (dr : Bool) (f : FuncId) (args : List PV) (H : Ob) (n : Nat) (v : PV) : Prop := ∃ H1 n1, doCall E (calL E) (runL E) dr f args H n = some (.ret v, H1, n1) ∧ n ≤ n1 ∧ ∀ j, j < n → H1 j = H j
theorem WC_cf {E : Env} {dr : Bool} {f : FuncId} {args : List PV} {H : Ob} {n : Nat} {v : PV} {d T l Q} (h : CF E dr f args H n v) (hk : ∀ H1 n1, n ≤ n1 → (∀ j, j < n → H1 j = H j) → WS E dr l (putT T d v) H1 n1 Q) : WCs E dr f args H n d T l Q := by
  obtain ⟨H1, n1, h1, h2, h3⟩ := h
  exact ⟨v, H1, n1, h1, hk H1 n1 h2 h3⟩
theorem WV_cf {E : Env} {dr : Bool} {fv : PV} {c : FuncId × List PV × List PV} {args : List PV} {H : Ob} {n : Nat} {v : PV} {d T l Q} (hc : callee fv = some c) (h : CF E dr c.1 (c.2.1 ++ args ++ c.2.2) H n v) (hk : ∀ H1 n1, n ≤ n1 → (∀ j, j < n → H1 j = H j) → WS E dr l (putT T d v) H1 n1 Q) : WVs E dr fv args H n d T l Q := by
  obtain ⟨H1, n1, h1, h2, h3⟩ := h
  exact ⟨c, hc, v, H1, n1, h1, hk H1 n1 h2 h3⟩
theorem WC_run {E : Env} {f : FuncId} {args : List PV} {H : Ob} {n : Nat} {R : PV → Ob → Nat → Prop} {d T l Q} (hr : E.ref f = true) (hc : ∃ v H1 n1, runL E f args H n = some (.ret v, H1, n1) ∧ R v H1 n1) (hk : ∀ v H1 n1, R v H1 n1 → WS E false l (putT T d v) H1 n1 Q) : WCs E false f args H n d T l Q := WC_ref hr rfl hc hk
/-- A call by content whose arguments hold no object. -/
theorem WC_pure {E : Env} {dr : Bool} {f : FuncId} {args : List PV} {H : Ob} {n : Nat} {v : PV} {d T l Q} (hr : E.ref f = false) (hl : lendL H args = some (args, H)) (hi : idbL args = 0) (hz : args.all (fzA H) = true) (hc : calL E f args [] = some (.ret v, [])) (hk : WS E dr l (putT T d v) H n Q) : WCs E dr f args H n d T l Q :=
  WC_own (K := fun v H1 n1 => WS E dr l (putT T d v) H1 n1 Q) hr hl hi (fun _ => hz) hc hk
/-- A call by content that is lent slices of this run's own. -/
theorem WC_lend {E : Env} {dr : Bool} {f : FuncId} {args a : List PV} {H H1 : Ob} {n : Nat} {v : PV} {d T l Q} (hr : E.ref f = false) (hl : lendL H args = some (a, H1)) (hi : idbL a = 0) (hd : dr = true → args.all (fzA H) = true) (hc : calL E f a [] = some (.ret v, [])) (hk : WS E dr l (putT T d v) H1 n Q) : WCs E dr f args H n d T l Q :=
  WC_own (K := fun v H1 n1 => WS E dr l (putT T d v) H1 n1 Q) hr hl hi hd hc hk
/-- No object. -/
def pureA : List PV → Bool
  | [] => true
  | .s _ :: r => pureA r
  | .agg l :: r => (l.all fun p => match p with | .s _ => true | _ => false) && pureA r
  | _ => false
theorem pureA_map {l : List PV} (h : (l.all fun p => match p with | .s _ => true | _ => false) = true) : ∃ m : List SV, l = m.map .s := by
  induction l with
  | nil => exact ⟨[], rfl⟩
  | cons p l ih =>
    simp only [List.all_cons, Bool.and_eq_true] at h
    obtain ⟨m, rfl⟩ := ih h.2
    cases p with
    | s v => exact ⟨v :: m, rfl⟩
    | _ => cases h.1
theorem all_fzC {H : Ob} : ∀ {m : List SV}, (m.map PV.s).all (fzC H) = true
  | [] => rfl
  | v :: m => by simp only [List.map_cons, List.all_cons, fzC, all_fzC, Bool.and_self]
theorem pure_lend {H : Ob} : ∀ {l : List PV}, pureA l = true → lendL H l = some (l, H) ∧ idbL l = 0 ∧ l.all (fzA H) = true
  | [], _ => ⟨lendL_nil, by simp [idbL], rfl⟩
  | .s v :: r, h => by
    obtain ⟨h1, h2, h3⟩ := pure_lend (H := H) (l := r) h
    exact ⟨by rw [lendL_cons, lend_s, bnd_some, h1]; rfl, by simp only [idbL, idb, h2]; rfl, by simp only [List.all_cons, fzA, fzC, h3, Bool.and_self]⟩
  | .agg l :: r, h => by
    simp only [pureA, Bool.and_eq_true] at h
    obtain ⟨h1, h2, h3⟩ := pure_lend (H := H) (l := r) h.2
    obtain ⟨m, rfl⟩ := pureA_map h.1
    have e : lend H (.agg (m.map .s)) = some (.agg (m.map .s), H) := lend_st
    have e2 : idb (.agg (m.map .s)) = 0 := idb_st
    exact ⟨by rw [lendL_cons, e, bnd_some, h1]; rfl, by simp only [idbL, e2, h2]; rfl, by simp only [List.all_cons, fzA, all_fzC, h3, Bool.and_self]⟩
  | .ptr _ _ :: r, h => by cases h
  | .eptr _ _ _ :: r, h => by cases h
  | .aptr _ _ _ _ :: r, h => by cases h
  | .hsl _ _ _ _ :: r, h => by cases h
  | .func _ _ _ :: r, h => by cases h
  | .iface _ _ :: r, h => by cases h
  | .map _ :: r, h => by cases h
  | .tuple _ :: r, h => by cases h
/-- The everyday call. -/
theorem WC_p {E : Env} {dr : Bool} {f : FuncId} {args : List PV} {H : Ob} {n : Nat} {v : PV} {d T l Q} (hr : E.ref f = false) (hp : pureA args = true) (hc : calL E f args [] = some (.ret v, [])) (hk : WS E dr l (putT T d v) H n Q) : WCs E dr f args H n d T l Q :=
  WC_pure hr (pure_lend hp).1 (pure_lend (H := H) hp).2.1 (pure_lend hp).2.2 hc hk
theorem CF_pure {E : Env} {dr : Bool} {f : FuncId} {args : List PV} {H : Ob} {n : Nat} {v : PV} (hr : E.ref f = false) (hl : lendL H args = some (args, H)) (hi : idbL args = 0) (hz : args.all (fzA H) = true) (hc : calL E f args [] = some (.ret v, [])) : CF E dr f args H n v := by
  obtain ⟨v', H1, n1, h1, h2, h3, h4⟩ := WC_own (dr := dr) (K := fun w H1 n1 => w = v ∧ H1 = H ∧ n1 = n) (H := H) (n := n) hr hl hi (fun _ => hz) hc ⟨rfl, rfl, rfl⟩
  subst h2; subst h3; subst h4
  exact ⟨_, _, h1, Nat.le_refl _, fun _ _ => rfl⟩
theorem CF_p {E : Env} {dr : Bool} {f : FuncId} {args : List PV} {H : Ob} {n : Nat} {v : PV} (hr : E.ref f = false) (hp : pureA args = true) (hc : calL E f args [] = some (.ret v, [])) : CF E dr f args H n v := CF_pure hr (pure_lend hp).1 (pure_lend (H := H) hp).2.1 (pure_lend hp).2.2 hc
/-- A function run in place that leaves the objects that were there as they were. -/
def FinF (rs : List MR) (H0 : Ob) (n0 : Nat) (v : PV) : Qt := FinR rs fun p H n => p = v ∧ n0 ≤ n ∧ ∀ j, j < n0 → H j = H0 j
theorem fn_ref {E : Env} {f : FuncId} {D : List Nat} {nt : Nat} {rs : List MR} {c : SC} {args : List PV} {v : PV} {H : Ob} {n : Nat} (hr : E.ref f = true) (hf : sF E f D = some ⟨nt, rs, c⟩) (hl : args.length ≤ nt) (h : WP E c (enter args) H n (FinF rs H n v)) : CF E false f args H n v := by
  obtain ⟨p, H1, n1, h1, h2, h3, h4⟩ := fn_run hf hl h
  subst h2
  refine ⟨H1, n1, ?_, h3, h4⟩
  unfold doCall
  rw [hr]
  simp only [if_true, Bool.false_eq_true, if_false]
  exact h1

/-! ### a loop that counts -/
def contQ (i j : Nat) (p : Nat → Prop) (I : (Nat → PV) → Ob → Nat → Prop) (Q : Qt) : Qt := fun e T H n => match e with
  | .normal => p j ∧ T i = .i64 ((j + 1 : Nat) : Int) ∧ I T H n
  | e => Q e T H n
section
variable {E : Env} {T : Nat → PV} {H : Ob} {n : Nat} {Q : Qt}
theorem contQ_normal {i j p I} : contQ i j p I Q .normal T H n = (p j ∧ T i = .i64 ((j + 1 : Nat) : Int) ∧ I T H n) := rfl
theorem contQ_ret {i j p I} : contQ i j p I Q .ret T H n = Q .ret T H n := rfl
theorem contQ_exit {i j p I x} : contQ i j p I Q (.exit x) T H n = Q (.exit x) T H n := rfl
@[congr] theorem contQ_congr {i j p I e} : contQ i j p I Q e T H n = contQ i j p I Q e T H n := rfl
/-- A loop that counts from 0 to N: each round shows p of its number or leaves the loop. -/
theorem WP_scan {c : SC} (hno : noOrig c = true) (i N : Nat) (p : Nat → Prop) (I : Nat → (Nat → PV) → Ob → Nat → Prop) (hi : T i = .i64 0) (hI : I 0 T H n)
    (hr : ∀ j T' H' n', j < N → Kp (wr c) T T' → T' i = .i64 j → I j T' H' n' → (∀ m, m < j → p m) → WP E c T' H' n' (contQ i j p (I (j + 1)) Q))
    (he : ∀ T' H' n', Kp (wr c) T T' → T' i = .i64 N → I N T' H' n' → (∀ m, m < N → p m) → WP E c T' H' n' (nextQ (fun _ _ _ _ => False) 0 Q)) : WP E (.loop c) T H n Q := by
  refine WP_loop hno (fun k T' H' n' => ∃ j, j + k = N ∧ T' i = .i64 j ∧ I j T' H' n' ∧ ∀ m, m < j → p m) (k0 := N) ⟨0, by omega, hi, hI, fun m hm => by omega⟩ ?_
  rintro k T' H' n' hf ⟨j, hj, hi', hI', hp⟩
  by_cases hlt : j < N
  · obtain ⟨e, T1, H1, n1, h1, ho, h2⟩ := hr j T' H' n' hlt hf hi' hI' hp
    refine ⟨e, T1, H1, n1, h1, ho, ?_⟩
    cases e with
    | normal =>
      obtain ⟨g1, g2, g3⟩ := h2
      refine ⟨k - 1, by omega, j + 1, by omega, g2, g3, fun m hm => ?_⟩
      by_cases e1 : m = j
      · rw [e1]; exact g1
      · exact hp m (by omega)
    | _ => exact h2
  · have e1 : j = N := by omega
    subst e1
    obtain ⟨e, T1, H1, n1, h1, ho, h2⟩ := he T' H' n' hf hi' hI' hp
    refine ⟨e, T1, H1, n1, h1, ho, ?_⟩
    cases e with
    | normal =>
      obtain ⟨_, _, h3⟩ := h2
      exact h3.elim
    | _ => exact h2
/-- A function's result by content, of which something is known. -/
def FinE (rs : List MR) (R : PV → Prop) : Qt := fun e T H n => (e = .ret ∨ e = .normal) ∧ ∃ vs, resM T H rs = some vs ∧ ∃ v, own 0 H (packR vs) = some v ∧ R v
theorem FinE_ret {rs R} : FinE rs R .ret T H n = WX (resM T H rs) fun vs => WX (own 0 H (packR vs)) R := by simp [FinE, WX]
theorem FinE_normal {rs R} : FinE rs R .normal T H n = WX (resM T H rs) fun vs => WX (own 0 H (packR vs)) R := by simp [FinE, WX]
theorem fn_ex {f : FuncId} {D : List Nat} {nt : Nat} {rs : List MR} {c : SC} {args : List PV} {R : PV → Prop} (hf : sF E f D = some ⟨nt, rs, c⟩) (hl : args.length ≤ nt) (h : WP E c (enter args) (Ob.of []) 0 (FinE rs R)) : ∃ v, calL E f args [] = some (.ret v, []) ∧ R v := by
  obtain ⟨e, T1, H1, n1, h1, _, h2, vs, h3, v, h4, h5⟩ := h
  refine ⟨v, calS_of (r := (.ret (packR vs), H1, n1)) hf hl h1 ?_ ?_ rfl, h5⟩
  · unfold finM
    rcases h2 with e1 | e1 <;> (subst e1; simp only [h3, bnd_some])
  · simp only [ownOut, List.length_nil, h4, bnd_some]
end
theorem all_iff {α : Type} {l : List α} {p : α → Bool} (d : α) : l.all p = true ↔ ∀ j, j < l.length → p (l.getD j d) = true := by
  rw [List.all_eq_true]
  constructor
  · intro h j hj
    exact h _ (getD_mem d hj)
  · intro h x hx
    obtain ⟨j, hj, e⟩ := List.getElem_of_mem hx
    have := h j hj
    rw [List.getD_eq_getElem?_getD, List.getElem?_eq_getElem hj] at this
    simpa [e] using this
theorem any_iff {α : Type} {l : List α} {p : α → Bool} (d : α) : l.any p = true ↔ ∃ j, j < l.length ∧ p (l.getD j d) = true := by
  rw [List.any_eq_true]
  constructor
  · rintro ⟨x, hx, h⟩
    obtain ⟨j, hj, e⟩ := List.getElem_of_mem hx
    refine ⟨j, hj, ?_⟩
    rw [List.getD_eq_getElem?_getD, List.getElem?_eq_getElem hj]
    simpa [e] using h
  · rintro ⟨j, hj, h⟩
    exact ⟨_, getD_mem d hj, h⟩
/-- A call by content of one slice of this run's own. -/
theorem WC_own1 {E : Env} {α : Type} {f : α → List SV} {l : List α} {lo e sz H n0 p} {g : FuncId} {v : PV} {n d T r Q} (h : Own lo e sz H n0 p (l.map f)) (hr : E.ref g = false) (hc : ∀ s : Slc α, s.l = l → calL E g [.s (s.sv f)] [] = some (.ret v, []))
    (hk : ∀ H', Own lo e sz H' n0 p (l.map f) → (∀ j, Off p j → H' j = H j) → WS E false r (putT T d v) H' n Q) : WCs E false g [p] H n d T r Q := by
  obtain ⟨s, H', h1, h2, h3, h4⟩ := h.lend
  refine WC_lend hr (a := [.s (s.sv f)]) (H1 := H') ?_ (by simp [idbL, idb]) (fun h => by cases h) (hc s h2) (hk H' h3 h4)
  rw [lendL_cons, h1, bnd_some, lendL_nil]
  rfl

/-! ### what operations of a drawn region touch -/
theorem Own.heads {lo e sz H n p rows} (h : Own lo e sz H n p rows) {j : Nat} (hj : j ∈ heads p) : ¬ Off p j := by
  intro ho
  rcases h with ⟨rfl, rfl⟩ | ⟨rfl, _⟩ | ⟨id, ver, fz, _, _, rfl, _⟩
  · simp [Vm.heads, heads1, heads0] at hj
  · simp [Vm.heads, heads1, heads0] at hj
  · have : j = id := by simpa [Vm.heads, heads1, heads0] using hj
    exact ho _ _ _ _ rfl this
theorem Own.apart {lo e sz H n p rows} (h : Own lo e sz H n p rows) {j : Nat} (hj : Off p j) : (Vm.heads p).all (fun x => ![j].contains x) = true := by
  rw [List.all_eq_true]
  intro x hx
  have : x ≠ j := fun e => h.heads hx (e ▸ hj)
  simp [this]
theorem heads_s {v : SV} : heads (.s v) = [] := rfl
theorem heads_ptr {id off : Nat} : heads (.ptr id off) = [id] := rfl
theorem heads_hsl {id ver off n : Nat} : heads (.hsl id ver off n) = [id] := rfl
theorem heads_eptr {es i off} : heads (.eptr es i off) = [] := rfl
/-- An append against a look at a local struct. -/
theorem held_app {T : Nat → PV} {n0 k a b i c : Nat} {p : PV} {v : SV} {id off : Nat} {lo e sz H n rows} (ha : T a = p) (hb : T b = .s v) (hc : T c = .ptr id off) (h : Own lo e sz H n p rows) (ho : Off p id) (hne : n0 + k ≠ id) :
    heldX T n0 (k, 2, [.t a, .t b], i, 1, [.t c]) = true := by
  have e1 : touchX T (n0 + k) 2 [.t a, .t b] = (n0 + k) :: heads p := by simp [touchX, valX, ha, hb, heads_s]
  have e2 : touchX T (n0 + i) 1 [.t c] = [id] := by simp [touchX, valX, hc, heads_ptr]
  unfold heldX disj
  simp only [e1, e2, List.all_cons, h.apart ho, Bool.and_true]
  simp [hne]
theorem all1 {α : Type} {f : α → Bool} {a : α} (h : f a = true) : [a].all f = true := by simp [h]
theorem all2 {α : Type} {f : α → Bool} {a b : α} (h : f a = true) (h' : f b = true) : [a, b].all f = true := by simp [h, h']
theorem all3 {α : Type} {f : α → Bool} {a b c : α} (h : f a = true) (h' : f b = true) (h2 : f c = true) : [a, b, c].all f = true := by simp [h, h', h2]

/-! ### own slices, frozen and handed on where the order is open -/
theorem Own.frz {lo e sz H n p rows} (h : Own lo e sz H n p rows) : Own lo e sz (frz1 H p) n p rows ∧ (∀ j, Off p j → frz1 H p j = H j) ∧ fzA (frz1 H p) p = true := by
  rcases h with ⟨rfl, rfl⟩ | ⟨rfl, h⟩ | ⟨id, ver, fz, h1, h2, rfl, h⟩
  · exact ⟨.nil, fun _ _ => rfl, rfl⟩
  · exact ⟨.inr (.inl ⟨rfl, h⟩), fun _ _ => rfl, rfl⟩
  · have hf : frz1 H (.hsl id ver 0 rows.length) = H.set id (.sarr e sz ver true true rows) := by
      show freeze1 H id = _
      simp only [freeze1, h]
    rw [hf]
    have hid : (H.set id (.sarr e sz ver true true rows)) id = .sarr e sz ver true true rows := if_pos rfl
    refine ⟨.inr (.inr ⟨id, ver, true, h1, h2, rfl, hid⟩), fun j hj => if_neg (hj _ _ _ _ rfl), ?_⟩
    simp [fzA, fzC, hid]
theorem Own.lendF {α : Type} {f : α → List SV} {l : List α} {lo e sz H n p} (h : Own lo e sz H n p (l.map f)) (hz : fzA H p = true) : ∃ s : Slc α, Vm.lend H p = some (.s (s.sv f), H) ∧ s.l = l := by
  have hr := h.rows
  rcases h with ⟨rfl, h⟩ | ⟨rfl, h⟩ | ⟨id, ver, fz, h1, h2, rfl, h⟩
  · have : l = [] := by simpa using h
    subst this
    exact ⟨.nil, lend_s, rfl⟩
  · exact ⟨.mk l true, lend_s, rfl⟩
  · obtain ⟨q, k1, k2, _⟩ := fzA_lend hz
    refine ⟨.mk l false, ?_, rfl⟩
    have e : freeze1 H id = H := by
      simp only [Vm.lend, hr, bnd_some] at k1
      injection k1 with k1
      injection k1
    simp only [Vm.lend, hr, bnd_some, e]
    rfl
/-- A call where the order is open, handed one frozen slice of this run's own and something plain. -/
theorem WC_fz1 {E : Env} {dr : Bool} {α : Type} {f : α → List SV} {l : List α} {lo e sz H n0 p} {g : FuncId} {v : PV} {n d T r Q} {rest : List PV} (h : Own lo e sz H n0 p (l.map f)) (hz : fzA H p = true) (hp : pureA rest = true) (hr : E.ref g = false)
    (hc : ∀ s : Slc α, s.l = l → calL E g (.s (s.sv f) :: rest) [] = some (.ret v, [])) (hk : WS E dr r (putT T d v) H n Q) : WCs E dr g (p :: rest) H n d T r Q := by
  obtain ⟨s, h1, h2⟩ := h.lendF hz
  obtain ⟨k1, k2, k3⟩ := pure_lend (H := H) hp
  refine WC_lend hr (a := .s (s.sv f) :: rest) (H1 := H) ?_ ?_ (fun _ => by rw [List.all_cons, hz, k3]; rfl) (hc s h2) hk
  · rw [lendL_cons, h1, bnd_some, k1]; rfl
  · simp only [idbL, idb, k2]; rfl
end Go.Vm
