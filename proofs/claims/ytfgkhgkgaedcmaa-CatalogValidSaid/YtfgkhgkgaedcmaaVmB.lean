/- What ties the abstract machine's values and objects to the model's memory, and how it moves. -/
import Derived.Test.YtfgkhgkgaedcmaaVmA
set_option linter.unusedVariables false
namespace Go.Vm
open Go.RowKit

abbrev Fix := Nat → Nat → Option Value
inductive SRel (F : Fix) : SV → Value → Prop
  | bool (b : Bool) : SRel F (.bool b) (.bool b)
  | int (k : IntKind) (n : Int) : SRel F (.int k n) (.int k n)
  | str (l : List UInt8) : SRel F (.str l) (.string ⟨⟨l⟩⟩)
  | nilp : SRel F .nilp (.pointer none)
  | nils : SRel F .nils (.slice none 0 0)
  | nilf : SRel F .nilf .nilFunc
  | nili : SRel F .nili .nilIface
  | nilm : SRel F .nilm (.map none)
  | func (f : FuncId) : SRel F (.func f) (.func (.func f) #[] #[])
  | iface (t : TypeId) (v : SV) (u : Value) : SRel F v u → SRel F (.iface t v) (.iface t u)
  | slice (es : List (List SV)) (full : Bool) (a : Addr) (cap sz : Nat) (vs : Nat → Nat → Value) :
      (∀ c, c ∈ es → c.length = sz) → (es ≠ [] → a.spot = none) → es.length ≤ cap → cap ≤ maxLen → (full = true → cap = es.length) →
      (∀ i c j p, es[i]? = some c → c[j]? = some p → F a.block (a.off + (i * sz + j)) = some (vs i j)) →
      (∀ i c j p, es[i]? = some c → c[j]? = some p → SRel F p (vs i j)) → SRel F (.slice es full) (.slice (some a) es.length cap)

theorem SRel.mono {F F' : Fix} (hF : ∀ b o v, F b o = some v → F' b o = some v) {p : SV} {v : Value} (h : SRel F p v) : SRel F' p v := by
  induction h with
  | bool b => exact .bool b
  | int k n => exact .int k n
  | str l => exact .str l
  | nilp => exact .nilp
  | nils => exact .nils
  | nilf => exact .nilf
  | nili => exact .nili
  | nilm => exact .nilm
  | func f => exact .func f
  | iface t v u _ ih => exact .iface t v u ih
  | slice es full a cap sz vs h1 h2 h3 h3' h4 h5 h6 ih => exact .slice es full a cap sz vs h1 h2 h3 h3' h4 (fun i c j p hi hj => hF _ _ _ (h5 i c j p hi hj)) ih
theorem SRel.one {F : Fix} {p : SV} {v : Value} (h : SRel F p v) : v.oneCell' = true := by cases h <;> rfl

structure Cx where
  σ : Nat → Nat
  cap : Nat → Nat
  F : Fix
  H : Ob

def isPtr : Value → Bool
  | .pointer _ => true
  | _ => false
def isSl : Value → Bool
  | .slice _ _ _ => true
  | _ => false
inductive PRel (C : Cx) : PV → Value → Prop
  | s (p : SV) (v : Value) : SRel C.F p v → PRel C (.s p) v
  | ptr (id off : Nat) (ty : TypeId) (cells : List PV) : C.H id = .box ty cells → PRel C (.ptr id off) (.pointer (some ⟨C.σ id, off, none⟩))
  | eptr (es : List (List SV)) (i off : Nat) (a : Addr) (sz : Nat) (vs : Nat → Nat → Value) : (∀ c, c ∈ es → c.length = sz) → (es ≠ [] → a.spot = none) →
      (∀ i c j p, es[i]? = some c → c[j]? = some p → C.F a.block (a.off + (i * sz + j)) = some (vs i j)) →
      (∀ i c j p, es[i]? = some c → c[j]? = some p → SRel C.F p (vs i j)) → PRel C (.eptr es i off) (.pointer (some ⟨a.block, a.off + (i * sz + off), none⟩))
  | aptr (id ver i off : Nat) (ty : TypeId) (sz cur : Nat) (fz ap : Bool) (es : List (List SV)) (v : Value) : C.H id = .sarr ty sz cur fz ap es → ver ≤ cur → isPtr v = true →
      (ver = cur → v = .pointer (some ⟨C.σ id, i * sz + off, none⟩)) → PRel C (.aptr id ver i off) v
  | hsl (id ver off n : Nat) (ty : TypeId) (sz cur : Nat) (fz ap : Bool) (es : List (List SV)) (v : Value) : C.H id = .sarr ty sz cur fz ap es → ver ≤ cur → isSl v = true →
      (ver = cur → off + n ≤ es.length ∧ v = .slice (some ⟨C.σ id, off * sz, none⟩) n (C.cap id - off)) → PRel C (.hsl id ver off n) v
  | func (f : FuncId) (first cap : List PV) (as bs : Array Value) : first.length = as.size → (∀ i p, first[i]? = some p → PRel C p (as.getD i undef)) →
      cap.length = bs.size → (∀ i p, cap[i]? = some p → PRel C p (bs.getD i undef)) → PRel C (.func f first cap) (.func (.func f) as bs)
  | iface (t : TypeId) (p : PV) (v : Value) : PRel C p v → PRel C (.iface t p) (.iface t v)
  | map (id : Nat) (es : List (SV × SV)) : C.H id = .map es → PRel C (.map id) (.map (some (C.σ id)))
  | agg (cs : List PV) (vs : Array Value) : cs.length = vs.size → (∀ i p, cs[i]? = some p → PRel C p (vs.getD i undef)) → PRel C (.agg cs) (.agg vs)
  | tuple (cs : List PV) (vs : Array Value) : cs.length = vs.size → (∀ i p, cs[i]? = some p → PRel C p (vs.getD i undef)) → PRel C (.tuple cs) (.tuple vs)

def HObj.alive : HObj → Bool
  | .dead => false
  | _ => true

/-- An object lives on: it is of the same kind, and where its version is the same its slices are what they were. -/
def Keeps (C C' : Cx) (id : Nat) : Prop :=
  match C.H id with
  | .dead => True
  | .box ty cells => ∃ cells', C'.H id = .box ty cells' ∧ C'.σ id = C.σ id
  | .sarr ty sz ver fz ap es => ∃ ver' fz' es', C'.H id = .sarr ty sz ver' fz' ap es' ∧ ver ≤ ver' ∧ (ver' = ver → C'.σ id = C.σ id ∧ C'.cap id = C.cap id ∧ es'.length = es.length)
  | .map es => ∃ es', C'.H id = .map es' ∧ C'.σ id = C.σ id
theorem Keeps.alive {C C' : Cx} {id : Nat} (h : Keeps C C' id) (ha : (C.H id).alive = true) : (C'.H id).alive = true := by
  unfold Keeps at h
  cases hb : C.H id with
  | dead => rw [hb] at ha; cases ha
  | box ty cells => rw [hb] at h; obtain ⟨c, hc, _⟩ := h; rw [hc]; rfl
  | sarr ty sz ver fz ap es => rw [hb] at h; obtain ⟨a, b, c, hc, _⟩ := h; rw [hc]; rfl
  | map es => rw [hb] at h; obtain ⟨c, hc, _⟩ := h; rw [hc]; rfl

theorem PRel.mono {C C' : Cx} (hF : ∀ b o v, C.F b o = some v → C'.F b o = some v) (hk : ∀ id, Keeps C C' id) {p : PV} {v : Value} (h : PRel C p v) : PRel C' p v := by
  induction h with
  | s p v h => exact .s p v (h.mono hF)
  | ptr id off ty cells h =>
    have := hk id
    unfold Keeps at this
    rw [h] at this
    obtain ⟨c', h', hs⟩ := this
    rw [← hs]
    exact .ptr id off ty c' h'
  | eptr es i off a sz vs h1 h2 h5 h6 => exact .eptr es i off a sz vs h1 h2 (fun i c j p hi hj => hF _ _ _ (h5 i c j p hi hj)) (fun i c j p hi hj => (h6 i c j p hi hj).mono hF)
  | aptr id ver i off ty sz cur fz ap es v h hv h1 he =>
    have := hk id
    unfold Keeps at this
    rw [h] at this
    obtain ⟨ver', fz', es', h', hle, hsame⟩ := this
    refine .aptr id ver i off ty sz ver' fz' ap es' v h' (by omega) h1 (fun e => ?_)
    obtain ⟨hs, _, _⟩ := hsame (by omega)
    rw [hs]
    exact he (by omega)
  | hsl id ver off n ty sz cur fz ap es v h hv h1 he =>
    have := hk id
    unfold Keeps at this
    rw [h] at this
    obtain ⟨ver', fz', es', h', hle, hsame⟩ := this
    refine .hsl id ver off n ty sz ver' fz' ap es' v h' (by omega) h1 (fun e => ?_)
    obtain ⟨hs, hc, hl⟩ := hsame (by omega)
    rw [hs, hc, hl]
    exact he (by omega)
  | func f first cap as bs h1 _ h3 _ ih1 ih2 => exact .func f first cap as bs h1 ih1 h3 ih2
  | iface t p v _ ih => exact .iface t p v ih
  | map id es h =>
    have := hk id
    unfold Keeps at this
    rw [h] at this
    obtain ⟨c', h', hs⟩ := this
    rw [← hs]
    exact .map id c' h'
  | agg cs vs h1 _ ih => exact .agg cs vs h1 ih
  | tuple cs vs h1 _ ih => exact .tuple cs vs h1 ih

theorem PRel.one {C : Cx} {p : PV} {v : Value} (h : PRel C p v) (hp : cellOk p = true) : v.oneCell' = true := by
  cases h with
  | s p v h => exact h.one
  | ptr => rfl
  | eptr => rfl
  | aptr id ver i off ty sz cur fz ap es v h hv h1 he => cases v <;> first | rfl | cases h1
  | hsl id ver off n ty sz cur fz ap es v h hv h1 he => cases v <;> first | rfl | cases h1
  | func => rfl
  | iface => rfl
  | map => rfl
  | agg => cases hp
  | tuple => cases hp

theorem PRel.cells {C : Cx} {p : PV} {v : Value} (h : PRel C p v) : p.cells.length = v.cells.size ∧ ∀ i q, p.cells[i]? = some q → PRel C q (v.cells.getD i undef) := by
  have one : ∀ (q : PV) (u : Value), PRel C q u → q.cells = [q] → u.cells = #[u] → q.cells.length = u.cells.size ∧ ∀ i r, q.cells[i]? = some r → PRel C r (u.cells.getD i undef) := by
    intro q u hq e1 e2
    rw [e1, e2]
    refine ⟨rfl, fun i r hi => ?_⟩
    cases i with
    | zero => simp at hi; subst hi; exact hq
    | succ i => simp at hi
  cases h with
  | s p v h => exact one _ _ (.s p v h) rfl (by cases h <;> rfl)
  | ptr id off ty cells h => exact one _ _ (.ptr id off ty cells h) rfl rfl
  | eptr es i off a sz vs h1 h2 h5 h6 => exact one _ _ (.eptr es i off a sz vs h1 h2 h5 h6) rfl rfl
  | aptr id ver i off ty sz cur fz ap es v h hv h1 he => exact one _ _ (.aptr id ver i off ty sz cur fz ap es v h hv h1 he) rfl (by cases v <;> first | rfl | cases h1)
  | hsl id ver off n ty sz cur fz ap es v h hv h1 he => exact one _ _ (.hsl id ver off n ty sz cur fz ap es v h hv h1 he) rfl (by cases v <;> first | rfl | cases h1)
  | func f first cap as bs h1 h2 h3 h4 => exact one _ _ (.func f first cap as bs h1 h2 h3 h4) rfl rfl
  | iface t p v h => exact one _ _ (.iface t p v h) rfl rfl
  | map id es h => exact one _ _ (.map id es h) rfl rfl
  | agg cs vs h1 h2 => exact ⟨h1, h2⟩
  | tuple cs vs h1 h2 => exact one _ _ (.tuple cs vs h1 h2) rfl rfl

/-- The machine's objects, as they lie in the model's memory. -/
structure Rel (w0 : World) (C : Cx) (w : World) : Prop where
  below : Below w0.heap.size w0 w
  cell : ∀ b o v, C.F b o = some v → w.cell? ⟨b, o, none⟩ = some v
  lt : ∀ id, (C.H id).alive = true → w0.heap.size ≤ C.σ id ∧ C.σ id < w.heap.size
  inj : ∀ i j, (C.H i).alive = true → (C.H j).alive = true → C.σ i = C.σ j → i = j
  box : ∀ id ty cells, C.H id = .box ty cells → ∃ vs, w.heap[C.σ id]? = some (.cells vs ty (0, 0)) ∧ vs.size = cells.length ∧
    (∀ j p, cells[j]? = some p → PRel C p (vs.getD j undef) ∧ (vs.getD j undef).oneCell' = true) ∧ ∀ o, C.F (C.σ id) o = none
  sarr : ∀ id ty sz ver fz ap es, C.H id = .sarr ty sz ver fz ap es → 0 < sz ∧ (∀ c, c ∈ es → c.length = sz) ∧ es.length ≤ C.cap id ∧ C.cap id ≤ maxLen ∧
    ∃ cur fr, w.heap[C.σ id]? = some (.cells cur ty fr) ∧ (ap = true → fr = (0, 0)) ∧ (fr = (0, 0) ∨ cur.size ≤ fr.1) ∧ cur.size = C.cap id * sz ∧
      (∀ i c j p, es[i]? = some c → c[j]? = some p → SRel C.F p (cur.getD (i * sz + j) undef)) ∧
      (∀ o v, C.F (C.σ id) o = some v → fz = true ∧ o < es.length * sz)
  map : ∀ id es, C.H id = .map es → ∃ ents clock, w.heap[C.σ id]? = some (.map ents clock) ∧ ents.size = es.length ∧
    ∀ (i : Nat) k v, es[i]? = some (k, v) → ∃ e, ents[i]? = some e ∧ SRel C.F k e.key ∧ SRel C.F v e.val

structure Ext (C : Cx) (w : World) (C' : Cx) (w' : World) : Prop where
  F : ∀ b o v, C.F b o = some v → C'.F b o = some v
  keep : ∀ id, Keeps C C' id
  frame : ∀ b, b < w.heap.size → (∀ id, (C.H id).alive = true → C.σ id ≠ b) → w'.heap[b]? = w.heap[b]?
  fresh : ∀ id, (C'.H id).alive = true → (∃ id0, (C.H id0).alive = true ∧ C'.σ id = C.σ id0) ∨ w.heap.size ≤ C'.σ id
  size : w.heap.size ≤ w'.heap.size
  Fnew : ∀ b o v, C'.F b o = some v → C.F b o = some v ∨ w.heap.size ≤ b ∨ ∃ id, (C.H id).alive = true ∧ C.σ id = b

theorem Keeps.refl (C : Cx) (id : Nat) : Keeps C C id := by
  unfold Keeps
  cases h : C.H id with
  | dead => trivial
  | box ty cells => exact ⟨cells, rfl, rfl⟩
  | sarr ty sz ver fz ap es => exact ⟨ver, fz, es, rfl, Nat.le_refl _, fun _ => ⟨rfl, rfl, rfl⟩⟩
  | map es => exact ⟨es, rfl, rfl⟩
theorem Keeps.trans {C C1 C2 : Cx} {id : Nat} (h : Keeps C C1 id) (h' : Keeps C1 C2 id) : Keeps C C2 id := by
  unfold Keeps at h ⊢
  cases hb : C.H id with
  | dead => trivial
  | box ty cells =>
    rw [hb] at h
    obtain ⟨c1, e1, s1⟩ := h
    unfold Keeps at h'
    rw [e1] at h'
    obtain ⟨c2, e2, s2⟩ := h'
    exact ⟨c2, e2, s2.trans s1⟩
  | sarr ty sz ver fz ap es =>
    rw [hb] at h
    obtain ⟨v1, f1, es1, e1, l1, s1⟩ := h
    unfold Keeps at h'
    rw [e1] at h'
    obtain ⟨v2, f2, es2, e2, l2, s2⟩ := h'
    refine ⟨v2, f2, es2, e2, Nat.le_trans l1 l2, fun e => ?_⟩
    obtain ⟨a1, b1, c1⟩ := s1 (by omega)
    obtain ⟨a2, b2, c2⟩ := s2 (by omega)
    exact ⟨a2.trans a1, b2.trans b1, c2.trans c1⟩
  | map es =>
    rw [hb] at h
    obtain ⟨c1, e1, s1⟩ := h
    unfold Keeps at h'
    rw [e1] at h'
    obtain ⟨c2, e2, s2⟩ := h'
    exact ⟨c2, e2, s2.trans s1⟩
theorem Ext.refl (C : Cx) (w : World) : Ext C w C w := ⟨fun _ _ _ h => h, Keeps.refl C, fun _ _ _ => rfl, fun id h => .inl ⟨id, h, rfl⟩, Nat.le_refl _, fun _ _ _ h => .inl h⟩
theorem Ext.trans {C C1 C2 : Cx} {w w1 w2 : World} (h : Ext C w C1 w1) (h' : Ext C1 w1 C2 w2) : Ext C w C2 w2 where
  F := fun b o v e => h'.F b o v (h.F b o v e)
  keep := fun id => (h.keep id).trans (h'.keep id)
  frame := fun b hb hn => by
    rw [h'.frame b (Nat.lt_of_lt_of_le hb h.size) (fun id ha e => ?_), h.frame b hb hn]
    rcases h.fresh id ha with ⟨id0, h0, e0⟩ | hge
    · exact hn id0 h0 (e0.symm.trans e)
    · omega
  fresh := fun id ha => by
    rcases h'.fresh id ha with ⟨id1, h1, e1⟩ | hge
    · rcases h.fresh id1 h1 with ⟨id0, h0, e0⟩ | hge
      · exact .inl ⟨id0, h0, e1.trans e0⟩
      · exact .inr (by omega)
    · exact .inr (Nat.le_trans h.size hge)
  size := Nat.le_trans h.size h'.size
  Fnew := fun b o v hv => by
    rcases h'.Fnew b o v hv with h1 | h1 | ⟨id, h1, h2⟩
    · exact h.Fnew b o v h1
    · exact .inr (.inl (Nat.le_trans h.size h1))
    · rcases h.fresh id h1 with ⟨id0, h3, h4⟩ | h3
      · exact .inr (.inr ⟨id0, h3, h4.symm.trans h2⟩)
      · exact .inr (.inl (by omega))
theorem Ext.rel {C C' : Cx} {w w' : World} (h : Ext C w C' w') {p : PV} {v : Value} (hp : PRel C p v) : PRel C' p v := hp.mono h.F h.keep
theorem Rel.drawn {w0 : World} {C : Cx} {w : World} (h : Rel w0 C w) (n : Nat) : Rel w0 C { w with drawn := n } :=
  ⟨⟨h.below.os, h.below.tape, h.below.output, h.below.size, h.below.block⟩, h.cell, h.lt, h.inj, h.box, h.sarr, h.map⟩
theorem Ext.drawn (C : Cx) (w : World) (n : Nat) : Ext C w C { w with drawn := n } := ⟨fun _ _ _ h => h, Keeps.refl C, fun _ _ _ => rfl, fun id h => .inl ⟨id, h, rfl⟩, Nat.le_refl _, fun _ _ _ h => .inl h⟩
end Go.Vm
