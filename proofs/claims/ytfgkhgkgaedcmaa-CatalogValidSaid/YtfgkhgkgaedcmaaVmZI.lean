/- From a law's arguments, as they are read, to the machine's values; from the machine's answer to the law's statement. -/
import Derived.Test.YtfgkhgkgaedcmaaVmZH
import Derived.ProofKit
set_option linter.unusedVariables false
set_option linter.unusedSimpArgs false
namespace Go.Vm
open Go.RowKit Go.ChangeShapes Go.WideShapes

/-- The cells of a type: what the machine holds there. -/
def typed (P : Program) : Nat → TypeId → List SV → Prop
  | 0, _, _ => False
  | n + 1, t, xs => match P.underlying t with
    | some .bool => ∃ b, xs = [.bool b]
    | some (.int k) => ∃ i, xs = [.int k i] ∧ k.min ≤ i ∧ i ≤ k.max
    | some .string => ∃ l, xs = [.str l] ∧ l.length ≤ maxLen
    | some (.slice e) => xs = [.nils] ∨ ∃ es, xs = [.slice es false] ∧ es.length ≤ maxLen ∧ ∀ c ∈ es, c.length = P.cellsOf e ∧ typed P n e c
    | some (.struct fs) => xs.length = P.cellsOf t ∧ ∀ f ∈ fs.toList, typed P n f.type ((xs.drop f.offset).take (P.cellsOf f.type))
    | _ => False
def layF (P : Program) : List Field → Nat → Nat → Bool
  | [], o, n => decide (o = n)
  | f :: r, o, n => decide (f.offset = o) && layF P r (o + P.cellsOf f.type) n
/-- A list of types that is closed and is served: elements of slices have cells, fields lie one behind the other. -/
def okT (P : Program) (L : List TypeId) : Bool := L.all fun t => match P.underlying t with
  | some .bool => true
  | some (.int _) => true
  | some .string => true
  | some (.slice e) => decide (0 < P.cellsOf e) && L.contains e
  | some (.struct fs) => layF P fs.toList 0 (P.cellsOf t) && fs.toList.all fun f => L.contains f.type
  | _ => false
/-- The memory, as it was at the start. -/
def fixOf (W : World) : Fix := fun b o => W.cell? ⟨b, o, none⟩

section
variable {H : Type} {enc : TypeId × Value → H} {P : Program} {W : World} {spare : Nat → Bool} {held : Bool}

theorem mapM_get {α β : Type} {f : α → Option β} : ∀ {l : List α} {r : List β}, l.mapM f = some r → r.length = l.length ∧ ∀ (i : Nat) x, l[i]? = some x → ∃ y, f x = some y ∧ r[i]? = some y
  | [], r, h => by
    simp at h
    subst h
    exact ⟨rfl, fun i x hx => by simp at hx⟩
  | a :: l, r, h => by
    rw [List.mapM_cons] at h
    cases hfa : f a with
    | none => rw [hfa] at h; cases h
    | some y =>
      rw [hfa] at h
      cases hl : l.mapM f with
      | none => rw [hl] at h; cases h
      | some q =>
        rw [hl] at h
        have h : some (y :: q) = some r := h
        injection h with h
        subst h
        obtain ⟨h1, h2⟩ := mapM_get hl
        refine ⟨by simp [h1], fun i x hx => ?_⟩
        cases i with
        | zero =>
          simp at hx
          subst hx
          exact ⟨y, hfa, rfl⟩
        | succ i =>
          simp at hx
          obtain ⟨z, hz1, hz2⟩ := h2 i x hx
          exact ⟨z, hz1, by simpa using hz2⟩
theorem mapM_range {α : Type} {f : Nat → Option α} {n : Nat} {l : List α} (h : (List.range n).mapM f = some l) : l.length = n ∧ ∀ i, i < n → ∃ x, f i = some x ∧ l[i]? = some x := by
  obtain ⟨h1, h2⟩ := mapM_get h
  refine ⟨by simpa using h1, fun i hi => h2 i i (by simp [hi])⟩
theorem cells_get {base : Nat} {a : Addr} {n : Nat} {l : List Value} (h : W.cells? base a n = some l) : l.length = n ∧ ∀ i, i < n → ∃ x, W.cell? (a.add i) = some x ∧ l[i]? = some x := by
  unfold World.cells? at h
  split at h
  · exact mapM_range h
  · cases h
theorem cell_spot {a : Addr} {v : Value} (h : W.cell? a = some v) : a.spot = none ∧ W.cell? ⟨a.block, a.off, none⟩ = some v := by
  obtain ⟨b, o, s⟩ := a
  cases s with
  | none => exact ⟨rfl, h⟩
  | some k =>
    unfold World.cell? at h
    split at h
    · simp at h
    · cases h
theorem choose_list {α β : Type} {R : α → β → Prop} : ∀ {l : List β}, (∀ y ∈ l, ∃ x, R x y) → ∃ r : List α, r.length = l.length ∧ ∀ (i : Nat) x y, r[i]? = some x → l[i]? = some y → R x y
  | [], _ => ⟨[], rfl, fun i x y h => by simp at h⟩
  | y :: l, h => by
    obtain ⟨x, hx⟩ := h y (List.mem_cons_self ..)
    obtain ⟨r, h1, h2⟩ := choose_list (l := l) fun z hz => h z (List.mem_cons_of_mem _ hz)
    refine ⟨x :: r, by simp [h1], fun i a b ha hb => ?_⟩
    cases i with
    | zero => simp at ha hb; subst ha; subst hb; exact hx
    | succ i => exact h2 i a b (by simpa using ha) (by simpa using hb)
/-- Cells against values. -/
def CellsRel (F : Fix) (xs : List SV) (cs : List Value) : Prop := xs.length = cs.length ∧ ∀ (i : Nat) x v, xs[i]? = some x → cs[i]? = some v → SRel F x v
theorem CellsRel.one {F : Fix} {x : SV} {v : Value} (h : SRel F x v) : CellsRel F [x] [v] := by
  refine ⟨rfl, fun i y u hy hu => ?_⟩
  cases i with
  | zero => simp at hy hu; subst hy; subst hu; exact h
  | succ i => simp at hy
theorem CellsRel.part {F : Fix} {xs : List SV} {cs : List Value} (h : CellsRel F xs cs) (o n : Nat) : CellsRel F ((xs.drop o).take n) ((cs.drop o).take n) := by
  refine ⟨by simp [h.1], fun i x v hx hv => ?_⟩
  rw [List.getElem?_take] at hx hv
  split at hx
  · rename_i hi
    rw [if_pos hi] at hv
    rw [List.getElem?_drop] at hx hv
    exact h.2 _ _ _ hx hv
  · cases hx
theorem get_part {α : Type} {l : List α} {o n i : Nat} (h : i < n) : ((l.drop o).take n)[i]? = l[o + i]? := by
  rw [List.getElem?_take, if_pos h, List.getElem?_drop]

theorem lay_le {n : Nat} : ∀ {fs : List Field} {o : Nat}, layF P fs o n = true → o ≤ n
  | [], o, h => by simp [layF] at h; omega
  | f :: r, o, h => by
    simp only [layF, Bool.and_eq_true] at h
    have := lay_le h.2
    omega
theorem lay_cells {F : Fix} {m n : Nat} {cs : List Value} (hn : cs.length = n) : ∀ {fs : List Field} {o : Nat}, layF P fs o n = true →
    (∀ f ∈ fs, ∃ xs, CellsRel F xs ((cs.drop f.offset).take (P.cellsOf f.type)) ∧ typed P m f.type xs) →
    ∃ ys, CellsRel F ys (cs.drop o) ∧ (∀ f ∈ fs, o ≤ f.offset ∧ typed P m f.type ((ys.drop (f.offset - o)).take (P.cellsOf f.type)))
  | [], o, h, _ => by
    simp [layF] at h
    refine ⟨[], ⟨by simp; omega, fun i x v hx => by simp at hx⟩, fun f hf => by cases hf⟩
  | f :: r, o, h, hf => by
    simp only [layF, Bool.and_eq_true, decide_eq_true_eq] at h
    obtain ⟨h1, h2⟩ := h
    obtain ⟨xs, hx1, hx2⟩ := hf f (List.mem_cons_self ..)
    obtain ⟨ys, hy1, hy2⟩ := lay_cells hn h2 (fun g hg => hf g (List.mem_cons_of_mem _ hg))
    have hle := lay_le h2
    have hxl : xs.length = P.cellsOf f.type := by
      have := hx1.1
      simp at this
      omega
    refine ⟨xs ++ ys, ⟨?_, fun i x v hx hv => ?_⟩, fun g hg => ?_⟩
    · have := hy1.1
      simp at this ⊢
      omega
    · rw [List.getElem?_drop] at hv
      by_cases hi : i < xs.length
      · rw [List.getElem?_append_left hi] at hx
        refine hx1.2 i x v hx ?_
        rw [get_part (by omega), h1]
        exact hv
      · rw [List.getElem?_append_right (by omega)] at hx
        refine hy1.2 (i - xs.length) x v hx ?_
        rw [List.getElem?_drop]
        have : o + P.cellsOf f.type + (i - xs.length) = o + i := by omega
        rw [this]
        exact hv
    · rcases List.mem_cons.1 hg with e | hg
      · subst e
        refine ⟨by omega, ?_⟩
        rw [h1, Nat.sub_self, List.drop_zero, ← hxl, List.take_left']
        · exact hx2
        · rfl
      · obtain ⟨k1, k2⟩ := hy2 g hg
        refine ⟨by omega, ?_⟩
        have e1 : (xs ++ ys).drop (g.offset - o) = ys.drop (g.offset - (o + P.cellsOf f.type)) := by
          rw [List.drop_append]
          have : xs.drop (g.offset - o) = [] := List.drop_eq_nil_of_le (by omega)
          rw [this, List.nil_append, hxl]
          congr 1
          omega
        rw [e1]
        exact k2

theorem trod_sv {L : List TypeId} (hL : okT P L = true) : ∀ (fuel : Nat) (t : TypeId) (cs : List Value) (x : DataW H × List MemPlace), DataW.trod enc P W 0 spare held fuel t cs = some x → t ∈ L →
    ∃ xs, CellsRel (fixOf W) xs cs ∧ typed P fuel t xs := by
  intro fuel
  induction fuel with
  | zero => intro t cs x h; simp [DataW.trod] at h
  | succ fuel ih =>
    intro t cs x h ht
    have hok := List.all_eq_true.1 hL t ht
    unfold typed
    cases hu : P.underlying t with
    | none => rw [hu] at hok; cases hok
    | some d =>
      rw [hu] at hok
      cases d with
      | bool =>
        obtain ⟨b, rfl, _⟩ := DataW.trod_bool hu h
        exact ⟨[.bool b], .one (.bool b), b, rfl⟩
      | int k =>
        obtain ⟨n, rfl, _, hw⟩ := DataW.trod_int hu h
        simp only [Lit.wf, Bool.and_eq_true, decide_eq_true_eq] at hw
        exact ⟨[.int k n], .one (.int k n), n, rfl, hw.1, hw.2⟩
      | string =>
        obtain ⟨s, rfl, _, hs⟩ := DataW.trod_string hu h
        refine ⟨[.str s.data.toList], .one ?_, s.data.toList, rfl, ?_⟩
        · exact .str s.data.toList
        · rw [Array.length_toList]; exact hs
      | slice e =>
        simp only [Bool.and_eq_true, decide_eq_true_eq, List.contains_iff_mem] at hok
        obtain ⟨hz, he⟩ := hok
        rcases DataW.trod_slice hu h with ⟨rfl, _⟩ | ⟨a, len, cap, elems, rest, n, e1, rfl, _, _, hlc, hcap, hel, hall, _⟩
        · exact ⟨[.nils], .one .nils, .inl rfl⟩
        · have e1 : fuel = n := by omega
          subst e1
          have hex : ∀ i ∈ List.range len, ∃ xs : List SV, (∀ j p, xs[j]? = some p → ∃ v, a.spot = none ∧ W.cell? ⟨a.block, a.off + (i * P.cellsOf e + j), none⟩ = some v ∧ SRel (fixOf W) p v) ∧ xs.length = P.cellsOf e ∧ typed P fuel e xs := by
            intro i hi
            have hi : i < len := List.mem_range.1 hi
            have h1 := hall i hi
            have h2 : elems[i]? = some elems[i] := List.getElem?_eq_getElem (by omega)
            rw [h2] at h1
            cases hc : W.cells? 0 (a.add (i * P.cellsOf e)) (P.cellsOf e) with
            | none => rw [hc] at h1; cases h1
            | some l =>
              rw [hc] at h1
              simp only [Option.bind_some] at h1
              obtain ⟨xs, g1, g2⟩ := ih e l _ h1 he
              obtain ⟨k1, k2⟩ := cells_get hc
              refine ⟨xs, fun j p hp => ?_, by rw [g1.1, k1], g2⟩
              have hj : j < xs.length := (List.getElem?_eq_some_iff.1 hp).1
              obtain ⟨v, q1, q2⟩ := k2 j (by rw [g1.1, k1] at hj; exact hj)
              obtain ⟨q3, q4⟩ := cell_spot q1
              have hadd : ((a.add (i * P.cellsOf e)).add j).block = a.block ∧ ((a.add (i * P.cellsOf e)).add j).off = a.off + (i * P.cellsOf e + j) := by
                unfold Addr.add
                constructor <;> (split <;> split <;> simp_all <;> omega)
              rw [hadd.1, hadd.2] at q4
              obtain ⟨v0, r1, r2⟩ := k2 0 hz
              refine ⟨v, ?_, q4, g1.2 j p v hp q2⟩
              have h0 := hall 0 (by omega)
              have h2' : elems[0]? = some (elems[0]'(by omega)) := List.getElem?_eq_getElem (by omega)
              rw [h2'] at h0
              cases hc0 : W.cells? 0 (a.add (0 * P.cellsOf e)) (P.cellsOf e) with
              | none => rw [hc0] at h0; cases h0
              | some l0 =>
                obtain ⟨_, m2⟩ := cells_get hc0
                obtain ⟨w0, m3, _⟩ := m2 0 hz
                have m4 := (cell_spot m3).1
                simpa [Addr.add] using m4
          obtain ⟨es, l1, l2⟩ := choose_list (R := fun xs i => (∀ j p, xs[j]? = some p → ∃ v, a.spot = none ∧ W.cell? ⟨a.block, a.off + (i * P.cellsOf e + j), none⟩ = some v ∧ SRel (fixOf W) p v) ∧ xs.length = P.cellsOf e ∧ typed P fuel e xs) hex
          have hes : ∀ i c, es[i]? = some c → (∀ j p, c[j]? = some p → ∃ v, a.spot = none ∧ W.cell? ⟨a.block, a.off + (i * P.cellsOf e + j), none⟩ = some v ∧ SRel (fixOf W) p v) ∧ c.length = P.cellsOf e ∧ typed P fuel e c := by
            intro i c hc
            have hi : i < es.length := (List.getElem?_eq_some_iff.1 hc).1
            rw [l1, List.length_range] at hi
            exact l2 i c i hc (by rw [List.getElem?_range hi])
          have hlen : es.length = len := by simpa using l1
          have hmem : ∀ c ∈ es, c.length = P.cellsOf e ∧ typed P fuel e c := by
            intro c hc
            obtain ⟨i, hi⟩ := List.getElem?_of_mem hc
            exact (hes i c hi).2
          refine ⟨[.slice es false], .one ?_, .inr ⟨es, rfl, by omega, hmem⟩⟩
          have := SRel.slice (F := fixOf W) es false a cap (P.cellsOf e) (fun i j => (W.cell? ⟨a.block, a.off + (i * P.cellsOf e + j), none⟩).getD undef) (fun c hc => (hmem c hc).1)
            (fun hne => by
              cases es with
              | nil => exact absurd rfl hne
              | cons c es =>
                have hcl := (hmem c (List.mem_cons_self ..)).1
                cases c with
                | nil => simp at hcl; omega
                | cons p c =>
                  obtain ⟨v, h1, _⟩ := (hes 0 (p :: c) rfl).1 0 p rfl
                  exact h1)
            (by omega) hcap (fun h => by cases h)
            (fun i c j p hi hj => by
              obtain ⟨v, _, h2, _⟩ := (hes i c hi).1 j p hj
              show W.cell? _ = _
              rw [h2]; rfl)
            (fun i c j p hi hj => by
              obtain ⟨v, _, h2, h3⟩ := (hes i c hi).1 j p hj
              rw [h2]; exact h3)
          rw [hlen] at this
          exact this
      | struct fs =>
        simp only [Bool.and_eq_true, List.all_eq_true, List.contains_iff_mem] at hok
        obtain ⟨xs, n, e1, _, hcl, hxl, hall⟩ := DataW.trod_struct hu h
        have e1 : fuel = n := by omega
        subst e1
        obtain ⟨ys, g1, g2⟩ := lay_cells (m := fuel) (F := fixOf W) hcl hok.1 (fun f hf => by
          obtain ⟨i, hi⟩ := List.getElem?_of_mem hf
          have hi' : fs[i]? = some f := by simpa using hi
          have h1 := hall i f hi'
          have hlt : i < xs.length := by
            rw [hxl]
            exact (Array.getElem?_eq_some_iff.1 hi').1
          rw [List.getElem?_eq_getElem hlt] at h1
          exact ih _ _ _ h1 (hok.2 f hf))
        rw [List.drop_zero] at g1
        refine ⟨ys, g1, by rw [g1.1, hcl], fun f hf => ?_⟩
        have := (g2 f hf).2
        simpa using this
      | _ => cases hok

/-- One argument: a struct's cells or one value. -/
def argT (P : Program) (t : TypeId) (p : PV) : Prop := ∃ n xs, typed P n t xs ∧ (match P.underlying t with
  | some (.struct _) => p = .st xs
  | _ => ∃ x, xs = [x] ∧ p = .s x)
def argsT (P : Program) : List TypeId → List PV → Prop
  | [], [] => True
  | t :: ts, p :: ps => argT P t p ∧ argsT P ts ps
  | _, _ => False
def cx0 (W : World) : Cx := ⟨fun _ => 0, fun _ => 0, fixOf W, Ob.of []⟩
theorem rel0 (W : World) : Rel W (cx0 W) W where
  below := Below.refl _ _
  cell := fun b o v h => h
  lt := fun id h => by cases h
  inj := fun i j h => by cases h
  box := fun id ty cells h => by cases h
  sarr := fun id ty sz ver fz ap es h => by cases h
  map := fun id es h => by cases h
theorem arg_of {L : List TypeId} (hL : okT P L = true) {base : Nat} {r : Reach} {t : TypeId} {v : Value} {d : DataW H} {ps : List MemPlace} (ht : t ∈ L) (hv : Value.okWide P W r base t v) (h : DataW.Trod enc P W 0 spare held t v d ps) :
    ∃ p, PRel (cx0 W) p v ∧ argT P t p := by
  obtain ⟨fuel, h⟩ := h
  obtain ⟨xs, h1, h2⟩ := trod_sv hL fuel t _ _ h ht
  have hok := List.all_eq_true.1 hL t ht
  have one : (∀ fs, P.underlying t ≠ some (.struct fs)) → v.cells = #[v] → ∃ p, PRel (cx0 W) p v ∧ argT P t p := by
    intro hns hc
    rw [hc] at h1
    have hl := h1.1
    cases xs with
    | nil => simp at hl
    | cons x xs =>
      have : xs = [] := by simpa using hl
      subst this
      refine ⟨.s x, .s x v (h1.2 0 x v rfl rfl), fuel, [x], h2, ?_⟩
      split
      · rename_i fs hfs; exact absurd hfs (hns fs)
      · exact ⟨x, rfl, rfl⟩
  have plain : (∀ fs, P.underlying t ≠ some (.struct fs)) → (∀ n e, P.underlying t ≠ some (.array n e)) → (∀ cs, v = .agg cs → False) → ∃ p, PRel (cx0 W) p v ∧ argT P t p := by
    intro h1 h2 h3
    refine one h1 ?_
    cases v with
    | agg cs => exact (h3 cs rfl).elim
    | _ => rfl
  cases hu : P.underlying t with
  | none => rw [hu] at hok; cases hok
  | some d =>
    cases d with
    | struct fs =>
      unfold Value.okWide at hv
      rw [hu] at hv
      obtain ⟨cs, rfl, _, _⟩ := hv
      refine ⟨.st xs, ?_, fuel, xs, h2, by rw [hu]⟩
      have hl := h1.1
      refine .agg _ _ (by simpa [Value.cells] using hl) (fun i p hp => ?_)
      rw [List.getElem?_map] at hp
      cases hx : xs[i]? with
      | none => rw [hx] at hp; cases hp
      | some x =>
        rw [hx] at hp
        simp at hp
        subst hp
        have hi : i < cs.size := by
          have := (List.getElem?_eq_some_iff.1 hx).1
          simp [Value.cells] at hl
          omega
        refine .s x _ (h1.2 i x _ hx ?_)
        simp [Value.cells, Array.getD_eq_getD_getElem?, hi]
    | array n e => rw [hu] at hok; cases hok
    | _ =>
      refine plain (fun fs h => by rw [hu] at h; cases h) (fun n e h => by rw [hu] at h; cases h) (fun cs e => ?_)
      subst e
      simp [Value.okWide, Cell.okWide, Cell.ok, hu] at hv
theorem args_of {L : List TypeId} (hL : okT P L = true) {base : Nat} {r : Reach} : ∀ {ts : List TypeId} {vs : List Value} {ds : List (DataW H)} {ps : List MemPlace}, (∀ t ∈ ts, t ∈ L) → (∀ (j : Nat) t v, ts[j]? = some t → vs[j]? = some v → Value.okWide P W r base t v) →
    DataW.TrodAll enc P W 0 spare held ts vs ds ps → ∃ args : List PV, args.length = vs.length ∧ (∀ (i : Nat) p v, args[i]? = some p → vs[i]? = some v → PRel (cx0 W) p v) ∧ argsT P ts args
  | [], vs, ds, ps, hts, hv, h => by
    obtain ⟨rfl, rfl, rfl⟩ := trodAll_nil h
    exact ⟨[], rfl, (fun i p v h => by simp at h), trivial⟩
  | t :: ts, vs, ds, ps, hts, hv, h => by
    obtain ⟨v, vs1, d, ds1, a, b, rfl, rfl, rfl, h1, h2⟩ := trodAll_cons h
    obtain ⟨p, g1, g2⟩ := arg_of hL (hts t (List.mem_cons_self ..)) (hv 0 t v rfl rfl) h1
    obtain ⟨args, k1, k2, k3⟩ := args_of hL (fun u hu => hts u (List.mem_cons_of_mem _ hu)) (fun j u w hu hw => hv (j + 1) u w (by simpa using hu) (by simpa using hw)) h2
    refine ⟨p :: args, by simp [k1], fun i q u hq hu => ?_, g2, k3⟩
    cases i with
    | zero => simp at hq hu; subst hq; subst hu; exact g1
    | succ i => exact k2 i q u (by simpa using hq) (by simpa using hu)

/-- The machine's answer is the call's. -/
theorem law_calls {E : Env} {f : FuncId} {vals : Array Value} {args : List PV} {H' : Ob} {n' : Nat} (hm : E.P.follows .mixedOrders = true) (hC : CodesOk E) (hG : GOk E (fixOf W)) (hX : ExtOk E W (fixOf W)) (ha : args.length = vals.size)
    (hr : ∀ (i : Nat) p, args[i]? = some p → PRel (cx0 W) p (vals.getD i undef)) (h : runL E f args (Ob.of []) 0 = some (.ret (.bool true), H', n')) :
    Calls E.P f vals W fun e W' => e = .returned (.bool true) ∧ Below W.heap.size W W' := by
  obtain ⟨N, hN⟩ := lim_eq.1 h
  obtain ⟨_, hc⟩ := runF_ok (w0 := W) (F0 := fixOf W) hm hG hX hC N f args _ _ _ _ _ (hN N (Nat.le_refl _))
  refine (hc (cx0 W) W vals rfl (fun j _ => rfl) (rel0 W) (fun _ _ _ h => h) ⟨ha, hr⟩).mono fun e W' hp => ?_
  obtain ⟨C', _, _, _, hR, _, ho⟩ := hp
  refine ⟨?_, hR.below⟩
  cases e with
  | returned u =>
    have ho : PRel C' (.bool true) u := ho
    cases ho with
    | s p v h => cases h; rfl
  | _ => exact ho.elim
theorem trodAll_below {ts : List TypeId} (hl : laidOutB P = true) (hts : ∀ t ∈ ts, P.readableRec t = true ∧ t < P.types.size) {W' : World} (hb : Below W.heap.size W W') : ∀ {vs : List Value} {ds : List (DataW H)} {ps : List MemPlace},
    DataW.TrodAll enc P W 0 (fun _ => true) true ts vs ds ps → (∀ x ∈ ps, x.block < W.heap.size) → DataW.TrodAll enc P W' 0 (fun b => decide (b < W.heap.size)) true ts vs ds ps := by
  induction ts with
  | nil =>
    intro vs ds ps h _
    obtain ⟨rfl, rfl, rfl⟩ := trodAll_nil h
    exact h
  | cons t ts ih =>
    intro vs ds ps h hlt
    obtain ⟨v, vs1, d, ds1, a, b, rfl, rfl, rfl, h1, h2⟩ := trodAll_cons h
    obtain ⟨k1, k2⟩ := hts t (List.mem_cons_self ..)
    exact ⟨a, b, Below.trod hl k1 k2 h1 hb (fun x hx => hlt x (List.mem_append_left _ hx)), ih (fun u hu => hts u (List.mem_cons_of_mem _ hu)) h2 (fun x hx => hlt x (List.mem_append_right _ hx)), rfl⟩

/-- What a law's statement asks of each call. -/
theorem law_contract {C : Checked} {E : Env} {s : ChangeSpec} {f : FuncId} {fn : Func} {tb : TypeId} {L : List TypeId} (hE : E.P = C.prog) (hm : C.prog.follows .mixedOrders = true) (hC : CodesOk E) (hv : s.vars = []) (hl : laidOutB C.prog = true) (hL : okT C.prog L = true)
    (hts : ∀ t ∈ fn.params.toList, t ∈ L ∧ C.prog.readableRec t = true ∧ t < C.prog.types.size) (hres : fn.resultTypes = #[tb]) (htb : C.prog.underlying tb = some .bool)
    (hspec : ∀ ds : List (DataW H), ds.length = fn.params.size → (s.fn H ds).results = [.lit (.bool true)] ∧ (s.fn H ds).args = ds ∧ (s.fn H ds).vars = [])
    (hlaw : ∀ (W : World) args, argsT C.prog fn.params.toList args → GOk E (fixOf W) ∧ ExtOk E W (fixOf W) ∧ ∃ H' n', runL E f args (Ob.of []) 0 = some (.ret (.bool true), H', n'))
    (W : World) (base : Nat) (args : Array Value) (ds gs : List (DataW H)) (before : List MemPlace) (hval : ∀ (j : Nat) t v, fn.params[j]? = some t → args[j]? = some v → Value.okWide C.prog W .any base t v)
    (hW : DataW.Whole enc C.prog fn.params.toList s.vars false W args.toList ds gs before) :
    Calls C.prog f args W fun e W' => ∃ v, e = .returned v ∧ s.post enc C.prog fn false true false false W args v W' := by
  have hW' := hW
  obtain ⟨p, q, hA, hV, rfl, hfz, hnd⟩ := hW
  rw [hv] at hV
  obtain ⟨rfl, rfl⟩ := trodVars_none hV
  obtain ⟨as, h1, h2, h3⟩ := args_of hL (fun t ht => (hts t ht).1) (fun j t v ht hv => hval j t v (by simpa using ht) (by simpa using hv)) hA
  obtain ⟨g1, g2, H', n', g3⟩ := hlaw W as h3
  rw [List.append_nil] at hW'
  have hlt : ∀ x ∈ p, x.block < W.heap.size := hW'.lt
  have hc := law_calls (vals := args) (by rw [hE]; exact hm) hC g1 g2 (by simpa using h1) (fun i x hx => by
    have hi : i < as.length := (List.getElem?_eq_some_iff.1 hx).1
    have hi' : i < args.size := by simpa using (by omega : i < args.toList.length)
    refine h2 i x _ hx ?_
    simp [Array.getD_eq_getD_getElem?, hi']) g3
  rw [hE] at hc
  refine hc.mono fun e W' ⟨he, hb⟩ => ⟨.bool true, he, ?_⟩
  have hdl : ds.length = fn.params.size := by
    have : ∀ {ts : List TypeId} {vs : List Value} {ds : List (DataW H)} {ps : List MemPlace}, DataW.TrodAll enc C.prog W 0 (fun _ => true) true ts vs ds ps → ds.length = ts.length := by
      intro ts
      induction ts with
      | nil => intro vs ds ps h; obtain ⟨rfl, rfl, rfl⟩ := trodAll_nil h; rfl
      | cons t ts ih =>
        intro vs ds ps h
        obtain ⟨v, vs1, d, ds1, a, b, rfl, rfl, rfl, h1, h2⟩ := trodAll_cons h
        simp [ih h2]
    rw [this hA]
    simp
  obtain ⟨s1, s2, s3⟩ := hspec ds hdl
  refine ⟨ds, [], p, [], p, [], hW', ?_, ?_, ?_, hb.frame _, fun h => by cases h⟩
  · rw [List.append_nil, s1, hres]
    exact ⟨[], [], shut_bool htb true, rfl, rfl⟩
  · rw [List.append_nil, s2]
    exact trodAll_below hl (fun t ht => (hts t ht).2) hb hA hlt
  · rw [List.append_nil, s3, hv]
    rfl
end
end Go.Vm
