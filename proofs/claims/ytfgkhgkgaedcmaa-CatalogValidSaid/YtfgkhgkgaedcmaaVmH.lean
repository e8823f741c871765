/- Each operation of the abstract machine is what the model's own operation does: make, conversions, append, maps. -/
import Derived.Test.YtfgkhgkgaedcmaaVmG
import Derived.IntWalk
import Derived.Lib.AppendStr
set_option linter.unusedVariables false
set_option linter.unusedSimpArgs false
namespace Go.Vm
open Go.RowKit

section
variable {P : Program} {w w0 : World} {F : Fix} {C : Cx}

theorem more_drawn (w : World) (o : Obj) (d : Nat) : ({ (World.more w o w.drawn) with drawn := d } : World) = World.more w o d := rfl
theorem sarr_new {nid : Nat} {ty : TypeId} {sz cap : Nat} {ap : Bool} {es : List (List SV)} {cur : Array Value} {fr : Nat × Nat} (hR : Rel w0 C w) (hd : C.H nid = .dead) (hsz : 0 < sz) (hl : ∀ c, c ∈ es → c.length = sz)
    (hle : es.length ≤ cap) (hmax : cap ≤ maxLen) (hcur : cur.size = cap * sz) (hap : ap = true → fr = (0, 0)) (hfr : fr = (0, 0) ∨ cur.size ≤ fr.1)
    (hr : ∀ (i : Nat) c (j : Nat) p, es[i]? = some c → c[j]? = some p → SRel C.F p (cur.getD (i * sz + j) undef)) (d : Nat) :
    Rel w0 (C.new nid w.heap.size cap (.sarr ty sz 0 false ap es)) (World.more w (.cells cur ty fr) d) ∧ Ext C w (C.new nid w.heap.size cap (.sarr ty sz 0 false ap es)) (World.more w (.cells cur ty fr) d) ∧
      PRel (C.new nid w.heap.size cap (.sarr ty sz 0 false ap es)) (.hsl nid 0 0 es.length) (.slice (some ⟨w.heap.size, 0, none⟩) es.length cap) := by
  have hs : (C.new nid w.heap.size cap (.sarr ty sz 0 false ap es)).σ nid = w.heap.size := if_pos rfl
  have hc : (C.new nid w.heap.size cap (.sarr ty sz 0 false ap es)).cap nid = cap := if_pos rfl
  have hH : (C.new nid w.heap.size cap (.sarr ty sz 0 false ap es)).H nid = .sarr ty sz 0 false ap es := if_pos rfl
  have hok : ObjOk (C.new nid w.heap.size cap (.sarr ty sz 0 false ap es)) (World.more w (.cells cur ty fr) d) nid := by
    unfold ObjOk
    rw [hH, hs, hc]
    exact ⟨hsz, hl, hle, hmax, cur, fr, more_new _ _ _, hap, hfr, hcur, hr, fun o v hv => by rw [show (C.new nid w.heap.size cap (.sarr ty sz 0 false ap es)).F = C.F from rfl, F_fresh hR _ _ (Nat.le_refl _)] at hv; cases hv⟩
  obtain ⟨h1, h2⟩ := Rel.new hR hd hok
  refine ⟨h1, h2, ?_⟩
  exact .hsl nid 0 0 es.length ty sz 0 false ap es _ hH (Nat.le_refl _) rfl (fun _ => ⟨by omega, by rw [hs, hc, Nat.zero_mul, Nat.sub_zero]⟩)
theorem zeros_upto {t : TypeId} {y : TI} (f : TyFacts P t y) (hs : 0 < y.size) (F : Fix) (n m : Nat) (hnm : n ≤ m) :
    ∀ (i : Nat) c (j : Nat) p, (List.replicate n y.zero)[i]? = some c → c[j]? = some p → SRel F p (((Array.range (m * y.size)).map (f.z.cells[· % f.z.cells.size]!)).getD (i * y.size + j) undef) := by
  intro i c j p hi hj
  have h1 := (List.getElem?_eq_some_iff.1 hi).1
  simp at h1
  refine (zeros_row f hs F m).2.2 i c j p ?_ hj
  rw [← hi, List.getElem?_replicate, List.getElem?_replicate, if_pos (by omega), if_pos h1]
theorem makeSliceO_run {t : TypeId} {nid : Nat} {l c p : PV} {H' : Ob} {ul uc : Value} (hR : Rel w0 C w) (hd : C.H nid = .dead) (h : makeSliceO P t C.H nid l c = some (p, H')) (hl : PRel C l ul) (hc : PRel C c uc) :
    ∃ v w' C', (Instr.makeSlice t ul uc).run P w = .ok v w' ∧ C'.H = H' ∧ PRel C' p v ∧ Rel w0 C' w' ∧ Ext C w C' w' := by
  unfold makeSliceO at h
  split at h
  · rename_i e k1 n k2 m he
    split at h
    · rename_i y hy
      split at h
      · rename_i hh
        obtain ⟨h0, h1, h2, h3, h4⟩ := hh
        injection h with h
        injection h with e1 e2
        subst e1; subst e2
        cases hl with
        | s _ _ hl =>
        cases hl
        cases hc with
        | s _ _ hc =>
        cases hc
        obtain ⟨f⟩ := ti_facts hy
        have wl : IntKind.i64.wrap n = n := IntWalk.i64_in n (by omega)
        have wc : IntKind.i64.wrap m = m := IntWalk.i64_in m (by omega)
        have hbig : ¬ ((y.bytes : Int) * m > 2 ^ 48) := by
          have : (y.bytes : Int) * m ≤ 65536 * 1073741824 := Int.mul_le_mul (by omega) (by omega) (by omega) (by omega)
          omega
        have hml : m.toNat ≤ maxLen := by unfold maxLen; omega
        have hnew := sarr_new (nid := nid) (ty := e) (sz := y.size) (cap := m.toNat) (ap := true) (es := List.replicate n.toNat y.zero) (fr := (0, 0))
          (cur := (Array.range (m.toNat * y.size)).map (f.z.cells[· % f.z.cells.size]!)) hR hd h4
          (fun c hc => by rw [List.eq_of_mem_replicate hc]; exact f.hn) (by simp; omega) hml (by simp) (fun _ => rfl) (.inl rfl) (zeros_upto f h4 C.F _ _ (by omega)) w.drawn
        rw [List.length_replicate] at hnew
        obtain ⟨g1, g2, g3⟩ := hnew
        refine ⟨_, _, _, ?_, rfl, g3, g1, g2⟩
        have hzz : (if m.toNat * y.size = 0 then Pure.pure #[] else do Pure.pure (← zeroValue e).cells : Sem (Array Value)).run P w = .ok (if m.toNat * y.size = 0 then #[] else f.z.cells) w := by
          split
          · rfl
          · simp [f.run_zero]
        simp only [Instr.makeSlice, Sem.run_bind, run_underlying (elemT_eq he), Result.andThen_ok, asInt, asIntOf, Sem.run_pure, run_typeInfo_of f.hi, f.hb, wl, wc, Sem.run_ite]
        have hcond : ¬ ((decide (m < 0) || decide ((y.bytes : Int) * m > 2 ^ 48)) = true ∨ False) := by
          simp only [Bool.or_eq_true, decide_eq_true_eq, or_false]
          omega
        rw [if_neg (by simp only [Bool.or_eq_true, decide_eq_true_eq]; omega)]
        simp only [run_askRoom, Result.andThen_ok, f.run_size, Sem.run_ite, Sem.run_pure, f.run_zero, Sem.run_bind]
        by_cases hz : m.toNat * y.size = 0
        · simp only [hz, if_true, Result.andThen_ok]
          have e0 : ∀ (g : Nat → Value), Array.map g (Array.range 0) = #[] := fun g => by simp
          rw [e0, e0]
          rfl
        · simp only [hz, if_false, Result.andThen_ok]
          rfl
      · cases h
    · cases h
  · cases h

/-! ### the rows of a value -/
def flat (n sz : Nat) (vs : Nat → Nat → Value) : List Value := (List.range (n * sz)).map fun k => vs (k / sz) (k % sz)
theorem flat_length (n sz : Nat) (vs : Nat → Nat → Value) : (flat n sz vs).length = n * sz := by simp [flat]
theorem flat_get {n sz i j : Nat} {vs : Nat → Nat → Value} (hi : i < n) (hj : j < sz) : (flat n sz vs)[i * sz + j]? = some (vs i j) := by
  have hlt := row_in hi hj
  have h1 : (i * sz + j) / sz = i := by
    rw [Nat.mul_comm, Nat.mul_add_div (by omega), Nat.div_eq_of_lt hj, Nat.add_zero]
  have h2 : (i * sz + j) % sz = j := by
    rw [Nat.mul_comm, Nat.mul_add_mod]
    exact Nat.mod_eq_of_lt hj
  simp [flat, hlt, h1, h2]
theorem flat_cases {n sz k : Nat} {vs : Nat → Nat → Value} {u : Value} (h : (flat n sz vs)[k]? = some u) : ∃ i j, i < n ∧ j < sz ∧ k = i * sz + j ∧ u = vs i j := by
  have hk := (List.getElem?_eq_some_iff.1 h).1
  rw [flat_length] at hk
  have hsz : 0 < sz := by
    rcases Nat.eq_zero_or_pos sz with e | e
    · subst e; simp at hk
    · exact e
  have hi : k / sz < n := Nat.div_lt_of_lt_mul (by rw [Nat.mul_comm]; exact hk)
  have hj : k % sz < sz := Nat.mod_lt _ hsz
  refine ⟨k / sz, k % sz, hi, hj, by rw [Nat.mul_comm]; exact (Nat.div_add_mod k sz).symm, ?_⟩
  have e : k = k / sz * sz + k % sz := by rw [Nat.mul_comm]; exact (Nat.div_add_mod k sz).symm
  have := flat_get (vs := vs) hi hj
  rw [← e, h] at this
  injection this
/-- What 'append' and 'string(..)' read of a value. -/
structure RowVals (P : Program) (C : Cx) (w : World) (u : Value) (new : List (List SV)) (sz : Nat) (vs : Nat → Nat → Value) : Prop where
  rel : ∀ (i : Nat) c (j : Nat) p, new[i]? = some c → c[j]? = some p → SRel C.F p (vs i j)
  len : ∀ w', (Builtin.lenOf u).run P w' = .ok new.length w'
  run : ∀ d, (Builtin.firstCells sz new.length u).run P { w with drawn := d } = .ok (flat new.length sz vs).toArray { w with drawn := d }
theorem rowVals {x : PV} {u : Value} {new : List (List SV)} {sz : Nat} (hR : Rel w0 C w) (h : rowsOf C.H x = some new) (hx : PRel C x u) (hsz : 0 < sz) (hl : ∀ c, c ∈ new → c.length = sz) : ∃ vs, RowVals P C w u new sz vs := by
  cases x <;> simp only [rowsOf] at h <;> try (cases h; done)
  case s p =>
    cases hx with
    | s _ _ hx =>
    cases p <;> simp only at h <;> try (cases h; done)
    case nils =>
      injection h with h
      subst h
      cases hx
      exact ⟨fun _ _ => undef, fun i c j p hi => by simp at hi, fun w' => by simp [Builtin.lenOf], fun d => by simp [Builtin.firstCells, flat]⟩
    case slice es full =>
      injection h with h
      subst h
      cases hx with
      | slice es full a cap sz' vs g1 g2 g3 g3' g4 g5 g6 =>
        refine ⟨vs, g6, fun w' => by simp [Builtin.lenOf], fun d => ?_⟩
        refine run_firstCells_some _ _ _ _ _ _ _ (flat_length _ _ _) (fun k u hk => ?_)
        obtain ⟨i, j, hi, hj, rfl, rfl⟩ := flat_cases hk
        have hmem := List.getElem_mem hi
        have hne : es ≠ [] := by intro e; subst e; simp at hi
        have e1 : sz' = sz := (g1 _ hmem).symm.trans (hl _ hmem)
        subst e1
        have hcj : j < es[i].length := by rw [g1 _ hmem]; exact hj
        have := hR.cell _ _ _ (g5 i es[i] j es[i][j] (List.getElem?_eq_getElem hi) (List.getElem?_eq_getElem hcj))
        rw [add_spot (g2 hne)]
        exact this
    case str l =>
      injection h with h
      subst h
      cases hx
      have hs1 : ∀ (i : Nat), i < l.length → sz = 1 := fun i hi => (hl [.int .u8 (l[i].toNat)] (by simp; exact ⟨l[i], List.getElem_mem hi, rfl⟩)).symm
      refine ⟨fun i _ => .int .u8 ((l.getD i 0).toNat), fun i c j p hi hj => ?_, fun w' => by simp [Builtin.lenOf, size_mk], fun d => ?_⟩
      · rw [List.getElem?_map] at hi
        cases hq : l[i]? with
        | none => rw [hq] at hi; cases hi
        | some b =>
          rw [hq] at hi
          injection hi with hi
          subst hi
          cases j with
          | zero =>
            simp at hj
            subst hj
            rw [List.getD_eq_getElem?_getD, hq]
            exact .int _ _
          | succ j => simp at hj
      · simp only [Builtin.firstCells, Sem.run_pure, List.length_map]
        congr 1
        rcases Nat.eq_zero_or_pos l.length with e | e
        · have hn : l = [] := List.eq_nil_of_length_eq_zero e
          subst hn
          simp [flat]
        · have h1 := hs1 0 e
          subst h1
          apply Array.ext'
          apply List.ext_getElem?
          intro k
          have e2 : (ByteArray.extract ⟨⟨l⟩⟩ 0 l.length).data = ⟨l⟩ := by
            rw [ByteArray.data_extract]
            apply Array.ext'
            simp
          rw [e2]
          by_cases hk : k < l.length
          · simp [flat, hk, Nat.div_one]
          · simp [flat, hk]
  case hsl id ver off n =>
    have h' : rowsOf C.H (.hsl id ver off n) = some new := by simpa only [rowsOf] using h
    obtain ⟨ty, sz', fz, ap, es0, hH, hle, rfl⟩ := rowsOf_hsl h'
    obtain ⟨g1, g2, g3, g4, cur, fr, k1, k2, k2', k3, k4, k5⟩ := hR.sarr _ _ _ _ _ _ _ hH
    cases hx with
    | hsl id ver off n ty' sz'' cur' fz' ap' es' v' hc hle' h1' he' =>
      rw [hc] at hH
      injection hH with e1 e2 e3 e4 e5 e6
      subst e1; subst e2; subst e3; subst e4; subst e5; subst e6
      obtain ⟨_, hv⟩ := he' rfl
      subst hv
      have hlen : ((es'.drop off).take n).length = n := by simp; omega
      have hget : ∀ i c, ((es'.drop off).take n)[i]? = some c → es'[off + i]? = some c := by
        intro i c hi
        rw [List.getElem?_take] at hi
        split at hi
        · rw [List.getElem?_drop] at hi; exact hi
        · cases hi
      refine ⟨fun i j => cur.getD ((off + i) * sz'' + j) undef, fun i c j p hi hj => k4 _ c j p (hget i c hi) hj, fun w' => by simp [Builtin.lenOf]; omega, fun d => ?_⟩
      refine run_firstCells_some _ _ _ _ _ _ _ (flat_length _ _ _) (fun k u hk => ?_)
      obtain ⟨i, j, hi, hj, rfl, rfl⟩ := flat_cases hk
      have hmem := List.getElem_mem hi
      have e1 : sz'' = sz := (g2 _ (List.mem_of_mem_drop (List.mem_of_mem_take hmem))).symm.trans (hl _ hmem)
      subst e1
      rw [hlen] at hi
      have hlt : (off + i) * sz'' + j < C.cap id * sz'' := row_in (by omega) hj
      rw [add_none]
      have e2 : off * sz'' + (i * sz'' + j) = (off + i) * sz'' + j := by rw [Nat.add_mul]; omega
      rw [e2]
      simp [World.cell?, k1, Array.getD_eq_getD_getElem?, show (off + i) * sz'' + j < cur.size by omega]

/-! ### append -/
theorem append_some {t t2 ty e : TypeId} {i : TypeInfo} (ht : P.underlying t = some (.slice e)) (hi : P.info? e = some i) (hd2 : (∃ e', P.underlying t2 = some (.slice e')) ∨ P.underlying t2 = some .string)
    {base : Option Addr} {n cap m : Nat} {x : Value} {news : List Value} (hlen : ∀ w', (Builtin.lenOf x).run P w' = .ok m w')
    (hrun : ∀ d, (Builtin.firstCells i.size m x).run P { w with drawn := d } = .ok news.toArray { w with drawn := d }) (hroom : n + m ≤ cap) :
    (Builtin.append_ #[t, t2] ty #[.slice base n cap, x]).run P w =
      match base with
      | none => .ok (.slice none (n + m) cap) w
      | some a => ((storeCells (a.add (n * i.size)) news).run P w).andThen fun _ w' => .ok (.slice (some a) (n + m) cap) w' := by
  have hr := hrun w.drawn
  have ew : ({ w with drawn := w.drawn } : World) = w := rfl
  rw [ew] at hr
  rcases hd2 with ⟨e', hd2⟩ | hd2 <;>
     (cases base with
       | none => simp [Builtin.append_, run_underlying ht, run_underlying hd2, sizeOf, run_typeInfo_of hi, hlen, hroom, hr]
       | some a => simp [Builtin.append_, run_underlying ht, run_underlying hd2, sizeOf, run_typeInfo_of hi, hlen, hroom, hr])
theorem append_grow {t t2 ty e : TypeId} {i : TypeInfo} {z : Value} (ht : P.underlying t = some (.slice e)) (hi : P.info? e = some i) (hz : i.zero = some z) (hd2 : (∃ e', P.underlying t2 = some (.slice e')) ∨ P.underlying t2 = some .string)
    {base : Option Addr} {n cap m : Nat} {x : Value} {olds news : List Value} (hlen : ∀ w', (Builtin.lenOf x).run P w' = .ok m w')
    (hold : ∀ d, (Builtin.firstCells i.size n (.slice base n cap)).run P { w with drawn := d } = .ok olds.toArray { w with drawn := d })
    (hrun : ∀ d, (Builtin.firstCells i.size m x).run P { w with drawn := d } = .ok news.toArray { w with drawn := d }) (hroom : cap < n + m) (hbound : n + m ≤ 1073741824) (hby : i.bytes ≤ 65536) :
    ∃ nc d, n + m ≤ nc ∧ nc ≤ maxLen ∧ (Builtin.append_ #[t, t2] ty #[.slice base n cap, x]).run P w =
      .ok (.slice (some ⟨w.heap.size, 0, none⟩) (n + m) nc) (World.more w (.cells (olds.toArray ++ news.toArray ++ Builtin.zeroCells z.cells (nc - (n + m))) e) d) := by
  refine ⟨grownCap w (n + m) cap e, w.drawn + 1, grownCap_ge w _ _ e, grownCap_le_maxLen w _ _ e (by unfold maxLen; omega), ?_⟩
  have h63 : ¬ (9223372036854775807 < ((n : Int) + (m : Int))) := by omega
  have hfit : Builtin.nextslicecap (n + m) cap * i.bytes ≤ 281474976710656 := by
    have h1 : (n + m) * i.bytes ≤ 1073741824 * 65536 := Nat.mul_le_mul hbound hby
    exact growslice_fits hroom (by omega)
  have h48 : ¬ (281474976710656 < Builtin.nextslicecap (n + m) cap * i.bytes) := by omega
  have hn : ¬ (n + m ≤ cap) := by omega
  have ho := hold (w.drawn + 1)
  have hr := hrun (w.drawn + 1)
  have ed : w.drew = { w with drawn := w.drawn + 1 } := rfl
  rw [← ed] at ho hr
  rcases hd2 with ⟨e', hd2⟩ | hd2 <;>
     (simp [Builtin.append_, run_underlying ht, run_underlying hd2, sizeOf, run_typeInfo_of hi, zeroValue, hz, hlen, hn, h63, h48, Question.forced, ho, hr, newRow, grownCap, -Array.append_assoc, -List.append_toArray]
      rfl)
theorem rows_all {new : List (List SV)} {sz : Nat} (h : new.all (fun c => decide (c.length = sz)) = true) : ∀ c, c ∈ new → c.length = sz := fun c hc => by
  have := List.all_eq_true.1 h c hc
  simpa using this
theorem flat_one {new : List (List SV)} {sz : Nat} {vs : Nat → Nat → Value} (hl : ∀ c, c ∈ new → c.length = sz) (hr : ∀ (i : Nat) c (j : Nat) p, new[i]? = some c → c[j]? = some p → SRel F p (vs i j)) : ∀ v ∈ flat new.length sz vs, v.oneCell' = true := by
  intro v hv
  obtain ⟨k, hk, e⟩ := List.mem_iff_getElem.1 hv
  obtain ⟨i, j, hi, hj, _, e2⟩ := flat_cases (List.getElem?_eq_some_iff.2 ⟨hk, e⟩)
  subst e2
  have h1 := List.getElem_mem hi
  have h2 : j < new[i].length := by rw [hl _ h1]; exact hj
  exact (hr i new[i] j new[i][j] (List.getElem?_eq_getElem hi) (List.getElem?_eq_getElem h2)).one
/-- Rows behind rows. -/
theorem flat_rows {es new : List (List SV)} {sz : Nat} {vs us : Nat → Nat → Value} (hle : ∀ c, c ∈ es → c.length = sz) (hln : ∀ c, c ∈ new → c.length = sz)
    (he : ∀ (i : Nat) c (j : Nat) p, es[i]? = some c → c[j]? = some p → SRel F p (vs i j)) (hn : ∀ (i : Nat) c (j : Nat) p, new[i]? = some c → c[j]? = some p → SRel F p (us i j)) (rest : Array Value) :
    ∀ (i : Nat) c (j : Nat) p, (es ++ new)[i]? = some c → c[j]? = some p → SRel F p (((flat es.length sz vs).toArray ++ (flat new.length sz us).toArray ++ rest).getD (i * sz + j) undef) := by
  intro i c j p hi hj
  have hjl := (List.getElem?_eq_some_iff.1 hj).1
  have hll : ((flat es.length sz vs).toArray ++ (flat new.length sz us).toArray ++ rest).getD (i * sz + j) undef = ((flat es.length sz vs) ++ (flat new.length sz us) ++ rest.toList).getD (i * sz + j) undef := by
    simp only [Array.getD_eq_getD_getElem?, List.getD_eq_getElem?_getD]
    congr 1
    rw [← Array.getElem?_toList]
    simp
  rw [hll, List.getD_eq_getElem?_getD, List.append_assoc]
  rcases Nat.lt_or_ge i es.length with h | h
  · rw [List.getElem?_append_left h] at hi
    have hc := hle c (List.mem_of_getElem? hi)
    rw [List.getElem?_append_left (by rw [flat_length]; exact row_in h (by omega)), flat_get h (by omega)]
    exact he i c j p hi hj
  · rw [List.getElem?_append_right h] at hi
    have hc := hln c (List.mem_of_getElem? hi)
    have h2 := (List.getElem?_eq_some_iff.1 hi).1
    have e1 : i * sz + j - es.length * sz = (i - es.length) * sz + j := by
      have : es.length * sz ≤ i * sz := Nat.mul_le_mul_right _ h
      rw [Nat.sub_mul]
      omega
    have e2 : es.length * sz ≤ i * sz + j := Nat.le_trans (Nat.mul_le_mul_right _ h) (Nat.le_add_right _ _)
    rw [List.getElem?_append_right (by rw [flat_length]; exact e2), flat_length, e1, List.getElem?_append_left (by rw [flat_length]; exact row_in h2 (by omega)), flat_get h2 (by omega)]
    exact hn _ c j p hi hj
end
end Go.Vm
