/- Chapter 24: tables of texts and numbers among the package-level variables. -/
import Derived.Test.YtaepmmmcipolbaaGreatDoorSfE
import Derived.Lib.LaidTab
set_option linter.unusedVariables false
set_option linter.unusedSimpArgs false
set_option maxRecDepth 100000
namespace Go.Vm
open Go.Proofs Go.RowKit

def txtData {H : Type} (zs : List (List UInt8)) : DataW H := .agg (zs.map fun z => .lit (.string z))
def TxtIs (P : Program) (w : World) (name : String) (zs : List (List UInt8)) : Prop := w.var? P name = some (zs.map fun z => Value.string ⟨⟨z⟩⟩).toArray
theorem cells_of_txt {H : Type} {enc : TypeId × Value → H} {P : Program} {w : World} {base : Nat} {sp : Nat → Bool} {held : Bool} {fuel : Nat} {t e : TypeId} {n : Nat} {cs : List Value} {zs : List (List UInt8)} {p : List MemPlace}
    (ht : P.underlying t = some (.array n e)) (he : P.underlying e = some .string) (hce : P.cellsOf e = 1) (hct : P.cellsOf t = n)
    (h : DataW.trod enc P w base sp held fuel t cs = some (txtData zs, p)) : cs = zs.map fun z => Value.string ⟨⟨z⟩⟩ := by
  cases fuel with
  | zero => simp [DataW.trod] at h
  | succ fuel =>
    simp only [DataW.trod, ht, hce, hct, Nat.mul_one] at h
    split at h
    · rename_i hl
      obtain ⟨xs, hm, hx⟩ := Option.map_eq_some_iff.1 h
      have hxs : xs.map (·.1) = zs.map fun z => (DataW.lit (.string z) : DataW H) := by
        have := congrArg Prod.fst hx
        simpa [txtData] using this
      have hxl : xs.length = n := by simpa using Lib.mapM_length hm
      have hzl : zs.length = n := by
        have := congrArg List.length hxs
        simp at this
        omega
      apply List.ext_getElem?
      intro i
      by_cases hi : i < n
      · obtain ⟨b, hb, hf⟩ := Lib.mapM_at hm i i (by simp [hi])
        obtain ⟨z, hc, rfl, _⟩ := DataW.trod_string he hf
        have h1 : cs[i]? = some (.string z) := by
          have := congrArg (·[0]?) hc
          simpa [List.getElem?_take, List.getElem?_drop] using this
        have h2 : (xs.map (·.1))[i]? = some (DataW.lit (.string z.data.toList) : DataW H) := by simp [hb]
        rw [hxs] at h2
        simp only [List.getElem?_map, Option.map_eq_some_iff, DataW.lit.injEq, Lit.string.injEq] at h2
        obtain ⟨z', hz', rfl⟩ := h2
        simp [h1, hz']
      · rw [List.getElem?_eq_none (by omega), List.getElem?_eq_none (by simp; omega)]
    · cases h
theorem txtIs_of_head {P : Program} {W : World} {name : String} {zs : List (List UInt8)} {rest : List (String × DataW Unit)} {g : Nat} {t e : TypeId} {n : Nat}
    (hg : P.globalNamed name = some g) (hty : (P.globals[g]?).map (·.type) = some t) (ht : P.underlying t = some (.array n e)) (he : P.underlying e = some .string) (hce : P.cellsOf e = 1) (hct : P.cellsOf t = n)
    (h : laidMet P ((name, txtData zs) :: rest) W) : TxtIs P W name zs := by
  obtain ⟨ps, ⟨g', t', cs, fuel, p, q, hg', ht', hvar, hd, _, _⟩, _⟩ := h
  obtain rfl := Option.some.inj (hg.symm.trans hg')
  obtain rfl := Option.some.inj (hty.symm.trans ht')
  unfold TxtIs
  rw [hvar, ← cells_of_txt ht he hce hct hd]
theorem TxtIs.cell {P : Program} {W : World} {name : String} {zs : List (List UInt8)} {g : Nat} (h : TxtIs P W name zs) (hg : P.globalNamed name = some g) (i : Nat) :
    W.cell? ⟨g, i, none⟩ = (zs[i]?).map fun z => Value.string ⟨⟨z⟩⟩ := by
  have := World.var?_cell hg h i
  simpa using this
/-- A pointer to a table. -/
theorem ptr_rows {C : Cx} {row : List SV} {g : Nat} {vs : Nat → Value} (h1 : ∀ (j : Nat) p, row[j]? = some p → C.F g j = some (vs j)) (h2 : ∀ (j : Nat) p, row[j]? = some p → SRel C.F p (vs j)) : PRel C (.eptr [row] 0 0) (.pointer (some ⟨g, 0, none⟩)) := by
  have := PRel.eptr (C := C) [row] 0 0 ⟨g, 0, none⟩ row.length (fun _ j => vs j) (fun c hc => by simp at hc; rw [hc]) (fun _ => rfl) (fun i c j p hi hj => by
    cases i with
    | zero => simp at hi; subst hi; simpa using h1 j p hj
    | succ i => simp at hi) (fun i c j p hi hj => by
    cases i with
    | zero => simp at hi; subst hi; exact h2 j p hj
    | succ i => simp at hi)
  simpa using this
theorem ptr_txt {P : Program} {W : World} {C : Cx} {name : String} {zs : List (List UInt8)} {g : Nat} (h : TxtIs P W name zs) (hg : P.globalNamed name = some g) (hF : ∀ b o v, fixOf W b o = some v → C.F b o = some v) : PRel C (.eptr [zs.map SV.str] 0 0) (.pointer (some ⟨g, 0, none⟩)) := by
  refine ptr_rows (vs := fun j => .string ⟨⟨zs.getD j []⟩⟩) (fun j p hj => ?_) (fun j p hj => ?_)
  · rw [List.getElem?_map] at hj
    obtain ⟨z, hz, rfl⟩ := Option.map_eq_some_iff.1 hj
    refine hF _ _ _ ?_
    unfold fixOf
    rw [h.cell hg, hz, List.getD_eq_getElem?_getD, hz]
    rfl
  · rw [List.getElem?_map] at hj
    obtain ⟨z, hz, rfl⟩ := Option.map_eq_some_iff.1 hj
    rw [List.getD_eq_getElem?_getD, hz]
    exact .str _
theorem ptr_num {P : Program} {W : World} {C : Cx} {name : String} {k : IntKind} {zs : List Int} {g : Nat} (h : Lib.TabIs P W name k zs) (hg : P.globalNamed name = some g) (hF : ∀ b o v, fixOf W b o = some v → C.F b o = some v) : PRel C (.eptr [zs.map (SV.int k)] 0 0) (.pointer (some ⟨g, 0, none⟩)) := by
  refine ptr_rows (vs := fun j => .int k (zs.getD j 0)) (fun j p hj => ?_) (fun j p hj => ?_)
  · rw [List.getElem?_map] at hj
    obtain ⟨z, hz, rfl⟩ := Option.map_eq_some_iff.1 hj
    refine hF _ _ _ ?_
    unfold fixOf
    exact h.cell hg j (by
      apply Classical.byContradiction
      intro hn
      rw [List.getElem?_eq_none (by omega)] at hz
      cases hz)
  · rw [List.getElem?_map] at hj
    obtain ⟨z, hz, rfl⟩ := Option.map_eq_some_iff.1 hj
    rw [List.getD_eq_getElem?_getD, hz]
    exact .int _ _
end Go.Vm
