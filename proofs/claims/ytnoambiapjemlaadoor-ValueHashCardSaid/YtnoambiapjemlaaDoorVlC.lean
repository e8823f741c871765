/- Chapter 01: what the listed variables give, a world that meets the conditions, what the arguments are. -/
import Derived.Test.YtnoambiapjemlaaDoorVlZ
import Derived.Test.YtnoambiapjemlaaDoorVmGJ
import Derived.Test.YtnoambiapjemlaaDoorRows
import Derived.Test.YtnoambiapjemlaaDoorTie
import Derived.Test.YtnoambiapjemlaaDoorCards
import Derived.Shelf.Vars
section
set_option linter.unusedVariables false
set_option linter.unusedSimpArgs false
set_option maxRecDepth 100000
namespace Go.Vm
open Go.Proofs Go.Proofs.YtnoambiapjemlaaDoor Go.RowKit Go.Shelf

abbrev laid01 : List (String × DataW Unit) := Rows.valueOrderRow.laid
theorem star01 : "*" ++ "errors.errorString" = "*errors.errorString" := by decide
theorem row125 (u : TypeId) (h : Tryd.prog.typeName? 3 u = some "*errors.errorString") : u = 125 :=
  typeName_ptr_named (nm := "errors.errorString") (by rw [star01]; kernel_rfl) (by kernel_rfl) (by decide) u (by rw [star01]; exact h)
theorem glob01 {W : World} (h : laidMetH Tryd.prog laid01 W) (hsh : W.ShapedOpen Tryd.prog) : Glob W := by
  have hL : laidMet Tryd.prog laid01 W := h
  obtain ⟨a1, s1, hv1, _⟩ := laid_sentinel hL.tail.tail.tail.tail (g := 2) (ti := 51) (tp := 125) (te := 127) (ts := 9) (by kernel_rfl) (by kernel_rfl) Tryd.underlying51 row125 Tryd.underlying125 Tryd.underlying127 rfl rfl Tryd.underlying9 (by kernel_rfl) (by kernel_rfl)
  obtain ⟨a2, s2, hv2, _⟩ := laid_sentinel hL.tail.tail.tail.tail.tail (g := 1) (ti := 51) (tp := 125) (te := 127) (ts := 9) (by kernel_rfl) (by kernel_rfl) Tryd.underlying51 row125 Tryd.underlying125 Tryd.underlying127 rfl rfl Tryd.underlying9 (by kernel_rfl) (by kernel_rfl)
  refine ⟨?_, ?_, ?_, ?_, ?_⟩
  · exact cell_of_shapedOpen_int (g := 0) (k := .i64) (zero := #[.int .i64 0]) hsh (of_decide_eq_true (by kernel_rfl)) (by kernel_rfl) (by kernel_rfl) (by kernel_rfl) (by kernel_rfl) Tryd.underlying3
  · exact ⟨_, _, by simpa using World.var?_cell (g := 1) (by kernel_rfl) hv2 0⟩
  · exact ⟨_, _, by simpa using World.var?_cell (g := 2) (by kernel_rfl) hv1 0⟩
  · exact Lib.tabIs_of_head (g := 3) (t := 117) (e := 33) (n := 20) (by kernel_rfl) (by kernel_rfl) Tryd.underlying117 Tryd.underlying33 (by kernel_rfl) (by kernel_rfl) hL.tail.tail
  · have ht : Lib.TabIs Tryd.prog W "internal/strconv.uint64pow10" .u64 Lib.pow10Tab := Lib.tabIs_of_head (g := 3) (t := 117) (e := 33) (n := 20) (by kernel_rfl) (by kernel_rfl) Tryd.underlying117 Tryd.underlying33 (by kernel_rfl) (by kernel_rfl) hL.tail.tail
    unfold Lib.TabIs World.var? at ht
    have hg : Tryd.prog.globalNamed "internal/strconv.uint64pow10" = some 3 := by kernel_rfl
    rw [hg] at ht
    simp only [Option.bind_some] at ht
    apply Classical.byContradiction
    intro hn
    have : W.heap[3]? = none := Array.getElem?_eq_none (by omega)
    rw [this] at ht
    cases ht
end Go.Vm
end
section
set_option linter.unusedVariables false
set_option linter.unusedSimpArgs false
set_option maxRecDepth 100000
namespace Go.Vm
open Go.Proofs Go.Proofs.YtnoambiapjemlaaDoor Go.RowKit

theorem own01 : ownKnob Tryd.prog.godebug = none := by kernel_rfl
theorem laidOut01 : laidOutB Tryd.prog = true := by kernel_rfl
theorem mixed01 : Tryd.prog.follows .mixedOrders = true := by kernel_rfl
def typesL : List TypeId := [2, 3, 4, 9, 23, 31]
theorem okT01 : okT Tryd.prog typesL = true := by kernel_rfl
theorem laidWorld_met (os : Os) (args : Array Value) : laidMetH Tryd.prog laid01 ((World.laidAll Tryd.prog os laid01).forCall (fun _ _ => 0) ⟨#[], args, []⟩).memory :=
  laidMet_laidAll args (by kernel_rfl) (by kernel_rfl)
end Go.Vm
end
