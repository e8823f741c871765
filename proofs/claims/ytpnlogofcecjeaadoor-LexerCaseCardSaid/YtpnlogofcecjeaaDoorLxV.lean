/- Chapter 23: what the listed variables give, a world that meets the conditions, what the arguments are. -/
import Derived.Test.YtpnlogofcecjeaaDoorLxZ
import Derived.Test.YtpnlogofcecjeaaDoorVmGJ
import Derived.Test.YtpnlogofcecjeaaDoorRows
import Derived.Test.YtpnlogofcecjeaaDoorTie
import Derived.Test.YtpnlogofcecjeaaDoorCards
import Derived.Shelf.Vars
set_option linter.unusedVariables false
set_option linter.unusedSimpArgs false
set_option maxRecDepth 100000
namespace Go.Vm
open Go.Proofs Go.Proofs.YtpnlogofcecjeaaDoor Go.RowKit Go.Shelf

abbrev laid23 : List (String × DataW Unit) := Rows.lexerErrorsRow.laid
theorem star23 : "*" ++ "errors.errorString" = "*errors.errorString" := by decide
theorem rowErr (u : TypeId) (h : Tryd.prog.typeName? 3 u = some "*errors.errorString") : u = 111 :=
  typeName_ptr_named (nm := "errors.errorString") (by rw [star23]; kernel_rfl) (by kernel_rfl) (by decide) u (by rw [star23]; exact h)
theorem glob23 {W : World} (h : laidMetH Tryd.prog laid23 W) (hsh : W.ShapedOpen Tryd.prog) : Glob W := by
  have hL : laidMet Tryd.prog laid23 W := h
  obtain ⟨a1, s1, hv1, _⟩ := laid_sentinel hL.tail.tail.tail.tail (g := 2) (ti := 48) (tp := 111) (te := 113) (ts := 9) (by kernel_rfl) (by kernel_rfl) Tryd.underlying48 rowErr Tryd.underlying111 Tryd.underlying113 rfl rfl Tryd.underlying9 (by kernel_rfl) (by kernel_rfl)
  obtain ⟨a2, s2, hv2, _⟩ := laid_sentinel hL.tail.tail.tail.tail.tail (g := 1) (ti := 48) (tp := 111) (te := 113) (ts := 9) (by kernel_rfl) (by kernel_rfl) Tryd.underlying48 rowErr Tryd.underlying111 Tryd.underlying113 rfl rfl Tryd.underlying9 (by kernel_rfl) (by kernel_rfl)
  refine ⟨?_, ?_, ?_, ?_, ?_⟩
  · exact cell_of_shapedOpen_int (g := 6) (k := .i64) (zero := #[.int .i64 0]) hsh (of_decide_eq_true (by kernel_rfl)) (by kernel_rfl) (by kernel_rfl) (by kernel_rfl) (by kernel_rfl) Tryd.underlying3
  · exact ⟨_, _, by simpa using World.var?_cell (g := 1) (by kernel_rfl) hv2 0⟩
  · exact ⟨_, _, by simpa using World.var?_cell (g := 2) (by kernel_rfl) hv1 0⟩
  · exact Lib.tabIs_of_head (g := 0) (t := 82) (e := 5) (n := 256) (by kernel_rfl) (by kernel_rfl) Tryd.underlying82 Tryd.underlying5 (by kernel_rfl) (by kernel_rfl) hL.tail.tail.tail.tail.tail.tail.tail
  · have ht : Lib.TabIs Tryd.prog W "internal/strconv.uint64pow10" .u64 Lib.pow10Tab := Lib.tabIs_of_head (g := 7) (t := 139) (e := 32) (n := 20) (by kernel_rfl) (by kernel_rfl) Tryd.underlying139 Tryd.underlying32 (by kernel_rfl) (by kernel_rfl) hL.tail.tail
    unfold Lib.TabIs World.var? at ht
    have hg : Tryd.prog.globalNamed "internal/strconv.uint64pow10" = some 7 := by kernel_rfl
    rw [hg] at ht
    simp only [Option.bind_some] at ht
    apply Classical.byContradiction
    intro hn
    have : W.heap[7]? = none := Array.getElem?_eq_none (by omega)
    rw [this] at ht
    cases ht
theorem own23 : ownKnob Tryd.prog.godebug = none := by kernel_rfl
theorem laidOut23 : laidOutB Tryd.prog = true := by kernel_rfl
theorem mixed23 : Tryd.prog.follows .mixedOrders = true := by kernel_rfl
def typesL : List TypeId := [3, 4, 5, 9, 32]
theorem okT23 : okT Tryd.prog typesL = true := by kernel_rfl
theorem laidWorld_met (os : Os) (args : Array Value) : laidMetH Tryd.prog laid23 ((World.laidAll Tryd.prog os laid23).forCall (fun _ _ => 0) ⟨#[], args, []⟩).memory :=
  laidMet_laidAll args (by kernel_rfl) (by kernel_rfl)
theorem not_struct {t : TypeId} {d : TypeDesc} (hu : Tryd.prog.underlying t = some d) (hd : ∀ fs, d ≠ .struct fs) : ∀ fs, Tryd.prog.underlying t ≠ some (.struct fs) := fun fs h => by
  rw [hu] at h
  injection h with h
  exact hd fs h
theorem arg_text {p : PV} (h : argT Tryd.prog 9 p) : ∃ l : List UInt8, p = .str l ∧ l.length ≤ 9223372036854775807 := by
  obtain ⟨n, x, h1, rfl⟩ := arg_one (not_struct Tryd.underlying9 (fun _ h => by cases h)) h
  obtain ⟨l, e, hl⟩ := ty_str Tryd.underlying9 h1
  injection e with e
  exact ⟨l, by rw [e], hl⟩
theorem arg_num {p : PV} (h : argT Tryd.prog 3 p) : ∃ i : Int, p = .i64 i ∧ -9223372036854775808 ≤ i ∧ i ≤ 9223372036854775807 := by
  obtain ⟨n, x, h1, rfl⟩ := arg_one (not_struct Tryd.underlying3 (fun _ h => by cases h)) h
  obtain ⟨i, e, h2, h3⟩ := ty_int Tryd.underlying3 h1
  injection e with e
  exact ⟨i, by rw [e], h2, h3⟩
theorem arg_u8 {p : PV} (h : argT Tryd.prog 5 p) : ∃ i : Int, p = .s (.int .u8 i) ∧ 0 ≤ i ∧ i ≤ 255 := by
  obtain ⟨n, x, h1, rfl⟩ := arg_one (not_struct Tryd.underlying5 (fun _ h => by cases h)) h
  obtain ⟨i, e, h2, h3⟩ := ty_int Tryd.underlying5 h1
  injection e with e
  exact ⟨i, by rw [e], h2, h3⟩
theorem arg_u64 {p : PV} (h : argT Tryd.prog 32 p) : ∃ i : Int, p = .s (.int .u64 i) ∧ 0 ≤ i ∧ i ≤ 18446744073709551615 := by
  obtain ⟨n, x, h1, rfl⟩ := arg_one (not_struct Tryd.underlying32 (fun _ h => by cases h)) h
  obtain ⟨i, e, h2, h3⟩ := ty_int Tryd.underlying32 h1
  injection e with e
  exact ⟨i, by rw [e], h2, h3⟩
theorem stand_9 : Tryd.prog.wantsStandIn 9 = false := by kernel_rfl
theorem stand_3 : Tryd.prog.wantsStandIn 3 = false := by kernel_rfl
theorem stand_5 : Tryd.prog.wantsStandIn 5 = false := by kernel_rfl
theorem stand_32 : Tryd.prog.wantsStandIn 32 = false := by kernel_rfl
end Go.Vm
