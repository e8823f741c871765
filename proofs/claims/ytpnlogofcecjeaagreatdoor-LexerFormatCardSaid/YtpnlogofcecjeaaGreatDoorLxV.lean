/- Chapter 23: what the listed variables give, a world that meets the conditions, what the arguments are. -/
import Derived.Test.YtpnlogofcecjeaaGreatDoorLxZ
import Derived.Test.YtpnlogofcecjeaaGreatDoorVmGJ
import Derived.Test.YtpnlogofcecjeaaGreatDoorLxW
import Derived.Test.YtpnlogofcecjeaaGreatDoorTie
import Derived.Test.YtpnlogofcecjeaaGreatDoorCards
import Derived.Shelf.Vars
set_option linter.unusedVariables false
set_option linter.unusedSimpArgs false
set_option maxRecDepth 100000
namespace Go.Vm
open Go.Proofs Go.Proofs.YtpnlogofcecjeaaGreatDoor Go.RowKit Go.Shelf

theorem star23 : "*" ++ "errors.errorString" = "*errors.errorString" := by decide
theorem rowErr (u : TypeId) (h : Tryz.prog.typeName? 3 u = some "*errors.errorString") : u = 133 :=
  typeName_ptr_named (nm := "errors.errorString") (by rw [star23]; kernel_rfl) (by kernel_rfl) (by decide) u (by rw [star23]; exact h)
theorem glob23 {W : World} (h : laidMetH Tryz.prog laid23 W) (hsh : W.ShapedOpen Tryz.prog) : Glob W := by
  have hL : laidMet Tryz.prog laid23 W := h
  obtain ⟨a1, s1, hv1, _⟩ := laid_sentinel hL.tail.tail.tail.tail (g := 3) (ti := 60) (tp := 133) (te := 135) (ts := 9) (by kernel_rfl) (by kernel_rfl) Tryz.underlying60 rowErr Tryz.underlying133 Tryz.underlying135 rfl rfl Tryz.underlying9 (by kernel_rfl) (by kernel_rfl)
  obtain ⟨a2, s2, hv2, _⟩ := laid_sentinel hL.tail.tail.tail.tail.tail (g := 2) (ti := 60) (tp := 133) (te := 135) (ts := 9) (by kernel_rfl) (by kernel_rfl) Tryz.underlying60 rowErr Tryz.underlying133 Tryz.underlying135 rfl rfl Tryz.underlying9 (by kernel_rfl) (by kernel_rfl)
  refine ⟨?_, ?_, ?_, ?_, ?_⟩
  · exact cell_of_shapedOpen_int (g := 4) (k := .i64) (zero := #[.int .i64 0]) hsh (of_decide_eq_true (by kernel_rfl)) (by kernel_rfl) (by kernel_rfl) (by kernel_rfl) (by kernel_rfl) Tryz.underlying3
  · exact ⟨_, _, by simpa using World.var?_cell (g := 2) (by kernel_rfl) hv2 0⟩
  · exact ⟨_, _, by simpa using World.var?_cell (g := 3) (by kernel_rfl) hv1 0⟩
  · exact Lib.tabIs_of_head (g := 0) (t := 69) (e := 5) (n := 256) (by kernel_rfl) (by kernel_rfl) Tryz.underlying69 Tryz.underlying5 (by kernel_rfl) (by kernel_rfl) hL.tail.tail.tail.tail.tail.tail.tail
  · have ht : Lib.TabIs Tryz.prog W "internal/strconv.uint64pow10" .u64 Lib.pow10Tab := Lib.tabIs_of_head (g := 7) (t := 145) (e := 100) (n := 20) (by kernel_rfl) (by kernel_rfl) Tryz.underlying145 Tryz.underlying100 (by kernel_rfl) (by kernel_rfl) hL.tail.tail
    unfold Lib.TabIs World.var? at ht
    have hg : Tryz.prog.globalNamed "internal/strconv.uint64pow10" = some 7 := by kernel_rfl
    rw [hg] at ht
    simp only [Option.bind_some] at ht
    apply Classical.byContradiction
    intro hn
    have : W.heap[7]? = none := Array.getElem?_eq_none (by omega)
    rw [this] at ht
    cases ht
theorem own23 : ownKnob Tryz.prog.godebug = none := by kernel_rfl
theorem laidOut23 : laidOutB Tryz.prog = true := by kernel_rfl
theorem mixed23 : Tryz.prog.follows .mixedOrders = true := by kernel_rfl
def typesL : List TypeId := [3, 4, 5, 9, 100]
theorem okT23 : okT Tryz.prog typesL = true := by kernel_rfl
theorem laidWorld_met (os : Os) (args : Array Value) : laidMetH Tryz.prog laid23 ((World.laidAll Tryz.prog os laid23).forCall (fun _ _ => 0) ⟨#[], args, []⟩).memory :=
  laidMet_laidAll args (by kernel_rfl) (by kernel_rfl)
theorem not_struct {t : TypeId} {d : TypeDesc} (hu : Tryz.prog.underlying t = some d) (hd : ∀ fs, d ≠ .struct fs) : ∀ fs, Tryz.prog.underlying t ≠ some (.struct fs) := fun fs h => by
  rw [hu] at h
  injection h with h
  exact hd fs h
theorem arg_text {p : PV} (h : argT Tryz.prog 9 p) : ∃ l : List UInt8, p = .str l ∧ l.length ≤ 9223372036854775807 := by
  obtain ⟨n, x, h1, rfl⟩ := arg_one (not_struct Tryz.underlying9 (fun _ h => by cases h)) h
  obtain ⟨l, e, hl⟩ := ty_str Tryz.underlying9 h1
  injection e with e
  exact ⟨l, by rw [e], hl⟩
theorem arg_num {p : PV} (h : argT Tryz.prog 3 p) : ∃ i : Int, p = .i64 i ∧ -9223372036854775808 ≤ i ∧ i ≤ 9223372036854775807 := by
  obtain ⟨n, x, h1, rfl⟩ := arg_one (not_struct Tryz.underlying3 (fun _ h => by cases h)) h
  obtain ⟨i, e, h2, h3⟩ := ty_int Tryz.underlying3 h1
  injection e with e
  exact ⟨i, by rw [e], h2, h3⟩
theorem arg_u8 {p : PV} (h : argT Tryz.prog 5 p) : ∃ i : Int, p = .s (.int .u8 i) ∧ 0 ≤ i ∧ i ≤ 255 := by
  obtain ⟨n, x, h1, rfl⟩ := arg_one (not_struct Tryz.underlying5 (fun _ h => by cases h)) h
  obtain ⟨i, e, h2, h3⟩ := ty_int Tryz.underlying5 h1
  injection e with e
  exact ⟨i, by rw [e], h2, h3⟩
theorem arg_u64 {p : PV} (h : argT Tryz.prog 100 p) : ∃ i : Int, p = .s (.int .u64 i) ∧ 0 ≤ i ∧ i ≤ 18446744073709551615 := by
  obtain ⟨n, x, h1, rfl⟩ := arg_one (not_struct Tryz.underlying100 (fun _ h => by cases h)) h
  obtain ⟨i, e, h2, h3⟩ := ty_int Tryz.underlying100 h1
  injection e with e
  exact ⟨i, by rw [e], h2, h3⟩
theorem stand_9 : Tryz.prog.wantsStandIn 9 = false := by kernel_rfl
theorem stand_3 : Tryz.prog.wantsStandIn 3 = false := by kernel_rfl
theorem stand_5 : Tryz.prog.wantsStandIn 5 = false := by kernel_rfl
theorem stand_100 : Tryz.prog.wantsStandIn 100 = false := by kernel_rfl
end Go.Vm
