/- The plain data of chapter 19; names. -/
import Derived.Test.YtfgkhgkgaedcmaaGreatCbA
set_option linter.unusedVariables false
set_option linter.unusedSimpArgs false
set_option maxRecDepth 100000
namespace Go.Vm

structure Col where
  name : List UInt8
  ty : Int
  deriving Inhabited
def Col.row (c : Col) : List SV := [.str c.name, .int .i64 c.ty]
def intRow (n : Int) : List SV := [.int .i64 n]
def strRow (s : List UInt8) : List SV := [.str s]
structure Idx where
  id : Int
  name : List UInt8
  cols : Slc Int
  deriving Inhabited
def Idx.row (x : Idx) : List SV := [.int .i64 x.id, .str x.name, x.cols.sv intRow]
structure Tab where
  id : Int
  name : List UInt8
  cols : Slc Col
  key : Slc Int
  idx : Slc Idx
  deriving Inhabited
def Tab.row (t : Tab) : List SV := [.int .i64 t.id, .str t.name, t.cols.sv Col.row, t.key.sv intRow, t.idx.sv Idx.row]
structure Viw where
  id : Int
  name : List UInt8
  text : List UInt8
  mat : Bool
  deriving Inhabited
def Viw.row (v : Viw) : List SV := [.int .i64 v.id, .str v.name, .str v.text, .bool v.mat]
structure Cat where
  tabs : Slc Tab
  views : Slc Viw
  next : Int
  deriving Inhabited
def Cat.row (c : Cat) : List SV := [c.tabs.sv Tab.row, c.views.sv Viw.row, .int .i64 c.next]

def okCh (b : UInt8) : Bool := decide (97 ≤ (b.toNat : Int)) && decide ((b.toNat : Int) ≤ 122) || decide (48 ≤ (b.toNat : Int)) && decide ((b.toNat : Int) ≤ 57) || decide ((b.toNat : Int) = 95)
def vname (s : List UInt8) : Bool := decide (1 ≤ s.length ∧ s.length ≤ 31 ∧ 97 ≤ ((s.getD 0 0).toNat : Int) ∧ ((s.getD 0 0).toNat : Int) ≤ 122) && s.all okCh

theorem t14 (s : List UInt8) (hs : s.length ≤ 1073741824) : calL EE 23 [.str s] [] = some (.ret (.bool (vname s)), []) := by
  refine fn_ok f23 (by simp) ?_
  unfold c23
  simp only [go_sem, reduceIte, Nat.reduceEqDiff, Nat.reduceAdd, Nat.reduceLeDiff, Nat.reduceLT]
  simp only [Bool.or_eq_true, decide_eq_true_eq, Int.toNat_zero]
  refine ⟨by omega, ?_⟩
  split
  · rename_i h
    have : vname s = false := by
      unfold vname
      rw [decide_eq_false (by omega)]
      rfl
    rw [this]
  · rename_i h
    refine WP_loop rfl (fun k T H n => ∃ j, j + k = s.length ∧ T 3 = .i64 j ∧ (s.take j).all okCh = true) (k0 := s.length) ⟨0, by omega, rfl, rfl⟩ ?_
    rintro k T' H' n' hf ⟨j, hj, h3, hall⟩
    have h0 : T' 0 = .str s := hf 0 rfl
    clear hf
    by_cases hlt : j < s.length
    · simp only [go_sem, reduceIte, Nat.reduceEqDiff, Nat.reduceAdd, Nat.reduceLeDiff, Nat.reduceLT, h0, h3, Int.ofNat_lt, hlt, wrap_succ (show j < 4611686018427387904 by omega), decide_true]
      split
      · rename_i h2
        have : vname s = false := by
          unfold vname
          rw [all_not 0 hlt (by simpa only [okCh, Bool.not_eq_true'] using h2), Bool.and_false]
        rw [this]
      · rename_i h2
        exact ⟨k - 1, by omega, j + 1, by omega, rfl, all_next 0 hlt hall (by simpa only [okCh, Bool.not_eq_true', Bool.not_eq_false] using h2)⟩
    · simp only [go_sem, reduceIte, Nat.reduceEqDiff, Nat.reduceAdd, Nat.reduceLeDiff, Nat.reduceLT, h0, h3, Int.ofNat_lt, hlt, decide_false]
      have : vname s = true := by
        unfold vname
        rw [decide_eq_true (by omega), all_end hlt hall]
        rfl
      rw [this]
theorem t13 (s : List UInt8) (hs : s.length ≤ 1073741824) : calL EE 36 [.str s] [] = some (.ret (.bool (vname s)), []) := by
  refine fn_ok f36 (by simp) ?_
  unfold c36
  simp only [go_sem, reduceIte, Nat.reduceEqDiff, Nat.reduceAdd, Nat.reduceLeDiff, Nat.reduceLT]
  refine ⟨hs, ?_⟩
  refine WP_loop rfl (fun k T H n => ∃ j, j + k = s.length ∧ T 8 = .i64 j ∧ (s.take j).all okCh = true ∧ (0 < j → 97 ≤ ((s.getD 0 0).toNat : Int) ∧ ((s.getD 0 0).toNat : Int) ≤ 122) ∧ H 2 = .sarr 5 1 0 false false (s.map fun b => [.int .u8 b.toNat])) (k0 := s.length) ⟨0, by omega, rfl, rfl, by omega, rfl⟩ ?_
  rintro k T' H' n' hf ⟨j, hj, h3, hall, h1, hH⟩
  have h0 : T' 0 = .str s := hf 0 rfl
  have h6 : T' 6 = .hsl 2 0 0 s.length := hf 6 rfl
  have h7 : T' 7 = .i64 s.length := hf 7 rfl
  clear hf
  by_cases hlt : j < s.length
  · simp only [go_sem, reduceIte, Nat.reduceEqDiff, Nat.reduceAdd, Nat.reduceLeDiff, Nat.reduceLT, h0, h3, h6, h7, hH, Int.ofNat_lt, hlt, wrap_succ (show j < 4611686018427387904 by omega), decide_true]
    refine ⟨Nat.le_refl _, ?_⟩
    split
    · rename_i h2
      simp only [Bool.and_eq_true, decide_eq_true_eq] at h2
      refine ⟨k - 1, by omega, j + 1, by omega, rfl, all_next 0 hlt hall ?_, fun _ => ?_⟩
      · simp only [okCh, Bool.or_eq_true, Bool.and_eq_true, decide_eq_true_eq]; omega
      · by_cases hz : j = 0
        · subst hz; exact h2
        · exact h1 (by omega)
    · rename_i h2
      split
      · rename_i h4
        simp only [Bool.and_eq_true, Bool.or_eq_true, decide_eq_true_eq] at h4
        refine ⟨k - 1, by omega, j + 1, by omega, rfl, all_next 0 hlt hall ?_, fun _ => h1 (by omega)⟩
        simp only [okCh, Bool.or_eq_true, Bool.and_eq_true, decide_eq_true_eq]; omega
      · rename_i h4
        simp only [Bool.and_eq_true, Bool.or_eq_true, decide_eq_true_eq] at h2 h4
        have : vname s = false := by
          unfold vname
          by_cases hz : j = 0
          · subst hz
            rw [decide_eq_false (by omega)]
            rfl
          · rw [all_not 0 hlt, Bool.and_false]
            rw [Bool.eq_false_iff]
            simp only [okCh, ne_eq, Bool.or_eq_true, Bool.and_eq_true, decide_eq_true_eq]; omega
        rw [this]
  · simp only [go_sem, reduceIte, Nat.reduceEqDiff, Nat.reduceAdd, Nat.reduceLeDiff, Nat.reduceLT, h0, h3, h6, h7, hH, Int.ofNat_lt, hlt, decide_false]
    have : (decide (1 ≤ (s.length : Int)) && decide ((s.length : Int) ≤ 31)) = vname s := by
      unfold vname
      rw [all_end hlt hall, Bool.and_true, Bool.eq_iff_iff]
      simp only [Bool.and_eq_true, decide_eq_true_eq]
      by_cases hz : 0 < j
      · have := h1 hz; omega
      · omega
    rw [this]
end Go.Vm
