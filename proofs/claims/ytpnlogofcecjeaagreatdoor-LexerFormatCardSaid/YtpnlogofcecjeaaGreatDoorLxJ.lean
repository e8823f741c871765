/- The program's 'symbol': the first symbol from behind that the text begins with. -/
import Derived.Test.YtpnlogofcecjeaaGreatDoorLxI
set_option linter.unusedVariables false
set_option linter.unusedSimpArgs false
namespace Go.Vm
open Go Go.Proofs Go.RowKit Go.Shelf

attribute [local go_sem] Oper.semAt_some

theorem cellNew (W : World) (v : Value) (t : TypeId) : (W.alloc (.cells #[v] t)).cell? ⟨W.heap.size, 0, none⟩ = some v := by simp
theorem cellAlloc {W : World} {a : Addr} {v : Value} (o : Obj) (h : W.cell? a = some v) : (W.alloc o).cell? a = some v := cell_kept h (World.grownBy_alloc W o none) (fun r e => by cases e)
theorem frozenAlloc {W : World} {a : Addr} {v : Value} (o : Obj) (h : W.cell? a = some v) (hf : W.frozen? a = false) : (W.alloc o).frozen? a = false := (frozen_kept h (World.grownBy_alloc W o none) (fun r e => by cases e)).trans hf
def zeroF : Array Value := #[.int .i64 0, .int .i64 0, .string ⟨#[]⟩, .int .i64 0, .int .i64 0]
/-- Block r holds the five cells of a result. -/
structure Rz (r : Nat) (cs : Array Value) (W : World) : Prop where
  h : W.heap[r]? = some (.cells cs 42 (0, 0))
theorem Rz.lt {r : Nat} {cs : Array Value} {W : World} (h : Rz r cs W) : r < W.heap.size := (Array.getElem?_eq_some_iff.1 h.h).1
theorem Rz.kept {r : Nat} {cs : Array Value} {W W' : World} {row : Option Nat} (h : Rz r cs W) (hg : W.grownBy W' row) (hne : some r ≠ row) : Rz r cs W' := ⟨(hg.block r h.lt hne).trans h.h⟩
theorem Rz.alloc {r : Nat} {cs : Array Value} {w : World} (h : Rz r cs w) (o : Obj) : Rz r cs (w.alloc o) := h.kept (World.grownBy_alloc w o none) (by simp)
theorem Rz.own {r : Nat} {cs : Array Value} {A B : World} {row : Option Nat} (h : Rz r cs A) (hg : A.grownBy B row) (hr : ∀ k, row = some k → ∃ o : Obj, A.heap[k]? = some o ∧ o.isCells = false) : Rz r cs B :=
  h.kept hg (fun e => by
    obtain ⟨o, h1, h2⟩ := hr r e.symm
    rw [h.h] at h1
    injection h1 with h1
    subst h1
    cases h2)
theorem rz_new (w : World) : Rz w.heap.size zeroF (w.alloc (.cells #[.int .i64 0, .int .i64 0, .string ⟨#[]⟩, .int .i64 0, .int .i64 0] 42)) := ⟨World.alloc_heap_new w _⟩
theorem Rz.set {r i : Nat} {cs : Array Value} {W : World} (v : Value) (h : Rz r cs W) : Rz r (cs.setIfInBounds i v) (W.setCell ⟨r, i, none⟩ v) := by
  obtain ⟨hlt, hk⟩ := Array.getElem?_eq_some_iff.1 h.h
  refine ⟨?_⟩
  show (W.heap.modify r _)[r]? = _
  rw [Array.getElem?_eq_getElem (by rw [Array.size_modify]; exact hlt), Array.getElem_modify_self, hk]
  rfl
theorem Rz.five {r : Nat} {W : World} (a b c d e : Value) (h : Rz r zeroF W) : Rz r #[a, b, c, d, e] (((((W.setCell ⟨r, 0, none⟩ a).setCell ⟨r, 1, none⟩ b).setCell ⟨r, 2, none⟩ c).setCell ⟨r, 3, none⟩ d).setCell ⟨r, 4, none⟩ e) := by
  have h1 := (((((h.set (i := 0) a).set (i := 1) b).set (i := 2) c).set (i := 3) d).set (i := 4) e)
  have e : ((((zeroF.setIfInBounds 0 a).setIfInBounds 1 b).setIfInBounds 2 c).setIfInBounds 3 d).setIfInBounds 4 e = #[a, b, c, d, e] := by simp [zeroF]
  rwa [e] at h1
theorem keeps_five (r : Nat) (W : World) (a b c d e : Value) : KeepsOthers W (((((W.setCell ⟨r, 0, none⟩ a).setCell ⟨r, 1, none⟩ b).setCell ⟨r, 2, none⟩ c).setCell ⟨r, 3, none⟩ d).setCell ⟨r, 4, none⟩ e) :=
  ((((KeepsOthers.setCell _ _ _).trans (KeepsOthers.setCell _ _ _)).trans (KeepsOthers.setCell _ _ _)).trans (KeepsOthers.setCell _ _ _)).trans (KeepsOthers.setCell _ _ _)
theorem below_five {n r : Nat} {w W : World} (h : Below n w W) (hr : n ≤ r) (a b c d e : Value) : Below n w (((((W.setCell ⟨r, 0, none⟩ a).setCell ⟨r, 1, none⟩ b).setCell ⟨r, 2, none⟩ c).setCell ⟨r, 3, none⟩ d).setCell ⟨r, 4, none⟩ e) :=
  ((((h.setCell (p := ⟨r, 0, none⟩) hr _).setCell (p := ⟨r, 1, none⟩) hr _).setCell (p := ⟨r, 2, none⟩) hr _).setCell (p := ⟨r, 3, none⟩) hr _).setCell (p := ⟨r, 4, none⟩) hr _
theorem Rz.cell {r : Nat} {cs : Array Value} {W : World} (h : Rz r cs W) (i : Nat) : W.cell? ⟨r, i, none⟩ = cs[i]? := by simp [World.cell?, h.h]
theorem Rz.frozen {r : Nat} {cs : Array Value} {W : World} (h : Rz r cs W) (i : Nat) : W.frozen? ⟨r, i, none⟩ = false := by simp [World.frozen?, h.h]
set_option maxRecDepth 100000 in
set_option maxHeartbeats 4000000 in
theorem symbol_calls (s : ByteArray) (w : World) :
    Calls Tryz.prog 32 #[.string s] w fun e W' =>
      ((e = .returned (.agg #[.int .i64 0, .int .i64 0, .string ⟨#[]⟩, .int .i64 0, .int .i64 (-1)]) ∧ ∀ p ∈ syms, Lib.hasPrefix s.data.toList p.data.toList = false) ∨
       (∃ k : Nat, k < 15 ∧ e = .returned (.agg #[.int .i64 4, .int .i64 0, .string (syms[14 - k]?.getD ByteArray.empty), .int .i64 ((syms[14 - k]?.getD ByteArray.empty).size : Int), .int .i64 (-1)]) ∧
         Lib.hasPrefix s.data.toList (syms[14 - k]?.getD ByteArray.empty).data.toList = true ∧ ∀ j, j < k → Lib.hasPrefix s.data.toList (syms[14 - j]?.getD ByteArray.empty).data.toList = false)) ∧ Below w.heap.size w W' := by
  refine (callsIn_wide (n := 5)).1 ?_
  refine callsIn_of_wp_marks Tryz.func32 rfl trivial ?_ rfl
  simp only [Tryz.ntmps32, List.size_toArray, List.length_cons, List.length_nil, Nat.reduceAdd, Nat.reduceSub, Array.replicate_succ, Array.replicate_zero, List.push_toArray, List.append_toArray, List.nil_append, List.cons_append]
  gi_wp2_with first
    | (refine ⟨trivial, ?_⟩; gi_at_call 21; refine (syms_in Fence.wide _ trivial rfl _).mono ?_; rintro e w' ⟨rfl, rfl⟩)
    | (refine ⟨trivial, ?_⟩; gi_at_call 54; refine (back_in Fence.wide _ trivial rfl _ _ _ _).mono ?_; rintro e w' ⟨rfl, rfl⟩)
  unfold symsW
  simp only [World.size_alloc]
  have bS := cellNew w (.string s) 9
  generalize hw0 : w.alloc (.cells #[.string s] 9) = w0 at *
  have z0 : w0.heap.size = w.heap.size + 1 := by rw [← hw0]; simp
  have hB0 : Below w.heap.size w w0 := by rw [← hw0]; exact (Below.refl _ w).alloc (Nat.le_refl _) _
  generalize hw1 : w0.alloc (.cells #[.int .i64 0, .int .i64 0, .string ⟨#[]⟩, .int .i64 0, .int .i64 0] 42) = w1
  have z1 : w1.heap.size = w.heap.size + 2 := by rw [← hw1]; simp [z0]
  have hB1 : Below w.heap.size w w1 := by rw [← hw1]; exact hB0.alloc (by omega) _
  have r1 : Rz (w.heap.size + 1) zeroF w1 := by rw [← hw1, ← z0]; exact rz_new w0
  have s1 : w1.cell? ⟨w.heap.size, 0, none⟩ = some (.string s) := by rw [← hw1]; exact cellAlloc _ bS
  generalize hw2 : w1.alloc (.cells (syms.map Value.string).toArray 9) = w2
  have z2 : w2.heap.size = w.heap.size + 3 := by rw [← hw2]; simp [z1]
  have hB2 : Below w.heap.size w w2 := by rw [← hw2]; exact hB1.alloc (by omega) _
  have r2 : Rz (w.heap.size + 1) zeroF w2 := by rw [← hw2]; exact r1.alloc _
  have s2 : w2.cell? ⟨w.heap.size, 0, none⟩ = some (.string s) := by rw [← hw2]; exact cellAlloc _ s1
  have c2 : ∀ j, j < 15 → w2.cell? ⟨w.heap.size + 2, 0 + j, none⟩ = some (.string (syms[j]?.getD ByteArray.empty)) := by
    intro j hj
    have h := World.cell?_alloc_new (w := w1) (syms.map Value.string).toArray 9 (0 + j)
    rw [hw2, z1] at h
    rw [h, Nat.zero_add, List.getElem?_toArray, List.getElem?_map, List.getElem?_eq_getElem (show j < syms.length from hj)]
    rfl
  generalize hw3 : w2.alloc (.cells #[.slice (some ⟨w.heap.size + 1 + 1, 0, none⟩) 15 15] 35) = w3
  have z3 : w3.heap.size = w.heap.size + 4 := by rw [← hw3]; simp [z2]
  have hB3 : Below w.heap.size w w3 := by rw [← hw3]; exact hB2.alloc (by omega) _
  have r3 : Rz (w.heap.size + 1) zeroF w3 := by rw [← hw3]; exact r2.alloc _
  have s3 : w3.cell? ⟨w.heap.size, 0, none⟩ = some (.string s) := by rw [← hw3]; exact cellAlloc _ s2
  have c3 : ∀ j, j < 15 → w3.cell? ⟨w.heap.size + 2, 0 + j, none⟩ = some (.string (syms[j]?.getD ByteArray.empty)) := fun j hj => by rw [← hw3]; exact cellAlloc _ (c2 j hj)
  have b3 : w3.cell? ⟨w.heap.size + 3, 0, none⟩ = some (.slice (some ⟨w.heap.size + 2, 0, none⟩) 15 15) := by
    have := cellNew w2 (.slice (some ⟨w.heap.size + 1 + 1, 0, none⟩) 15 15) 35
    rw [hw3, z2] at this
    exact this
  clear hw0 hw1 hw2 hw3
  have h15 : syms.length = 15 := rfl
  refine wpIn_rangeFunc_ownG rfl (by omega) (gf := 72) (lb := #[.pointer (some ⟨w.heap.size + 1 + 1 + 1, 0, none⟩)]) rfl trivial (enters_of Tryz.func72 (by kernel_rfl) rfl)
    (back_stops Fence.wide (5 - 1) trivial rfl (by omega) (w.heap.size + 3) (w.heap.size + 4) (w.heap.size + 2) 0 15 syms (by rw [h15]; omega) (by omega) (by omega) w3 (by omega) b3 c3) belowK_t (belowK_b (by omega)) (Below.refl _ _) (fun _ => rfl)
    (fun pre W => (((∀ p ∈ pre, Lib.hasPrefix s.data.toList p.2.data.toList = false) ∧ W.cell? ⟨w.heap.size, 0, none⟩ = some (.string s)) ∧ Rz (w.heap.size + 1) zeroF W) ∧ Below w.heap.size w W)
    (fun c pre W => ((c = .ret ∧ ∃ ini last, pre = ini ++ [last] ∧ (∀ p ∈ ini, Lib.hasPrefix s.data.toList p.2.data.toList = false) ∧ Lib.hasPrefix s.data.toList last.2.data.toList = true ∧ Rz (w.heap.size + 1) #[.int .i64 4, .int .i64 0, .string last.2, .int .i64 (last.2.size : Int), .int .i64 (-1)] W)) ∧ Below w.heap.size w W)
    (OwnFrom.and (Own.from (fun s A B row hs hg hr => ⟨⟨hs.1.1, cell_kept hs.1.2 hg hr⟩, hs.2.own hg hr⟩) _) (ownFrom_below (Nat.le_refl _) (by omega)))
    (fun c => OwnFrom.and (Own.from (fun s A B row hs hg hr => by obtain ⟨hc, ini, last, e1, e2, e3, e4⟩ := hs; exact ⟨hc, ini, last, e1, e2, e3, e4.own hg hr⟩) _) (ownFrom_below (Nat.le_refl _) (by omega)))
    ⟨⟨⟨by simp, s3⟩, r3⟩, hB3⟩
    (fun x => { tmps := #[.string s, .pointer (some ⟨w.heap.size, 0, none⟩), .pointer (some ⟨w.heap.size + 1, 0, none⟩), undef, .string x.2, .slice (some ⟨w.heap.size + 1 + 1, 0, none⟩) 15 15, .func (.func 72) #[] #[.pointer (some ⟨w.heap.size + 1 + 1 + 1, 0, none⟩)], .int .i64 (x.1 : Int), .string x.2, undef, undef, undef, undef, undef, undef, undef, undef, undef], defers := [] }) ?assign ?body ?done ?stop
  case assign =>
    intro l x W K hK
    gi_wp2
    exact hK
  case body =>
    rintro l pre x W ⟨⟨⟨hp, hs⟩, hr⟩, hB⟩ _
    have k0 := hr.cell 0
    have k1 := hr.cell 1
    have k2 := hr.cell 2
    have k3 := hr.cell 3
    have k4 := hr.cell 4
    have f0 := hr.frozen 0
    have f1 := hr.frozen 1
    have f2 := hr.frozen 2
    have f3 := hr.frozen 3
    have f4 := hr.frozen 4
    simp only [zeroF, List.getElem?_toArray, List.getElem?_cons_zero, List.getElem?_cons_succ] at k0 k1 k2 k3 k4
    gi_wp2_with (refine ⟨trivial, ?_⟩; gi_at_call 45; refine (CallsIn.inRound l (callsIn_wide.2 (Tryz.strings_HasPrefix s x.2 _))).mono ?_; rintro e w' ⟨rfl, rfl⟩)
    · rename_i hx
      exact ⟨(keeps_five _ _ _ _ _ _ _).from _, ⟨rfl, pre, x, rfl, hp, hx, hr.five _ _ _ _ _⟩, below_five hB (by omega) _ _ _ _ _⟩
    · rename_i hx
      exact ⟨KeepsFrom.refl _ _, Below.refl _ _, ⟨⟨fun p hp' => (List.mem_append.1 hp').elim (hp p) (fun e => by simp at e; subst e; exact hx), hs⟩, hr⟩, hB⟩
  case done =>
    rintro D ys W hD rfl ⟨⟨⟨hne, hs⟩, hr⟩, hB⟩ hK
    have k0 := hr.cell 0
    have k1 := hr.cell 1
    have k2 := hr.cell 2
    have k3 := hr.cell 3
    have k4 := hr.cell 4
    have f0 := hr.frozen 0
    have f1 := hr.frozen 1
    have f2 := hr.frozen 2
    have f3 := hr.frozen 3
    have f4 := hr.frozen 4
    simp only [zeroF, List.getElem?_toArray, List.getElem?_cons_zero, List.getElem?_cons_succ] at k0 k1 k2 k3 k4
    gi_wp2
    have hK' := (keeps_five (w.heap.size + 1) W (.int .i64 0) (.int .i64 0) (.string ⟨#[]⟩) (.int .i64 0) (.int .i64 (-1))).same D _ hK rfl
    refine ⟨by simp, .inl ⟨_, _, rfl, run_takeDeferred hK', ?_⟩⟩
    have hr5 := (hr.five (.int .i64 0) (.int .i64 0) (.string ⟨#[]⟩) (.int .i64 0) (.int .i64 (-1))).own (grownBy_putObj' _ D (.deferred none)) (fun r e => by cases e; exact ⟨_, hK', rfl⟩)
    refine ⟨_, results_cell_row rfl _ _ (w.heap.size + 1) 42 _ (0, 0) _ rfl hr5.h Tryz.underlying42 rfl (by kernel_rfl), .inl ⟨rfl, fun p hp => ?_⟩, ?_⟩
    · obtain ⟨i, hi, e⟩ := List.getElem_of_mem hp
      have hi : i < 15 := hi
      have := hne (syms.length - 1 - (14 - i), syms[syms.length - 1 - (14 - i)]?.getD ByteArray.empty) (by simp only [upto, List.mem_map, List.mem_range]; exact ⟨14 - i, by rw [h15]; omega, rfl⟩)
      rw [h15, show 15 - 1 - (14 - i) = i by omega, List.getElem?_eq_getElem (show i < syms.length from hi)] at this
      rw [← e]
      exact this
    · exact (below_five hB (by omega) _ _ _ _ _).trans (belowK_b (w := w) (Nat.le_refl _) _ D _ _ (by omega) hK' rfl rfl)
  case stop =>
    rintro D c pre W hD ⟨k, hk, rfl⟩ ⟨⟨rfl, ini, last, e1, e2, e3, hr⟩, hB⟩ hK
    gi_wp2
    refine ⟨by simp, .inl ⟨_, _, rfl, run_takeDeferred hK, ?_⟩⟩
    have hr5 := hr.own (grownBy_putObj' _ D (.deferred none)) (fun r e => by cases e; exact ⟨_, hK, rfl⟩)
    obtain ⟨k', rfl⟩ : ∃ k', k = k' + 1 := by
      cases k with
      | zero => simp [upto] at e1
      | succ k' => exact ⟨k', rfl⟩
    rw [upto_succ] at e1
    obtain ⟨rfl, e5⟩ := List.append_inj' e1 rfl
    obtain rfl : (syms.length - 1 - k', syms[syms.length - 1 - k']?.getD ByteArray.empty) = last := by simpa using e5
    refine ⟨_, results_cell_row rfl _ _ (w.heap.size + 1) 42 _ (0, 0) _ rfl hr5.h Tryz.underlying42 rfl (by kernel_rfl), .inr ⟨k', by omega, rfl, e3, fun j hj => ?_⟩, ?_⟩
    · exact e2 (14 - j, syms[14 - j]?.getD ByteArray.empty) (by simp only [upto, List.mem_map, List.mem_range]; exact ⟨j, hj, rfl⟩)
    · exact hB.trans (belowK_b (w := w) (Nat.le_refl _) W D _ _ (by omega) hK rfl rfl)
end Go.Vm
