/- The range over slices.Backward in the program's 'symbol': the iterator's contract and the function's. -/
import Derived.RangeFuncBox
import Derived.RangeFuncLeaves
import Derived.RangeFuncCalls
import Derived.Shelf.Abstract
import Derived.WalkKit
import Derived.OwnWalkIn
import Derived.TacticsInMore
import Derived.LoopNIn
import Derived.LoopIn
import Derived.Test.YtpnlogofcecjeaaGreatDoorLxS
import Derived.Test.YtpnlogofcecjeaaGreatDoorChecked
set_option linter.unusedVariables false
set_option linter.unusedSimpArgs false
namespace Go.Vm
open Go Go.Proofs Go.RowKit Go.Shelf

attribute [local go_sem] Oper.semAt_some

def upto {α : Type} (f : Nat → α) (k : Nat) : List α := (List.range k).map f
theorem upto_succ {α : Type} (f : Nat → α) (k : Nat) : upto f (k + 1) = upto f k ++ [f k] := by simp [upto, List.range_succ]
theorem upto_length {α : Type} (f : Nat → α) (k : Nat) : (upto f k).length = k := by simp [upto]

set_option maxRecDepth 100000 in
set_option maxHeartbeats 2000000 in
theorem back1_in (F : Fence) (n : Nat) (h8 : F.fn 72) (hro : F.round = none) (hn : 1 ≤ n) (l Bs n₀ b off len cap : Nat) (zs : List ByteArray) (hreach : len ≤ 1000) (hb : b < n₀) (hbs : Bs < n₀) (J Jx : List (Nat × ByteArray) → World → Prop)
    (hY : ∀ pre x W, J pre W → pre.length < len → YieldAt F (n - 1) Tryz.prog l #[.int .i64 (x.1 : Int), .string x.2] W fun e W' =>
      (e = .returned (.bool true) ∧ J (pre ++ [x]) W' ∧ Below n₀ W W') ∨ (e = .returned (.bool false) ∧ Jx (pre ++ [x]) W'))
    (W : World) (hBs : W.cell? ⟨Bs, 0, none⟩ = some (.slice (some ⟨b, off, none⟩) len cap)) (hc : ∀ j, j < len → W.cell? ⟨b, off + j, none⟩ = some (.string (zs[j]?.getD ByteArray.empty))) (h0 : J [] W) :
    CallsIn F n Tryz.prog 72 #[.func (.yield l) #[] #[], .pointer (some ⟨Bs, 0, none⟩)] W fun e W' => (∃ v, e = .returned v) ∧
      ((∃ ys, ys = upto (fun j => (len - 1 - j, zs[len - 1 - j]?.getD ByteArray.empty)) len ∧ J ys W') ∨ (∃ pre, (∃ k, k ≤ len ∧ pre = upto (fun j => (len - 1 - j, zs[len - 1 - j]?.getD ByteArray.empty)) k) ∧ Jx pre W')) := by
  refine callsIn_of_wp Tryz.func72 rfl h8 ?_ hro
  simp only [Tryz.ntmps72, List.size_toArray, List.length_cons, List.length_nil, Nat.reduceAdd, Nat.reduceSub, Array.replicate_succ, Array.replicate_zero, List.push_toArray, List.append_toArray, List.nil_append, List.cons_append]
  gi_wp2
  gi_loopw [3] (fun i wr => ∃ k : Nat, k ≤ len ∧ i = .int .i64 ((len : Int) - 1 - k) ∧ J (upto (fun j => (len - 1 - j, zs[len - 1 - j]?.getD ByteArray.empty)) k) wr ∧ Below n₀ W wr)
    (fun i _ => (intOf i + 1).toNat)
  case atStart => exact ⟨0, Nat.zero_le _, by simp, h0, Below.refl _ _⟩
  case round =>
    obtain ⟨k, hk, rfl, hJs, hnx⟩ := hrel
    have hBs' := (hnx.cell (p := ⟨Bs, 0, none⟩) hbs).trans hBs
    by_cases hlt : k < len
    · have hcx : wr.cell? ⟨b, off + (len - 1 - k), none⟩ = some (.string (zs[len - 1 - k]?.getD ByteArray.empty)) := (hnx.cell (p := ⟨b, off + (len - 1 - k), none⟩) hb).trans (hc _ (by omega))
      obtain ⟨fn, tmps, assign, body, hy, hR⟩ := hY _ (len - 1 - k, zs[len - 1 - k]?.getD ByteArray.empty) wr hJs (by rw [upto_length]; exact hlt)
      dsimp only at hy
      obtain ⟨i, hi⟩ : ∃ i : Nat, len - 1 - k = i := ⟨_, rfl⟩
      have hi2 : (len : Int) - 1 - k = (i : Int) := by omega
      rw [hi] at hcx hy
      rw [hi2]
      have h1 : i < len := by omega
      gi_wp2
      refine hR.mono ?_
      rintro e W3 (⟨rfl, hJ3, hk3⟩ | ⟨rfl, hJx3⟩)
      · gi_wp2
        go_roundw
        case rel => exact ⟨k + 1, by omega, by simp; omega, by rw [upto_succ]; exact hJ3, hnx.trans hk3⟩
        case measure => simp [intOf]
      · gi_wp2
        refine bodyPost_ret (results_none rfl _ _ _) rfl ?_
        exact ⟨⟨_, rfl⟩, .inr ⟨_, ⟨k + 1, by omega, (upto_succ _ _).symm⟩, hJx3⟩⟩
    · obtain rfl : k = len := by omega
      gi_wp2
      go_end0
      exact ⟨⟨_, rfl⟩, .inl ⟨_, rfl, hJs⟩⟩
theorem back_stops (F : Fence) (n : Nat) (h8 : F.fn 72) (hro : F.round = none) (hn : 1 ≤ n) (Bs n₀ b off cap : Nat) (zs : List ByteArray) (hreach : zs.length ≤ 1000) (hb : b < n₀) (hbs : Bs < n₀) (w : World) (hn₀ : n₀ ≤ w.heap.size)
    (hcs : w.cell? ⟨Bs, 0, none⟩ = some (.slice (some ⟨b, off, none⟩) zs.length cap)) (hc : ∀ j, j < zs.length → w.cell? ⟨b, off + j, none⟩ = some (.string (zs[j]?.getD ByteArray.empty))) :
    SeqStopsK F n Tryz.prog 72 #[.pointer (some ⟨Bs, 0, none⟩)] (fun x : Nat × ByteArray => #[Value.int .i64 (x.1 : Int), Value.string x.2]) (Below n₀) (fun ys => ys = upto (fun j => (zs.length - 1 - j, zs[zs.length - 1 - j]?.getD ByteArray.empty)) zs.length)
      (fun pre => ∃ k, k ≤ zs.length ∧ pre = upto (fun j => (zs.length - 1 - j, zs[zs.length - 1 - j]?.getD ByteArray.empty)) k) zs.length w := fun l J Jx W hW _ _ hY h0 =>
  back1_in F n h8 hro hn l Bs n₀ b off zs.length cap zs hreach hb hbs J Jx hY W ((hW.cell (p := ⟨Bs, 0, none⟩) (by show Bs < _; omega)).trans hcs) (fun j hj => (hW.cell (p := ⟨b, off + j, none⟩) (by show b < _; omega)).trans (hc j hj)) h0
set_option maxHeartbeats 1000000 in
theorem back_in (F : Fence) (n : Nat) (h5 : F.fn 54) (hro : F.round = none) (a : Option Addr) (len cap : Nat) (w : World) :
    CallsIn F n Tryz.prog 54 #[.slice a len cap] w fun e w' => e = .returned (.func (.func 72) #[] #[.pointer (some ⟨w.heap.size, 0, none⟩)]) ∧ w' = w.alloc (.cells #[.slice a len cap] 35) := by
  refine callsIn_of_wp Tryz.func54 rfl h5 ?_ hro
  simp only [Tryz.ntmps54, List.size_toArray, List.length_cons, List.length_nil, Nat.reduceAdd, Nat.reduceSub, Array.replicate_succ, Array.replicate_zero, List.push_toArray, List.append_toArray, List.nil_append, List.cons_append]
  gi_wp2
  go_ret
  exact ⟨rfl, rfl⟩
def syms : List ByteArray := [⟨#[40]⟩, ⟨#[41]⟩, ⟨#[42]⟩, ⟨#[43]⟩, ⟨#[44]⟩, ⟨#[45]⟩, ⟨#[46]⟩, ⟨#[59]⟩, ⟨#[60]⟩, ⟨#[60, 61]⟩, ⟨#[60, 62]⟩, ⟨#[61]⟩, ⟨#[62]⟩, ⟨#[62, 61]⟩, ⟨#[124, 124]⟩]
def symsW (w : World) : World := w.alloc (.cells (syms.map Value.string).toArray 9)
set_option maxHeartbeats 1000000 in
theorem syms_in (F : Fence) (n : Nat) (h5 : F.fn 21) (hro : F.round = none) (w : World) :
    CallsIn F n Tryz.prog 21 #[] w fun e w' => e = .returned (.slice (some ⟨w.heap.size, 0, none⟩) 15 15) ∧ w' = symsW w := by
  refine callsIn_of_wp Tryz.func21 rfl h5 ?_ hro
  simp only [Tryz.ntmps21, List.size_toArray, List.length_cons, List.length_nil, Nat.reduceAdd, Nat.reduceSub, Array.replicate_succ, Array.replicate_zero, List.push_toArray, List.append_toArray, List.nil_append, List.cons_append]
  gi_wp2
  go_ret
  exact ⟨rfl, rfl⟩
end Go.Vm
