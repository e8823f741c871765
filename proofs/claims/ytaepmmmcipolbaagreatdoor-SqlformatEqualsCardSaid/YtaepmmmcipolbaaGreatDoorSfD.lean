/- Chapter 24: expressions as data; which are valid, what their texts are. -/
import Derived.Test.YtaepmmmcipolbaaGreatDoorSfV
set_option linter.unusedVariables false
set_option linter.unusedSimpArgs false
set_option maxRecDepth 100000
namespace Go.Vm
open Go

/-- An expression: kind, value, table, name, operator, function, arguments (none: a nil slice; some b: a slice of that kind). -/
inductive Tr where
  | mk (k : Int) (v : Val) (tb nm : List UInt8) (op fn : Int) (fl : Option Bool) (xs : List Tr)
instance : Inhabited Tr := ⟨.mk 0 ⟨0, 0, []⟩ [] [] 0 0 none []⟩
def slSV : Option Bool → List (List SV) → SV
  | none, [] => .nils
  | none, c :: r => .slice (c :: r) false
  | some b, r => .slice r b
mutual
def Tr.row : Tr → List SV
  | .mk k v tb nm op fn fl xs => [.int .i64 k, .int .i64 v.kind, .int .i64 v.n, .str v.text, .str tb, .str nm, .int .i64 op, .int .i64 fn, slSV fl (Tr.rows xs)]
def Tr.rows : List Tr → List (List SV)
  | [] => []
  | t :: r => t.row :: Tr.rows r
end
theorem rows_map : ∀ l : List Tr, Tr.rows l = l.map Tr.row
  | [] => by rw [Tr.rows]; rfl
  | t :: r => by rw [Tr.rows, rows_map r]; rfl
def mkS {α : Type} : Option Bool → List α → Slc α
  | none, [] => .nil
  | none, c :: r => .mk (c :: r) false
  | some b, r => .mk r b
theorem mkS_l {α : Type} (fl : Option Bool) (l : List α) : (mkS fl l).l = l := by
  cases fl with
  | none => cases l <;> rfl
  | some b => rfl
theorem mkS_sv {α : Type} {f : α → List SV} (fl : Option Bool) (l : List α) : (mkS fl l).sv f = slSV fl (l.map f) := by
  cases fl with
  | none => cases l <;> rfl
  | some b => rfl
theorem row_mk {k v tb nm op fn fl xs} : (Tr.mk k v tb nm op fn fl xs).row = [.int .i64 k, .int .i64 v.kind, .int .i64 v.n, .str v.text, .str tb, .str nm, .int .i64 op, .int .i64 fn, (mkS fl xs).sv Tr.row] := by
  rw [Tr.row, rows_map, mkS_sv]
def Tr.args : Tr → List Tr
  | .mk _ _ _ _ _ _ _ xs => xs
/-! ### equality -/
mutual
def eqT : Tr → Tr → Bool
  | .mk k v tb nm op fn _ xs, .mk k' v' tb' nm' op' fn' _ xs' => decide (k = k') && decide (v = v') && decide (tb = tb') && decide (nm = nm') && decide (op = op') && decide (fn = fn') && eqL xs xs'
def eqL : List Tr → List Tr → Bool
  | [], [] => true
  | a :: r, b :: r' => eqT a b && eqL r r'
  | [], _ :: _ => false
  | _ :: _, [] => false
end
/-! ### names -/
def isLow (b : UInt8) : Bool := decide (97 ≤ b.toNat) && decide (b.toNat ≤ 122)
def nmB (b : UInt8) : Bool := isLow b || isDig b || decide (b = 95)
def nameV (s : List UInt8) : Bool := !decide (s = []) && decide (s.length ≤ 31) && isLow (s.getD 0 0) && !isKw s && s.all nmB
def optV (s : List UInt8) : Bool := decide (s = []) || nameV s
/-! ### validity -/
def arI (op : Int) : Nat := if op = 3 ∨ op = 13 then 1 else 2
def vldB (k : Int) (v : Val) (tb nm : List UInt8) (op fn : Int) (n : Nat) (va : Bool) : Bool :=
  if k = 0 then validV v && decide (0 ≤ v.n) && decide (tb = []) && decide (nm = []) && decide (op = 0) && decide (fn = 0) && decide (n = 0)
  else if k = 1 then nameV nm && optV tb && decide (v = vz) && decide (op = 0) && decide (fn = 0) && decide (n = 0)
  else if k = 2 then decide (0 ≤ op) && decide (op ≤ 13) && decide (n = arI op) && va && decide (v = vz) && decide (tb = []) && decide (nm = []) && decide (fn = 0)
  else false
mutual
def vld : Tr → Bool
  | .mk k v tb nm op fn _ xs => vldB k v tb nm op fn xs.length (vldL xs)
def vldL : List Tr → Bool
  | [] => true
  | a :: r => vld a && vldL r
end
theorem vldL_all : ∀ l : List Tr, vldL l = l.all vld
  | [] => by rw [vldL]; rfl
  | a :: r => by rw [vldL, vldL_all r, List.all_cons]
def cal : Tr → Bool
  | .mk k v tb nm op fn _ xs => decide (k = 3) && decide (0 ≤ fn) && decide (fn ≤ 3) && decide (xs.length ≤ 1) && vldL xs && (decide (xs.length = 1) || decide (fn = 0)) && decide (v = vz) && decide (tb = []) && decide (nm = []) && decide (op = 0)
/-! ### texts -/
def lvO (op : Int) : Int := if op = 12 then 1 else if op = 11 then 2 else if op = 13 then 3 else if op = 0 ∨ op = 1 ∨ op = 4 then 5 else if op = 2 then 6 else if op = 3 then 7 else 4
def lvl : Tr → Int
  | .mk k _ _ _ op _ _ _ => if k = 2 then lvO op else 8
def symT : List (List UInt8) := [[43], [45], [42], [45], [124, 124], [61], [60, 62], [60], [60, 61], [62], [62, 61], [65, 78, 68], [79, 82], [78, 79, 84]]
def fnT : List (List UInt8) := [[67, 79, 85, 78, 84], [83, 85, 77], [77, 73, 78], [77, 65, 88]]
def atP (p : Int × List UInt8) (req : Int) : List UInt8 := if p.1 < req then 40 :: (p.2 ++ [41]) else p.2
def notT : List UInt8 := [78, 79, 84, 32]
/-- The text of an operation out of its arguments' levels and texts. -/
def opT (op : Int) (ps : List (Int × List UInt8)) : List UInt8 :=
  if op = 13 then notT ++ atP (ps.getD 0 (0, [])) (lvO op) else if op = 3 then 45 :: atP (ps.getD 0 (0, [])) 8 else
  atP (ps.getD 0 (0, [])) (if lvO op = 4 then 5 else lvO op) ++ [32] ++ symT.getD op.toNat [] ++ [32] ++ atP (ps.getD 1 (0, [])) (lvO op + 1)
def txtB (k : Int) (v : Val) (tb nm : List UInt8) (op fn : Int) (ps : List (Int × List UInt8)) : List UInt8 :=
  if k = 0 then fmtV v else if k = 1 then (if tb = [] then nm else tb ++ [46] ++ nm) else
  if k = 3 then fnT.getD fn.toNat [] ++ (match ps with
    | [] => [40, 42, 41]
    | p :: _ => 40 :: (p.2 ++ [41])) else opT op ps
mutual
def txt : Tr → List UInt8
  | .mk k v tb nm op fn _ xs => txtB k v tb nm op fn (ptx xs)
def ptx : List Tr → List (Int × List UInt8)
  | [] => []
  | a :: r => (lvl a, txt a) :: ptx r
end
theorem ptx_map : ∀ l : List Tr, ptx l = l.map fun a => (lvl a, txt a)
  | [] => by rw [ptx]; rfl
  | a :: r => by rw [ptx, ptx_map r]; rfl
def exprV (t : Tr) : List UInt8 := if vld t || cal t then txt t else []
/-! ### sizes -/
mutual
def cnt : Tr → Nat
  | .mk _ _ _ _ _ _ _ xs => cntL xs + 1
def cntL : List Tr → Nat
  | [] => 0
  | a :: r => cnt a + cntL r
end
theorem cnt_pos (t : Tr) : 1 ≤ cnt t := by cases t; rw [cnt]; omega
theorem cntL_len : ∀ l : List Tr, l.length ≤ cntL l
  | [] => Nat.zero_le _
  | a :: r => by
    rw [cntL, List.length_cons]
    have := cnt_pos a
    have := cntL_len r
    omega
theorem cnt_mem : ∀ {l : List Tr} {a : Tr}, a ∈ l → cnt a ≤ cntL l
  | b :: r, a, h => by
    rw [cntL]
    rcases List.mem_cons.1 h with rfl | h
    · omega
    · have := cnt_mem h; omega
/-- What is left of a budget of nodes: as the reference counts. -/
def nodeC (v : Val) (tb nm : List UInt8) (b : Int) : Int := IntKind.i64.wrap (b - IntKind.i64.wrap (1 + (IntKind.i64.wrap (IntKind.i64.wrap ((nm.length : Int) + tb.length) + v.text.length)).tdiv 40))
mutual
def nod : Tr → Int → Int
  | .mk _ v tb nm _ _ _ xs, b => nodL xs (nodeC v tb nm b)
def nodL : List Tr → Int → Int
  | [], b => b
  | a :: r, b => if b < 0 then b else nodL r (nod a b)
end
end Go.Vm
