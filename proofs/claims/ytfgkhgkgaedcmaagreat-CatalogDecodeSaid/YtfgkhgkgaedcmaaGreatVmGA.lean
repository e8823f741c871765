/- An abstract machine over values: slices that are only read stand as lists, what is written lies in numbered objects. Definitions. -/
import Derived.WalkKit
import Derived.Orders
import Derived.Laws.StructEq
section
set_option linter.unusedVariables false
namespace Go.Vm

/-- Values that hold nothing that can be written. -/
inductive SV where
  | bool (b : Bool)
  | int (k : IntKind) (n : Int)
  | str (l : List UInt8)
  | nilp
  | nils
  | nilf
  | nili
  | nilm
  | func (f : FuncId)
  | iface (t : TypeId) (v : SV)
  | slice (es : List (List SV)) (full : Bool)
  deriving Inhabited

/-- Values of a running call. -/
inductive PV where
  | s (v : SV)
  | ptr (id off : Nat)
  | eptr (es : List (List SV)) (i off : Nat)
  | aptr (id ver i off : Nat)
  | hsl (id ver off n : Nat)
  | func (f : FuncId) (first captured : List PV)
  | iface (t : TypeId) (v : PV)
  | map (id : Nat)
  | agg (cs : List PV)
  | tuple (vs : List PV)
  deriving Inhabited

def PV.undef : PV := .tuple []
abbrev PV.bool (b : Bool) : PV := .s (.bool b)
abbrev PV.int (k : IntKind) (n : Int) : PV := .s (.int k n)
abbrev PV.i64 (n : Int) : PV := .s (.int .i64 n)
abbrev PV.str (l : List UInt8) : PV := .s (.str l)
def PV.cells : PV → List PV
  | .agg cs => cs
  | v => [v]
/-- A struct of unwritten cells. -/
def PV.st (l : List SV) : PV := .agg (l.map .s)

/-- Objects that can be written. -/
inductive HObj where
  | dead
  | box (ty : TypeId) (cells : List PV)
  | sarr (ty : TypeId) (sz ver : Nat) (fz ap : Bool) (es : List (List SV))
  | map (es : List (SV × SV))
  deriving Inhabited

def HObj.alive : HObj → Bool
  | .dead => false
  | _ => true
/-- The objects by their numbers. -/
abbrev Ob := Nat → HObj
def Ob.set (H : Ob) (id : Nat) (o : HObj) : Ob := fun j => if j = id then o else H j
def Ob.of (l : List HObj) : Ob := fun j => l.getD j .dead

structure St where
  T : Nat → PV
  H : Ob
  next : Nat
def upd (T : Nat → PV) (i : Nat) (v : PV) : Nat → PV := fun j => if j = i then v else T j
def enter (args : List PV) : Nat → PV := fun i => args.getD i .undef

inductive Ex where
  | normal
  | exit (id : Nat)
  | ret
  | panic (v : PV)

inductive Out where
  | ret (v : PV)
  | panic (v : PV)

/-! ### constants and types -/
def ofScalar : Value → Option SV
  | .bool b => some (.bool b)
  | .int k n => some (.int k n)
  | .string s => some (.str s.data.toList)
  | .pointer none => some .nilp
  | .slice none 0 0 => some .nils
  | .nilFunc => some .nilf
  | .nilIface => some .nili
  | .map none => some .nilm
  | _ => none
def ofScalars : List Value → Option (List SV)
  | [] => some []
  | v :: r => match ofScalar v, ofScalars r with
    | some p, some q => some (p :: q)
    | _, _ => none
def ofConst : Value → Option PV
  | .agg cs => match ofScalars cs.toList with
    | some l => some (.st l)
    | none => none
  | v => match ofScalar v with
    | some p => some (.s p)
    | none => none

/-- What the machine asks of a type. -/
structure TI where
  agg : Bool
  size : Nat
  bytes : Nat
  zero : List SV
def isAggD : TypeDesc → Bool
  | .struct _ => true
  | .array _ _ => true
  | _ => false
def isAggV : Value → Bool
  | .agg _ => true
  | _ => false
def ti (P : Program) (t : TypeId) : Option TI :=
  match P.info? t, P.underlying t with
  | some i, some d => match i.zero with
    | some z => match ofScalars z.cells.toList with
      | some l => if l.length = i.size ∧ isAggV z = isAggD d then some { agg := isAggD d, size := i.size, bytes := i.bytes, zero := l } else none
      | none => none
    | none => none
  | _, _ => none
/-- A field's place and type; fields without cells are not served. -/
def fo (P : Program) (t : TypeId) (f : Nat) : Option (Nat × TypeId) :=
  match P.underlying t with
  | some (.struct fields) => match fields[f]? with
    | some x => match P.info? x.type with
      | some i => if i.size = 0 then none else some (x.offset, x.type)
      | none => none
    | none => none
  | _ => none
def elemT (P : Program) (t : TypeId) : Option TypeId :=
  match P.underlying t with
  | some (.slice e) => some e
  | _ => none
def arrT (P : Program) (t : TypeId) : Option (Nat × TypeId) :=
  match P.underlying t with
  | some (.array n e) => some (n, e)
  | _ => none
def isStringT (P : Program) (t : TypeId) : Bool :=
  match P.underlying t with
  | some .string => true
  | _ => false
def isBoolT (P : Program) (t : TypeId) : Bool :=
  match P.underlying t with
  | some .bool => true
  | _ => false
def isMapT (P : Program) (t : TypeId) : Option (TypeId × TypeId) :=
  match P.underlying t with
  | some (.map k e) => some (k, e)
  | _ => none
def intT (P : Program) (t : TypeId) : Option IntKind :=
  match P.underlying t with
  | some (.int k) => some k
  | _ => none
def isSliceT (P : Program) (t : TypeId) : Bool := (elemT P t).isSome

structure Env where
  P : Program
  ext : FuncId → Option (List PV → Option PV)
  ref : FuncId → Bool
  use : FuncId → Bool
  dyn : FuncId → Bool
  G : Nat → Option PV
  loc : FuncId → Bool := fun _ => false

/-! ### values out of objects; freezing -/
def toSVs : List PV → Option (List SV)
  | [] => some []
  | .s v :: r => match toSVs r with
    | some q => some (v :: q)
    | none => none
  | _ :: _ => none
/-- The rows of a heap slice. -/
def rowsOf (H : Ob) : PV → Option (List (List SV))
  | .s .nils => some []
  | .s (.slice es _) => some es
  | .s (.str l) => some (l.map fun b => [.int .u8 b.toNat])
  | .hsl id ver off n => match H id with
    | .sarr _ _ v _ _ es => if v = ver ∧ off + n ≤ es.length then some ((es.drop off).take n) else none
    | _ => none
  | _ => none
def freeze1 (H : Ob) (id : Nat) : Ob :=
  match H id with
  | .sarr ty sz v _ ap es => H.set id (.sarr ty sz v true ap es)
  | _ => H
/-- A value by its content alone: slices in objects become lists (the objects are frozen). -/
def thaw (H : Ob) : PV → Option (SV × Ob)
  | .s v => some (v, H)
  | .hsl id ver off n => match rowsOf H (.hsl id ver off n) with
    | some es => some (.slice es false, freeze1 H id)
    | none => none
  | .func f [] [] => some (.func f, H)
  | _ => none
def thaws (H : Ob) : List PV → Option (List SV × Ob)
  | [] => some ([], H)
  | p :: r => match thaw H p with
    | some (v, H1) => match thaws H1 r with
      | some (q, H2) => some (v :: q, H2)
      | none => none
    | none => none

/-! ### operations on unwritten values -/
def bytesLt : List UInt8 → List UInt8 → Bool := Op.bytesLess
def binInt (op : BinOp) (k : IntKind) (a : Int) (k' : IntKind) (b : Int) : Option SV :=
  match op with
  | .shl => if b < 0 then none else some (.int k (k.wrap (a * 2 ^ (min b.toNat k.bits))))
  | .shr => if b < 0 then none else some (.int k (a.fdiv (2 ^ (min b.toNat k.bits))))
  | .add => if k = k' then some (.int k (k.wrap (a + b))) else none
  | .sub => if k = k' then some (.int k (k.wrap (a - b))) else none
  | .mul => if k = k' then some (.int k (k.wrap (a * b))) else none
  | .quo => if k = k' ∧ b ≠ 0 then some (.int k (k.wrap (a.tdiv b))) else none
  | .rem => if k = k' ∧ b ≠ 0 then some (.int k (a.tmod b)) else none
  | .and => if k = k' then some (.int k (k.wrap ((BitVec.ofInt k.bits a &&& BitVec.ofInt k.bits b).toNat))) else none
  | .or => if k = k' then some (.int k (k.wrap ((BitVec.ofInt k.bits a ||| BitVec.ofInt k.bits b).toNat))) else none
  | .xor => if k = k' then some (.int k (k.wrap ((BitVec.ofInt k.bits a ^^^ BitVec.ofInt k.bits b).toNat))) else none
  | .andNot => if k = k' then some (.int k (k.wrap ((BitVec.ofInt k.bits a &&& ~~~ BitVec.ofInt k.bits b).toNat))) else none
  | .eql => if k = k' then some (.bool (decide (a = b))) else none
  | .neq => if k = k' then some (.bool (!decide (a = b))) else none
  | .lss => if k = k' then some (.bool (decide (a < b))) else none
  | .leq => if k = k' then some (.bool (decide (a ≤ b))) else none
  | .gtr => if k = k' then some (.bool (decide (b < a))) else none
  | .geq => if k = k' then some (.bool (decide (b ≤ a))) else none
def binStr (op : BinOp) (a b : List UInt8) : Option SV :=
  match op with
  | .add => if a.length + b.length ≤ 9223372036854775807 then some (.str (a ++ b)) else none
  | .eql => some (.bool (decide (a = b)))
  | .neq => some (.bool (!decide (a = b)))
  | .lss => some (.bool (bytesLt a b))
  | .leq => some (.bool (bytesLt a b || decide (a = b)))
  | .gtr => some (.bool (!(bytesLt a b || decide (a = b))))
  | .geq => some (.bool (!bytesLt a b))
  | _ => none
/-- '==' on two values that are no numbers and no strings, by their type. -/
def eqOther (P : Program) (t : TypeId) : PV → PV → Option Bool
  | .s (.bool a), .s (.bool b) => if isBoolT P t then some (a == b) else none
  | .s .nils, .s .nils => if isSliceT P t then some true else none
  | .s (.slice _ _), .s .nils => if isSliceT P t then some false else none
  | .s .nils, .s (.slice _ _) => if isSliceT P t then some false else none
  | _, _ => none
/-- The kinds of a struct's cells, where each is a number, a text or a bool and no name is blank: 0 a bool, 1 a number, 2 a text. -/
def flatKind (P : Program) (t : TypeId) : Option Nat :=
  match P.underlying t with
  | some .bool => some 0
  | some (.int _) => some 1
  | some .string => some 2
  | _ => none
def flatFields (P : Program) : List Field → Nat → Option (List Nat)
  | [], _ => some []
  | f :: r, i => if f.offset = i ∧ f.name ≠ "_" then match flatKind P f.type, flatFields P r (i + 1) with
      | some k, some q => some (k :: q)
      | _, _ => none
    else none
def flatEq (P : Program) (t : TypeId) : Option (List Nat) :=
  match P.underlying t with
  | some (.struct fields) => if P.stoodInHeld t || P.eqGuardType P.depth t then none else flatFields P fields.toList 0
  | _ => none
def svEq : Nat → SV → SV → Option Bool
  | 0, .bool a, .bool b => some (decide (a = b))
  | 1, .int k a, .int k' b => if k = k' then some (decide (a = b)) else none
  | 2, .str a, .str b => some (decide (a = b))
  | _, _, _ => none
def svEqs : List Nat → List SV → List SV → Option Bool
  | [], [], [] => some true
  | k :: ks, a :: as, b :: bs => match svEq k a b, svEqs ks as bs with
    | some x, some y => some (x && y)
    | _, _ => none
  | _, _, _ => none
def eqAgg (P : Program) (t : TypeId) (a b : List PV) : Option Bool :=
  match flatEq P t, toSVs a, toSVs b with
  | some ks, some x, some y => svEqs ks x y
  | _, _, _ => none
def binOpS (P : Program) (op : BinOp) (t : TypeId) : PV → PV → Option PV
  | .s (.int k a), .s (.int k' b) => match binInt op k a k' b with
    | some v => some (.s v)
    | none => none
  | .s (.str a), .s (.str b) => match binStr op a b with
    | some v => some (.s v)
    | none => none
  | .agg a, .agg b => match op, eqAgg P t a b with
    | .eql, some r => some (.s (.bool r))
    | .neq, some r => some (.s (.bool (!r)))
    | _, _ => none
  | x, y => match op, eqOther P t x y with
    | .eql, some r => some (.s (.bool r))
    | .neq, some r => some (.s (.bool (!r)))
    | _, _ => none
def isIfaceT (P : Program) (t : TypeId) : Bool :=
  match P.underlying t with
  | some (.interface _) => true
  | _ => false
def isPtrT (P : Program) (t : TypeId) : Bool :=
  match P.underlying t with
  | some (.pointer _) => true
  | _ => false
/-- Is the operand a constant? -/
def litO : Operand → Bool
  | .const _ => true
  | _ => false
/-- Is it nil? By the kind of the type: 0 an interface, 1 a pointer. -/
def isNil : Nat → PV → Option Bool
  | 0, .s .nili => some true
  | 0, .s (.iface _ _) => some false
  | 0, .iface _ _ => some false
  | 1, .s .nilp => some true
  | 1, .ptr _ _ => some false
  | 1, .eptr _ _ _ => some false
  | _, _ => none
def nilK (P : Program) (t : TypeId) : Option Nat := if isIfaceT P t = true then some 0 else if isPtrT P t = true then some 1 else none
def eqNil (P : Program) (t : TypeId) (x y : PV) : Option Bool :=
  match y with
  | .s .nili => if nilK P t = some 0 then isNil 0 x else none
  | .s .nilp => if nilK P t = some 1 then isNil 1 x else none
  | _ => none
/-- A comparison, where the second operand may be the literal nil. -/
def binOpL (P : Program) (op : BinOp) (t : TypeId) (lit : Bool) (x y : PV) : Option PV :=
  match binOpS P op t x y with
  | some v => some v
  | none => if lit = true then match op, eqNil P t x y with
      | .eql, some r => some (.s (.bool r))
      | .neq, some r => some (.s (.bool (!r)))
      | _, _ => none
    else none
def unOpS (op : UnOp) : PV → Option PV
  | .s (.bool b) => match op with
    | .not => some (.s (.bool (!b)))
    | _ => none
  | .s (.int k n) => match op with
    | .neg => some (.s (.int k (k.wrap (0 - n))))
    | .xor => some (.s (.int k (k.wrap ((BitVec.ofInt k.bits (if k.signed then -1 else k.max) ^^^ BitVec.ofInt k.bits n).toNat))))
    | _ => none
  | _ => none

/-! ### memory -/
def setCells {α : Type} (c : List α) (off : Nat) : List α → List α
  | [] => c
  | v :: vs => setCells (c.set off v) (off + 1) vs
def cellOk : PV → Bool
  | .agg _ => false
  | .tuple _ => false
  | _ => true
def loadS (agg : Bool) (size : Nat) (c : List SV) (off : Nat) : Option PV :=
  if agg then if off + size ≤ c.length then some (.st ((c.drop off).take size)) else none
  else match c[off]? with
    | some v => some (.s v)
    | none => none
def loadP (agg : Bool) (size : Nat) (c : List PV) (off : Nat) : Option PV :=
  if agg then if off + size ≤ c.length then some (.agg ((c.drop off).take size)) else none
  else c[off]?
def loadO (P : Program) (t : TypeId) (H : Ob) : PV → Option PV
  | .ptr id off => match ti P t, H id with
    | some x, .box _ cells => loadP x.agg x.size cells off
    | _, _ => none
  | .eptr es i off => match ti P t, es[i]? with
    | some x, some c => loadS x.agg x.size c off
    | _, _ => none
  | .aptr id ver i off => match ti P t, H id with
    | some x, .sarr _ _ v _ _ es => if v = ver then match es[i]? with
        | some c => loadS x.agg x.size c off
        | none => none
      else none
    | _, _ => none
  | _ => none
def storeO (P : Program) (t : TypeId) (H : Ob) (p x : PV) : Option Ob :=
  match p with
  | .ptr id off => match ti P t, H id with
    | some y, .box ty cells => if x.cells.length = y.size ∧ off + y.size ≤ cells.length ∧ x.cells.all cellOk = true then some (H.set id (.box ty (setCells cells off x.cells))) else none
    | _, _ => none
  | .aptr id ver i off => match ti P t, H id, thaws H x.cells with
    | some y, .sarr ty sz v false ap es, some (xs, _) => match toSVs x.cells with
      | some xs => if v = ver ∧ xs.length = y.size then match es[i]? with
          | some c => if off + y.size ≤ c.length then some (H.set id (.sarr ty sz v false ap (es.set i (setCells c off xs)))) else none
          | none => none
        else none
      | none => none
    | _, _, _ => none
  | _ => none
def boxO (H : Ob) (nid : Nat) (t : TypeId) (x : PV) : Option (PV × Ob) :=
  if x.cells.all cellOk = true then some (.ptr nid 0, H.set nid (.box t x.cells)) else none
def allocO (P : Program) (H : Ob) (nid : Nat) (t : TypeId) : Option (PV × Ob) :=
  match ti P t with
  | some y => some (.ptr nid 0, H.set nid (.box t (y.zero.map .s)))
  | none => none
def fieldA (P : Program) (s : TypeId) (H : Ob) (f : Nat) : PV → Option PV
  | .ptr id off => match fo P s f with
    | some (o, _) => some (.ptr id (off + o))
    | none => none
  | .eptr es i off => match fo P s f with
    | some (o, _) => some (.eptr es i (off + o))
    | none => none
  | .aptr id ver i off => match fo P s f, H id with
    | some (o, _), .sarr _ _ v _ _ _ => if v = ver then some (.aptr id ver i (off + o)) else none
    | _, _ => none
  | _ => none
def fieldV (P : Program) (s : TypeId) (f : Nat) : PV → Option PV
  | .agg cs => match fo P s f with
    | some (o, t) => match ti P t with
      | some y => loadP y.agg y.size cs o
      | none => none
    | none => none
  | _ => none
def indexA (P : Program) (t : TypeId) (H : Ob) (x ix : PV) : Option PV :=
  match ix with
  | .s (.int _ i) => match x with
    | .s (.slice es _) => match elemT P t with
      | some e => match ti P e with
        | some y => if 0 ≤ i then match es[i.toNat]? with
            | some c => if c.length = y.size ∧ 0 < y.size then some (.eptr es i.toNat 0) else none
            | none => none
          else none
        | none => none
      | none => none
    | .hsl id ver off n => match elemT P t with
      | some e => match ti P e, H id with
        | some y, .sarr _ sz v _ _ es => if 0 ≤ i ∧ i < n ∧ v = ver ∧ sz = y.size ∧ off + n ≤ es.length then some (.aptr id ver (off + i.toNat) 0) else none
        | _, _ => none
      | none => none
    | .ptr id off => match arrT P t with
      | some (n, e) => match ti P e with
        | some y => if 0 ≤ i ∧ i < n ∧ 0 < y.size then some (.ptr id (off + i.toNat * y.size)) else none
        | none => none
      | none => none
    | .eptr es k off => match arrT P t with
      | some (n, e) => match ti P e with
        | some y => if 0 ≤ i ∧ i < n ∧ 0 < y.size then some (.eptr es k (off + i.toNat * y.size)) else none
        | none => none
      | none => none
    | _ => none
  | _ => none
def indexV (P : Program) (t : TypeId) (x ix : PV) : Option PV :=
  match ix, x with
  | .s (.int _ i), .s (.str l) => if isStringT P t = true ∧ 0 ≤ i then match l[i.toNat]? with
      | some b => some (.s (.int .u8 b.toNat))
      | none => none
    else none
  | .s (.int _ i), .agg cs => match arrT P t with
    | some (n, e) => match ti P e with
      | some y => if 0 ≤ i ∧ i < n then loadP y.agg y.size cs (i.toNat * y.size) else none
      | none => none
    | none => none
  | _, _ => none
/-- The bounds of a slice expression. -/
def bounds (len : Nat) (lo hi : Option PV) : Option (Nat × Nat) :=
  match (match hi with
    | none => some len
    | some (.s (.int _ h)) => if 0 ≤ h ∧ h ≤ len then some h.toNat else none
    | _ => none) with
  | some h => match lo with
    | none => some (0, h)
    | some (.s (.int _ l)) => if 0 ≤ l ∧ l ≤ h then some (l.toNat, h) else none
    | _ => none
  | none => none
def sliceV (P : Program) (t : TypeId) (H : Ob) (x : PV) (lo hi : Option PV) : Option PV :=
  match x with
  | .s (.str l) => if isStringT P t = true then match bounds l.length lo hi with
      | some (a, b) => some (.s (.str ((l.take b).drop a)))
      | none => none
    else none
  | .s .nils => match elemT P t with
    | some e => match ti P e with
      | some y => match bounds 0 lo hi with
        | some _ => some (.s .nils)
        | none => none
      | none => none
    | none => none
  | .s (.slice es full) => match elemT P t with
    | some e => match ti P e with
      | some y => match bounds es.length lo hi with
        | some (a, b) => if es.all (fun c => decide (c.length = y.size)) = true ∧ 0 < y.size then some (.s (.slice ((es.take b).drop a) (full && decide (b = es.length)))) else none
        | none => none
      | none => none
    | none => none
  | .hsl id ver off n => match elemT P t with
    | some e => match ti P e, H id with
      | some y, .sarr _ sz v _ _ es => if v = ver ∧ sz = y.size ∧ off + n ≤ es.length then match bounds n lo hi with
          | some (a, b) => if a = b ∧ a ≠ 0 then some (.s (.slice [] false)) else some (.hsl id ver (off + a) (b - a))
          | none => none
        else none
      | _, _ => none
    | none => none
  | _ => none
def lenV (P : Program) (t : TypeId) (H : Ob) : PV → Option PV
  | .s (.str l) => if isStringT P t = true then some (.i64 l.length) else none
  | .s .nils => if isSliceT P t = true then some (.i64 0) else none
  | .s (.slice es _) => if isSliceT P t = true then some (.i64 es.length) else none
  | .hsl id ver _ n => match H id with
    | .sarr _ _ v _ _ _ => if isSliceT P t = true ∧ v = ver then some (.i64 n) else none
    | _ => none
  | .map id => match H id, isMapT P t with
    | .map es, some _ => some (.i64 es.length)
    | _, _ => none
  | _ => none
/-- 'append(s, x...)': rows of one type. -/
def appendO (P : Program) (t t2 : TypeId) (H : Ob) (nid : Nat) (s x : PV) : Option (PV × Ob) :=
  match elemT P t, rowsOf H x with
  | some e, some new => match ti P e with
    | some y =>
      if new.all (fun c => decide (c.length = y.size)) = true ∧ 0 < y.size ∧ y.bytes ≤ 65536 ∧ (t2 = t ∨ (isStringT P t2 = true ∧ intT P e = some .u8)) then
        match s with
        | .s .nils => if new.length ≤ 1073741824 then if new.isEmpty = true then some (.s .nils, H) else some (.hsl nid 0 0 new.length, H.set nid (.sarr e y.size 0 false true new)) else none
        | .s (.slice es full) => if es.all (fun c => decide (c.length = y.size)) = true ∧ es.length + new.length ≤ 1073741824 then
            if new.isEmpty = true then some (.s (.slice es full), H)
            else if full = true then some (.hsl nid 0 0 (es.length + new.length), H.set nid (.sarr e y.size 0 false true (es ++ new))) else none
          else none
        | .hsl id ver off n => match H id with
          | .sarr ty sz v fz true es => if v = ver ∧ off = 0 ∧ n = es.length ∧ sz = y.size ∧ ty = e ∧ n + new.length ≤ 1073741824 then
              if new.isEmpty = true then some (.hsl id ver off n, H)
              else some (.hsl id (ver + 1) 0 (n + new.length), H.set id (.sarr ty sz (ver + 1) fz true (es ++ new)))
            else none
          | _ => none
        | _ => none
      else none
    | none => none
  | _, _ => none
/-- A composite literal: the zero value, then the parts. -/
def buildParts (P : Program) (t : TypeId) : List PV → List (Nat × PV) → Option (List PV)
  | c, [] => some c
  | c, (i, x) :: r => match fo P t i with
    | some (o, ft) => match ti P ft with
      | some y => if x.cells.length = y.size ∧ o + y.size ≤ c.length then buildParts P t (setCells c o x.cells) r else none
      | none => none
    | none => none
/-- A struct, each of whose fields' types is known. -/
def structOk (P : Program) (t : TypeId) : Bool :=
  match P.underlying t with
  | some (.struct fields) => fields.toList.all fun f => (P.info? f.type).isSome
  | _ => false
def buildV (P : Program) (t : TypeId) (parts : List (Nat × PV)) : Option PV :=
  match ti P t, structOk P t with
  | some y, true => match buildParts P t (y.zero.map .s) parts with
    | some c => some (.agg c)
    | none => none
  | _, _ => none
def rowParts (size : Nat) (H : Ob) : List (List SV) → List (Nat × PV) → Option (List (List SV) × Ob)
  | c, [] => some (c, H)
  | c, (i, x) :: r => match thaws H x.cells with
    | some (v, H1) => if v.length = size ∧ i < c.length then rowParts size H1 (c.set i v) r else none
    | none => none
def buildSliceO (P : Program) (t : TypeId) (H : Ob) (len : Nat) (parts : List (Nat × PV)) : Option (PV × Ob) :=
  match elemT P t with
  | some e => match ti P e with
    | some y => if len * y.size ≤ 16777216 ∧ 0 < y.size then match rowParts y.size H (List.replicate len y.zero) parts with
        | some (es, H1) => some (.s (.slice es true), H1)
        | none => none
      else none
    | none => none
  | none => none
def makeSliceO (P : Program) (t : TypeId) (H : Ob) (nid : Nat) (len cap : PV) : Option (PV × Ob) :=
  match elemT P t, len, cap with
  | some e, .s (.int _ l), .s (.int _ c) => match ti P e with
    | some y => if 0 ≤ l ∧ l ≤ c ∧ c ≤ 1073741824 ∧ y.bytes ≤ 65536 ∧ 0 < y.size then some (.hsl nid 0 0 l.toNat, H.set nid (.sarr e y.size 0 false true (List.replicate l.toNat y.zero))) else none
    | none => none
  | _, _, _ => none
def bytesOf : List (List SV) → Option (List UInt8)
  | [] => some []
  | [.int .u8 n] :: r => match bytesOf r with
    | some q => some (UInt8.ofNat n.toNat :: q)
    | none => none
  | _ => none
def convertO (P : Program) (src dst : TypeId) (H : Ob) (nid : Nat) (x : PV) : Option (PV × Ob) :=
  match x with
  | .s (.int _ n) => match intT P dst with
    | some k => some (.s (.int k (k.wrap n)), H)
    | none => none
  | .s (.str l) => if isStringT P dst = true then some (x, H) else
    match elemT P dst with
    | some e => if intT P e = some .u8 ∧ l.length ≤ 1073741824 then some (.hsl nid 0 0 l.length, H.set nid (.sarr e 1 0 false false (l.map fun b => [.int .u8 b.toNat]))) else none
    | none => none
  | _ => if isStringT P dst = true then match elemT P src with
      | some e => if intT P e = some .u8 then match rowsOf H x with
          | some rows => match bytesOf rows with
            | some l => some (.s (.str l), H)
            | none => none
          | none => none
        else none
      | none => none
    else none
def isIface (P : Program) (t : TypeId) : Bool :=
  match P.underlying t with
  | some (.interface _) => true
  | some _ => false
  | none => true
def ifaceV (P : Program) (t : TypeId) (x : PV) : Option PV :=
  if isIface P t = true then none else match x with
    | .s v => some (.s (.iface t v))
    | x => some (.iface t x)
def nilCheckV : PV → Option PV
  | .ptr id off => some (.ptr id off)
  | .eptr es i off => some (.eptr es i off)
  | .func f a b => some (.func f a b)
  | .s (.func f) => some (.s (.func f))
  | .s (.iface t v) => some (.s (.iface t v))
  | .iface t v => some (.iface t v)
  | _ => none
def extractV (i : Nat) : PV → Option PV
  | .tuple vs => vs[i]?
  | _ => none
def maxMin (mx : Bool) : PV → List PV → Option PV
  | x, [] => some x
  | .s (.int k a), .s (.int _ b) :: r => maxMin mx (.s (.int k (if mx then (if a < b then b else a) else (if b < a then b else a)))) r
  | _, _ => none
/-- Keys of a map: numbers and texts. -/
def keyEq : SV → SV → Option Bool
  | .int k a, .int k' b => if k = k' then some (decide (a = b)) else none
  | .str a, .str b => some (decide (a = b))
  | _, _ => none
def mapFind (k : SV) : List (SV × SV) → Nat → Option (Option (Nat × SV))
  | [], _ => some none
  | (q, v) :: r, i => match keyEq k q with
    | some true => some (some (i, v))
    | some false => mapFind k r (i + 1)
    | none => none
def keyT (P : Program) (t : TypeId) : Bool :=
  match P.underlying t with
  | some .string => true
  | some (.int _) => true
  | _ => false
/-- The key's kind is the map's. -/
def keyOk (P : Program) (t : TypeId) : SV → Bool
  | .int _ _ => match P.underlying t with
    | some (.int _) => true
    | _ => false
  | .str _ => match P.underlying t with
    | some .string => true
    | _ => false
  | _ => false
def lookupV (P : Program) (t : TypeId) (H : Ob) (m k : PV) (ok : Bool) : Option PV :=
  match m, k with
  | .map id, .s key => match H id, isMapT P t with
    | .map es, some (kt, et) => if keyT P kt = true ∧ keyOk P kt key = true then match mapFind key es 0, ti P et with
        | some (some (_, v)), some _ => some (if ok then .tuple [.s v, .bool true] else .s v)
        | some none, some y => match y.zero, y.agg with
          | [z], false => some (if ok then .tuple [.s z, .bool false] else .s z)
          | _, _ => none
        | _, _ => none
      else none
    | _, _ => none
  | _, _ => none
def mapUpdateO (P : Program) (t : TypeId) (H : Ob) (m k x : PV) : Option Ob :=
  match m, k, x with
  | .map id, .s key, .s v => match H id, isMapT P t with
    | .map es, some (kt, _) => if keyT P kt = true ∧ keyOk P kt key = true then match mapFind key es 0 with
        | some (some (i, _)) => some (H.set id (.map (es.set i (key, v))))
        | some none => some (H.set id (.map (es ++ [(key, v)])))
        | none => none
      else none
    | _, _ => none
  | _, _, _ => none
def typeAssertV (P : Program) (t : TypeId) (ok : Bool) (x : PV) : Option PV :=
  if isIface P t = true then none else match x with
    | .iface t' v => if t' = t then some (if ok then .tuple [v, .bool true] else v) else none
    | .s (.iface t' v) => if t' = t then some (if ok then .tuple [.s v, .bool true] else .s v) else none
    | _ => none

/-! ### one operation -/
def bnd {α β : Type} (o : Option α) (f : α → Option β) : Option β :=
  match o with
  | some a => f a
  | none => none
@[congr] theorem bnd_congr {α β : Type} {o o' : Option α} {f : α → Option β} (h : o = o') : bnd o f = bnd o' f := by rw [h]
theorem bnd_some {α β : Type} (a : α) (f : α → Option β) : bnd (some a) f = f a := rfl
theorem bnd_none {α β : Type} (f : α → Option β) : bnd none f = none := rfl
theorem bnd_eq_some {α β : Type} {o : Option α} {f : α → Option β} {r : β} : bnd o f = some r ↔ ∃ a, o = some a ∧ f a = some r := by cases o <;> simp [bnd]

def evalO (E : Env) (T : Nat → PV) : Operand → Option PV
  | .tmp t => some (T t)
  | .const v => ofConst v
  | .func f => some (.s (.func f))
  | .global g => E.G g
def evalL (E : Env) (T : Nat → PV) : List Operand → Option (List PV)
  | [] => some []
  | x :: r => bnd (evalO E T x) fun v => bnd (evalL E T r) fun q => some (v :: q)
def evalP (E : Env) (T : Nat → PV) : List (Nat × Operand) → Option (List (Nat × PV))
  | [] => some []
  | (i, x) :: r => bnd (evalO E T x) fun v => bnd (evalP E T r) fun q => some ((i, v) :: q)
def evalM (E : Env) (T : Nat → PV) : Option Operand → Option (Option PV)
  | none => some none
  | some x => bnd (evalO E T x) fun v => some (some v)
def pureR (H : Ob) (o : Option PV) : Option (PV × Ob) := bnd o fun v => some (v, H)
def unitR (o : Option Ob) : Option (PV × Ob) := bnd o fun H => some (.undef, H)

def builtinO (E : Env) (b : Builtin) (ts : List TypeId) (H : Ob) (nid : Nat) (args : List PV) : Option (PV × Ob) :=
  match b, ts, args with
  | .len, [t], [x] => pureR H (lenV E.P t H x)
  | .append, [t, t2], [s, x] => appendO E.P t t2 H nid s x
  | .max, _, x :: r => pureR H (maxMin true x r)
  | .min, _, x :: r => pureR H (maxMin false x r)
  | _, _, _ => none

def opStep (E : Env) (op : Op) (T : Nat → PV) (H : Ob) (nid : Nat) : Option (PV × Ob) :=
  match op with
  | .move x => pureR H (evalO E T x)
  | .assign x => pureR H (evalO E T x)
  | .pick c a b => bnd (evalO E T c) fun c => bnd (evalO E T a) fun a => bnd (evalO E T b) fun b => match c with
    | .s (.bool t) => some (if t then a else b, H)
    | _ => none
  | .alloc t => allocO E.P H nid t
  | .box t x => bnd (evalO E T x) fun x => boxO H nid t x
  | .build t ps => bnd (evalP E T ps.toList) fun ps => pureR H (buildV E.P t ps)
  | .buildSlice t n ps => bnd (evalP E T ps.toList) fun ps => buildSliceO E.P t H n ps
  | .load t a => bnd (evalO E T a) fun a => pureR H (loadO E.P t H a)
  | .store t a x => bnd (evalO E T a) fun a => bnd (evalO E T x) fun x => unitR (storeO E.P t H a x)
  | .nilCheck x => bnd (evalO E T x) fun x => pureR H (nilCheckV x)
  | .binOp op t x y0 _ => bnd (evalO E T x) fun x => bnd (evalO E T y0) fun y => pureR H (binOpL E.P op t (litO y0) x y)
  | .unOp op _ x => bnd (evalO E T x) fun x => pureR H (unOpS op x)
  | .convert s d x => bnd (evalO E T x) fun x => if (E.P.underlying s).isSome = true then convertO E.P s d H nid x else none
  | .makeInterface t x => bnd (evalO E T x) fun x => pureR H (ifaceV E.P t x)
  | .makeFunc (.func f) a b => bnd (evalL E T a.toList) fun a => bnd (evalL E T b.toList) fun b => some (.func f a b, H)
  | .makeMap t none => some (.map nid, H.set nid (.map []))
  | .makeSlice t l c => bnd (evalO E T l) fun l => bnd (evalO E T c) fun c => makeSliceO E.P t H nid l c
  | .slice t x l h none => bnd (evalO E T x) fun x => bnd (evalM E T l) fun l => bnd (evalM E T h) fun h => pureR H (sliceV E.P t H x l h)
  | .fieldAddr s x f => bnd (evalO E T x) fun x => pureR H (fieldA E.P s H f x)
  | .field s x f => bnd (evalO E T x) fun x => pureR H (fieldV E.P s f x)
  | .indexAddr t x i => bnd (evalO E T x) fun x => bnd (evalO E T i) fun i => pureR H (indexA E.P t H x i)
  | .index t x i => bnd (evalO E T x) fun x => bnd (evalO E T i) fun i => pureR H (indexV E.P t x i)
  | .lookup t m k ok => bnd (evalO E T m) fun m => bnd (evalO E T k) fun k => pureR H (lookupV E.P t H m k ok)
  | .mapUpdate t m k x => bnd (evalO E T m) fun m => bnd (evalO E T k) fun k => bnd (evalO E T x) fun x => unitR (mapUpdateO E.P t H m k x)
  | .insert t m k x => bnd (evalO E T m) fun m => bnd (evalO E T k) fun k => bnd (evalO E T x) fun x => unitR (mapUpdateO E.P t H m k x)
  | .typeAssert x _ t ok => bnd (evalO E T x) fun x => pureR H (typeAssertV E.P t ok x)
  | .extract x i => bnd (evalO E T x) fun x => pureR H (extractV i x)
  | .call c => match c.callee with
    | .builtin b => bnd (evalL E T c.args.toList) fun args => builtinO E b c.argTypes.toList H nid args
    | _ => none
  | _ => none

/-! ### calls -/
mutual
def idb : PV → Nat
  | .ptr id _ => id + 1
  | .aptr id _ _ _ => id + 1
  | .hsl id _ _ _ => id + 1
  | .map id => id + 1
  | .func _ a b => max (idbL a) (idbL b)
  | .iface _ v => idb v
  | .agg cs => idbL cs
  | .tuple vs => idbL vs
  | .s _ => 0
  | .eptr _ _ _ => 0
def idbL : List PV → Nat
  | [] => 0
  | p :: r => max (idb p) (idbL r)
end
def idbO : HObj → Nat
  | .box _ cells => idbL cells
  | _ => 0
mutual
/-- Arguments by their content: no slice of an object is handed on. -/
def lend (H : Ob) : PV → Option (PV × Ob)
  | .hsl id ver off n => bnd (rowsOf H (.hsl id ver off n)) fun es => some (.s (.slice es false), freeze1 H id)
  | .agg cs => bnd (lendL H cs) fun r => some (.agg r.1, r.2)
  | v => some (v, H)
def lendL (H : Ob) : List PV → Option (List PV × Ob)
  | [] => some ([], H)
  | p :: r => bnd (lend H p) fun a => bnd (lendL a.2 r) fun b => some (a.1 :: b.1, b.2)
end
mutual
/-- A result that leaves the objects from number m on behind. -/
def own (m : Nat) (H : Ob) : PV → Option PV
  | .hsl id ver off n => if id < m then some (.hsl id ver off n) else bnd (rowsOf H (.hsl id ver off n)) fun es => some (.s (.slice es false))
  | .ptr id off => if id < m then some (.ptr id off) else none
  | .aptr id ver i off => if id < m then some (.aptr id ver i off) else none
  | .map id => if id < m then some (.map id) else none
  | .func f a b => bnd (ownL m H a) fun a => bnd (ownL m H b) fun b => some (.func f a b)
  | .iface t v => bnd (own m H v) fun v => some (.iface t v)
  | .agg cs => bnd (ownL m H cs) fun cs => some (.agg cs)
  | .tuple vs => bnd (ownL m H vs) fun vs => some (.tuple vs)
  | .s v => some (.s v)
  | .eptr es i off => some (.eptr es i off)
def ownL (m : Nat) (H : Ob) : List PV → Option (List PV)
  | [] => some []
  | p :: r => bnd (own m H p) fun p => bnd (ownL m H r) fun r => some (p :: r)
end
def ownOut (m : Nat) (H : Ob) : Out → Option Out
  | .ret v => bnd (own m H v) fun v => some (.ret v)
  | .panic v => bnd (own m H v) fun v => some (.panic v)
def ownObj (m : Nat) (H : Ob) : HObj → Option HObj
  | .box t cells => bnd (ownL m H cells) fun c => if c.all cellOk then some (.box t c) else none
  | o => some o
def ownObjs (m : Nat) (H : Ob) : List HObj → Option (List HObj)
  | [] => some []
  | o :: r => bnd (ownObj m H o) fun o => bnd (ownObjs m H r) fun r => some (o :: r)
def firstO (H : Ob) : Nat → List HObj
  | 0 => []
  | m + 1 => firstO H m ++ [H m]
def Ob.back (H : Ob) (l : List HObj) : Ob := fun j => if j < l.length then l.getD j .dead else H j

/-- A run of a function: what it gives and the objects behind it. -/
abbrev Run := FuncId → List PV → Ob → Nat → Option (Out × Ob × Nat)
/-- What may be handed to a call whose place in the order is open: nothing that can be written still. -/
def fzC (H : Ob) : PV → Bool
  | .s _ => true
  | .eptr _ _ _ => true
  | .hsl id ver off n => match H id with
    | .sarr _ _ v fz _ es => fz && decide (v = ver) && decide (off + n ≤ es.length)
    | _ => false
  | _ => false
def fzA (H : Ob) : PV → Bool
  | .agg cs => cs.all (fzC H)
  | p => fzC H p
/-! ### local calls: the callee runs on the objects that its arguments lead to, and on nothing else -/
def heads0 : PV → List Nat
  | .ptr id _ => [id]
  | .aptr id _ _ _ => [id]
  | .hsl id _ _ _ => [id]
  | .map id => [id]
  | _ => []
def headsA : PV → List Nat
  | .agg cs => cs.flatMap heads0
  | v => heads0 v
def addN (l : List Nat) (x : Nat) : List Nat := if l.contains x = true then l else l ++ [x]
def idsOf (args : List PV) : List Nat := (args.flatMap headsA).foldl addN []
def idxOf : List Nat → Nat → Nat → Option Nat
  | [], _, _ => none
  | a :: r, x, i => if a = x then some i else idxOf r x (i + 1)
mutual
/-- Objects by other numbers. -/
def ren (g : Nat → Option Nat) : PV → Option PV
  | .s v => some (.s v)
  | .eptr es i off => some (.eptr es i off)
  | .ptr id off => bnd (g id) fun k => some (.ptr k off)
  | .aptr id ver i off => bnd (g id) fun k => some (.aptr k ver i off)
  | .hsl id ver off n => bnd (g id) fun k => some (.hsl k ver off n)
  | .map id => bnd (g id) fun k => some (.map k)
  | .func f a b => bnd (renL g a) fun a => bnd (renL g b) fun b => some (.func f a b)
  | .iface t v => bnd (ren g v) fun v => some (.iface t v)
  | .agg cs => bnd (renL g cs) fun cs => some (.agg cs)
  | .tuple vs => bnd (renL g vs) fun vs => some (.tuple vs)
def renL (g : Nat → Option Nat) : List PV → Option (List PV)
  | [] => some []
  | p :: r => bnd (ren g p) fun p => bnd (renL g r) fun r => some (p :: r)
end
def renOut (g : Nat → Option Nat) : Out → Option Out
  | .ret v => bnd (ren g v) fun v => some (.ret v)
  | .panic v => bnd (ren g v) fun v => some (.panic v)
def setL (H : Ob) : List Nat → List HObj → Ob
  | id :: r, o :: q => setL (H.set id o) r q
  | _, _ => H
def finC (k : Nat) (r : Out × Ob × Nat) : Option (Out × List HObj) := bnd (ownOut k r.2.1 r.1) fun o => bnd (ownObjs k r.2.1 (firstO r.2.1 k)) fun l => some (o, l)
/-- A call by content that may give a new own array: it comes behind the objects. -/
def finD (k : Nat) (r : Out × Ob × Nat) : Option (Out × List HObj) :=
  match r.1 with
  | .ret (.hsl id ver off n) => if k ≤ id then match r.2.1 id with
      | .sarr ty sz v fz ap es => if v = ver ∧ off = 0 ∧ n = es.length ∧ (firstO r.2.1 k).all (fun o => decide (idbO o = 0)) = true then some (.ret (.hsl k 0 0 n), firstO r.2.1 k ++ [.sarr ty sz 0 fz ap es]) else none
      | _ => none
    else finC k r
  | _ => finC k r
def finE (lc : Bool) (k : Nat) (r : Out × Ob × Nat) : Option (Out × List HObj) := if lc = true then finD k r else finC k r
def callE (E : Env) (run : Run) (f : FuncId) (args : List PV) (hs : List HObj) : Option (Out × List HObj) := bnd (run f args (Ob.of hs) hs.length) (finE (E.loc f) hs.length)
def locOk (o : HObj) : Bool := o.alive && decide (idbO o = 0)
def doLoc (callc : FuncId → List PV → List HObj → Option (Out × List HObj)) (f : FuncId) (args : List PV) (H : Ob) (nid : Nat) : Option (Out × Ob) :=
  let ids := idsOf args
  if ids.all (fun i => locOk (H i)) = true then
    bnd (renL (fun i => idxOf ids i 0) args) fun a => bnd (callc f a (ids.map H)) fun r =>
      if r.2.all (fun o => decide (idbO o = 0)) = true then
        if r.2.length = ids.length then bnd (renOut (fun k => ids[k]?) r.1) fun o => some (o, setL H ids r.2)
        else match r.1, r.2[ids.length]? with
          | .ret (.hsl k 0 0 n), some (.sarr ty sz 0 fz ap es) => if k = ids.length ∧ n = es.length ∧ r.2.length = ids.length + 1 then some (.ret (.hsl nid 0 0 n), (setL H ids r.2).set nid (.sarr ty sz 0 fz ap es)) else none
          | _, _ => none
      else none
  else none
/-- 'pure': nothing written is reached. -/
def doCall (E : Env) (callc : FuncId → List PV → List HObj → Option (Out × List HObj)) (run : Run) (draw : Bool) (f : FuncId) (args : List PV) (H : Ob) (next : Nat) : Option (Out × Ob × Nat) :=
  if E.ref f then (if draw then none else run f args H next)
  else if E.loc f = true then bnd (doLoc callc f args H (next - 1)) fun r => some (r.1, r.2, next)
  else bnd (lendL H args) fun a =>
    let m := idbL a.1
    if draw = true ∧ args.all (fzA H) = false then none
    else if m ≤ next ∧ (firstO a.2 m).all (fun o => decide (idbO o ≤ m)) = true then
      bnd (callc f a.1 (firstO a.2 m)) fun r => some (r.1, (if m = 0 then a.2 else a.2.back r.2), next)
    else none
def callee (v : PV) : Option (FuncId × List PV × List PV) :=
  match v with
  | .s (.func f) => some (f, [], [])
  | .func f a b => some (f, a, b)
  | _ => none

inductive Step where
  | go (T : Nat → PV) (H : Ob) (next : Nat)
  | panic (v : PV) (T : Nat → PV) (H : Ob) (next : Nat)
def putT (T : Nat → PV) (dst : Option Tmp) (v : PV) : Nat → PV :=
  match dst with
  | some d => upd T d v
  | none => T
def wantedS (ops : Array Oper) (T : Nat → PV) (g : Option (Nat × Bool)) : Bool :=
  match g with
  | none => true
  | some (j, want) => match (ops[j]?).bind (·.dst) with
    | some d => match T d with
      | .s (.bool b) => b == want
      | _ => false
    | none => false
abbrev CallC := FuncId → List PV → List HObj → Option (Out × List HObj)
def stepO (E : Env) (callc : CallC) (run : Run) (ops : Array Oper) (draw : Bool) (o : Oper) (T : Nat → PV) (H : Ob) (next : Nat) : Option Step :=
  if wantedS ops T o.guard then
    match o.op with
    | .call { callee := .value fv, args := args, argTypes := _ } =>
      bnd (evalO E T fv) fun fv => bnd (evalL E T args.toList) fun args => bnd (callee fv) fun c =>
        bnd (doCall E callc run draw c.1 (c.2.1 ++ args ++ c.2.2) H (next + 1)) fun r => match r.1 with
          | .ret v => some (.go (putT T o.dst v) r.2.1 r.2.2)
          | .panic v => some (.panic v T r.2.1 r.2.2)
    | .panic x => bnd (evalO E T x) fun x => match x with
      | .iface t v => some (.panic (.iface t v) T H (next + 1))
      | .s (.iface t v) => some (.panic (.s (.iface t v)) T H (next + 1))
      | _ => none
    | .buildSlice t n ps => bnd (evalP E T ps.toList) fun q => if draw = true ∧ (q.all fun x => decide (idb x.2 = 0)) = false then none else
        bnd (buildSliceO E.P t H n q) fun r => some (.go (putT T o.dst r.1) r.2 (next + 1))
    | op => bnd (opStep E op T H next) fun r => some (.go (putT T o.dst r.1) r.2 (next + 1))
  else some (.go (putT T o.dst .undef) H (next + 1))
def opsO (E : Env) (callc : CallC) (run : Run) (ops : Array Oper) (draw : Bool) : List Oper → (Nat → PV) → Ob → Nat → Option (Ex × St)
  | [], T, H, next => some (.normal, ⟨T, H, next⟩)
  | o :: r, T, H, next => bnd (stepO E callc run ops draw o T H next) fun x => match x with
    | .go T H next => opsO E callc run ops draw r T H next
    | .panic v T H next => if draw = true then none else some (.panic v, ⟨T, H, next⟩)

/-! ### drawn regions: any order of the operations that the edges let -/
/-- 0: looks at no object; 1: looks, and turns none; 2: turns. -/
def kindO (E : Env) : Op → Nat
  | .move _ | .assign _ | .pick .. | .build .. | .buildSlice .. | .nilCheck _ | .binOp .. | .unOp .. | .makeInterface .. | .makeFunc .. | .field .. | .index .. | .typeAssert .. | .extract .. => 0
  | .load .. | .fieldAddr .. | .indexAddr .. | .slice .. | .lookup .. => 1
  | .call c => match c.callee with
    | .value (.func f) => if E.loc f = true then 2 else 1
    | .value _ => 2
    | .builtin .len => 1
    | .builtin .max => 0
    | .builtin .min => 0
    | _ => 2
  | _ => 2
def heads1 : PV → List Nat
  | .func _ a b => (a ++ b).flatMap headsA
  | v => heads0 v
def heads : PV → List Nat
  | .agg cs => cs.flatMap heads1
  | v => heads1 v
def opndIds (E : Env) (T : Nat → PV) (x : Operand) : List Nat :=
  match evalO E T x with
  | some p => heads p
  | none => []
def touchO (E : Env) (op : Op) (T : Nat → PV) (nid : Nat) : List Nat :=
  match kindO E op with
  | 0 => []
  | 1 => op.operands.toList.flatMap (opndIds E T)
  | _ => nid :: op.operands.toList.flatMap (opndIds E T)
def maskOf (M : List Nat) (o : Oper) : Nat := o.after.toList.foldl (fun m e => if Region.binds .any e then m ||| 2 ^ e.on ||| M.getD e.on 0 else m) 0
def masks (os : List Oper) : List Nat := os.foldl (fun M o => M ++ [maskOf M o]) []
def compat (k i : Nat) : Bool := (decide (k < 2) && decide (i < 2)) || decide (k = 0) || decide (i = 0)
def disj (F G : List Nat) : Bool := F.all fun x => !G.contains x
def opK (E : Env) (ops : Array Oper) (i : Nat) : Nat :=
  match ops[i]? with
  | some o => kindO E o.op
  | none => 0
def drawOk (E : Env) (dyn : Bool) (ops : Array Oper) : Bool :=
  let M := masks ops.toList
  (List.range ops.size).all fun j => match ops[j]? with
    | none => true
    | some oj => M.getD j 0 == maskOf M oj && oj.after.all (fun e => !Region.binds .any e || decide (e.on < j)) && (List.range j).all fun i => match ops[i]? with
      | none => true
      | some oi => (M.getD j 0).testBit i || (oi.apart ops oj && (dyn || compat (kindO E oi.op) (kindO E oj.op)))
def pairOk (E : Env) (ops : Array Oper) (M : List Nat) (k i : Nat) (F G : List Nat) : Bool := (M.getD i 0).testBit k || compat (opK E ops k) (opK E ops i) || disj F G
def opsD (E : Env) (callc : CallC) (run : Run) (ops : Array Oper) (M : List Nat) : Nat → List (Nat × List Nat) → List Oper → (Nat → PV) → Ob → Nat → Option (Ex × St)
  | i, tr, [], T, H, next => some (.normal, ⟨T, H, next⟩)
  | i, tr, o :: r, T, H, next =>
    if tr.all (fun x => pairOk E ops M x.1 i x.2 (touchO E o.op T next)) = true then bnd (stepO E callc run ops true o T H next) fun x => match x with
      | .go T' H' next' => opsD E callc run ops M (i + 1) ((i, touchO E o.op T next) :: tr) r T' H' next'
      | .panic _ _ _ _ => none
    else none

/-! ### ahead of a drawn region: what its calls are handed is frozen -/
def dstsO (ops : Array Oper) : List Nat := ops.toList.filterMap (·.dst)
def srcO (ops : Array Oper) (t : Nat) : List Nat :=
  if (dstsO ops).contains t then ops.toList.filterMap fun o => match o.dst, o.op with
    | some d, .move (.tmp u) => if d = t ∧ (dstsO ops).contains u = false then some u else none
    | some d, .assign (.tmp u) => if d = t ∧ (dstsO ops).contains u = false then some u else none
    | _, _ => none
  else [t]
def preL (E : Env) (ops : Array Oper) (l : List Oper) : List Nat := l.flatMap fun o => match o.op with
  | .call c => match c.callee with
    | .value (.func f) => if E.loc f = true then [] else c.args.toList.flatMap fun x => match x with
      | .tmp t => srcO ops t
      | _ => []
    | .value _ => c.args.toList.flatMap fun x => match x with
      | .tmp t => srcO ops t
      | _ => []
    | _ => []
  | _ => []
def preS (E : Env) (ops : Array Oper) : List Nat := preL E ops ops.toList
/-- Does the region end in a call that runs in place, behind all others? -/
def lastR (E : Env) (ops : Array Oper) : Bool :=
  match ops.toList.getLast? with
  | some o => (match o.op with
    | .call c => match c.callee with
      | .value (.func f) => E.ref f || E.loc f
      | .value _ => true
      | _ => false
    | _ => false) && (masks ops.toList).getD (ops.size - 1) 0 == 2 ^ (ops.size - 1) - 1
  | none => false
def frz (T : Nat → PV) : List Nat → Ob → Ob
  | [], H => H
  | t :: r, H => frz T r (match T t with
    | .hsl id _ _ _ => freeze1 H id
    | _ => H)

/-! ### code -/
def loopN (body : St → Option (Ex × St)) : Nat → St → Option (Ex × St)
  | 0, _ => none
  | n + 1, s => bnd (body s) fun r => match r.1 with
    | .normal => loopN body n r.2
    | e => some (e, r.2)
/-- Such a region: the others in an open order, then the call. -/
def runT (E : Env) (callc : CallC) (run : Run) (ops : Array Oper) (s : St) : Option (Ex × St) :=
  bnd (opsD E callc run ops (masks ops.toList) 0 [] (ops.toList.take (ops.size - 1)) s.T (frz s.T (preL E ops (ops.toList.take (ops.size - 1))) s.H) s.next) fun r => match r.1 with
    | .normal => opsO E callc run ops false (ops.toList.drop (ops.size - 1)) r.2.T r.2.H r.2.next
    | e => some (e, r.2)
def exec (E : Env) (dyn : Bool) (callc : CallC) (run : Run) (n : Nat) : Code → St → Option (Ex × St)
  | .skip, s => some (.normal, s)
  | .label _, s => some (.normal, s)
  | .region _ ops draw, s => if draw = true ∧ dyn = true then (if lastR E ops = true then runT E callc run ops s else opsD E callc run ops (masks ops.toList) 0 [] ops.toList s.T (frz s.T (preS E ops) s.H) s.next) else opsO E callc run ops draw ops.toList s.T s.H s.next
  | .seq a b, s => bnd (exec E dyn callc run n a s) fun r => match r.1 with
    | .normal => exec E dyn callc run n b r.2
    | e => some (e, r.2)
  | .cond c a b, s => bnd (evalO E s.T c) fun c => match c with
    | .s (.bool t) => if t = true then exec E dyn callc run n a s else exec E dyn callc run n b s
    | _ => none
  | .block id c, s => bnd (exec E dyn callc run n c s) fun r => match r.1 with
    | .exit id' => some (if id' = id then .normal else .exit id', r.2)
    | e => some (e, r.2)
  | .loop c, s => loopN (exec E dyn callc run n c) n s
  | .exit id, s => some (.exit id, s)
  | .ret, s => some (.ret, s)
  | _, _ => none
/-- The results of a function, out of its frame. -/
def resultsS (P : Program) (T : Nat → PV) (H : Ob) : List ResultVar → Option (List PV)
  | [] => some []
  | .tmp t :: r => bnd (resultsS P T H r) fun q => some (T t :: q)
  | .cell a t :: r => bnd (loadO P t H (T a)) fun v => bnd (resultsS P T H r) fun q => some (v :: q)
def packR : List PV → PV
  | [v] => v
  | vs => .tuple vs
def finishO (P : Program) (fn : Func) (r : Ex × St) : Option (Out × Ob × Nat) :=
  match r.1 with
  | .normal => bnd (resultsS P r.2.T r.2.H fn.results.toList) fun vs => some (.ret (packR vs), r.2.H, r.2.next)
  | .ret => bnd (resultsS P r.2.T r.2.H fn.results.toList) fun vs => some (.ret (packR vs), r.2.H, r.2.next)
  | .panic v => some (.panic v, r.2.H, r.2.next)
  | .exit _ => none
def runF (E : Env) : Nat → Run
  | 0, _, _, _, _ => none
  | n + 1, f, args, H, next =>
    match E.ext f with
    | some g => bnd (g args) fun v => some (.ret v, H, next)
    | none => match E.P.funcs[f]? with
      | some fn => match fn.body with
        | some c => if args.length ≤ fn.ntmps ∧ E.use f = true then bnd (exec E (E.dyn f) (callE E (runF E n)) (runF E n) n c ⟨enter args, H, next⟩) (finishO E.P fn) else none
        | none => none
      | none => none

end Go.Vm
end
section
set_option linter.unusedVariables false
namespace Go.Vm
open Go.RowKit

abbrev Fix := Nat → Nat → Option Value
inductive SRel (F : Fix) : SV → Value → Prop
  | bool (b : Bool) : SRel F (.bool b) (.bool b)
  | int (k : IntKind) (n : Int) : SRel F (.int k n) (.int k n)
  | str (l : List UInt8) : SRel F (.str l) (.string ⟨⟨l⟩⟩)
  | nilp : SRel F .nilp (.pointer none)
  | nils : SRel F .nils (.slice none 0 0)
  | nilf : SRel F .nilf .nilFunc
  | nili : SRel F .nili .nilIface
  | nilm : SRel F .nilm (.map none)
  | func (f : FuncId) : SRel F (.func f) (.func (.func f) #[] #[])
  | iface (t : TypeId) (v : SV) (u : Value) : SRel F v u → SRel F (.iface t v) (.iface t u)
  | slice (es : List (List SV)) (full : Bool) (a : Addr) (cap sz : Nat) (vs : Nat → Nat → Value) :
      (∀ c, c ∈ es → c.length = sz) → (es ≠ [] → a.spot = none) → es.length ≤ cap → cap ≤ maxLen → (full = true → cap = es.length) →
      (∀ i c j p, es[i]? = some c → c[j]? = some p → F a.block (a.off + (i * sz + j)) = some (vs i j)) →
      (∀ i c j p, es[i]? = some c → c[j]? = some p → SRel F p (vs i j)) → SRel F (.slice es full) (.slice (some a) es.length cap)

theorem SRel.mono {F F' : Fix} (hF : ∀ b o v, F b o = some v → F' b o = some v) {p : SV} {v : Value} (h : SRel F p v) : SRel F' p v := by
  induction h with
  | bool b => exact .bool b
  | int k n => exact .int k n
  | str l => exact .str l
  | nilp => exact .nilp
  | nils => exact .nils
  | nilf => exact .nilf
  | nili => exact .nili
  | nilm => exact .nilm
  | func f => exact .func f
  | iface t v u _ ih => exact .iface t v u ih
  | slice es full a cap sz vs h1 h2 h3 h3' h4 h5 h6 ih => exact .slice es full a cap sz vs h1 h2 h3 h3' h4 (fun i c j p hi hj => hF _ _ _ (h5 i c j p hi hj)) ih
theorem SRel.one {F : Fix} {p : SV} {v : Value} (h : SRel F p v) : v.oneCell' = true := by cases h <;> rfl

structure Cx where
  σ : Nat → Nat
  cap : Nat → Nat
  F : Fix
  H : Ob

def isPtr : Value → Bool
  | .pointer _ => true
  | _ => false
def isSl : Value → Bool
  | .slice _ _ _ => true
  | _ => false
inductive PRel (C : Cx) : PV → Value → Prop
  | s (p : SV) (v : Value) : SRel C.F p v → PRel C (.s p) v
  | ptr (id off : Nat) (ty : TypeId) (cells : List PV) : C.H id = .box ty cells → PRel C (.ptr id off) (.pointer (some ⟨C.σ id, off, none⟩))
  | eptr (es : List (List SV)) (i off : Nat) (a : Addr) (sz : Nat) (vs : Nat → Nat → Value) : (∀ c, c ∈ es → c.length = sz) → (es ≠ [] → a.spot = none) →
      (∀ i c j p, es[i]? = some c → c[j]? = some p → C.F a.block (a.off + (i * sz + j)) = some (vs i j)) →
      (∀ i c j p, es[i]? = some c → c[j]? = some p → SRel C.F p (vs i j)) → PRel C (.eptr es i off) (.pointer (some ⟨a.block, a.off + (i * sz + off), none⟩))
  | aptr (id ver i off : Nat) (ty : TypeId) (sz cur : Nat) (fz ap : Bool) (es : List (List SV)) (v : Value) : C.H id = .sarr ty sz cur fz ap es → ver ≤ cur → isPtr v = true →
      (ver = cur → v = .pointer (some ⟨C.σ id, i * sz + off, none⟩)) → PRel C (.aptr id ver i off) v
  | hsl (id ver off n : Nat) (ty : TypeId) (sz cur : Nat) (fz ap : Bool) (es : List (List SV)) (v : Value) : C.H id = .sarr ty sz cur fz ap es → ver ≤ cur → isSl v = true →
      (ver = cur → off + n ≤ es.length ∧ v = .slice (some ⟨C.σ id, off * sz, none⟩) n (C.cap id - off)) → PRel C (.hsl id ver off n) v
  | func (f : FuncId) (first cap : List PV) (as bs : Array Value) : first.length = as.size → (∀ i p, first[i]? = some p → PRel C p (as.getD i undef)) →
      cap.length = bs.size → (∀ i p, cap[i]? = some p → PRel C p (bs.getD i undef)) → PRel C (.func f first cap) (.func (.func f) as bs)
  | iface (t : TypeId) (p : PV) (v : Value) : PRel C p v → PRel C (.iface t p) (.iface t v)
  | map (id : Nat) (es : List (SV × SV)) : C.H id = .map es → PRel C (.map id) (.map (some (C.σ id)))
  | agg (cs : List PV) (vs : Array Value) : cs.length = vs.size → (∀ i p, cs[i]? = some p → PRel C p (vs.getD i undef)) → PRel C (.agg cs) (.agg vs)
  | tuple (cs : List PV) (vs : Array Value) : cs.length = vs.size → (∀ i p, cs[i]? = some p → PRel C p (vs.getD i undef)) → PRel C (.tuple cs) (.tuple vs)

/-- An object lives on: it is of the same kind, and where its version is the same its slices are what they were. -/
def Keeps (C C' : Cx) (id : Nat) : Prop :=
  match C.H id with
  | .dead => True
  | .box ty cells => ∃ cells', C'.H id = .box ty cells' ∧ C'.σ id = C.σ id
  | .sarr ty sz ver fz ap es => ∃ ver' fz' es', C'.H id = .sarr ty sz ver' fz' ap es' ∧ ver ≤ ver' ∧ (ver' = ver → C'.σ id = C.σ id ∧ C'.cap id = C.cap id ∧ es'.length = es.length)
  | .map es => ∃ es', C'.H id = .map es' ∧ C'.σ id = C.σ id
theorem Keeps.alive {C C' : Cx} {id : Nat} (h : Keeps C C' id) (ha : (C.H id).alive = true) : (C'.H id).alive = true := by
  unfold Keeps at h
  cases hb : C.H id with
  | dead => rw [hb] at ha; cases ha
  | box ty cells => rw [hb] at h; obtain ⟨c, hc, _⟩ := h; rw [hc]; rfl
  | sarr ty sz ver fz ap es => rw [hb] at h; obtain ⟨a, b, c, hc, _⟩ := h; rw [hc]; rfl
  | map es => rw [hb] at h; obtain ⟨c, hc, _⟩ := h; rw [hc]; rfl

theorem PRel.mono {C C' : Cx} (hF : ∀ b o v, C.F b o = some v → C'.F b o = some v) (hk : ∀ id, Keeps C C' id) {p : PV} {v : Value} (h : PRel C p v) : PRel C' p v := by
  induction h with
  | s p v h => exact .s p v (h.mono hF)
  | ptr id off ty cells h =>
    have := hk id
    unfold Keeps at this
    rw [h] at this
    obtain ⟨c', h', hs⟩ := this
    rw [← hs]
    exact .ptr id off ty c' h'
  | eptr es i off a sz vs h1 h2 h5 h6 => exact .eptr es i off a sz vs h1 h2 (fun i c j p hi hj => hF _ _ _ (h5 i c j p hi hj)) (fun i c j p hi hj => (h6 i c j p hi hj).mono hF)
  | aptr id ver i off ty sz cur fz ap es v h hv h1 he =>
    have := hk id
    unfold Keeps at this
    rw [h] at this
    obtain ⟨ver', fz', es', h', hle, hsame⟩ := this
    refine .aptr id ver i off ty sz ver' fz' ap es' v h' (by omega) h1 (fun e => ?_)
    obtain ⟨hs, _, _⟩ := hsame (by omega)
    rw [hs]
    exact he (by omega)
  | hsl id ver off n ty sz cur fz ap es v h hv h1 he =>
    have := hk id
    unfold Keeps at this
    rw [h] at this
    obtain ⟨ver', fz', es', h', hle, hsame⟩ := this
    refine .hsl id ver off n ty sz ver' fz' ap es' v h' (by omega) h1 (fun e => ?_)
    obtain ⟨hs, hc, hl⟩ := hsame (by omega)
    rw [hs, hc, hl]
    exact he (by omega)
  | func f first cap as bs h1 _ h3 _ ih1 ih2 => exact .func f first cap as bs h1 ih1 h3 ih2
  | iface t p v _ ih => exact .iface t p v ih
  | map id es h =>
    have := hk id
    unfold Keeps at this
    rw [h] at this
    obtain ⟨c', h', hs⟩ := this
    rw [← hs]
    exact .map id c' h'
  | agg cs vs h1 _ ih => exact .agg cs vs h1 ih
  | tuple cs vs h1 _ ih => exact .tuple cs vs h1 ih

theorem PRel.one {C : Cx} {p : PV} {v : Value} (h : PRel C p v) (hp : cellOk p = true) : v.oneCell' = true := by
  cases h with
  | s p v h => exact h.one
  | ptr => rfl
  | eptr => rfl
  | aptr id ver i off ty sz cur fz ap es v h hv h1 he => cases v <;> first | rfl | cases h1
  | hsl id ver off n ty sz cur fz ap es v h hv h1 he => cases v <;> first | rfl | cases h1
  | func => rfl
  | iface => rfl
  | map => rfl
  | agg => cases hp
  | tuple => cases hp

theorem PRel.cells {C : Cx} {p : PV} {v : Value} (h : PRel C p v) : p.cells.length = v.cells.size ∧ ∀ i q, p.cells[i]? = some q → PRel C q (v.cells.getD i undef) := by
  have one : ∀ (q : PV) (u : Value), PRel C q u → q.cells = [q] → u.cells = #[u] → q.cells.length = u.cells.size ∧ ∀ i r, q.cells[i]? = some r → PRel C r (u.cells.getD i undef) := by
    intro q u hq e1 e2
    rw [e1, e2]
    refine ⟨rfl, fun i r hi => ?_⟩
    cases i with
    | zero => simp at hi; subst hi; exact hq
    | succ i => simp at hi
  cases h with
  | s p v h => exact one _ _ (.s p v h) rfl (by cases h <;> rfl)
  | ptr id off ty cells h => exact one _ _ (.ptr id off ty cells h) rfl rfl
  | eptr es i off a sz vs h1 h2 h5 h6 => exact one _ _ (.eptr es i off a sz vs h1 h2 h5 h6) rfl rfl
  | aptr id ver i off ty sz cur fz ap es v h hv h1 he => exact one _ _ (.aptr id ver i off ty sz cur fz ap es v h hv h1 he) rfl (by cases v <;> first | rfl | cases h1)
  | hsl id ver off n ty sz cur fz ap es v h hv h1 he => exact one _ _ (.hsl id ver off n ty sz cur fz ap es v h hv h1 he) rfl (by cases v <;> first | rfl | cases h1)
  | func f first cap as bs h1 h2 h3 h4 => exact one _ _ (.func f first cap as bs h1 h2 h3 h4) rfl rfl
  | iface t p v h => exact one _ _ (.iface t p v h) rfl rfl
  | map id es h => exact one _ _ (.map id es h) rfl rfl
  | agg cs vs h1 h2 => exact ⟨h1, h2⟩
  | tuple cs vs h1 h2 => exact one _ _ (.tuple cs vs h1 h2) rfl rfl

/-- The machine's objects, as they lie in the model's memory. -/
structure Rel (w0 : World) (C : Cx) (w : World) : Prop where
  below : Below w0.heap.size w0 w
  cell : ∀ b o v, C.F b o = some v → w.cell? ⟨b, o, none⟩ = some v
  lt : ∀ id, (C.H id).alive = true → w0.heap.size ≤ C.σ id ∧ C.σ id < w.heap.size
  inj : ∀ i j, (C.H i).alive = true → (C.H j).alive = true → C.σ i = C.σ j → i = j
  box : ∀ id ty cells, C.H id = .box ty cells → ∃ vs, w.heap[C.σ id]? = some (.cells vs ty (0, 0)) ∧ vs.size = cells.length ∧
    (∀ j p, cells[j]? = some p → PRel C p (vs.getD j undef) ∧ (vs.getD j undef).oneCell' = true) ∧ ∀ o, C.F (C.σ id) o = none
  sarr : ∀ id ty sz ver fz ap es, C.H id = .sarr ty sz ver fz ap es → 0 < sz ∧ (∀ c, c ∈ es → c.length = sz) ∧ es.length ≤ C.cap id ∧ C.cap id ≤ maxLen ∧
    ∃ cur fr, w.heap[C.σ id]? = some (.cells cur ty fr) ∧ (ap = true → fr = (0, 0)) ∧ (fr = (0, 0) ∨ cur.size ≤ fr.1) ∧ cur.size = C.cap id * sz ∧
      (∀ i c j p, es[i]? = some c → c[j]? = some p → SRel C.F p (cur.getD (i * sz + j) undef)) ∧
      (∀ o v, C.F (C.σ id) o = some v → fz = true ∧ o < es.length * sz)
  map : ∀ id es, C.H id = .map es → ∃ ents clock, w.heap[C.σ id]? = some (.map ents clock) ∧ ents.size = es.length ∧
    ∀ (i : Nat) k v, es[i]? = some (k, v) → ∃ e, ents[i]? = some e ∧ SRel C.F k e.key ∧ SRel C.F v e.val

structure Ext (C : Cx) (w : World) (C' : Cx) (w' : World) : Prop where
  F : ∀ b o v, C.F b o = some v → C'.F b o = some v
  keep : ∀ id, Keeps C C' id
  frame : ∀ b, b < w.heap.size → (∀ id, (C.H id).alive = true → C.σ id ≠ b) → w'.heap[b]? = w.heap[b]?
  fresh : ∀ id, (C'.H id).alive = true → (∃ id0, (C.H id0).alive = true ∧ C'.σ id = C.σ id0) ∨ w.heap.size ≤ C'.σ id
  size : w.heap.size ≤ w'.heap.size
  Fnew : ∀ b o v, C'.F b o = some v → C.F b o = some v ∨ w.heap.size ≤ b ∨ ∃ id, (C.H id).alive = true ∧ C.σ id = b

theorem Keeps.refl (C : Cx) (id : Nat) : Keeps C C id := by
  unfold Keeps
  cases h : C.H id with
  | dead => trivial
  | box ty cells => exact ⟨cells, rfl, rfl⟩
  | sarr ty sz ver fz ap es => exact ⟨ver, fz, es, rfl, Nat.le_refl _, fun _ => ⟨rfl, rfl, rfl⟩⟩
  | map es => exact ⟨es, rfl, rfl⟩
theorem Keeps.trans {C C1 C2 : Cx} {id : Nat} (h : Keeps C C1 id) (h' : Keeps C1 C2 id) : Keeps C C2 id := by
  unfold Keeps at h ⊢
  cases hb : C.H id with
  | dead => trivial
  | box ty cells =>
    rw [hb] at h
    obtain ⟨c1, e1, s1⟩ := h
    unfold Keeps at h'
    rw [e1] at h'
    obtain ⟨c2, e2, s2⟩ := h'
    exact ⟨c2, e2, s2.trans s1⟩
  | sarr ty sz ver fz ap es =>
    rw [hb] at h
    obtain ⟨v1, f1, es1, e1, l1, s1⟩ := h
    unfold Keeps at h'
    rw [e1] at h'
    obtain ⟨v2, f2, es2, e2, l2, s2⟩ := h'
    refine ⟨v2, f2, es2, e2, Nat.le_trans l1 l2, fun e => ?_⟩
    obtain ⟨a1, b1, c1⟩ := s1 (by omega)
    obtain ⟨a2, b2, c2⟩ := s2 (by omega)
    exact ⟨a2.trans a1, b2.trans b1, c2.trans c1⟩
  | map es =>
    rw [hb] at h
    obtain ⟨c1, e1, s1⟩ := h
    unfold Keeps at h'
    rw [e1] at h'
    obtain ⟨c2, e2, s2⟩ := h'
    exact ⟨c2, e2, s2.trans s1⟩
theorem Ext.refl (C : Cx) (w : World) : Ext C w C w := ⟨fun _ _ _ h => h, Keeps.refl C, fun _ _ _ => rfl, fun id h => .inl ⟨id, h, rfl⟩, Nat.le_refl _, fun _ _ _ h => .inl h⟩
theorem Ext.trans {C C1 C2 : Cx} {w w1 w2 : World} (h : Ext C w C1 w1) (h' : Ext C1 w1 C2 w2) : Ext C w C2 w2 where
  F := fun b o v e => h'.F b o v (h.F b o v e)
  keep := fun id => (h.keep id).trans (h'.keep id)
  frame := fun b hb hn => by
    rw [h'.frame b (Nat.lt_of_lt_of_le hb h.size) (fun id ha e => ?_), h.frame b hb hn]
    rcases h.fresh id ha with ⟨id0, h0, e0⟩ | hge
    · exact hn id0 h0 (e0.symm.trans e)
    · omega
  fresh := fun id ha => by
    rcases h'.fresh id ha with ⟨id1, h1, e1⟩ | hge
    · rcases h.fresh id1 h1 with ⟨id0, h0, e0⟩ | hge
      · exact .inl ⟨id0, h0, e1.trans e0⟩
      · exact .inr (by omega)
    · exact .inr (Nat.le_trans h.size hge)
  size := Nat.le_trans h.size h'.size
  Fnew := fun b o v hv => by
    rcases h'.Fnew b o v hv with h1 | h1 | ⟨id, h1, h2⟩
    · exact h.Fnew b o v h1
    · exact .inr (.inl (Nat.le_trans h.size h1))
    · rcases h.fresh id h1 with ⟨id0, h3, h4⟩ | h3
      · exact .inr (.inr ⟨id0, h3, h4.symm.trans h2⟩)
      · exact .inr (.inl (by omega))
theorem Ext.rel {C C' : Cx} {w w' : World} (h : Ext C w C' w') {p : PV} {v : Value} (hp : PRel C p v) : PRel C' p v := hp.mono h.F h.keep
theorem Rel.drawn {w0 : World} {C : Cx} {w : World} (h : Rel w0 C w) (n : Nat) : Rel w0 C { w with drawn := n } :=
  ⟨⟨h.below.os, h.below.tape, h.below.output, h.below.size, h.below.block⟩, h.cell, h.lt, h.inj, h.box, h.sarr, h.map⟩
theorem Ext.drawn (C : Cx) (w : World) (n : Nat) : Ext C w C { w with drawn := n } := ⟨fun _ _ _ h => h, Keeps.refl C, fun _ _ _ => rfl, fun id h => .inl ⟨id, h, rfl⟩, Nat.le_refl _, fun _ _ _ h => .inl h⟩
end Go.Vm
end
section
set_option linter.unusedVariables false
set_option linter.unusedSimpArgs false
namespace Go.Vm
open Go.RowKit

section
variable {P : Program} {w : World} {F : Fix} {C : Cx}

theorem toList_mk (l : List UInt8) : ByteArray.toList ⟨⟨l⟩⟩ = l := by rw [ByteArray.toList_eq]
theorem size_mk (l : List UInt8) : ByteArray.size ⟨⟨l⟩⟩ = l.length := rfl

theorem beq_dec {α : Type} [DecidableEq α] [BEq α] [LawfulBEq α] (a b : α) : (a == b) = decide (a = b) := by by_cases h : a = b <;> simp [h]
theorem binInt_run {op : BinOp} {t : TypeId} {k k' : IntKind} {a b : Int} {v : SV} (h : binInt op k a k' b = some v) : ∃ u, (binOp op t (.int k a) (.int k' b)).run P w = .ok u w ∧ SRel F v u := by
  by_cases hk : k = k'
  · subst hk
    cases op <;> simp only [binInt, if_true, true_and] at h <;>
      first
        | (injection h with h; subst h; refine ⟨_, ?_, SRel.int _ _⟩; simp [binOp, Op.intArith, Op.intDiv, Op.intBits, Op.intCmp]; done)
        | (injection h with h; subst h; refine ⟨_, ?_, SRel.bool _⟩; simp [binOp, Op.intArith, Op.intDiv, Op.intBits, Op.intCmp]; done)
        | (injection h with h; subst h; refine ⟨.bool (a == b), ?_, by rw [beq_dec]; exact SRel.bool _⟩; simp [binOp, Op.intCmp]; done)
        | (injection h with h; subst h; refine ⟨.bool (a != b), ?_, by rw [bne, beq_dec]; exact SRel.bool _⟩; simp [binOp, Op.intCmp]; done)
        | (split at h
           · cases h
           · injection h with h; subst h; refine ⟨_, ?_, SRel.int _ _⟩; simp only [binOp, Op.shift]; rw [if_neg (by assumption)]; simp)
        | (split at h
           · rename_i hb; injection h with h; subst h; refine ⟨_, ?_, SRel.int _ _⟩; simp [binOp, Op.intDiv, hb]
           · cases h)
        | cases h
  · cases op <;> simp only [binInt, if_neg hk, hk, false_and, if_false] at h <;>
      first
        | cases h
        | (split at h
           · cases h
           · injection h with h; subst h; refine ⟨_, ?_, SRel.int _ _⟩; simp only [binOp, Op.shift]; rw [if_neg (by assumption)]; simp)

theorem binStr_run {op : BinOp} {t : TypeId} {a b : List UInt8} {v : SV} (h : binStr op a b = some v) : ∃ u, (binOp op t (.string ⟨⟨a⟩⟩) (.string ⟨⟨b⟩⟩)).run P w = .ok u w ∧ SRel F v u := by
  cases op <;> simp only [binStr] at h <;>
    first
      | (injection h with h; subst h; refine ⟨_, ?_, SRel.bool _⟩; simp [binOp, Op.stringOp, toList_mk, bytesLt, beq_dec]; done)
      | (split at h
         · rename_i hs
           injection h with h; subst h
           refine ⟨.string (⟨⟨a⟩⟩ ++ ⟨⟨b⟩⟩), ?_, ?_⟩
           · simp only [binOp, Op.stringOp, size_mk]
             rw [if_neg (by simp only [IntKind.max, IntKind.signed, IntKind.bits]; simp; omega)]
             rfl
           · have e : (⟨⟨a⟩⟩ ++ ⟨⟨b⟩⟩ : ByteArray) = ⟨⟨a ++ b⟩⟩ := by
               apply ByteArray.ext
               simp [ByteArray.data_append]
             rw [e]; exact .str _
         · cases h)
      | cases h

theorem run_eqB {d : Nat} {t : TypeId} {a b : Bool} (h : P.underlying t = some .bool) : (Op.equalIn (d + 1) t (.bool a) (.bool b)).run P w = .ok (a == b) w := run_equalIn_bool' w d t a b h
theorem run_eqS {d : Nat} {t e : TypeId} {a : Option Addr} {n c : Nat} (h : P.underlying t = some (.slice e)) : (Op.equalIn (d + 1) t (.slice a n c) (.slice none 0 0)).run P w = .ok a.isNone w := by
  cases a <;> simp [Op.equalIn, run_underlying h]
theorem run_eqS' {d : Nat} {t e : TypeId} {a : Option Addr} {n c : Nat} (h : P.underlying t = some (.slice e)) : (Op.equalIn (d + 1) t (.slice none 0 0) (.slice a n c)).run P w = .ok a.isNone w := by
  cases a <;> simp [Op.equalIn, run_underlying h]
theorem equal_eq (t : TypeId) (x y : Value) : Op.equal t x y = Op.equalIn (9999 + 1) t x y := rfl
def tellsEq (P : Program) (w : World) (t : TypeId) (u v : Value) (r : Bool) : Prop := (binOp .eql t u v).run P w = .ok (.bool r) w ∧ (binOp .neq t u v).run P w = .ok (.bool (!r)) w ∧ ∀ op ox oy, (eqGuard op t ox oy u v).run P w = .ok () w
theorem tells_bool {t : TypeId} {a b : Bool} (h : P.underlying t = some .bool) : tellsEq P w t (.bool a) (.bool b) (a == b) := by
  refine ⟨?_, ?_, fun op ox oy => by cases op <;> rfl⟩
  · simp only [binOp, equal_eq, Sem.run_bind, run_eqB h, Result.andThen_ok, Sem.run_pure]
  · simp only [binOp, equal_eq, Sem.run_bind, run_eqB h, Result.andThen_ok, Sem.run_pure]
theorem tells_slice {t e : TypeId} {a : Option Addr} {n c : Nat} (h : P.underlying t = some (.slice e)) : tellsEq P w t (.slice a n c) (.slice none 0 0) a.isNone := by
  refine ⟨?_, ?_, fun op ox oy => by cases op <;> rfl⟩
  · simp only [binOp, equal_eq, Sem.run_bind, run_eqS h, Result.andThen_ok, Sem.run_pure]
  · simp only [binOp, equal_eq, Sem.run_bind, run_eqS h, Result.andThen_ok, Sem.run_pure]
theorem tells_slice' {t e : TypeId} {a : Option Addr} {n c : Nat} (h : P.underlying t = some (.slice e)) : tellsEq P w t (.slice none 0 0) (.slice a n c) a.isNone := by
  refine ⟨?_, ?_, fun op ox oy => by cases op <;> rfl⟩
  · simp only [binOp, equal_eq, Sem.run_bind, run_eqS' h, Result.andThen_ok, Sem.run_pure]
  · simp only [binOp, equal_eq, Sem.run_bind, run_eqS' h, Result.andThen_ok, Sem.run_pure]
theorem isBoolT_eq {t : TypeId} (h : isBoolT P t = true) : P.underlying t = some .bool := by
  unfold isBoolT at h
  split at h
  · assumption
  · cases h
theorem isStringT_eq {t : TypeId} (h : isStringT P t = true) : P.underlying t = some .string := by
  unfold isStringT at h
  split at h
  · assumption
  · cases h
theorem elemT_eq {t e : TypeId} (h : elemT P t = some e) : P.underlying t = some (.slice e) := by
  unfold elemT at h
  split at h
  · injection h with h; subst h; assumption
  · cases h
theorem isSliceT_eq {t : TypeId} (h : isSliceT P t = true) : ∃ e, P.underlying t = some (.slice e) := by
  unfold isSliceT at h
  obtain ⟨e, he⟩ := Option.isSome_iff_exists.1 h
  exact ⟨e, elemT_eq he⟩
theorem arrT_eq {t e : TypeId} {n : Nat} (h : arrT P t = some (n, e)) : P.underlying t = some (.array n e) := by
  unfold arrT at h
  split at h
  · injection h with h; injection h with h1 h2; subst h1; subst h2; assumption
  · cases h
theorem intT_eq {t : TypeId} {k : IntKind} (h : intT P t = some k) : P.underlying t = some (.int k) := by
  unfold intT at h
  split at h
  · injection h with h; subst h; assumption
  · cases h
theorem isMapT_eq {t k e : TypeId} (h : isMapT P t = some (k, e)) : P.underlying t = some (.map k e) := by
  unfold isMapT at h
  split at h
  · injection h with h; injection h with h1 h2; subst h1; subst h2; assumption
  · cases h

theorem eqOther_run {t : TypeId} {x y : PV} {r : Bool} {u v : Value} (h : eqOther P t x y = some r) (hx : PRel C x u) (hy : PRel C y v) : tellsEq P w t u v r := by
  unfold eqOther at h
  split at h
  · split at h
    · rename_i a b hb
      injection h with h
      subst h
      cases hx with
      | s p v hx =>
      cases hx
      cases hy with
      | s p v hy =>
      cases hy
      exact tells_bool (isBoolT_eq hb)
    · cases h
  · split at h
    · rename_i hb
      injection h with h
      subst h
      obtain ⟨e, he⟩ := isSliceT_eq hb
      cases hx with
      | s p v hx =>
      cases hx
      cases hy with
      | s p v hy =>
      cases hy
      exact tells_slice he
    · cases h
  · split at h
    · rename_i hb
      injection h with h
      subst h
      obtain ⟨e, he⟩ := isSliceT_eq hb
      cases hx with
      | s p v hx =>
      cases hx
      cases hy with
      | s p v hy =>
      cases hy
      exact tells_slice he
    · cases h
  · split at h
    · rename_i hb
      injection h with h
      subst h
      obtain ⟨e, he⟩ := isSliceT_eq hb
      cases hx with
      | s p v hx =>
      cases hx
      cases hy with
      | s p v hy =>
      cases hy
      exact tells_slice' he
    · cases h
  · cases h

theorem unOp_run {op : UnOp} {x p : PV} {u : Value} (h : unOpS op x = some p) (hx : PRel C x u) : ∃ v, (Op.unary op u).run P w = .ok v w ∧ PRel C p v := by
  unfold unOpS at h
  split at h
  · cases hx with
    | s q v hx =>
    cases hx
    split at h
    · injection h with h; subst h
      exact ⟨_, by simp [Op.unary], .s _ _ (.bool _)⟩
    · cases h
  · cases hx with
    | s q v hx =>
    cases hx
    split at h
    · injection h with h; subst h
      exact ⟨_, by simp [Op.unary, Op.intArith], .s _ _ (.int _ _)⟩
    · injection h with h; subst h
      exact ⟨_, by simp [Op.unary, Op.intBits], .s _ _ (.int _ _)⟩
    · cases h
  · cases h

/-! ### constants, types -/
theorem ofScalar_rel {v : Value} {p : SV} (h : ofScalar v = some p) : SRel F p v := by
  unfold ofScalar at h
  split at h <;> first
    | (injection h with h; subst h; constructor; done)
    | cases h
theorem ofScalars_rel : ∀ {l : List Value} {q : List SV}, ofScalars l = some q → q.length = l.length ∧ ∀ i p, q[i]? = some p → SRel F p (l.getD i undef)
  | [], q, h => by
    simp only [ofScalars] at h
    injection h with h
    subst h
    exact ⟨rfl, fun i p hi => by simp at hi⟩
  | v :: r, q, h => by
    simp only [ofScalars] at h
    split at h
    · rename_i p0 q0 h1 h2
      injection h with h
      subst h
      obtain ⟨hl, hr⟩ := ofScalars_rel h2
      refine ⟨by simp [hl], fun i p hi => ?_⟩
      cases i with
      | zero =>
        simp at hi
        subst hi
        exact ofScalar_rel h1
      | succ i =>
        simp at hi
        exact hr i p hi
    · cases h
theorem ofConst_rel {v : Value} {p : PV} (h : ofConst v = some p) : PRel C p v := by
  unfold ofConst at h
  split at h
  · rename_i cs
    split at h
    · rename_i l hl
      injection h with h
      subst h
      obtain ⟨h1, h2⟩ := ofScalars_rel (F := C.F) hl
      refine .agg _ _ (by simp [h1]) (fun i p hi => ?_)
      rw [List.getElem?_map] at hi
      cases hq : l[i]? with
      | none => rw [hq] at hi; cases hi
      | some q =>
        rw [hq] at hi
        injection hi with hi
        subst hi
        have := h2 i q hq
        refine .s _ _ ?_
        simpa [Array.getD_eq_getD_getElem?, List.getD_eq_getElem?_getD] using this
    · cases h
  · split at h
    · injection h with h
      subst h
      rename_i h
      exact .s _ _ (ofScalar_rel h)
    · cases h
structure TyFacts (P : Program) (t : TypeId) (y : TI) where
  i : TypeInfo
  d : TypeDesc
  z : Value
  hi : P.info? t = some i
  hd : P.underlying t = some d
  hz : i.zero = some z
  hs : i.size = y.size
  hb : i.bytes = y.bytes
  ha : isAggD d = y.agg
  hl : ofScalars z.cells.toList = some y.zero
  hn : y.zero.length = y.size
  hav : isAggV z = y.agg
theorem ti_facts {t : TypeId} {y : TI} (h : ti P t = some y) : Nonempty (TyFacts P t y) := by
  unfold ti at h
  split at h
  · rename_i i d hi hd
    split at h
    · rename_i z hz
      split at h
      · rename_i l hl
        split at h
        · rename_i hn
          injection h with h
          subst h
          exact ⟨⟨i, d, z, hi, hd, hz, rfl, rfl, rfl, hl, hn.1, hn.2⟩⟩
        · cases h
      · cases h
    · cases h
  · cases h
theorem run_typeInfo_of {t : TypeId} {i : TypeInfo} (h : P.info? t = some i) (w : World) : (typeInfo t).run P w = .ok i w := by
  simp [typeInfo, h]
theorem TyFacts.run_size {t : TypeId} {y : TI} (f : TyFacts P t y) (w : World) : (sizeOf t).run P w = .ok y.size w := by
  simp [sizeOf, run_typeInfo_of f.hi, f.hs]
theorem TyFacts.run_agg {t : TypeId} {y : TI} (f : TyFacts P t y) (w : World) : (isAgg t).run P w = .ok y.agg w := by
  have := f.ha
  unfold isAgg
  simp only [Sem.run_bind, run_underlying f.hd, Result.andThen_ok]
  rw [← this]
  cases f.d <;> rfl
theorem TyFacts.run_zero {t : TypeId} {y : TI} (f : TyFacts P t y) (w : World) : (zeroValue t).run P w = .ok f.z w := by
  simp [zeroValue, run_typeInfo_of f.hi, f.hz]

/-! ### loads -/
theorem add_none (b o j : Nat) : (⟨b, o, none⟩ : Addr).add j = ⟨b, o + j, none⟩ := by
  unfold Addr.add
  split
  · rename_i h; subst h; rfl
  · rfl
theorem add_spot {a : Addr} (h : a.spot = none) (j : Nat) : a.add j = ⟨a.block, a.off + j, none⟩ := by
  obtain ⟨b, o, s⟩ := a
  subst h
  exact add_none b o j
theorem loadP_run {t : TypeId} {y : TI} (hy : ti P t = some y) {b o off : Nat} {c : List PV} {us : Nat → Value} {p : PV}
    (hr : ∀ j q, c[j]? = some q → PRel C q (us j) ∧ w.cell? ⟨b, o + j, none⟩ = some (us j)) (h : loadP y.agg y.size c off = some p) :
    ∃ v, (loadVar t ⟨b, o + off, none⟩).run P w = .ok v w ∧ PRel C p v := by
  obtain ⟨f⟩ := ti_facts hy
  unfold loadVar
  simp only [Sem.run_bind, f.run_agg, Result.andThen_ok]
  unfold loadP at h
  split at h
  · rename_i ha
    rw [if_pos ha]
    split at h
    · rename_i hl
      injection h with h
      subst h
      have hc : ∀ j u, ((List.range y.size).map fun j => us (off + j))[j]? = some u → w.cell? ((⟨b, o + off, none⟩ : Addr).add j) = some u := by
        intro j u hj
        rw [List.getElem?_map] at hj
        cases hq : (List.range y.size)[j]? with
        | none => rw [hq] at hj; cases hj
        | some q =>
          rw [hq] at hj
          injection hj with hj
          obtain ⟨hlt, he⟩ := List.getElem?_eq_some_iff.1 hq
          simp at he hlt
          subst he
          subst hj
          rw [add_none, Nat.add_assoc]
          exact (hr (off + j) (c[off + j]'(by omega)) (List.getElem?_eq_getElem (by omega))).2
      have hrun := run_loadCells_list (P := P) w ⟨b, o + off, none⟩ _ hc
      simp only [List.length_map, List.length_range] at hrun
      refine ⟨.agg ((List.range y.size).map fun j => us (off + j)).toArray, ?_, ?_⟩
      · simp only [Sem.run_bind, f.run_size, Result.andThen_ok, Sem.run_map, hrun, Sem.run_pure]
      · refine .agg _ _ (by simp; omega) (fun i q hq => ?_)
        have hi : i < y.size := by
          have := (List.getElem?_eq_some_iff.1 hq).1
          simp at this
          omega
        rw [List.getElem?_take_of_lt hi, List.getElem?_drop] at hq
        have := (hr _ _ hq).1
        simpa [Array.getD_eq_getD_getElem?, hi] using this
    · cases h
  · rename_i ha
    have ha' : y.agg = false := by simpa using ha
    rw [if_neg (by simp [ha'])]
    obtain ⟨h1, h2⟩ := hr off p h
    exact ⟨us off, by simp [run_load, h2], h1⟩
theorem loadS_eq {agg : Bool} {size off : Nat} {c : List SV} : loadS agg size c off = loadP agg size (c.map .s) off := by
  unfold loadS loadP
  cases agg
  · simp only [Bool.false_eq_true, if_false, List.getElem?_map]
    cases c[off]? <;> rfl
  · simp only [if_true, List.length_map, PV.st, List.map_take, List.map_drop]
end
end Go.Vm
end
section
set_option linter.unusedVariables false
set_option linter.unusedSimpArgs false
namespace Go.Vm
open Go.RowKit

section
variable {P : Program} {w w0 : World} {F : Fix} {C : Cx}

theorem fo_facts {t ft : TypeId} {f o : Nat} (h : fo P t f = some (o, ft)) :
    ∃ fields x i, P.underlying t = some (.struct fields) ∧ fields[f]? = some x ∧ P.info? x.type = some i ∧ i.size ≠ 0 ∧ x.offset = o ∧ x.type = ft := by
  unfold fo at h
  split at h
  · rename_i fields hu
    split at h
    · rename_i x hx
      split at h
      · rename_i i hi
        split at h
        · cases h
        · rename_i hs
          injection h with h
          injection h with h1 h2
          exact ⟨fields, x, i, hu, hx, hi, hs, h1, h2⟩
      · cases h
    · cases h
  · cases h
theorem fieldAt_run {t ft : TypeId} {f o : Nat} (h : fo P t f = some (o, ft)) (b k : Nat) : (Instr.fieldAt t (.pointer (some ⟨b, k, none⟩)) f).run P w = .ok (.pointer (some ⟨b, k + o, none⟩)) w := by
  obtain ⟨fields, x, i, hu, hx, hi, hs, ho, _⟩ := fo_facts h
  simp only [Instr.fieldAt, Sem.run_bind, run_underlying hu, Result.andThen_ok, hx, Instr.sureAddr, Sem.run_pure, fieldPlace, sizeOf, run_typeInfo_of hi, Sem.run_ite]
  rw [if_neg hs]
  simp only [Sem.run_pure, Result.andThen_ok, ho, add_none]

theorem fieldA_run {s : TypeId} {f : Nat} {p q : PV} {u : Value} (h : fieldA P s C.H f p = some q) (hp : PRel C p u) : ∃ v, (Instr.fieldAt s u f).run P w = .ok v w ∧ PRel C q v := by
  unfold fieldA at h
  split at h
  · split at h
    · rename_i id off o ft hf
      injection h with h
      subst h
      cases hp with
      | ptr id off ty cells hc => exact ⟨_, fieldAt_run hf _ _, .ptr _ _ _ _ hc⟩
    · cases h
  · split at h
    · rename_i hf
      injection h with h
      subst h
      cases hp with
      | eptr es i off a sz vs h1 h2 h5 h6 =>
        refine ⟨_, fieldAt_run hf _ _, ?_⟩
        rw [Nat.add_assoc, Nat.add_assoc]
        exact .eptr _ _ _ a sz vs h1 h2 h5 h6
    · cases h
  · split at h
    · rename_i hf hH
      split at h
      · rename_i hv
        injection h with h
        subst h
        cases hp with
        | aptr id ver i off ty sz cur fz ap es v hc hle h1 he =>
          rw [hc] at hH
          injection hH with e1 e2 e3 e4 e5 e6
          have he' := he (by omega)
          subst he'
          refine ⟨_, fieldAt_run hf _ _, ?_⟩
          exact .aptr _ _ _ _ ty sz cur fz ap es _ hc hle rfl (fun _ => by rw [Nat.add_assoc])
      · cases h
    · cases h
  · cases h

theorem part_run {t : TypeId} {y : TI} (hy : ti P t = some y) {cs : List PV} {vs : Array Value} {off : Nat} {p : PV} (hl : cs.length = vs.size)
    (hr : ∀ i q, cs[i]? = some q → PRel C q (vs.getD i undef)) (h : loadP y.agg y.size cs off = some p) : ∃ v, (part t vs off).run P w = .ok v w ∧ PRel C p v := by
  obtain ⟨f⟩ := ti_facts hy
  unfold part
  simp only [Sem.run_bind, f.run_agg, Result.andThen_ok]
  unfold loadP at h
  split at h
  · rename_i ha
    rw [if_pos ha]
    split at h
    · rename_i hs
      injection h with h
      subst h
      refine ⟨.agg (vs.extract off (off + y.size)), by simp only [Sem.run_bind, f.run_size, Result.andThen_ok, Sem.run_pure], .agg _ _ (by simp; omega) (fun i q hq => ?_)⟩
      have hi : i < y.size := by
        have := (List.getElem?_eq_some_iff.1 hq).1
        simp at this
        omega
      rw [List.getElem?_take_of_lt hi, List.getElem?_drop] at hq
      have := hr _ _ hq
      have e : (vs.extract off (off + y.size)).getD i undef = vs.getD (off + i) undef := by
        simp only [Array.getD_eq_getD_getElem?, Array.getElem?_extract]
        rw [if_pos (by omega)]
      rw [e]
      exact this
    · cases h
  · rename_i ha
    have ha' : y.agg = false := by simpa using ha
    rw [if_neg (by simp [ha'])]
    have hlt : off < vs.size := by rw [← hl]; exact (List.getElem?_eq_some_iff.1 h).1
    have := hr off p h
    have e : vs[off]? = some (vs.getD off undef) := by
      simp [Array.getD_eq_getD_getElem?, hlt]
    refine ⟨vs.getD off undef, ?_, this⟩
    rw [e]
    rfl
theorem fieldV_run {s : TypeId} {f : Nat} {p q : PV} {u : Value} (h : fieldV P s f p = some q) (hp : PRel C p u) : ∃ v, (Instr.field s u f).run P w = .ok v w ∧ PRel C q v := by
  unfold fieldV at h
  split at h
  · split at h
    · rename_i cs o t hf
      split at h
      · rename_i y hy
        cases hp with
        | agg cs vs hl hr =>
          obtain ⟨fields, x, i, hu, hx, hi, hs, ho, ht⟩ := fo_facts hf
          subst ht
          subst ho
          obtain ⟨v, hrun, hv⟩ := part_run (w := w) hy hl hr h
          exact ⟨v, by simp only [Instr.field, Sem.run_bind, run_underlying hu, Result.andThen_ok, hx, asAgg, Sem.run_pure, hrun], hv⟩
      · cases h
    · cases h
  · cases h

theorem at_of_range {i : Int} {n : Nat} (h0 : 0 ≤ i) (h1 : i < n) : 0 ≤ i ∧ i < n := ⟨h0, h1⟩
theorem indexAt_slice {t e : TypeId} {y : TI} (he : elemT P t = some e) (hy : ti P e = some y) {k : IntKind} {i : Int} {n c : Nat} {a : Addr} (h0 : 0 ≤ i) (h1 : i < n) :
    (Instr.indexAt t (.slice (some a) n c) (.int k i)).run P w = .ok (.pointer (some (a.add (i.toNat * y.size)))) w := by
  obtain ⟨f⟩ := ti_facts hy
  simp only [Instr.indexAt, asIntOf, Sem.run_bind, Sem.run_pure, Result.andThen_ok, run_underlying (elemT_eq he), h0, h1, and_self, if_true, f.run_size]
theorem indexAt_array {t e : TypeId} {m : Nat} {y : TI} (he : arrT P t = some (m, e)) (hy : ti P e = some y) {k : IntKind} {i : Int} {a : Addr} (h0 : 0 ≤ i) (h1 : i < m) :
    (Instr.indexAt t (.pointer (some a)) (.int k i)).run P w = .ok (.pointer (some (a.add (i.toNat * y.size)))) w := by
  obtain ⟨f⟩ := ti_facts hy
  simp only [Instr.indexAt, asIntOf, Sem.run_bind, Sem.run_pure, Result.andThen_ok, run_underlying (arrT_eq he), h0, h1, and_self, if_true, f.run_size, Instr.sureAddr]

theorem indexA_run {t : TypeId} {p q r : PV} {u x : Value} (hR : Rel w0 C w) (h : indexA P t C.H p q = some r) (hp : PRel C p u) (hq : PRel C q x) : ∃ v, (Instr.indexAt t u x).run P w = .ok v w ∧ PRel C r v := by
  unfold indexA at h
  split at h
  · rename_i ix k i
    cases hq with
    | s _ _ hq =>
    cases hq
    split at h
    · rename_i es full
      split at h
      · rename_i e he
        split at h
        · rename_i y hy
          split at h
          · rename_i h0
            split at h
            · rename_i c hc
              split at h
              · rename_i hs
                injection h with h
                subst h
                cases hp with
                | s _ _ hp =>
                cases hp with
                | slice es full a cap sz vs g1 g2 g3 g3' g4 g5 g6 =>
                  have hlt := (List.getElem?_eq_some_iff.1 hc).1
                  have hmem : c ∈ es := List.mem_of_getElem? hc
                  have hne : es ≠ [] := by intro e; subst e; cases hmem
                  have hsz : sz = y.size := (g1 c hmem).symm.trans hs.1
                  refine ⟨_, indexAt_slice he hy h0 (by omega), ?_⟩
                  rw [add_spot (g2 hne)]
                  have := PRel.eptr (C := C) es i.toNat 0 a sz vs g1 g2 g5 g6
                  rw [← hsz]
                  exact this
              · cases h
            · cases h
          · cases h
        · cases h
      · cases h
    · rename_i id ver off n
      split at h
      · rename_i e he
        split at h
        · rename_i y ty sz v fz ap es hy hH
          split at h
          · rename_i hs
            obtain ⟨h0, h1, hv, hsz, hle⟩ := hs
            injection h with h
            subst h
            cases hp with
            | hsl id ver off n ty' sz' cur fz' ap' es' v' hc hle' h1' he' =>
              rw [hc] at hH
              injection hH with e1 e2 e3 e4 e5 e6
              subst e1; subst e2; subst e3; subst e4; subst e5; subst e6
              obtain ⟨hb, hv'⟩ := he' hv.symm
              subst hv'
              refine ⟨_, indexAt_slice he hy h0 h1, ?_⟩
              rw [add_none]
              refine .aptr id ver _ 0 ty' sz' cur fz' ap' es' _ hc hle' rfl (fun _ => ?_)
              rw [← hsz, Nat.add_mul, Nat.add_zero]
          · cases h
        · cases h
      · cases h
    · rename_i id off
      split at h
      · rename_i n e he
        split at h
        · rename_i y hy
          split at h
          · rename_i hs
            injection h with h
            subst h
            cases hp with
            | ptr id off ty cells hc =>
              refine ⟨_, indexAt_array he hy hs.1 hs.2.1, ?_⟩
              rw [add_none]
              exact .ptr _ _ _ _ hc
          · cases h
        · cases h
      · cases h
    · rename_i es k off
      split at h
      · rename_i n e he
        split at h
        · rename_i y hy
          split at h
          · rename_i hs
            injection h with h
            subst h
            cases hp with
            | eptr es i off a sz vs g1 g2 g5 g6 =>
              refine ⟨_, indexAt_array he hy hs.1 hs.2.1, ?_⟩
              rw [add_none, Nat.add_assoc, Nat.add_assoc]
              exact .eptr es _ _ a sz vs g1 g2 g5 g6
          · cases h
        · cases h
      · cases h
    · cases h
  · cases h

theorem indexV_run {t : TypeId} {p q r : PV} {u x : Value} (h : indexV P t p q = some r) (hp : PRel C p u) (hq : PRel C q x) : ∃ v, (Instr.index t u x).run P w = .ok v w ∧ PRel C r v := by
  unfold indexV at h
  split at h
  · rename_i k i l
    split at h
    · rename_i hs
      split at h
      · rename_i b hb
        injection h with h
        subst h
        cases hq with
        | s _ _ hq =>
        cases hq
        cases hp with
        | s _ _ hp =>
        cases hp
        refine ⟨_, ?_, .s _ _ (.int _ _)⟩
        have hlt := (List.getElem?_eq_some_iff.1 hb).1
        have e : (⟨⟨l⟩⟩ : ByteArray)[i.toNat]? = some b := by
          rw [getElem?_pos _ _ (by exact hlt)]
          have := (List.getElem?_eq_some_iff.1 hb).2
          exact congrArg some this
        simp only [Instr.index, asIntOf, Sem.run_bind, Sem.run_pure, Result.andThen_ok, run_underlying (isStringT_eq hs.1), hs.2, if_true, e]
      · cases h
    · cases h
  · rename_i k i cs
    split at h
    · rename_i n e he
      split at h
      · rename_i y hy
        split at h
        · rename_i hs
          cases hq with
          | s _ _ hq =>
          cases hq
          cases hp with
          | agg cs vs hl hr =>
            obtain ⟨v, hrun, hv⟩ := part_run (w := w) hy hl hr h
            obtain ⟨f⟩ := ti_facts hy
            exact ⟨v, by simp only [Instr.index, asIntOf, Sem.run_bind, Sem.run_pure, Result.andThen_ok, run_underlying (arrT_eq he), hs, and_self, if_true, f.run_size, hrun], hv⟩
        · cases h
      · cases h
    · cases h
  · cases h

/-! ### slices, lengths -/
theorem bounds_some {len a b : Nat} {lo hi : Option PV} (h : bounds len lo hi = some (a, b)) :
    a ≤ b ∧ b ≤ len ∧ (lo = none ∧ a = 0 ∨ ∃ k l, lo = some (.s (.int k l)) ∧ 0 ≤ l ∧ l ≤ b ∧ a = l.toNat) ∧ (hi = none ∧ b = len ∨ ∃ k h, hi = some (.s (.int k h)) ∧ 0 ≤ h ∧ h ≤ len ∧ b = h.toNat) := by
  unfold bounds at h
  split at h
  · rename_i hh hb
    have hb' : hh ≤ len ∧ (hi = none ∧ hh = len ∨ ∃ k h, hi = some (.s (.int k h)) ∧ 0 ≤ h ∧ h ≤ len ∧ hh = h.toNat) := by
      split at hb
      · injection hb with hb; subst hb; exact ⟨Nat.le_refl _, .inl ⟨rfl, rfl⟩⟩
      · rename_i k x
        split at hb
        · rename_i hc
          injection hb with hb; subst hb
          exact ⟨by omega, .inr ⟨k, x, rfl, hc.1, hc.2, rfl⟩⟩
        · cases hb
      · cases hb
    split at h
    · injection h with h; injection h with h1 h2; subst h1; subst h2
      exact ⟨Nat.zero_le _, hb'.1, .inl ⟨rfl, rfl⟩, hb'.2⟩
    · rename_i k l
      split at h
      · rename_i hc
        injection h with h; injection h with h1 h2; subst h1; subst h2
        exact ⟨by omega, hb'.1, .inr ⟨k, l, rfl, hc.1, hc.2, rfl⟩, hb'.2⟩
      · cases h
    · cases h
  · cases h
/-- Operands that may be missing. -/
def MRel (C : Cx) : Option PV → Option Value → Prop
  | none, none => True
  | some p, some v => PRel C p v
  | _, _ => False
theorem sliceBounds_run {sl : Bool} {len cap a b : Nat} {lo hi : Option PV} {vl vh : Option Value} (h : bounds len lo hi = some (a, b)) (hc : len ≤ cap) (hl : MRel C lo vl) (hh : MRel C hi vh) :
    (Instr.sliceBounds sl len cap vl vh none).run P w = .ok (a, b, cap) w := by
  obtain ⟨h1, h2, h3, h4⟩ := bounds_some h
  have el : (vl = none ∧ a = 0) ∨ ∃ k l, vl = some (.int k l) ∧ 0 ≤ l ∧ l ≤ b ∧ a = l.toNat := by
    rcases h3 with ⟨rfl, rfl⟩ | ⟨k, l, rfl, g1, g2, g3⟩
    · cases vl with
      | none => exact .inl ⟨rfl, rfl⟩
      | some v => exact hl.elim
    · cases vl with
      | none => exact hl.elim
      | some v =>
        have hl' : PRel C (.s (.int k l)) v := hl
        cases hl' with
        | s _ _ hl' => cases hl'; exact .inr ⟨k, l, rfl, g1, g2, g3⟩
  have eh : (vh = none ∧ b = len) ∨ ∃ k l, vh = some (.int k l) ∧ 0 ≤ l ∧ l ≤ len ∧ b = l.toNat := by
    rcases h4 with ⟨rfl, rfl⟩ | ⟨k, l, rfl, g1, g2, g3⟩
    · cases vh with
      | none => exact .inl ⟨rfl, rfl⟩
      | some v => exact hh.elim
    · cases vh with
      | none => exact hh.elim
      | some v =>
        have hh' : PRel C (.s (.int k l)) v := hh
        cases hh' with
        | s _ _ hh' => cases hh'; exact .inr ⟨k, l, rfl, g1, g2, g3⟩
  unfold Instr.sliceBounds
  rcases eh with ⟨rfl, rfl⟩ | ⟨k, x, rfl, g1, g2, g3⟩ <;> rcases el with ⟨rfl, rfl⟩ | ⟨k', x', rfl, g1', g2', g3'⟩
  · simp
  · simp only [Sem.run_bind, Sem.run_pure, Result.andThen_ok, Instr.sliceBound, asIntOf, Sem.run_ite]
    rw [if_pos ⟨g1', by omega⟩]
    simp [g3']
  · simp only [Sem.run_bind, Sem.run_pure, Result.andThen_ok, Instr.sliceBound, asIntOf, Sem.run_ite]
    rw [if_pos ⟨g1, by omega⟩]
    simp [g3]
  · simp only [Sem.run_bind, Sem.run_pure, Result.andThen_ok, Instr.sliceBound, asIntOf, Sem.run_ite]
    rw [if_pos ⟨g1, by omega⟩]
    simp only [Sem.run_pure, Result.andThen_ok]
    rw [if_pos ⟨g1', by omega⟩]
    simp [g3, g3']

theorem slice_run {t e : TypeId} {y : TI} (he : elemT P t = some e) (hy : ti P e = some y) {len cap a b : Nat} {lo hi : Option PV} {vl vh : Option Value} (h : bounds len lo hi = some (a, b)) (hc : len ≤ cap)
    (hl : MRel C lo vl) (hh : MRel C hi vh) (ad : Addr) :
    (Instr.sliceAt t (.slice (some ad) len cap) vl vh none).run P w = .ok (.slice (some (if cap = a then ad else ad.add (a * y.size))) (b - a) (cap - a)) w := by
  obtain ⟨f⟩ := ti_facts hy
  have hu := elemT_eq he
  simp only [Instr.sliceAt, Sem.run_bind, run_underlying hu, Result.andThen_ok, Instr.slice, sliceBounds_run h hc hl hh, f.run_size, Sem.run_pure]
  split <;> rfl

theorem sliceV_run {t : TypeId} {p r : PV} {u : Value} {lo hi : Option PV} {vl vh : Option Value} (hR : Rel w0 C w) (h : sliceV P t C.H p lo hi = some r) (hp : PRel C p u) (hl : MRel C lo vl) (hh : MRel C hi vh) :
    ∃ v, (Instr.sliceAt t u vl vh none).run P w = .ok v w ∧ PRel C r v := by
  unfold sliceV at h
  split at h
  · rename_i l
    split at h
    · rename_i hs
      split at h
      · rename_i a b hb
        injection h with h
        subst h
        cases hp with
        | s _ _ hp =>
        cases hp
        refine ⟨.string (ByteArray.extract ⟨⟨l⟩⟩ a b), ?_, ?_⟩
        · simp only [Instr.sliceAt, Sem.run_bind, run_underlying (isStringT_eq hs), Result.andThen_ok, Instr.slice, Option.isSome_none, Bool.false_eq_true, if_false, size_mk, sliceBounds_run hb (Nat.le_refl _) hl hh, Sem.run_pure, Sem.run_ite]
        · have e : ByteArray.extract ⟨⟨l⟩⟩ a b = ⟨⟨(l.take b).drop a⟩⟩ := by
            apply ByteArray.ext
            rw [ByteArray.data_extract]
            apply Array.ext'
            simp [List.extract_eq_take_drop, List.drop_take]
          rw [e]
          exact .s _ _ (.str _)
      · cases h
    · cases h
  · split at h
    · rename_i e he
      split at h
      · rename_i y hy
        split at h
        · rename_i ab hb
          injection h with h
          subst h
          obtain ⟨a, b⟩ := ab
          cases hp with
          | s _ _ hp =>
          cases hp
          obtain ⟨f⟩ := ti_facts hy
          obtain ⟨h1, h2, _⟩ := bounds_some hb
          have ha : a = 0 := by omega
          have hb' : b = 0 := by omega
          subst ha
          subst hb'
          refine ⟨.slice none 0 0, ?_, .s _ _ .nils⟩
          simp only [Instr.sliceAt, Sem.run_bind, run_underlying (elemT_eq he), Result.andThen_ok, Instr.slice, sliceBounds_run hb (Nat.le_refl _) hl hh, f.run_size, Sem.run_pure]
          rfl
        · cases h
      · cases h
    · cases h
  · rename_i es full
    split at h
    · rename_i e he
      split at h
      · rename_i y hy
        split at h
        · rename_i a b hb
          split at h
          · rename_i hs
            injection h with h
            subst h
            cases hp with
            | s _ _ hp =>
            cases hp with
            | slice es full ad cap sz vs g1 g2 g3 g3' g4 g5 g6 =>
              obtain ⟨h1, h2, _⟩ := bounds_some hb
              refine ⟨_, slice_run he hy hb g3 hl hh ad, ?_⟩
              have hlen : ((es.take b).drop a).length = b - a := by simp; omega
              have hsz : ∀ c, c ∈ es → c.length = y.size := fun c hc => by
                have := List.all_eq_true.1 hs.1 c hc
                simpa using this
              have hget : ∀ i c, ((es.take b).drop a)[i]? = some c → es[a + i]? = some c := by
                intro i c hi
                rw [List.getElem?_drop] at hi
                have := List.getElem?_take (l := es) (i := b) (j := a + i)
                rw [this] at hi
                split at hi
                · exact hi
                · cases hi
              rw [← hlen]
              refine .s _ _ (.slice _ _ _ _ y.size (fun i j => vs (a + i) j) (fun c hc => hsz c (List.mem_of_mem_take (List.mem_of_mem_drop hc))) (fun hne => ?_) (by omega) (by omega) (fun hf => ?_) (fun i c j p hi hj => ?_) (fun i c j p hi hj => g6 _ _ _ _ (hget i c hi) hj))
              · have hne' : es ≠ [] := by intro e; subst e; simp at hne
                split
                · exact g2 hne'
                · rw [add_spot (g2 hne')]
              · simp only [Bool.and_eq_true, decide_eq_true_eq] at hf
                have := g4 hf.1
                omega
              · have hi' := hget i c hi
                have hmem := List.mem_of_getElem? hi'
                have hne' : es ≠ [] := by intro e; subst e; cases hmem
                have hlt := (List.getElem?_eq_some_iff.1 hi).1
                have e1 : sz = y.size := (g1 c hmem).symm.trans (hsz c hmem)
                have := g5 (a + i) c j p hi' hj
                rw [if_neg (by omega), add_spot (g2 hne')]
                show C.F ad.block (ad.off + a * y.size + (i * y.size + j)) = _
                rw [← this, e1, Nat.add_mul]
                congr 1
                omega
          · cases h
        · cases h
      · cases h
    · cases h
  · rename_i id ver off n
    split at h
    · rename_i e he
      split at h
      · rename_i y ty sz v fz ap es hy hH
        split at h
        · rename_i hs
          split at h
          · rename_i a b hb
            cases hp with
            | hsl id ver off n ty' sz' cur fz' ap' es' v' hc hle' h1' he' =>
              rw [hc] at hH
              injection hH with e1 e2 e3 e4 e5 e6
              subst e1; subst e2; subst e3; subst e4; subst e5; subst e6
              obtain ⟨hb1, hv'⟩ := he' hs.1.symm
              subst hv'
              obtain ⟨h1, h2, _⟩ := bounds_some hb
              obtain ⟨hsz0, hlen, hcap, hmax, _⟩ := hR.sarr _ _ _ _ _ _ _ hc
              refine ⟨_, slice_run he hy hb (by omega) hl hh _, ?_⟩
              split at h
              · rename_i hab
                injection h with h
                subst h
                have e0 : b - a = ([] : List (List SV)).length := by simp; omega
                rw [e0]
                exact .s _ _ (.slice [] false _ _ 1 (fun _ _ => undef) (fun c hc => by cases hc) (fun hne => absurd rfl hne) (by simp) (by omega) (fun hf => by cases hf) (fun i c j p hi => by simp at hi) (fun i c j p hi => by simp at hi))
              · rename_i hab
                injection h with h
                subst h
                refine .hsl id ver _ _ ty' sz' cur fz' ap' es' _ hc hle' rfl (fun hv => ⟨by omega, ?_⟩)
                by_cases hz : C.cap id - off = a
                · have ha0 : a = 0 := by omega
                  subst ha0
                  rw [if_pos hz, Nat.add_zero, Nat.sub_zero, hz]
                · rw [if_neg hz, add_none, ← hs.2.1, Nat.add_mul]
                  congr 1
                  omega
          · cases h
        · cases h
      · cases h
    · cases h
  · cases h

theorem lenV_run {t : TypeId} {p r : PV} {u : Value} {ty : TypeId} (hR : Rel w0 C w) (h : lenV P t C.H p = some r) (hp : PRel C p u) : ∃ v, (Builtin.len_ #[t] ty #[u]).run P w = .ok v w ∧ PRel C r v := by
  unfold lenV at h
  split at h
  · split at h
    · rename_i l hs
      injection h with h
      subst h
      cases hp with
      | s _ _ hp =>
      cases hp
      exact ⟨goInt l.length, by simp [Builtin.len_, run_underlying (isStringT_eq hs), size_mk], .s _ _ (.int _ _)⟩
    · cases h
  · split at h
    · rename_i hs
      injection h with h
      subst h
      obtain ⟨e, he⟩ := isSliceT_eq hs
      cases hp with
      | s _ _ hp =>
      cases hp
      exact ⟨goInt 0, by simp [Builtin.len_, run_underlying he], .s _ _ (.int _ _)⟩
    · cases h
  · split at h
    · rename_i es full hs
      injection h with h
      subst h
      obtain ⟨e, he⟩ := isSliceT_eq hs
      cases hp with
      | s _ _ hp =>
      cases hp
      exact ⟨goInt es.length, by simp [Builtin.len_, run_underlying he], .s _ _ (.int _ _)⟩
    · cases h
  · split at h
    · split at h
      · rename_i id ver off n ho a1 a2 v a4 a5 a6 hH hs
        injection h with h
        subst h
        obtain ⟨e, he⟩ := isSliceT_eq hs.1
        cases hp with
        | hsl id ver off n ty' sz' cur fz' ap' es' v' hc hle' h1' he' =>
          rw [hc] at hH
          injection hH with e1 e2 e3 e4 e5 e6
          obtain ⟨_, hv⟩ := he' (by omega)
          subst hv
          exact ⟨goInt n, by simp [Builtin.len_, run_underlying he], .s _ _ (.int _ _)⟩
      · cases h
    · cases h
  · split at h
    · rename_i id ho hmm es x hH hm
      injection h with h
      subst h
      obtain ⟨k, e⟩ := x
      cases hp with
      | map id es' hc =>
        obtain ⟨ents, clock, hh, hl, _⟩ := hR.map id es hH
        refine ⟨goInt es.length, ?_, .s _ _ (.int _ _)⟩
        simp [Builtin.len_, run_underlying (isMapT_eq hm), getObj, Sem.run, hh, hl, Result.andThen]
    · cases h
  · cases h
theorem nilCheckV_run {p r : PV} {u : Value} (h : nilCheckV p = some r) (hp : PRel C p u) {ρ : Operand → Value} {o : Oper} {x : Operand} (ho : o.op = .nilCheck x) (hx : ρ x = u) :
    r = p ∧ (execOp ρ o).run P w = .ok (.value u) w := by
  have e : execOp ρ o = execOp ρ { o with op := .nilCheck x } := by rw [← ho]
  unfold nilCheckV at h
  split at h
  · injection h with h
    subst h
    cases hp with
    | ptr => refine ⟨rfl, ?_⟩; rw [e]; simp only [execOp, hx]; rfl
  · injection h with h
    subst h
    cases hp with
    | eptr => refine ⟨rfl, ?_⟩; rw [e]; simp only [execOp, hx]; rfl
  · injection h with h
    subst h
    cases hp with
    | func => refine ⟨rfl, ?_⟩; rw [e]; simp only [execOp, hx]; rfl
  · injection h with h
    subst h
    cases hp with
    | s _ _ hp => cases hp; refine ⟨rfl, ?_⟩; rw [e]; simp only [execOp, hx]; rfl
  · injection h with h
    subst h
    cases hp with
    | s _ _ hp => cases hp; refine ⟨rfl, ?_⟩; rw [e]; simp only [execOp, hx]; rfl
  · injection h with h
    subst h
    cases hp with
    | iface => refine ⟨rfl, ?_⟩; rw [e]; simp only [execOp, hx]; rfl
  · cases h
theorem extractV_run {i : Nat} {p r : PV} {u : Value} (h : extractV i p = some r) (hp : PRel C p u) : ∃ v, (Instr.extract u i).run P w = .ok v w ∧ PRel C r v := by
  unfold extractV at h
  split at h
  · cases hp with
    | tuple cs vs hl hr =>
      have hlt := (List.getElem?_eq_some_iff.1 h).1
      have := hr i r h
      refine ⟨vs.getD i undef, ?_, this⟩
      have e : vs[i]? = some (vs.getD i undef) := by simp [Array.getD_eq_getD_getElem?, show i < vs.size by omega]
      simp only [Instr.extract, e, Sem.run_pure]
  · cases h
theorem isIface_run {t : TypeId} {x : Value} (h : isIface P t ≠ true) : (Instr.makeInterface t x).run P w = .ok (.iface t x) w := by
  unfold isIface at h
  split at h
  · exact absurd rfl h
  · rename_i d hd hn
    unfold Instr.makeInterface
    simp only [Sem.run_bind, run_underlying hn, Result.andThen_ok]
    rfl
  · exact absurd rfl h
theorem ifaceV_run {t : TypeId} {p r : PV} {u : Value} (h : ifaceV P t p = some r) (hp : PRel C p u) : ∃ v, (Instr.makeInterface t u).run P w = .ok v w ∧ PRel C r v := by
  unfold ifaceV at h
  split at h
  · cases h
  · rename_i hi
    refine ⟨_, isIface_run hi, ?_⟩
    split at h
    · injection h with h
      subst h
      cases hp with
      | s _ _ hp => exact .s _ _ (.iface _ _ _ hp)
    · injection h with h
      subst h
      exact .iface _ _ _ hp
theorem typeAssertV_run {t xt : TypeId} {ok : Bool} {p r : PV} {u : Value} (h : typeAssertV P t ok p = some r) (hp : PRel C p u) : ∃ v, (Instr.typeAssert u xt t ok).run P w = .ok v w ∧ PRel C r v := by
  unfold typeAssertV at h
  split at h
  · cases h
  · rename_i hi
    unfold isIface at hi
    have key : ∀ (q : PV) (v : Value), PRel C q v → r = (if ok then .tuple [q, .bool true] else q) → ∃ v', (Instr.typeAssert (.iface t v) xt t ok).run P w = .ok v' w ∧ PRel C r v' := by
      intro q v hq hr
      subst hr
      refine ⟨if ok then .tuple #[v, .bool true] else v, ?_, ?_⟩
      · unfold Instr.typeAssert
        split at hi
        · exact absurd rfl hi
        · rename_i d hd hn
          simp only [Sem.run_bind, run_underlying hn, Result.andThen_ok]
          cases d <;> first
            | exact (hd _ rfl).elim
            | simp
        · exact absurd rfl hi
      · cases ok
        · exact hq
        · refine .tuple _ _ rfl (fun i p hp => ?_)
          match i, hp with
          | 0, hp => simp at hp; subst hp; exact hq
          | 1, hp => simp at hp; subst hp; exact .s _ _ (.bool _)
          | i + 2, hp => simp at hp
    split at h
    · split at h
      · rename_i t' v ht
        subst ht
        injection h with h
        cases hp with
        | iface _ _ u hp => exact key _ _ hp h.symm
      · cases h
    · split at h
      · rename_i t' v ht
        subst ht
        injection h with h
        cases hp with
        | s _ _ hp =>
        cases hp with
        | iface _ _ u hp => exact key _ _ (.s _ _ hp) h.symm
      · cases h
    · cases h
end
end Go.Vm
end
