/- An abstract machine over values: slices that are only read stand as lists, what is written lies in numbered objects. Definitions. -/
import Derived.WalkKit
import Derived.Orders
set_option linter.unusedVariables false
namespace Go.Vm

/-- Values that hold nothing that can be written. -/
inductive SV where
  | bool (b : Bool)
  | int (k : IntKind) (n : Int)
  | str (l : List UInt8)
  | nilp
  | nils
  | nilf
  | nili
  | nilm
  | func (f : FuncId)
  | iface (t : TypeId) (v : SV)
  | slice (es : List (List SV)) (full : Bool)
  deriving Inhabited

/-- Values of a running call. -/
inductive PV where
  | s (v : SV)
  | ptr (id off : Nat)
  | eptr (es : List (List SV)) (i off : Nat)
  | aptr (id ver i off : Nat)
  | hsl (id ver off n : Nat)
  | func (f : FuncId) (first captured : List PV)
  | iface (t : TypeId) (v : PV)
  | map (id : Nat)
  | agg (cs : List PV)
  | tuple (vs : List PV)
  deriving Inhabited

def PV.undef : PV := .tuple []
abbrev PV.bool (b : Bool) : PV := .s (.bool b)
abbrev PV.int (k : IntKind) (n : Int) : PV := .s (.int k n)
abbrev PV.i64 (n : Int) : PV := .s (.int .i64 n)
abbrev PV.str (l : List UInt8) : PV := .s (.str l)
def PV.cells : PV → List PV
  | .agg cs => cs
  | v => [v]
/-- A struct of unwritten cells. -/
def PV.st (l : List SV) : PV := .agg (l.map .s)

/-- Objects that can be written. -/
inductive HObj where
  | dead
  | box (ty : TypeId) (cells : List PV)
  | sarr (ty : TypeId) (sz ver : Nat) (fz ap : Bool) (es : List (List SV))
  | map (es : List (SV × SV))
  deriving Inhabited

/-- The objects by their numbers. -/
abbrev Ob := Nat → HObj
def Ob.set (H : Ob) (id : Nat) (o : HObj) : Ob := fun j => if j = id then o else H j
def Ob.of (l : List HObj) : Ob := fun j => l.getD j .dead

structure St where
  T : Nat → PV
  H : Ob
  next : Nat
def upd (T : Nat → PV) (i : Nat) (v : PV) : Nat → PV := fun j => if j = i then v else T j
def enter (args : List PV) : Nat → PV := fun i => args.getD i .undef

inductive Ex where
  | normal
  | exit (id : Nat)
  | ret
  | panic (v : PV)

inductive Out where
  | ret (v : PV)
  | panic (v : PV)

/-! ### constants and types -/
def ofScalar : Value → Option SV
  | .bool b => some (.bool b)
  | .int k n => some (.int k n)
  | .string s => some (.str s.data.toList)
  | .pointer none => some .nilp
  | .slice none 0 0 => some .nils
  | .nilFunc => some .nilf
  | .nilIface => some .nili
  | .map none => some .nilm
  | _ => none
def ofScalars : List Value → Option (List SV)
  | [] => some []
  | v :: r => match ofScalar v, ofScalars r with
    | some p, some q => some (p :: q)
    | _, _ => none
def ofConst : Value → Option PV
  | .agg cs => match ofScalars cs.toList with
    | some l => some (.st l)
    | none => none
  | v => match ofScalar v with
    | some p => some (.s p)
    | none => none

/-- What the machine asks of a type. -/
structure TI where
  agg : Bool
  size : Nat
  bytes : Nat
  zero : List SV
def isAggD : TypeDesc → Bool
  | .struct _ => true
  | .array _ _ => true
  | _ => false
def isAggV : Value → Bool
  | .agg _ => true
  | _ => false
def ti (P : Program) (t : TypeId) : Option TI :=
  match P.info? t, P.underlying t with
  | some i, some d => match i.zero with
    | some z => match ofScalars z.cells.toList with
      | some l => if l.length = i.size ∧ isAggV z = isAggD d then some { agg := isAggD d, size := i.size, bytes := i.bytes, zero := l } else none
      | none => none
    | none => none
  | _, _ => none
/-- A field's place and type; fields without cells are not served. -/
def fo (P : Program) (t : TypeId) (f : Nat) : Option (Nat × TypeId) :=
  match P.underlying t with
  | some (.struct fields) => match fields[f]? with
    | some x => match P.info? x.type with
      | some i => if i.size = 0 then none else some (x.offset, x.type)
      | none => none
    | none => none
  | _ => none
def elemT (P : Program) (t : TypeId) : Option TypeId :=
  match P.underlying t with
  | some (.slice e) => some e
  | _ => none
def arrT (P : Program) (t : TypeId) : Option (Nat × TypeId) :=
  match P.underlying t with
  | some (.array n e) => some (n, e)
  | _ => none
def isStringT (P : Program) (t : TypeId) : Bool :=
  match P.underlying t with
  | some .string => true
  | _ => false
def isBoolT (P : Program) (t : TypeId) : Bool :=
  match P.underlying t with
  | some .bool => true
  | _ => false
def isMapT (P : Program) (t : TypeId) : Option (TypeId × TypeId) :=
  match P.underlying t with
  | some (.map k e) => some (k, e)
  | _ => none
def intT (P : Program) (t : TypeId) : Option IntKind :=
  match P.underlying t with
  | some (.int k) => some k
  | _ => none
def isSliceT (P : Program) (t : TypeId) : Bool := (elemT P t).isSome

structure Env where
  P : Program
  ext : FuncId → Option (List PV → Option PV)
  ref : FuncId → Bool
  use : FuncId → Bool
  dyn : FuncId → Bool
  G : Nat → Option PV

/-! ### values out of objects; freezing -/
def toSVs : List PV → Option (List SV)
  | [] => some []
  | .s v :: r => match toSVs r with
    | some q => some (v :: q)
    | none => none
  | _ :: _ => none
/-- The rows of a heap slice. -/
def rowsOf (H : Ob) : PV → Option (List (List SV))
  | .s .nils => some []
  | .s (.slice es _) => some es
  | .s (.str l) => some (l.map fun b => [.int .u8 b.toNat])
  | .hsl id ver off n => match H id with
    | .sarr _ _ v _ _ es => if v = ver ∧ off + n ≤ es.length then some ((es.drop off).take n) else none
    | _ => none
  | _ => none
def freeze1 (H : Ob) (id : Nat) : Ob :=
  match H id with
  | .sarr ty sz v _ ap es => H.set id (.sarr ty sz v true ap es)
  | _ => H
/-- A value by its content alone: slices in objects become lists (the objects are frozen). -/
def thaw (H : Ob) : PV → Option (SV × Ob)
  | .s v => some (v, H)
  | .hsl id ver off n => match rowsOf H (.hsl id ver off n) with
    | some es => some (.slice es false, freeze1 H id)
    | none => none
  | .func f [] [] => some (.func f, H)
  | _ => none
def thaws (H : Ob) : List PV → Option (List SV × Ob)
  | [] => some ([], H)
  | p :: r => match thaw H p with
    | some (v, H1) => match thaws H1 r with
      | some (q, H2) => some (v :: q, H2)
      | none => none
    | none => none

/-! ### operations on unwritten values -/
def bytesLt : List UInt8 → List UInt8 → Bool := Op.bytesLess
def binInt (op : BinOp) (k : IntKind) (a : Int) (k' : IntKind) (b : Int) : Option SV :=
  match op with
  | .shl => if b < 0 then none else some (.int k (k.wrap (a * 2 ^ (min b.toNat k.bits))))
  | .shr => if b < 0 then none else some (.int k (a.fdiv (2 ^ (min b.toNat k.bits))))
  | .add => if k = k' then some (.int k (k.wrap (a + b))) else none
  | .sub => if k = k' then some (.int k (k.wrap (a - b))) else none
  | .mul => if k = k' then some (.int k (k.wrap (a * b))) else none
  | .quo => if k = k' ∧ b ≠ 0 then some (.int k (k.wrap (a.tdiv b))) else none
  | .rem => if k = k' ∧ b ≠ 0 then some (.int k (a.tmod b)) else none
  | .and => if k = k' then some (.int k (k.wrap ((BitVec.ofInt k.bits a &&& BitVec.ofInt k.bits b).toNat))) else none
  | .or => if k = k' then some (.int k (k.wrap ((BitVec.ofInt k.bits a ||| BitVec.ofInt k.bits b).toNat))) else none
  | .xor => if k = k' then some (.int k (k.wrap ((BitVec.ofInt k.bits a ^^^ BitVec.ofInt k.bits b).toNat))) else none
  | .andNot => if k = k' then some (.int k (k.wrap ((BitVec.ofInt k.bits a &&& ~~~ BitVec.ofInt k.bits b).toNat))) else none
  | .eql => if k = k' then some (.bool (decide (a = b))) else none
  | .neq => if k = k' then some (.bool (!decide (a = b))) else none
  | .lss => if k = k' then some (.bool (decide (a < b))) else none
  | .leq => if k = k' then some (.bool (decide (a ≤ b))) else none
  | .gtr => if k = k' then some (.bool (decide (b < a))) else none
  | .geq => if k = k' then some (.bool (decide (b ≤ a))) else none
def binStr (op : BinOp) (a b : List UInt8) : Option SV :=
  match op with
  | .add => if a.length + b.length ≤ 9223372036854775807 then some (.str (a ++ b)) else none
  | .eql => some (.bool (decide (a = b)))
  | .neq => some (.bool (!decide (a = b)))
  | .lss => some (.bool (bytesLt a b))
  | .leq => some (.bool (bytesLt a b || decide (a = b)))
  | .gtr => some (.bool (!(bytesLt a b || decide (a = b))))
  | .geq => some (.bool (!bytesLt a b))
  | _ => none
/-- '==' on two values that are no numbers and no strings, by their type. -/
def eqOther (P : Program) (t : TypeId) : PV → PV → Option Bool
  | .s (.bool a), .s (.bool b) => if isBoolT P t then some (a == b) else none
  | .s .nils, .s .nils => if isSliceT P t then some true else none
  | .s (.slice _ _), .s .nils => if isSliceT P t then some false else none
  | .s .nils, .s (.slice _ _) => if isSliceT P t then some false else none
  | _, _ => none
/-- The kinds of a struct's cells, where each is a number, a text or a bool and no name is blank: 0 a bool, 1 a number, 2 a text. -/
def flatKind (P : Program) (t : TypeId) : Option Nat :=
  match P.underlying t with
  | some .bool => some 0
  | some (.int _) => some 1
  | some .string => some 2
  | _ => none
def flatFields (P : Program) : List Field → Nat → Option (List Nat)
  | [], _ => some []
  | f :: r, i => if f.offset = i ∧ f.name ≠ "_" then match flatKind P f.type, flatFields P r (i + 1) with
      | some k, some q => some (k :: q)
      | _, _ => none
    else none
def flatEq (P : Program) (t : TypeId) : Option (List Nat) :=
  match P.underlying t with
  | some (.struct fields) => if P.stoodInHeld t || P.eqGuardType P.depth t then none else flatFields P fields.toList 0
  | _ => none
def svEq : Nat → SV → SV → Option Bool
  | 0, .bool a, .bool b => some (decide (a = b))
  | 1, .int k a, .int k' b => if k = k' then some (decide (a = b)) else none
  | 2, .str a, .str b => some (decide (a = b))
  | _, _, _ => none
def svEqs : List Nat → List SV → List SV → Option Bool
  | [], [], [] => some true
  | k :: ks, a :: as, b :: bs => match svEq k a b, svEqs ks as bs with
    | some x, some y => some (x && y)
    | _, _ => none
  | _, _, _ => none
def eqAgg (P : Program) (t : TypeId) (a b : List PV) : Option Bool :=
  match flatEq P t, toSVs a, toSVs b with
  | some ks, some x, some y => svEqs ks x y
  | _, _, _ => none
def binOpS (P : Program) (op : BinOp) (t : TypeId) : PV → PV → Option PV
  | .s (.int k a), .s (.int k' b) => match binInt op k a k' b with
    | some v => some (.s v)
    | none => none
  | .s (.str a), .s (.str b) => match binStr op a b with
    | some v => some (.s v)
    | none => none
  | .agg a, .agg b => match op, eqAgg P t a b with
    | .eql, some r => some (.s (.bool r))
    | .neq, some r => some (.s (.bool (!r)))
    | _, _ => none
  | x, y => match op, eqOther P t x y with
    | .eql, some r => some (.s (.bool r))
    | .neq, some r => some (.s (.bool (!r)))
    | _, _ => none
def unOpS (op : UnOp) : PV → Option PV
  | .s (.bool b) => match op with
    | .not => some (.s (.bool (!b)))
    | _ => none
  | .s (.int k n) => match op with
    | .neg => some (.s (.int k (k.wrap (0 - n))))
    | .xor => some (.s (.int k (k.wrap ((BitVec.ofInt k.bits (if k.signed then -1 else k.max) ^^^ BitVec.ofInt k.bits n).toNat))))
    | _ => none
  | _ => none

/-! ### memory -/
def setCells {α : Type} (c : List α) (off : Nat) : List α → List α
  | [] => c
  | v :: vs => setCells (c.set off v) (off + 1) vs
def cellOk : PV → Bool
  | .agg _ => false
  | .tuple _ => false
  | _ => true
def loadS (agg : Bool) (size : Nat) (c : List SV) (off : Nat) : Option PV :=
  if agg then if off + size ≤ c.length then some (.st ((c.drop off).take size)) else none
  else match c[off]? with
    | some v => some (.s v)
    | none => none
def loadP (agg : Bool) (size : Nat) (c : List PV) (off : Nat) : Option PV :=
  if agg then if off + size ≤ c.length then some (.agg ((c.drop off).take size)) else none
  else c[off]?
def loadO (P : Program) (t : TypeId) (H : Ob) : PV → Option PV
  | .ptr id off => match ti P t, H id with
    | some x, .box _ cells => loadP x.agg x.size cells off
    | _, _ => none
  | .eptr es i off => match ti P t, es[i]? with
    | some x, some c => loadS x.agg x.size c off
    | _, _ => none
  | .aptr id ver i off => match ti P t, H id with
    | some x, .sarr _ _ v _ _ es => if v = ver then match es[i]? with
        | some c => loadS x.agg x.size c off
        | none => none
      else none
    | _, _ => none
  | _ => none
def storeO (P : Program) (t : TypeId) (H : Ob) (p x : PV) : Option Ob :=
  match p with
  | .ptr id off => match ti P t, H id with
    | some y, .box ty cells => if x.cells.length = y.size ∧ off + y.size ≤ cells.length ∧ x.cells.all cellOk = true then some (H.set id (.box ty (setCells cells off x.cells))) else none
    | _, _ => none
  | .aptr id ver i off => match ti P t, H id, thaws H x.cells with
    | some y, .sarr ty sz v false ap es, some (xs, _) => match toSVs x.cells with
      | some xs => if v = ver ∧ xs.length = y.size then match es[i]? with
          | some c => if off + y.size ≤ c.length then some (H.set id (.sarr ty sz v false ap (es.set i (setCells c off xs)))) else none
          | none => none
        else none
      | none => none
    | _, _, _ => none
  | _ => none
def boxO (H : Ob) (nid : Nat) (t : TypeId) (x : PV) : Option (PV × Ob) :=
  if x.cells.all cellOk = true then some (.ptr nid 0, H.set nid (.box t x.cells)) else none
def allocO (P : Program) (H : Ob) (nid : Nat) (t : TypeId) : Option (PV × Ob) :=
  match ti P t with
  | some y => some (.ptr nid 0, H.set nid (.box t (y.zero.map .s)))
  | none => none
def fieldA (P : Program) (s : TypeId) (H : Ob) (f : Nat) : PV → Option PV
  | .ptr id off => match fo P s f with
    | some (o, _) => some (.ptr id (off + o))
    | none => none
  | .eptr es i off => match fo P s f with
    | some (o, _) => some (.eptr es i (off + o))
    | none => none
  | .aptr id ver i off => match fo P s f, H id with
    | some (o, _), .sarr _ _ v _ _ _ => if v = ver then some (.aptr id ver i (off + o)) else none
    | _, _ => none
  | _ => none
def fieldV (P : Program) (s : TypeId) (f : Nat) : PV → Option PV
  | .agg cs => match fo P s f with
    | some (o, t) => match ti P t with
      | some y => loadP y.agg y.size cs o
      | none => none
    | none => none
  | _ => none
def indexA (P : Program) (t : TypeId) (H : Ob) (x ix : PV) : Option PV :=
  match ix with
  | .s (.int _ i) => match x with
    | .s (.slice es _) => match elemT P t with
      | some e => match ti P e with
        | some y => if 0 ≤ i then match es[i.toNat]? with
            | some c => if c.length = y.size ∧ 0 < y.size then some (.eptr es i.toNat 0) else none
            | none => none
          else none
        | none => none
      | none => none
    | .hsl id ver off n => match elemT P t with
      | some e => match ti P e, H id with
        | some y, .sarr _ sz v _ _ es => if 0 ≤ i ∧ i < n ∧ v = ver ∧ sz = y.size ∧ off + n ≤ es.length then some (.aptr id ver (off + i.toNat) 0) else none
        | _, _ => none
      | none => none
    | .ptr id off => match arrT P t with
      | some (n, e) => match ti P e with
        | some y => if 0 ≤ i ∧ i < n ∧ 0 < y.size then some (.ptr id (off + i.toNat * y.size)) else none
        | none => none
      | none => none
    | .eptr es k off => match arrT P t with
      | some (n, e) => match ti P e with
        | some y => if 0 ≤ i ∧ i < n ∧ 0 < y.size then some (.eptr es k (off + i.toNat * y.size)) else none
        | none => none
      | none => none
    | _ => none
  | _ => none
def indexV (P : Program) (t : TypeId) (x ix : PV) : Option PV :=
  match ix, x with
  | .s (.int _ i), .s (.str l) => if isStringT P t = true ∧ 0 ≤ i then match l[i.toNat]? with
      | some b => some (.s (.int .u8 b.toNat))
      | none => none
    else none
  | .s (.int _ i), .agg cs => match arrT P t with
    | some (n, e) => match ti P e with
      | some y => if 0 ≤ i ∧ i < n then loadP y.agg y.size cs (i.toNat * y.size) else none
      | none => none
    | none => none
  | _, _ => none
/-- The bounds of a slice expression. -/
def bounds (len : Nat) (lo hi : Option PV) : Option (Nat × Nat) :=
  match (match hi with
    | none => some len
    | some (.s (.int _ h)) => if 0 ≤ h ∧ h ≤ len then some h.toNat else none
    | _ => none) with
  | some h => match lo with
    | none => some (0, h)
    | some (.s (.int _ l)) => if 0 ≤ l ∧ l ≤ h then some (l.toNat, h) else none
    | _ => none
  | none => none
def sliceV (P : Program) (t : TypeId) (H : Ob) (x : PV) (lo hi : Option PV) : Option PV :=
  match x with
  | .s (.str l) => if isStringT P t = true then match bounds l.length lo hi with
      | some (a, b) => some (.s (.str ((l.take b).drop a)))
      | none => none
    else none
  | .s .nils => match elemT P t with
    | some e => match ti P e with
      | some y => match bounds 0 lo hi with
        | some _ => some (.s .nils)
        | none => none
      | none => none
    | none => none
  | .s (.slice es full) => match elemT P t with
    | some e => match ti P e with
      | some y => match bounds es.length lo hi with
        | some (a, b) => if es.all (fun c => decide (c.length = y.size)) = true ∧ 0 < y.size then some (.s (.slice ((es.take b).drop a) (full && decide (b = es.length)))) else none
        | none => none
      | none => none
    | none => none
  | .hsl id ver off n => match elemT P t with
    | some e => match ti P e, H id with
      | some y, .sarr _ sz v _ _ es => if v = ver ∧ sz = y.size ∧ off + n ≤ es.length then match bounds n lo hi with
          | some (a, b) => if a = b ∧ a ≠ 0 then some (.s (.slice [] false)) else some (.hsl id ver (off + a) (b - a))
          | none => none
        else none
      | _, _ => none
    | none => none
  | _ => none
def lenV (P : Program) (t : TypeId) (H : Ob) : PV → Option PV
  | .s (.str l) => if isStringT P t = true then some (.i64 l.length) else none
  | .s .nils => if isSliceT P t = true then some (.i64 0) else none
  | .s (.slice es _) => if isSliceT P t = true then some (.i64 es.length) else none
  | .hsl id ver _ n => match H id with
    | .sarr _ _ v _ _ _ => if isSliceT P t = true ∧ v = ver then some (.i64 n) else none
    | _ => none
  | .map id => match H id, isMapT P t with
    | .map es, some _ => some (.i64 es.length)
    | _, _ => none
  | _ => none
/-- 'append(s, x...)': rows of one type. -/
def appendO (P : Program) (t t2 : TypeId) (H : Ob) (nid : Nat) (s x : PV) : Option (PV × Ob) :=
  match elemT P t, rowsOf H x with
  | some e, some new => match ti P e with
    | some y =>
      if new.all (fun c => decide (c.length = y.size)) = true ∧ 0 < y.size ∧ y.bytes ≤ 65536 ∧ (t2 = t ∨ (isStringT P t2 = true ∧ intT P e = some .u8)) then
        match s with
        | .s .nils => if new.length ≤ 1073741824 then if new.isEmpty = true then some (.s .nils, H) else some (.hsl nid 0 0 new.length, H.set nid (.sarr e y.size 0 false true new)) else none
        | .s (.slice es full) => if es.all (fun c => decide (c.length = y.size)) = true ∧ es.length + new.length ≤ 1073741824 then
            if new.isEmpty = true then some (.s (.slice es full), H)
            else if full = true then some (.hsl nid 0 0 (es.length + new.length), H.set nid (.sarr e y.size 0 false true (es ++ new))) else none
          else none
        | .hsl id ver off n => match H id with
          | .sarr ty sz v fz true es => if v = ver ∧ off = 0 ∧ n = es.length ∧ sz = y.size ∧ ty = e ∧ n + new.length ≤ 1073741824 then
              if new.isEmpty = true then some (.hsl id ver off n, H)
              else some (.hsl id (ver + 1) 0 (n + new.length), H.set id (.sarr ty sz (ver + 1) fz true (es ++ new)))
            else none
          | _ => none
        | _ => none
      else none
    | none => none
  | _, _ => none
/-- A composite literal: the zero value, then the parts. -/
def buildParts (P : Program) (t : TypeId) : List PV → List (Nat × PV) → Option (List PV)
  | c, [] => some c
  | c, (i, x) :: r => match fo P t i with
    | some (o, ft) => match ti P ft with
      | some y => if x.cells.length = y.size ∧ o + y.size ≤ c.length then buildParts P t (setCells c o x.cells) r else none
      | none => none
    | none => none
/-- A struct, each of whose fields' types is known. -/
def structOk (P : Program) (t : TypeId) : Bool :=
  match P.underlying t with
  | some (.struct fields) => fields.toList.all fun f => (P.info? f.type).isSome
  | _ => false
def buildV (P : Program) (t : TypeId) (parts : List (Nat × PV)) : Option PV :=
  match ti P t, structOk P t with
  | some y, true => match buildParts P t (y.zero.map .s) parts with
    | some c => some (.agg c)
    | none => none
  | _, _ => none
def rowParts (size : Nat) (H : Ob) : List (List SV) → List (Nat × PV) → Option (List (List SV) × Ob)
  | c, [] => some (c, H)
  | c, (i, x) :: r => match thaws H x.cells with
    | some (v, H1) => if v.length = size ∧ i < c.length then rowParts size H1 (c.set i v) r else none
    | none => none
def buildSliceO (P : Program) (t : TypeId) (H : Ob) (len : Nat) (parts : List (Nat × PV)) : Option (PV × Ob) :=
  match elemT P t with
  | some e => match ti P e with
    | some y => if len * y.size ≤ 16777216 ∧ 0 < y.size then match rowParts y.size H (List.replicate len y.zero) parts with
        | some (es, H1) => some (.s (.slice es true), H1)
        | none => none
      else none
    | none => none
  | none => none
def makeSliceO (P : Program) (t : TypeId) (H : Ob) (nid : Nat) (len cap : PV) : Option (PV × Ob) :=
  match elemT P t, len, cap with
  | some e, .s (.int _ l), .s (.int _ c) => match ti P e with
    | some y => if 0 ≤ l ∧ l ≤ c ∧ c ≤ 1073741824 ∧ y.bytes ≤ 65536 ∧ 0 < y.size then some (.hsl nid 0 0 l.toNat, H.set nid (.sarr e y.size 0 false true (List.replicate l.toNat y.zero))) else none
    | none => none
  | _, _, _ => none
def bytesOf : List (List SV) → Option (List UInt8)
  | [] => some []
  | [.int .u8 n] :: r => match bytesOf r with
    | some q => some (UInt8.ofNat n.toNat :: q)
    | none => none
  | _ => none
def convertO (P : Program) (src dst : TypeId) (H : Ob) (nid : Nat) (x : PV) : Option (PV × Ob) :=
  match x with
  | .s (.int _ n) => match intT P dst with
    | some k => some (.s (.int k (k.wrap n)), H)
    | none => none
  | .s (.str l) => if isStringT P dst = true then some (x, H) else
    match elemT P dst with
    | some e => if intT P e = some .u8 ∧ l.length ≤ 1073741824 then some (.hsl nid 0 0 l.length, H.set nid (.sarr e 1 0 false false (l.map fun b => [.int .u8 b.toNat]))) else none
    | none => none
  | _ => if isStringT P dst = true then match elemT P src with
      | some e => if intT P e = some .u8 then match rowsOf H x with
          | some rows => match bytesOf rows with
            | some l => some (.s (.str l), H)
            | none => none
          | none => none
        else none
      | none => none
    else none
def isIface (P : Program) (t : TypeId) : Bool :=
  match P.underlying t with
  | some (.interface _) => true
  | some _ => false
  | none => true
def ifaceV (P : Program) (t : TypeId) (x : PV) : Option PV :=
  if isIface P t = true then none else match x with
    | .s v => some (.s (.iface t v))
    | x => some (.iface t x)
def nilCheckV : PV → Option PV
  | .ptr id off => some (.ptr id off)
  | .eptr es i off => some (.eptr es i off)
  | .func f a b => some (.func f a b)
  | .s (.func f) => some (.s (.func f))
  | .s (.iface t v) => some (.s (.iface t v))
  | .iface t v => some (.iface t v)
  | _ => none
def extractV (i : Nat) : PV → Option PV
  | .tuple vs => vs[i]?
  | _ => none
def maxMin (mx : Bool) : PV → List PV → Option PV
  | x, [] => some x
  | .s (.int k a), .s (.int _ b) :: r => maxMin mx (.s (.int k (if mx then (if a < b then b else a) else (if b < a then b else a)))) r
  | _, _ => none
/-- Keys of a map: numbers and texts. -/
def keyEq : SV → SV → Option Bool
  | .int k a, .int k' b => if k = k' then some (decide (a = b)) else none
  | .str a, .str b => some (decide (a = b))
  | _, _ => none
def mapFind (k : SV) : List (SV × SV) → Nat → Option (Option (Nat × SV))
  | [], _ => some none
  | (q, v) :: r, i => match keyEq k q with
    | some true => some (some (i, v))
    | some false => mapFind k r (i + 1)
    | none => none
def keyT (P : Program) (t : TypeId) : Bool :=
  match P.underlying t with
  | some .string => true
  | some (.int _) => true
  | _ => false
/-- The key's kind is the map's. -/
def keyOk (P : Program) (t : TypeId) : SV → Bool
  | .int _ _ => match P.underlying t with
    | some (.int _) => true
    | _ => false
  | .str _ => match P.underlying t with
    | some .string => true
    | _ => false
  | _ => false
def lookupV (P : Program) (t : TypeId) (H : Ob) (m k : PV) (ok : Bool) : Option PV :=
  match m, k with
  | .map id, .s key => match H id, isMapT P t with
    | .map es, some (kt, et) => if keyT P kt = true ∧ keyOk P kt key = true then match mapFind key es 0, ti P et with
        | some (some (_, v)), some _ => some (if ok then .tuple [.s v, .bool true] else .s v)
        | some none, some y => match y.zero, y.agg with
          | [z], false => some (if ok then .tuple [.s z, .bool false] else .s z)
          | _, _ => none
        | _, _ => none
      else none
    | _, _ => none
  | _, _ => none
def mapUpdateO (P : Program) (t : TypeId) (H : Ob) (m k x : PV) : Option Ob :=
  match m, k, x with
  | .map id, .s key, .s v => match H id, isMapT P t with
    | .map es, some (kt, _) => if keyT P kt = true ∧ keyOk P kt key = true then match mapFind key es 0 with
        | some (some (i, _)) => some (H.set id (.map (es.set i (key, v))))
        | some none => some (H.set id (.map (es ++ [(key, v)])))
        | none => none
      else none
    | _, _ => none
  | _, _, _ => none
def typeAssertV (P : Program) (t : TypeId) (ok : Bool) (x : PV) : Option PV :=
  if isIface P t = true then none else match x with
    | .iface t' v => if t' = t then some (if ok then .tuple [v, .bool true] else v) else none
    | .s (.iface t' v) => if t' = t then some (if ok then .tuple [.s v, .bool true] else .s v) else none
    | _ => none

/-! ### one operation -/
def bnd {α β : Type} (o : Option α) (f : α → Option β) : Option β :=
  match o with
  | some a => f a
  | none => none
@[congr] theorem bnd_congr {α β : Type} {o o' : Option α} {f : α → Option β} (h : o = o') : bnd o f = bnd o' f := by rw [h]
theorem bnd_some {α β : Type} (a : α) (f : α → Option β) : bnd (some a) f = f a := rfl
theorem bnd_none {α β : Type} (f : α → Option β) : bnd none f = none := rfl
theorem bnd_eq_some {α β : Type} {o : Option α} {f : α → Option β} {r : β} : bnd o f = some r ↔ ∃ a, o = some a ∧ f a = some r := by cases o <;> simp [bnd]

def evalO (E : Env) (T : Nat → PV) : Operand → Option PV
  | .tmp t => some (T t)
  | .const v => ofConst v
  | .func f => some (.s (.func f))
  | .global g => E.G g
def evalL (E : Env) (T : Nat → PV) : List Operand → Option (List PV)
  | [] => some []
  | x :: r => bnd (evalO E T x) fun v => bnd (evalL E T r) fun q => some (v :: q)
def evalP (E : Env) (T : Nat → PV) : List (Nat × Operand) → Option (List (Nat × PV))
  | [] => some []
  | (i, x) :: r => bnd (evalO E T x) fun v => bnd (evalP E T r) fun q => some ((i, v) :: q)
def evalM (E : Env) (T : Nat → PV) : Option Operand → Option (Option PV)
  | none => some none
  | some x => bnd (evalO E T x) fun v => some (some v)
def pureR (H : Ob) (o : Option PV) : Option (PV × Ob) := bnd o fun v => some (v, H)
def unitR (o : Option Ob) : Option (PV × Ob) := bnd o fun H => some (.undef, H)

def builtinO (E : Env) (b : Builtin) (ts : List TypeId) (H : Ob) (nid : Nat) (args : List PV) : Option (PV × Ob) :=
  match b, ts, args with
  | .len, [t], [x] => pureR H (lenV E.P t H x)
  | .append, [t, t2], [s, x] => appendO E.P t t2 H nid s x
  | .max, _, x :: r => pureR H (maxMin true x r)
  | .min, _, x :: r => pureR H (maxMin false x r)
  | _, _, _ => none

def opStep (E : Env) (op : Op) (T : Nat → PV) (H : Ob) (nid : Nat) : Option (PV × Ob) :=
  match op with
  | .move x => pureR H (evalO E T x)
  | .assign x => pureR H (evalO E T x)
  | .pick c a b => bnd (evalO E T c) fun c => bnd (evalO E T a) fun a => bnd (evalO E T b) fun b => match c with
    | .s (.bool t) => some (if t then a else b, H)
    | _ => none
  | .alloc t => allocO E.P H nid t
  | .box t x => bnd (evalO E T x) fun x => boxO H nid t x
  | .build t ps => bnd (evalP E T ps.toList) fun ps => pureR H (buildV E.P t ps)
  | .buildSlice t n ps => bnd (evalP E T ps.toList) fun ps => buildSliceO E.P t H n ps
  | .load t a => bnd (evalO E T a) fun a => pureR H (loadO E.P t H a)
  | .store t a x => bnd (evalO E T a) fun a => bnd (evalO E T x) fun x => unitR (storeO E.P t H a x)
  | .nilCheck x => bnd (evalO E T x) fun x => pureR H (nilCheckV x)
  | .binOp op t x y _ => bnd (evalO E T x) fun x => bnd (evalO E T y) fun y => pureR H (binOpS E.P op t x y)
  | .unOp op _ x => bnd (evalO E T x) fun x => pureR H (unOpS op x)
  | .convert s d x => bnd (evalO E T x) fun x => if (E.P.underlying s).isSome = true then convertO E.P s d H nid x else none
  | .makeInterface t x => bnd (evalO E T x) fun x => pureR H (ifaceV E.P t x)
  | .makeFunc (.func f) a b => bnd (evalL E T a.toList) fun a => bnd (evalL E T b.toList) fun b => some (.func f a b, H)
  | .makeMap t none => some (.map nid, H.set nid (.map []))
  | .makeSlice t l c => bnd (evalO E T l) fun l => bnd (evalO E T c) fun c => makeSliceO E.P t H nid l c
  | .slice t x l h none => bnd (evalO E T x) fun x => bnd (evalM E T l) fun l => bnd (evalM E T h) fun h => pureR H (sliceV E.P t H x l h)
  | .fieldAddr s x f => bnd (evalO E T x) fun x => pureR H (fieldA E.P s H f x)
  | .field s x f => bnd (evalO E T x) fun x => pureR H (fieldV E.P s f x)
  | .indexAddr t x i => bnd (evalO E T x) fun x => bnd (evalO E T i) fun i => pureR H (indexA E.P t H x i)
  | .index t x i => bnd (evalO E T x) fun x => bnd (evalO E T i) fun i => pureR H (indexV E.P t x i)
  | .lookup t m k ok => bnd (evalO E T m) fun m => bnd (evalO E T k) fun k => pureR H (lookupV E.P t H m k ok)
  | .mapUpdate t m k x => bnd (evalO E T m) fun m => bnd (evalO E T k) fun k => bnd (evalO E T x) fun x => unitR (mapUpdateO E.P t H m k x)
  | .insert t m k x => bnd (evalO E T m) fun m => bnd (evalO E T k) fun k => bnd (evalO E T x) fun x => unitR (mapUpdateO E.P t H m k x)
  | .typeAssert x _ t ok => bnd (evalO E T x) fun x => pureR H (typeAssertV E.P t ok x)
  | .extract x i => bnd (evalO E T x) fun x => pureR H (extractV i x)
  | .call c => match c.callee with
    | .builtin b => bnd (evalL E T c.args.toList) fun args => builtinO E b c.argTypes.toList H nid args
    | _ => none
  | _ => none

/-! ### calls -/
mutual
def idb : PV → Nat
  | .ptr id _ => id + 1
  | .aptr id _ _ _ => id + 1
  | .hsl id _ _ _ => id + 1
  | .map id => id + 1
  | .func _ a b => max (idbL a) (idbL b)
  | .iface _ v => idb v
  | .agg cs => idbL cs
  | .tuple vs => idbL vs
  | .s _ => 0
  | .eptr _ _ _ => 0
def idbL : List PV → Nat
  | [] => 0
  | p :: r => max (idb p) (idbL r)
end
def idbO : HObj → Nat
  | .box _ cells => idbL cells
  | _ => 0
mutual
/-- Arguments by their content: no slice of an object is handed on. -/
def lend (H : Ob) : PV → Option (PV × Ob)
  | .hsl id ver off n => bnd (rowsOf H (.hsl id ver off n)) fun es => some (.s (.slice es false), freeze1 H id)
  | .agg cs => bnd (lendL H cs) fun r => some (.agg r.1, r.2)
  | v => some (v, H)
def lendL (H : Ob) : List PV → Option (List PV × Ob)
  | [] => some ([], H)
  | p :: r => bnd (lend H p) fun a => bnd (lendL a.2 r) fun b => some (a.1 :: b.1, b.2)
end
mutual
/-- A result that leaves the objects from number m on behind. -/
def own (m : Nat) (H : Ob) : PV → Option PV
  | .hsl id ver off n => if id < m then some (.hsl id ver off n) else bnd (rowsOf H (.hsl id ver off n)) fun es => some (.s (.slice es false))
  | .ptr id off => if id < m then some (.ptr id off) else none
  | .aptr id ver i off => if id < m then some (.aptr id ver i off) else none
  | .map id => if id < m then some (.map id) else none
  | .func f a b => bnd (ownL m H a) fun a => bnd (ownL m H b) fun b => some (.func f a b)
  | .iface t v => bnd (own m H v) fun v => some (.iface t v)
  | .agg cs => bnd (ownL m H cs) fun cs => some (.agg cs)
  | .tuple vs => bnd (ownL m H vs) fun vs => some (.tuple vs)
  | .s v => some (.s v)
  | .eptr es i off => some (.eptr es i off)
def ownL (m : Nat) (H : Ob) : List PV → Option (List PV)
  | [] => some []
  | p :: r => bnd (own m H p) fun p => bnd (ownL m H r) fun r => some (p :: r)
end
def ownOut (m : Nat) (H : Ob) : Out → Option Out
  | .ret v => bnd (own m H v) fun v => some (.ret v)
  | .panic v => bnd (own m H v) fun v => some (.panic v)
def ownObj (m : Nat) (H : Ob) : HObj → Option HObj
  | .box t cells => bnd (ownL m H cells) fun c => if c.all cellOk then some (.box t c) else none
  | o => some o
def ownObjs (m : Nat) (H : Ob) : List HObj → Option (List HObj)
  | [] => some []
  | o :: r => bnd (ownObj m H o) fun o => bnd (ownObjs m H r) fun r => some (o :: r)
def firstO (H : Ob) : Nat → List HObj
  | 0 => []
  | m + 1 => firstO H m ++ [H m]
def Ob.back (H : Ob) (l : List HObj) : Ob := fun j => if j < l.length then l.getD j .dead else H j

/-- A run of a function: what it gives and the objects behind it. -/
abbrev Run := FuncId → List PV → Ob → Nat → Option (Out × Ob × Nat)
/-- A call by content: objects hs stand for what the arguments lead to; new objects are left behind. -/
def callC (run : Run) (f : FuncId) (args : List PV) (hs : List HObj) : Option (Out × List HObj) :=
  bnd (run f args (Ob.of hs) hs.length) fun r => bnd (ownOut hs.length r.2.1 r.1) fun o => bnd (ownObjs hs.length r.2.1 (firstO r.2.1 hs.length)) fun l => some (o, l)
/-- What may be handed to a call whose place in the order is open: nothing that can be written still. -/
def fzC (H : Ob) : PV → Bool
  | .s _ => true
  | .eptr _ _ _ => true
  | .hsl id ver off n => match H id with
    | .sarr _ _ v fz _ es => fz && decide (v = ver) && decide (off + n ≤ es.length)
    | _ => false
  | _ => false
def fzA (H : Ob) : PV → Bool
  | .agg cs => cs.all (fzC H)
  | p => fzC H p
/-- 'pure': nothing written is reached. -/
def doCall (E : Env) (callc : FuncId → List PV → List HObj → Option (Out × List HObj)) (run : Run) (draw : Bool) (f : FuncId) (args : List PV) (H : Ob) (next : Nat) : Option (Out × Ob × Nat) :=
  if E.ref f then (if draw then none else run f args H next)
  else bnd (lendL H args) fun a =>
    let m := idbL a.1
    if draw = true ∧ args.all (fzA H) = false then none
    else if m ≤ next ∧ (firstO a.2 m).all (fun o => decide (idbO o ≤ m)) = true then
      bnd (callc f a.1 (firstO a.2 m)) fun r => some (r.1, (if m = 0 then a.2 else a.2.back r.2), next)
    else none
def callee (v : PV) : Option (FuncId × List PV × List PV) :=
  match v with
  | .s (.func f) => some (f, [], [])
  | .func f a b => some (f, a, b)
  | _ => none

inductive Step where
  | go (T : Nat → PV) (H : Ob) (next : Nat)
  | panic (v : PV) (T : Nat → PV) (H : Ob) (next : Nat)
def putT (T : Nat → PV) (dst : Option Tmp) (v : PV) : Nat → PV :=
  match dst with
  | some d => upd T d v
  | none => T
def wantedS (ops : Array Oper) (T : Nat → PV) (g : Option (Nat × Bool)) : Bool :=
  match g with
  | none => true
  | some (j, want) => match (ops[j]?).bind (·.dst) with
    | some d => match T d with
      | .s (.bool b) => b == want
      | _ => false
    | none => false
abbrev CallC := FuncId → List PV → List HObj → Option (Out × List HObj)
def stepO (E : Env) (callc : CallC) (run : Run) (ops : Array Oper) (draw : Bool) (o : Oper) (T : Nat → PV) (H : Ob) (next : Nat) : Option Step :=
  if wantedS ops T o.guard then
    match o.op with
    | .call { callee := .value fv, args := args, argTypes := _ } =>
      bnd (evalO E T fv) fun fv => bnd (evalL E T args.toList) fun args => bnd (callee fv) fun c =>
        bnd (doCall E callc run draw c.1 (c.2.1 ++ args ++ c.2.2) H (next + 1)) fun r => match r.1 with
          | .ret v => some (.go (putT T o.dst v) r.2.1 r.2.2)
          | .panic v => some (.panic v T r.2.1 r.2.2)
    | .panic x => bnd (evalO E T x) fun x => match x with
      | .iface t v => some (.panic (.iface t v) T H (next + 1))
      | .s (.iface t v) => some (.panic (.s (.iface t v)) T H (next + 1))
      | _ => none
    | .buildSlice t n ps => bnd (evalP E T ps.toList) fun q => if draw = true ∧ (q.all fun x => decide (idb x.2 = 0)) = false then none else
        bnd (buildSliceO E.P t H n q) fun r => some (.go (putT T o.dst r.1) r.2 (next + 1))
    | op => bnd (opStep E op T H next) fun r => some (.go (putT T o.dst r.1) r.2 (next + 1))
  else some (.go (putT T o.dst .undef) H (next + 1))
def opsO (E : Env) (callc : CallC) (run : Run) (ops : Array Oper) (draw : Bool) : List Oper → (Nat → PV) → Ob → Nat → Option (Ex × St)
  | [], T, H, next => some (.normal, ⟨T, H, next⟩)
  | o :: r, T, H, next => bnd (stepO E callc run ops draw o T H next) fun x => match x with
    | .go T H next => opsO E callc run ops draw r T H next
    | .panic v T H next => if draw = true then none else some (.panic v, ⟨T, H, next⟩)

/-! ### drawn regions: any order of the operations that the edges let -/
/-- 0: looks at no object; 1: looks, and turns none; 2: turns. -/
def kindO : Op → Nat
  | .move _ | .assign _ | .pick .. | .build .. | .buildSlice .. | .nilCheck _ | .binOp .. | .unOp .. | .makeInterface .. | .makeFunc .. | .field .. | .index .. | .typeAssert .. | .extract .. => 0
  | .load .. | .fieldAddr .. | .indexAddr .. | .slice .. | .lookup .. => 1
  | .call c => match c.callee with
    | .value _ => 1
    | .builtin .len => 1
    | .builtin .max => 0
    | .builtin .min => 0
    | _ => 2
  | _ => 2
def heads0 : PV → List Nat
  | .ptr id _ => [id]
  | .aptr id _ _ _ => [id]
  | .hsl id _ _ _ => [id]
  | .map id => [id]
  | _ => []
def headsA : PV → List Nat
  | .agg cs => cs.flatMap heads0
  | v => heads0 v
def heads1 : PV → List Nat
  | .func _ a b => (a ++ b).flatMap headsA
  | v => heads0 v
def heads : PV → List Nat
  | .agg cs => cs.flatMap heads1
  | v => heads1 v
def opndIds (E : Env) (T : Nat → PV) (x : Operand) : List Nat :=
  match evalO E T x with
  | some p => heads p
  | none => []
def touchO (E : Env) (op : Op) (T : Nat → PV) (nid : Nat) : List Nat :=
  match kindO op with
  | 0 => []
  | 1 => op.operands.toList.flatMap (opndIds E T)
  | _ => nid :: op.operands.toList.flatMap (opndIds E T)
def maskOf (M : List Nat) (o : Oper) : Nat := o.after.toList.foldl (fun m e => if Region.binds .any e then m ||| 2 ^ e.on ||| M.getD e.on 0 else m) 0
def masks (os : List Oper) : List Nat := os.foldl (fun M o => M ++ [maskOf M o]) []
def compat (k i : Nat) : Bool := (decide (k < 2) && decide (i < 2)) || decide (k = 0) || decide (i = 0)
def disj (F G : List Nat) : Bool := F.all fun x => !G.contains x
def opK (ops : Array Oper) (i : Nat) : Nat :=
  match ops[i]? with
  | some o => kindO o.op
  | none => 0
def drawOk (dyn : Bool) (ops : Array Oper) : Bool :=
  let M := masks ops.toList
  (List.range ops.size).all fun j => match ops[j]? with
    | none => true
    | some oj => M.getD j 0 == maskOf M oj && oj.after.all (fun e => decide (e.on < j)) && (List.range j).all fun i => match ops[i]? with
      | none => true
      | some oi => (M.getD j 0).testBit i || (oi.apart ops oj && (dyn || compat (kindO oi.op) (kindO oj.op)))
def pairOk (ops : Array Oper) (M : List Nat) (k i : Nat) (F G : List Nat) : Bool := (M.getD i 0).testBit k || compat (opK ops k) (opK ops i) || disj F G
def opsD (E : Env) (callc : CallC) (run : Run) (ops : Array Oper) (M : List Nat) : Nat → List (Nat × List Nat) → List Oper → (Nat → PV) → Ob → Nat → Option (Ex × St)
  | i, tr, [], T, H, next => some (.normal, ⟨T, H, next⟩)
  | i, tr, o :: r, T, H, next =>
    if tr.all (fun x => pairOk ops M x.1 i x.2 (touchO E o.op T next)) = true then bnd (stepO E callc run ops true o T H next) fun x => match x with
      | .go T' H' next' => opsD E callc run ops M (i + 1) ((i, touchO E o.op T next) :: tr) r T' H' next'
      | .panic _ _ _ _ => none
    else none

/-! ### ahead of a drawn region: what its calls are handed is frozen -/
def dstsO (ops : Array Oper) : List Nat := ops.toList.filterMap (·.dst)
def srcO (ops : Array Oper) (t : Nat) : List Nat :=
  if (dstsO ops).contains t then ops.toList.filterMap fun o => match o.dst, o.op with
    | some d, .move (.tmp u) => if d = t ∧ (dstsO ops).contains u = false then some u else none
    | some d, .assign (.tmp u) => if d = t ∧ (dstsO ops).contains u = false then some u else none
    | _, _ => none
  else [t]
def preS (ops : Array Oper) : List Nat := ops.toList.flatMap fun o => match o.op with
  | .call c => match c.callee with
    | .value _ => c.args.toList.flatMap fun x => match x with
      | .tmp t => srcO ops t
      | _ => []
    | _ => []
  | _ => []
def frz (T : Nat → PV) : List Nat → Ob → Ob
  | [], H => H
  | t :: r, H => frz T r (match T t with
    | .hsl id _ _ _ => freeze1 H id
    | _ => H)

/-! ### code -/
def loopN (body : St → Option (Ex × St)) : Nat → St → Option (Ex × St)
  | 0, _ => none
  | n + 1, s => bnd (body s) fun r => match r.1 with
    | .normal => loopN body n r.2
    | e => some (e, r.2)
def exec (E : Env) (dyn : Bool) (callc : CallC) (run : Run) (n : Nat) : Code → St → Option (Ex × St)
  | .skip, s => some (.normal, s)
  | .label _, s => some (.normal, s)
  | .region _ ops draw, s => if draw = true ∧ dyn = true then opsD E callc run ops (masks ops.toList) 0 [] ops.toList s.T (frz s.T (preS ops) s.H) s.next else opsO E callc run ops draw ops.toList s.T s.H s.next
  | .seq a b, s => bnd (exec E dyn callc run n a s) fun r => match r.1 with
    | .normal => exec E dyn callc run n b r.2
    | e => some (e, r.2)
  | .cond c a b, s => bnd (evalO E s.T c) fun c => match c with
    | .s (.bool t) => if t = true then exec E dyn callc run n a s else exec E dyn callc run n b s
    | _ => none
  | .block id c, s => bnd (exec E dyn callc run n c s) fun r => match r.1 with
    | .exit id' => some (if id' = id then .normal else .exit id', r.2)
    | e => some (e, r.2)
  | .loop c, s => loopN (exec E dyn callc run n c) n s
  | .exit id, s => some (.exit id, s)
  | .ret, s => some (.ret, s)
  | _, _ => none
/-- The results of a function, out of its frame. -/
def resultsS (P : Program) (T : Nat → PV) (H : Ob) : List ResultVar → Option (List PV)
  | [] => some []
  | .tmp t :: r => bnd (resultsS P T H r) fun q => some (T t :: q)
  | .cell a t :: r => bnd (loadO P t H (T a)) fun v => bnd (resultsS P T H r) fun q => some (v :: q)
def packR : List PV → PV
  | [v] => v
  | vs => .tuple vs
def finishO (P : Program) (fn : Func) (r : Ex × St) : Option (Out × Ob × Nat) :=
  match r.1 with
  | .normal => bnd (resultsS P r.2.T r.2.H fn.results.toList) fun vs => some (.ret (packR vs), r.2.H, r.2.next)
  | .ret => bnd (resultsS P r.2.T r.2.H fn.results.toList) fun vs => some (.ret (packR vs), r.2.H, r.2.next)
  | .panic v => some (.panic v, r.2.H, r.2.next)
  | .exit _ => none
def runF (E : Env) : Nat → Run
  | 0, _, _, _, _ => none
  | n + 1, f, args, H, next =>
    match E.ext f with
    | some g => bnd (g args) fun v => some (.ret v, H, next)
    | none => match E.P.funcs[f]? with
      | some fn => match fn.body with
        | some c => if args.length ≤ fn.ntmps ∧ E.use f = true then bnd (exec E (E.dyn f) (callC (runF E n)) (runF E n) n c ⟨enter args, H, next⟩) (finishO E.P fn) else none
        | none => none
      | none => none

end Go.Vm
