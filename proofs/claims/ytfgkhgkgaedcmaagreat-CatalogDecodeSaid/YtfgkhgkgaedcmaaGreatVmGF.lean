/- Code without types: what the abstract machine does, each type's answer laid in. -/
import Derived.Test.YtfgkhgkgaedcmaaGreatVmGE
section
set_option linter.unusedVariables false
set_option linter.unusedSimpArgs false
namespace Go.Vm
open Go.RowKit

inductive MX where
  | t (i : Nat)
  | c (p : PV)
  deriving Inhabited
def valX (T : Nat → PV) : MX → PV
  | .t i => T i
  | .c p => p
/-- Kinds of values, as '==' knows them. -/
inductive MK where
  | num
  | bool
  | slice
  | flat (ks : List Nat)
  | nil (k : Nat)
inductive MV where
  | int (k : IntKind)
  | str (bytes : Bool)
  | bytes (e : TypeId)
inductive MS where
  | str
  | sl (size : Nat)
  | arr (n : Nat) (agg : Bool) (size : Nat)
  | map
inductive MKey where
  | str
  | int
inductive MOp where
  | mv (x : MX)
  | pick (c a b : MX)
  | alloc (t : TypeId) (zero : List SV)
  | box (t : TypeId) (x : MX)
  | build (zero : List SV) (ps : List (Nat × Nat × MX))
  | rows (size : Nat) (zero : List SV) (n : Nat) (ps : List (Nat × MX))
  | load (agg : Bool) (size : Nat) (a : MX)
  | store (size : Nat) (a x : MX)
  | chk (x : MX)
  | bin (op : BinOp) (k : MK) (x y : MX)
  | un (op : UnOp) (x : MX)
  | conv (k : MV) (x : MX)
  | ifc (t : TypeId) (x : MX)
  | mkf (f : FuncId) (a b : List MX)
  | mkm
  | mks (e : TypeId) (size : Nat) (zero : List SV) (l c : MX)
  | sl (k : MS) (x : MX) (l h : Option MX)
  | fa (o : Nat) (x : MX)
  | fv (o : Nat) (agg : Bool) (size : Nat) (x : MX)
  | ia (k : MS) (x i : MX)
  | iv (k : MS) (x i : MX)
  | look (kt : MKey) (zero : Option SV) (ok : Bool) (m k : MX)
  | mupd (kt : MKey) (m k x : MX)
  | ta (t : TypeId) (ok : Bool) (x : MX)
  | ext (x : MX) (i : Nat)
  | len (k : MS) (x : MX)
  | app (e : TypeId) (size : Nat) (s x : MX)
  | mx (b : Bool) (x : MX) (r : List MX)
  | call (f : FuncId) (args : List MX)
  | callv (f : MX) (args : List MX)
  | panic (x : MX)
structure MOper where
  d : Option Nat
  g : Option (Nat × Bool)
  op : MOp
inductive MC where
  | skip
  | reg (ops : List MOper) (draw : Bool)
  | orig (ops : Array Oper)
  | regD (ops : List MOper) (chk : List (Nat × Nat × List MX × Nat × Nat × List MX)) (pre : List Nat)
  | seq (a b : MC)
  | cond (x : MX) (a b : MC)
  | block (id : Nat) (c : MC)
  | loop (c : MC)
  | exit (id : Nat)
  | ret

/-! ### what they do -/
def loadM (agg : Bool) (size : Nat) (H : Ob) : PV → Option PV
  | .ptr id off => match H id with
    | .box _ cells => loadP agg size cells off
    | _ => none
  | .eptr es i off => match es[i]? with
    | some c => loadS agg size c off
    | none => none
  | .aptr id ver i off => match H id with
    | .sarr _ _ v _ _ es => if v = ver then match es[i]? with
        | some c => loadS agg size c off
        | none => none
      else none
    | _ => none
  | _ => none
def storeM (size : Nat) (H : Ob) (p x : PV) : Option Ob :=
  match p with
  | .ptr id off => match H id with
    | .box ty cells => if x.cells.length = size ∧ off + size ≤ cells.length ∧ x.cells.all cellOk = true then some (H.set id (.box ty (setCells cells off x.cells))) else none
    | _ => none
  | .aptr id ver i off => match H id, toSVs x.cells with
    | .sarr ty sz v false ap es, some xs => if v = ver ∧ xs.length = size then match es[i]? with
        | some c => if off + size ≤ c.length then some (H.set id (.sarr ty sz v false ap (es.set i (setCells c off xs)))) else none
        | none => none
      else none
    | _, _ => none
  | _ => none
def fieldAM (o : Nat) (H : Ob) : PV → Option PV
  | .ptr id off => some (.ptr id (off + o))
  | .eptr es i off => some (.eptr es i (off + o))
  | .aptr id ver i off => match H id with
    | .sarr _ _ v _ _ _ => if v = ver then some (.aptr id ver i (off + o)) else none
    | _ => none
  | _ => none
def fieldVM (o : Nat) (agg : Bool) (size : Nat) : PV → Option PV
  | .agg cs => loadP agg size cs o
  | _ => none
def indexAM (k : MS) (H : Ob) (x ix : PV) : Option PV :=
  match k, x, ix with
  | .sl size, .s (.slice es _), .s (.int _ i) => if 0 ≤ i then match es[i.toNat]? with
      | some c => if c.length = size ∧ 0 < size then some (.eptr es i.toNat 0) else none
      | none => none
    else none
  | .sl size, .hsl id ver off n, .s (.int _ i) => match H id with
    | .sarr _ sz v _ _ es => if 0 ≤ i ∧ i < n ∧ v = ver ∧ sz = size ∧ off + n ≤ es.length then some (.aptr id ver (off + i.toNat) 0) else none
    | _ => none
  | .arr n _ size, .ptr id off, .s (.int _ i) => if 0 ≤ i ∧ i < n ∧ 0 < size then some (.ptr id (off + i.toNat * size)) else none
  | .arr n _ size, .eptr es k off, .s (.int _ i) => if 0 ≤ i ∧ i < n ∧ 0 < size then some (.eptr es k (off + i.toNat * size)) else none
  | _, _, _ => none
def indexVM (k : MS) (x ix : PV) : Option PV :=
  match k, x, ix with
  | .str, .s (.str l), .s (.int _ i) => if 0 ≤ i then match l[i.toNat]? with
      | some b => some (.s (.int .u8 b.toNat))
      | none => none
    else none
  | .arr n agg size, .agg cs, .s (.int _ i) => if 0 ≤ i ∧ i < n then loadP agg size cs (i.toNat * size) else none
  | _, _, _ => none
def sliceM (k : MS) (H : Ob) (x : PV) (lo hi : Option PV) : Option PV :=
  match k, x with
  | .str, .s (.str l) => match bounds l.length lo hi with
      | some (a, b) => some (.s (.str ((l.take b).drop a)))
      | none => none
  | .sl _, .s .nils => match bounds 0 lo hi with
    | some _ => some (.s .nils)
    | none => none
  | .sl size, .s (.slice es full) => match bounds es.length lo hi with
    | some (a, b) => if es.all (fun c => decide (c.length = size)) = true ∧ 0 < size then some (.s (.slice ((es.take b).drop a) (full && decide (b = es.length)))) else none
    | none => none
  | .sl size, .hsl id ver off n => match H id with
    | .sarr _ sz v _ _ es => if v = ver ∧ sz = size ∧ off + n ≤ es.length then match bounds n lo hi with
        | some (a, b) => if a = b ∧ a ≠ 0 then some (.s (.slice [] false)) else some (.hsl id ver (off + a) (b - a))
        | none => none
      else none
    | _ => none
  | _, _ => none
def lenM (k : MS) (H : Ob) (x : PV) : Option PV :=
  match k, x with
  | .str, .s (.str l) => some (.i64 l.length)
  | .sl _, .s .nils => some (.i64 0)
  | .sl _, .s (.slice es _) => some (.i64 es.length)
  | .sl _, .hsl id ver _ n => match H id with
    | .sarr _ _ v _ _ _ => if v = ver then some (.i64 n) else none
    | _ => none
  | .map, .map id => match H id with
    | .map es => some (.i64 es.length)
    | _ => none
  | _, _ => none
def appendM (e : TypeId) (size : Nat) (H : Ob) (nid : Nat) (s x : PV) : Option (PV × Ob) :=
  match rowsOf H x with
  | some new =>
    if new.all (fun c => decide (c.length = size)) = true then
      match s with
      | .s .nils => if new.length ≤ 1073741824 then if new.isEmpty = true then some (.s .nils, H) else some (.hsl nid 0 0 new.length, H.set nid (.sarr e size 0 false true new)) else none
      | .s (.slice es full) => if es.all (fun c => decide (c.length = size)) = true ∧ es.length + new.length ≤ 1073741824 then
          if new.isEmpty = true then some (.s (.slice es full), H)
          else if full = true then some (.hsl nid 0 0 (es.length + new.length), H.set nid (.sarr e size 0 false true (es ++ new))) else none
        else none
      | .hsl id ver off n => match H id with
        | .sarr ty sz v fz true es => if v = ver ∧ off = 0 ∧ n = es.length ∧ sz = size ∧ ty = e ∧ n + new.length ≤ 1073741824 then
            if new.isEmpty = true then some (.hsl id ver off n, H)
            else some (.hsl id (ver + 1) 0 (n + new.length), H.set id (.sarr ty sz (ver + 1) fz true (es ++ new)))
          else none
        | _ => none
      | _ => none
    else none
  | none => none
def buildM : List PV → List (Nat × Nat × PV) → Option (List PV)
  | c, [] => some c
  | c, (o, n, x) :: r => if x.cells.length = n ∧ o + n ≤ c.length then buildM (setCells c o x.cells) r else none
def eqM (k : MK) : PV → PV → Option Bool
  | .s (.bool a), .s (.bool b) => match k with
    | .bool => some (a == b)
    | _ => none
  | .s .nils, .s .nils => match k with
    | .slice => some true
    | _ => none
  | .s (.slice _ _), .s .nils => match k with
    | .slice => some false
    | _ => none
  | .s .nils, .s (.slice _ _) => match k with
    | .slice => some false
    | _ => none
  | .agg a, .agg b => match k, toSVs a, toSVs b with
    | .flat ks, some x, some y => svEqs ks x y
    | _, _, _ => none
  | x, .s .nili => match k with
    | .nil j => if j = 0 then isNil 0 x else none
    | _ => none
  | x, .s .nilp => match k with
    | .nil j => if j = 1 then isNil 1 x else none
    | _ => none
  | _, _ => none
def binM (op : BinOp) (k : MK) : PV → PV → Option PV
  | .s (.int k a), .s (.int k' b) => match binInt op k a k' b with
    | some v => some (.s v)
    | none => none
  | .s (.str a), .s (.str b) => match binStr op a b with
    | some v => some (.s v)
    | none => none
  | x, y => match op with
    | .eql => match eqM k x y with
      | some r => some (.s (.bool r))
      | none => none
    | .neq => match eqM k x y with
      | some r => some (.s (.bool (!r)))
      | none => none
    | _ => none
def convM (k : MV) (H : Ob) (nid : Nat) (x : PV) : Option (PV × Ob) :=
  match k, x with
  | .int k, .s (.int _ n) => some (.s (.int k (k.wrap n)), H)
  | .str _, .s (.str l) => some (.s (.str l), H)
  | .bytes e, .s (.str l) => if l.length ≤ 1073741824 then some (.hsl nid 0 0 l.length, H.set nid (.sarr e 1 0 false false (l.map fun b => [.int .u8 b.toNat]))) else none
  | .str true, .s .nils => some (.s (.str []), H)
  | .str true, .s (.slice es f) => match bytesOf es with
    | some l => some (.s (.str l), H)
    | none => none
  | .str true, .hsl id ver off n => match rowsOf H (.hsl id ver off n) with
    | some rows => match bytesOf rows with
      | some l => some (.s (.str l), H)
      | none => none
    | none => none
  | _, _ => none
def ifaceM (t : TypeId) : PV → PV
  | .s v => .s (.iface t v)
  | x => .iface t x
def tassertM (t : TypeId) (ok : Bool) : PV → Option PV
  | .iface t' v => if t' = t then some (if ok then .tuple [v, .bool true] else v) else none
  | .s (.iface t' v) => if t' = t then some (if ok then .tuple [.s v, .bool true] else .s v) else none
  | _ => none
def keyM : MKey → SV → Bool
  | .int, .int _ _ => true
  | .str, .str _ => true
  | _, _ => false
def lookM (kt : MKey) (zero : Option SV) (ok : Bool) (H : Ob) (m k : PV) : Option PV :=
  match m, k with
  | .map id, .s key => match H id with
    | .map es => if keyM kt key = true then match mapFind key es 0 with
        | some (some (_, v)) => some (if ok then .tuple [.s v, .bool true] else .s v)
        | some none => match zero with
          | some z => some (if ok then .tuple [.s z, .bool false] else .s z)
          | none => none
        | none => none
      else none
    | _ => none
  | _, _ => none
def mupdM (kt : MKey) (H : Ob) (m k x : PV) : Option Ob :=
  match m, k, x with
  | .map id, .s key, .s v => match H id with
    | .map es => if keyM kt key = true then match mapFind key es 0 with
        | some (some (i, _)) => some (H.set id (.map (es.set i (key, v))))
        | some none => some (H.set id (.map (es ++ [(key, v)])))
        | none => none
      else none
    | _ => none
  | _, _, _ => none
def mksM (e : TypeId) (size : Nat) (zero : List SV) (H : Ob) (nid : Nat) (len cap : PV) : Option (PV × Ob) :=
  match len, cap with
  | .s (.int _ l), .s (.int _ c) => if 0 ≤ l ∧ l ≤ c ∧ c ≤ 1073741824 then some (.hsl nid 0 0 l.toNat, H.set nid (.sarr e size 0 false true (List.replicate l.toNat zero))) else none
  | _, _ => none
def valM (T : Nat → PV) : Option MX → Option PV
  | none => none
  | some x => some (valX T x)
/-- One operation; calls and panics stand apart. -/
def mstep (op : MOp) (draw : Bool) (T : Nat → PV) (H : Ob) (nid : Nat) : Option (PV × Ob) :=
  match op with
  | .mv x => some (valX T x, H)
  | .pick c a b => match valX T c with
    | .s (.bool t) => some (if t then valX T a else valX T b, H)
    | _ => none
  | .alloc t z => some (.ptr nid 0, H.set nid (.box t (z.map .s)))
  | .box t x => boxO H nid t (valX T x)
  | .build z ps => bnd (buildM (z.map .s) (ps.map fun x => (x.1, x.2.1, valX T x.2.2))) fun c => some (.agg c, H)
  | .rows size z n ps => if draw = true ∧ (ps.all fun x => decide (idb (valX T x.2) = 0)) = false then none else bnd (rowParts size H (List.replicate n z) (ps.map fun x => (x.1, valX T x.2))) fun r => some (.s (.slice r.1 true), r.2)
  | .load agg size a => pureR H (loadM agg size H (valX T a))
  | .store size a x => unitR (storeM size H (valX T a) (valX T x))
  | .chk x => pureR H (nilCheckV (valX T x))
  | .bin op k x y => pureR H (binM op k (valX T x) (valX T y))
  | .un op x => pureR H (unOpS op (valX T x))
  | .conv k x => convM k H nid (valX T x)
  | .ifc t x => some (ifaceM t (valX T x), H)
  | .mkf f a b => some (.func f (a.map (valX T)) (b.map (valX T)), H)
  | .mkm => some (.map nid, H.set nid (.map []))
  | .mks e size z l c => mksM e size z H nid (valX T l) (valX T c)
  | .sl k x l h => pureR H (sliceM k H (valX T x) (valM T l) (valM T h))
  | .fa o x => pureR H (fieldAM o H (valX T x))
  | .fv o agg size x => pureR H (fieldVM o agg size (valX T x))
  | .ia k x i => pureR H (indexAM k H (valX T x) (valX T i))
  | .iv k x i => pureR H (indexVM k (valX T x) (valX T i))
  | .look kt z ok m k => pureR H (lookM kt z ok H (valX T m) (valX T k))
  | .mupd kt m k x => unitR (mupdM kt H (valX T m) (valX T k) (valX T x))
  | .ta t ok x => pureR H (tassertM t ok (valX T x))
  | .ext x i => pureR H (extractV i (valX T x))
  | .len k x => pureR H (lenM k H (valX T x))
  | .app e size s x => appendM e size H nid (valX T s) (valX T x)
  | .mx b x r => pureR H (maxMin b (valX T x) (r.map (valX T)))
  | _ => none
def wantedM (T : Nat → PV) (g : Option (Nat × Bool)) : Bool :=
  match g with
  | none => true
  | some (d, want) => match T d with
    | .s (.bool b) => b == want
    | _ => false
def afterCall (T : Nat → PV) (d : Option Nat) (r : Out × Ob × Nat) : Step :=
  match r.1 with
  | .ret v => .go (putT T d v) r.2.1 r.2.2
  | .panic v => .panic v T r.2.1 r.2.2
def stepM (E : Env) (callc : CallC) (run : Run) (draw : Bool) (o : MOper) (T : Nat → PV) (H : Ob) (next : Nat) : Option Step :=
  if wantedM T o.g then
    match o.op with
    | .call f args => bnd (doCall E callc run draw f (args.map (valX T)) H (next + 1)) fun r => some (afterCall T o.d r)
    | .callv f args => bnd (callee (valX T f)) fun c => bnd (doCall E callc run draw c.1 (c.2.1 ++ args.map (valX T) ++ c.2.2) H (next + 1)) fun r => some (afterCall T o.d r)
    | .panic x => match valX T x with
      | .iface t v => some (.panic (.iface t v) T H (next + 1))
      | .s (.iface t v) => some (.panic (.s (.iface t v)) T H (next + 1))
      | _ => none
    | op => bnd (mstep op draw T H next) fun r => some (.go (putT T o.d r.1) r.2 (next + 1))
  else some (.go (putT T o.d .undef) H (next + 1))
def opsM (E : Env) (callc : CallC) (run : Run) (draw : Bool) : List MOper → (Nat → PV) → Ob → Nat → Option (Ex × St)
  | [], T, H, next => some (.normal, ⟨T, H, next⟩)
  | o :: r, T, H, next => bnd (stepM E callc run draw o T H next) fun x => match x with
    | .go T H next => opsM E callc run draw r T H next
    | .panic v T H next => if draw = true then none else some (.panic v, ⟨T, H, next⟩)

/-! ### out of the program's code -/
def cX (E : Env) : Operand → Option MX
  | .tmp t => some (.t t)
  | .const v => match ofConst v with
    | some p => some (.c p)
    | none => none
  | .func f => some (.c (.s (.func f)))
  | .global g => match E.G g with
    | some p => some (.c p)
    | none => none
def cL (E : Env) : List Operand → Option (List MX)
  | [] => some []
  | x :: r => bnd (cX E x) fun a => bnd (cL E r) fun q => some (a :: q)
def cP (E : Env) : List (Nat × Operand) → Option (List (Nat × MX))
  | [] => some []
  | (i, x) :: r => bnd (cX E x) fun a => bnd (cP E r) fun q => some ((i, a) :: q)
def cB (E : Env) (t : TypeId) : List (Nat × Operand) → Option (List (Nat × Nat × MX))
  | [] => some []
  | (i, x) :: r => bnd (fo E.P t i) fun f => bnd (ti E.P f.2) fun y => bnd (cX E x) fun a => bnd (cB E t r) fun q => some ((f.1, y.size, a) :: q)
def cM (E : Env) : Option Operand → Option (Option MX)
  | none => some none
  | some x => bnd (cX E x) fun a => some (some a)
def cK (P : Program) (t : TypeId) (lit : Bool) : MK :=
  if isBoolT P t then .bool else if isSliceT P t then .slice else match flatEq P t with
    | some ks => .flat ks
    | none => if lit = true then match nilK P t with
        | some j => .nil j
        | none => .num
      else .num
def cKey (P : Program) (t : TypeId) : Option MKey :=
  match P.underlying t with
  | some .string => some .str
  | some (.int _) => some .int
  | _ => none
def cOp (E : Env) (op : Op) : Option MOp :=
  match op with
  | .move x => bnd (cX E x) fun x => some (.mv x)
  | .assign x => bnd (cX E x) fun x => some (.mv x)
  | .pick c a b => bnd (cX E c) fun c => bnd (cX E a) fun a => bnd (cX E b) fun b => some (.pick c a b)
  | .alloc t => bnd (ti E.P t) fun y => some (.alloc t y.zero)
  | .box t x => bnd (cX E x) fun x => some (.box t x)
  | .build t ps => bnd (ti E.P t) fun y => if structOk E.P t = true then bnd (cB E t ps.toList) fun q => some (.build y.zero q) else none
  | .buildSlice t n ps => bnd (elemT E.P t) fun e => bnd (ti E.P e) fun y => if n * y.size ≤ 16777216 ∧ 0 < y.size then bnd (cP E ps.toList) fun q => some (.rows y.size y.zero n q) else none
  | .load t a => bnd (ti E.P t) fun y => bnd (cX E a) fun a => some (.load y.agg y.size a)
  | .store t a x => bnd (ti E.P t) fun y => bnd (cX E a) fun a => bnd (cX E x) fun x => some (.store y.size a x)
  | .nilCheck x => bnd (cX E x) fun x => some (.chk x)
  | .binOp op t x y0 _ => bnd (cX E x) fun x => bnd (cX E y0) fun y => some (.bin op (cK E.P t (litO y0)) x y)
  | .unOp op _ x => bnd (cX E x) fun x => some (.un op x)
  | .convert s d x => bnd (cX E x) fun x => if (E.P.underlying s).isSome = true then match intT E.P d with
      | some k => some (.conv (.int k) x)
      | none => if isStringT E.P d = true then some (.conv (.str (match elemT E.P s with
          | some e => decide (intT E.P e = some .u8)
          | none => false)) x) else match elemT E.P d with
        | some e => if intT E.P e = some .u8 then some (.conv (.bytes e) x) else none
        | none => none
    else none
  | .makeInterface t x => if isIface E.P t = true then none else bnd (cX E x) fun x => some (.ifc t x)
  | .makeFunc (.func f) a b => bnd (cL E a.toList) fun a => bnd (cL E b.toList) fun b => some (.mkf f a b)
  | .makeMap t none => some .mkm
  | .makeSlice t l c => bnd (elemT E.P t) fun e => bnd (ti E.P e) fun y => if y.bytes ≤ 65536 ∧ 0 < y.size then bnd (cX E l) fun l => bnd (cX E c) fun c => some (.mks e y.size y.zero l c) else none
  | .slice t x l h none => bnd (cX E x) fun x => bnd (cM E l) fun l => bnd (cM E h) fun h => if isStringT E.P t = true then some (.sl .str x l h) else bnd (elemT E.P t) fun e => bnd (ti E.P e) fun y => some (.sl (.sl y.size) x l h)
  | .fieldAddr s x f => bnd (cX E x) fun x => bnd (fo E.P s f) fun o => some (.fa o.1 x)
  | .field s x f => bnd (cX E x) fun x => bnd (fo E.P s f) fun o => bnd (ti E.P o.2) fun y => some (.fv o.1 y.agg y.size x)
  | .indexAddr t x i => bnd (cX E x) fun x => bnd (cX E i) fun i => match elemT E.P t with
    | some e => bnd (ti E.P e) fun y => some (.ia (.sl y.size) x i)
    | none => bnd (arrT E.P t) fun a => bnd (ti E.P a.2) fun y => some (.ia (.arr a.1 y.agg y.size) x i)
  | .index t x i => bnd (cX E x) fun x => bnd (cX E i) fun i => if isStringT E.P t = true then some (.iv .str x i) else bnd (arrT E.P t) fun a => bnd (ti E.P a.2) fun y => some (.iv (.arr a.1 y.agg y.size) x i)
  | .lookup t m k ok => bnd (cX E m) fun m => bnd (cX E k) fun k => bnd (isMapT E.P t) fun kt => bnd (cKey E.P kt.1) fun key => bnd (ti E.P kt.2) fun y => some (.look key (match y.zero, y.agg with
      | [z], false => some z
      | _, _ => none) ok m k)
  | .mapUpdate t m k x => bnd (cX E m) fun m => bnd (cX E k) fun k => bnd (cX E x) fun x => bnd (isMapT E.P t) fun kt => bnd (cKey E.P kt.1) fun key => some (.mupd key m k x)
  | .insert t m k x => bnd (cX E m) fun m => bnd (cX E k) fun k => bnd (cX E x) fun x => bnd (isMapT E.P t) fun kt => bnd (cKey E.P kt.1) fun key => some (.mupd key m k x)
  | .typeAssert x _ t ok => if isIface E.P t = true then none else bnd (cX E x) fun x => some (.ta t ok x)
  | .extract x i => bnd (cX E x) fun x => some (.ext x i)
  | .panic x => bnd (cX E x) fun x => some (.panic x)
  | .call c => match c.callee with
    | .builtin b => match b, c.argTypes.toList, c.args.toList with
      | .len, [t], [x] => bnd (cX E x) fun x => if isStringT E.P t = true then some (.len .str x) else if isSliceT E.P t = true then some (.len (.sl 0) x) else if (isMapT E.P t).isSome = true then some (.len .map x) else none
      | .append, [t, t2], [s, x] => bnd (cX E s) fun s => bnd (cX E x) fun x => bnd (elemT E.P t) fun e => bnd (ti E.P e) fun y =>
        if 0 < y.size ∧ y.bytes ≤ 65536 ∧ (t2 = t ∨ (isStringT E.P t2 = true ∧ intT E.P e = some .u8)) then some (.app e y.size s x) else none
      | .max, _, x :: r => bnd (cX E x) fun x => bnd (cL E r) fun r => some (.mx true x r)
      | .min, _, x :: r => bnd (cX E x) fun x => bnd (cL E r) fun r => some (.mx false x r)
      | _, _, _ => none
    | .value (.func f) => bnd (cL E c.args.toList) fun a => some (.call f a)
    | .value f => bnd (cX E f) fun f => bnd (cL E c.args.toList) fun a => some (.callv f a)
    | _ => none
  | _ => none
def cG (ops : Array Oper) : Option (Nat × Bool) → Option (Option (Nat × Bool))
  | none => some none
  | some (j, want) => bnd ((ops[j]?).bind (·.dst)) fun d => some (some (d, want))
def cOps (E : Env) (ops : Array Oper) : List Oper → Option (List MOper)
  | [] => some []
  | o :: r => bnd (cOp E o.op) fun m => bnd (cG ops o.guard) fun g => bnd (cOps E ops r) fun q => some (⟨o.dst, g, m⟩ :: q)
/-! drawn regions of which two operations may touch one object -/
def touchX (T : Nat → PV) (nid k : Nat) (l : List MX) : List Nat :=
  match k with
  | 0 => []
  | 1 => l.flatMap fun x => heads (valX T x)
  | _ => nid :: l.flatMap fun x => heads (valX T x)
def heldX (T : Nat → PV) (n0 : Nat) (c : Nat × Nat × List MX × Nat × Nat × List MX) : Bool := disj (touchX T (n0 + c.1) c.2.1 c.2.2.1) (touchX T (n0 + c.2.2.2.1) c.2.2.2.2.1 c.2.2.2.2.2)
def needD (E : Env) (ops : Array Oper) : List (Nat × Nat) := ((List.range ops.size).flatMap fun i => (List.range i).map fun k => (k, i)).filter fun p => !(((masks ops.toList).getD p.2 0).testBit p.1 || compat (opK E ops p.1) (opK E ops p.2))
def cT (E : Env) (ops : Array Oper) (k : Nat) : Option (Nat × List MX) := bnd ops[k]? fun o => bnd (cL E o.op.operands.toList) fun l => some (kindO E o.op, l)
def cD (E : Env) (ops : Array Oper) : List (Nat × Nat) → Option (List (Nat × Nat × List MX × Nat × Nat × List MX))
  | [] => some []
  | (k, i) :: r => bnd (cT E ops k) fun a => bnd (cT E ops i) fun b => bnd (cD E ops r) fun q => some ((k, a.1, a.2, i, b.1, b.2) :: q)
def slO : Operand → Option Nat
  | .tmp t => some t
  | _ => none
def stab (E : Env) : List Oper → Bool
  | [] => true
  | o :: r => (kindO E o.op == 0 || (o.op.operands.toList.filterMap slO).all fun x => (o :: r).all fun q => !(q.dst == some x)) && stab E r
def comp (E : Env) (dyn : Bool) : Code → Option MC
  | .skip => some .skip
  | .label _ => some .skip
  | .region _ ops draw => if draw = true ∧ dyn = true then (if lastR E ops = true then (match cOps E ops (ops.toList.take (ops.size - 1)), cOps E ops (ops.toList.drop (ops.size - 1)), cD E ops (needD E ops) with
      | some l, some l2, some chk => if stab E (ops.toList.take (ops.size - 1)) = true then (if chk.isEmpty = true ∧ (preL E ops (ops.toList.take (ops.size - 1))).isEmpty = true then some (.seq (.reg l true) (.reg l2 false)) else some (.seq (.regD l chk (preL E ops (ops.toList.take (ops.size - 1)))) (.reg l2 false))) else none
      | _, _, _ => none) else match cOps E ops ops.toList, cD E ops (needD E ops) with
      | some l, some chk => if stab E ops.toList = true then (if chk.isEmpty = true ∧ (preS E ops).isEmpty = true then some (.reg l true) else some (.regD l chk (preS E ops))) else some (.orig ops)
      | _, _ => some (.orig ops)) else bnd (cOps E ops ops.toList) fun l => some (.reg l draw)
  | .seq a b => bnd (comp E dyn a) fun a => bnd (comp E dyn b) fun b => some (.seq a b)
  | .cond c a b => bnd (cX E c) fun c => bnd (comp E dyn a) fun a => bnd (comp E dyn b) fun b => some (.cond c a b)
  | .block id c => bnd (comp E dyn c) fun c => some (.block id c)
  | .loop c => bnd (comp E dyn c) fun c => some (.loop c)
  | .exit id => some (.exit id)
  | .ret => some .ret
  | _ => none
end Go.Vm
end
section
set_option linter.unusedVariables false
set_option linter.unusedSimpArgs false
namespace Go.Vm
open Go.RowKit

section
variable {E : Env} {T : Nat → PV}

theorem cX_ok {x : Operand} {m : MX} (h : cX E x = some m) : evalO E T x = some (valX T m) := by
  cases x with
  | tmp t => simp only [cX] at h; injection h with h; subst h; rfl
  | const v =>
    simp only [cX] at h
    cases hv : ofConst v with
    | none => rw [hv] at h; cases h
    | some p => rw [hv] at h; injection h with h; subst h; simp only [evalO, hv, valX]
  | func f => simp only [cX] at h; injection h with h; subst h; rfl
  | global g =>
    simp only [cX] at h
    cases hv : E.G g with
    | none => rw [hv] at h; cases h
    | some p => rw [hv] at h; injection h with h; subst h; simp only [evalO, hv, valX]
theorem cL_ok : ∀ {l : List Operand} {q : List MX}, cL E l = some q → evalL E T l = some (q.map (valX T))
  | [], q, h => by simp only [cL] at h; injection h with h; subst h; rfl
  | x :: r, q, h => by
    simp only [cL] at h
    obtain ⟨a, h1, h⟩ := bnd_eq_some.1 h
    obtain ⟨b, h2, h⟩ := bnd_eq_some.1 h
    injection h with h
    subst h
    simp only [evalL, cX_ok h1, cL_ok h2, bnd_some, List.map_cons]
theorem cP_ok : ∀ {l : List (Nat × Operand)} {q : List (Nat × MX)}, cP E l = some q → evalP E T l = some (q.map fun x => (x.1, valX T x.2))
  | [], q, h => by simp only [cP] at h; injection h with h; subst h; rfl
  | (i, x) :: r, q, h => by
    simp only [cP] at h
    obtain ⟨a, h1, h⟩ := bnd_eq_some.1 h
    obtain ⟨b, h2, h⟩ := bnd_eq_some.1 h
    injection h with h
    subst h
    simp only [evalP, cX_ok h1, cP_ok h2, bnd_some, List.map_cons]
theorem cM_ok {x : Option Operand} {q : Option MX} (h : cM E x = some q) : evalM E T x = some (valM T q) := by
  cases x with
  | none => simp only [cM] at h; injection h with h; subst h; rfl
  | some x =>
    simp only [cM] at h
    obtain ⟨a, h1, h⟩ := bnd_eq_some.1 h
    injection h with h
    subst h
    simp only [evalM, cX_ok h1, bnd_some, valM]
theorem cB_ok {t : TypeId} : ∀ {l : List (Nat × Operand)} {q : List (Nat × Nat × MX)}, cB E t l = some q → ∃ ps, evalP E T l = some ps ∧ ∀ c r, buildM c (q.map fun x => (x.1, x.2.1, valX T x.2.2)) = some r → buildParts E.P t c ps = some r
  | [], q, h => by
    simp only [cB] at h
    injection h with h
    subst h
    exact ⟨[], rfl, fun c r hr => hr⟩
  | (i, x) :: l, q, h => by
    simp only [cB] at h
    obtain ⟨f, h1, h⟩ := bnd_eq_some.1 h
    obtain ⟨y, h2, h⟩ := bnd_eq_some.1 h
    obtain ⟨a, h3, h⟩ := bnd_eq_some.1 h
    obtain ⟨b, h4, h⟩ := bnd_eq_some.1 h
    injection h with h
    subst h
    obtain ⟨ps, g1, g2⟩ := cB_ok h4
    refine ⟨(i, valX T a) :: ps, by simp only [evalP, cX_ok h3, g1, bnd_some], fun c r hr => ?_⟩
    obtain ⟨o, ft⟩ := f
    simp only [List.map_cons, buildM] at hr
    simp only [buildParts, h1]
    simp only at h2
    rw [h2]
    simp only
    split at hr
    · rename_i hc
      rw [if_pos hc]
      exact g2 _ _ hr
    · cases hr
theorem loadM_ok {P : Program} {t : TypeId} {y : TI} {H : Ob} {p v : PV} (hy : ti P t = some y) (h : loadM y.agg y.size H p = some v) : loadO P t H p = some v := by
  cases p with
  | ptr id off =>
    simp only [loadM] at h
    simp only [loadO, hy]
    cases hH : H id <;> rw [hH] at h <;> simp at h ⊢
    exact h
  | eptr es i off =>
    simp only [loadM] at h
    simp only [loadO, hy]
    cases hH : es[i]? <;> rw [hH] at h <;> simp at h ⊢
    exact h
  | aptr id ver i off =>
    simp only [loadM] at h
    simp only [loadO, hy]
    cases hH : H id <;> rw [hH] at h <;> simp at h ⊢
    exact h
  | _ => simp [loadM] at h
theorem storeM_ok {P : Program} {t : TypeId} {y : TI} {H H' : Ob} {p x : PV} (hy : ti P t = some y) (h : storeM y.size H p x = some H') : storeO P t H p x = some H' := by
  cases p with
  | ptr id off =>
    simp only [storeM] at h
    simp only [storeO, hy]
    cases hH : H id <;> rw [hH] at h <;> simp at h ⊢
    exact h
  | aptr id ver i off =>
    simp only [storeM] at h
    simp only [storeO, hy]
    cases hx : toSVs x.cells with
    | none =>
      rw [hx] at h
      cases hH : H id <;> rw [hH] at h <;> simp at h
    | some xs =>
      rw [hx] at h
      rw [toSVs_thaws hx]
      cases hH : H id with
      | sarr ty sz v fz ap es =>
        rw [hH] at h
        cases fz with
        | false => exact h
        | true => simp at h
      | _ => rw [hH] at h; simp at h
  | _ => simp [storeM] at h
theorem fieldAM_ok {P : Program} {s t : TypeId} {f o : Nat} {H : Ob} {p v : PV} (hf : fo P s f = some (o, t)) (h : fieldAM o H p = some v) : fieldA P s H f p = some v := by
  cases p with
  | ptr id off => simp only [fieldA, hf]; exact h
  | eptr es i off => simp only [fieldA, hf]; exact h
  | aptr id ver i off =>
    simp only [fieldAM] at h
    simp only [fieldA, hf]
    cases hH : H id <;> rw [hH] at h <;> simp at h ⊢
    exact h
  | _ => simp [fieldAM] at h
theorem fieldVM_ok {P : Program} {s t : TypeId} {f o : Nat} {y : TI} {p v : PV} (hf : fo P s f = some (o, t)) (hy : ti P t = some y) (h : fieldVM o y.agg y.size p = some v) : fieldV P s f p = some v := by
  cases p with
  | agg cs => simp only [fieldV, hf, hy]; exact h
  | _ => simp [fieldVM] at h
theorem indexAM_sl {P : Program} {t e : TypeId} {y : TI} {H : Ob} {x i v : PV} (he : elemT P t = some e) (hy : ti P e = some y) (h : indexAM (.sl y.size) H x i = some v) : indexA P t H x i = some v := by
  unfold indexAM at h
  split at h
  · rename_i size es f k i hk
    injection hk with hk
    subst hk
    simp only [indexA, he, hy]
    exact h
  · rename_i size id ver off n k i hk
    injection hk with hk
    subst hk
    simp only [indexA, he, hy]
    cases hH : H id <;> rw [hH] at h <;> simp at h ⊢
    exact h
  · rename_i hk; cases hk
  · rename_i hk; cases hk
  · cases h
theorem indexAM_arr {P : Program} {t e : TypeId} {n : Nat} {y : TI} {H : Ob} {x i v : PV} (he : arrT P t = some (n, e)) (hy : ti P e = some y) (h : indexAM (.arr n y.agg y.size) H x i = some v) : indexA P t H x i = some v := by
  unfold indexAM at h
  split at h
  · rename_i hk; cases hk
  · rename_i hk; cases hk
  · rename_i hk
    injection hk with e1 e2 e3
    subst e1; subst e3
    simp only [indexA, he, hy]
    exact h
  · rename_i hk
    injection hk with e1 e2 e3
    subst e1; subst e3
    simp only [indexA, he, hy]
    exact h
  · cases h
theorem indexVM_str {P : Program} {t : TypeId} {x i v : PV} (hs : isStringT P t = true) (h : indexVM .str x i = some v) : indexV P t x i = some v := by
  unfold indexVM at h
  split at h
  · rename_i hk
    simp only [indexV, hs, true_and]
    exact h
  · rename_i hk; cases hk
  · cases h
theorem indexVM_arr {P : Program} {t e : TypeId} {n : Nat} {y : TI} {x i v : PV} (he : arrT P t = some (n, e)) (hy : ti P e = some y) (h : indexVM (.arr n y.agg y.size) x i = some v) : indexV P t x i = some v := by
  unfold indexVM at h
  split at h
  · rename_i hk; cases hk
  · rename_i hk
    injection hk with e1 e2 e3
    subst e1; subst e2; subst e3
    simp only [indexV, he, hy]
    exact h
  · cases h
theorem sliceM_str {P : Program} {t : TypeId} {H : Ob} {x v : PV} {lo hi : Option PV} (hs : isStringT P t = true) (h : sliceM .str H x lo hi = some v) : sliceV P t H x lo hi = some v := by
  unfold sliceM at h
  split at h <;> first
    | (simp only [sliceV, hs, if_true]; exact h)
    | (rename_i hk; cases hk; done)
    | cases h
theorem sliceM_sl {P : Program} {t e : TypeId} {y : TI} {H : Ob} {x v : PV} {lo hi : Option PV} (he : elemT P t = some e) (hy : ti P e = some y) (h : sliceM (.sl y.size) H x lo hi = some v) : sliceV P t H x lo hi = some v := by
  unfold sliceM at h
  split at h
  · rename_i hk; cases hk
  · rename_i hk
    simp only [sliceV, he, hy]
    exact h
  · rename_i hk
    injection hk with hk
    subst hk
    simp only [sliceV, he, hy]
    exact h
  · rename_i hk
    injection hk with hk
    subst hk
    simp only [sliceV, he, hy]
    rename_i id ver off n
    cases hH : H id <;> rw [hH] at h <;> simp at h ⊢
    exact h
  · cases h
theorem lenM_str {P : Program} {t : TypeId} {H : Ob} {x v : PV} (hs : isStringT P t = true) (h : lenM .str H x = some v) : lenV P t H x = some v := by
  unfold lenM at h
  split at h <;> first
    | (simp only [lenV, hs, if_true]; exact h)
    | (rename_i hk; cases hk; done)
    | cases h
theorem lenM_sl {P : Program} {t : TypeId} {H : Ob} {x v : PV} (hs : isSliceT P t = true) (h : lenM (.sl 0) H x = some v) : lenV P t H x = some v := by
  unfold lenM at h
  split at h
  · rename_i hk; cases hk
  · simp only [lenV, hs, if_true]; exact h
  · simp only [lenV, hs, if_true]; exact h
  · rename_i id ver off n hk
    simp only [lenV, hs, true_and]
    cases hH : H id <;> rw [hH] at h <;> simp at h ⊢
    exact h
  · rename_i hk; cases hk
  · cases h
theorem lenM_map {P : Program} {t : TypeId} {H : Ob} {x v : PV} (hs : (isMapT P t).isSome = true) (h : lenM .map H x = some v) : lenV P t H x = some v := by
  obtain ⟨kt, hk⟩ := Option.isSome_iff_exists.1 hs
  unfold lenM at h
  split at h <;> first
    | (rename_i hk; cases hk; done)
    | skip
  · rename_i id hkk
    simp only [lenV, hk]
    cases hH : H id <;> rw [hH] at h <;> simp at h ⊢
    exact h
  · cases h
theorem appendM_ok {P : Program} {t t2 e : TypeId} {y : TI} {H H' : Ob} {nid : Nat} {s x p : PV} (he : elemT P t = some e) (hy : ti P e = some y) (hc : 0 < y.size ∧ y.bytes ≤ 65536 ∧ (t2 = t ∨ (isStringT P t2 = true ∧ intT P e = some .u8)))
    (h : appendM e y.size H nid s x = some (p, H')) : appendO P t t2 H nid s x = some (p, H') := by
  unfold appendM at h
  unfold appendO
  rw [he]
  cases hr : rowsOf H x with
  | none => rw [hr] at h; cases h
  | some new =>
    rw [hr] at h
    simp only [hy] at h ⊢
    split at h
    · rename_i hall
      rw [if_pos ⟨hall, hc⟩]
      exact h
    · cases h
theorem cK_bool {P : Program} {t : TypeId} {lit : Bool} (h : cK P t lit = .bool) : isBoolT P t = true := by
  unfold cK at h
  split at h
  · assumption
  · split at h
    · cases h
    · split at h
      · cases h
      · split at h
        · split at h <;> cases h
        · cases h
theorem cK_slice {P : Program} {t : TypeId} {lit : Bool} (h : cK P t lit = .slice) : isSliceT P t = true := by
  unfold cK at h
  split at h
  · cases h
  · split at h
    · assumption
    · split at h
      · cases h
      · split at h
        · split at h <;> cases h
        · cases h
theorem cK_flat {P : Program} {t : TypeId} {lit : Bool} {ks : List Nat} (h : cK P t lit = .flat ks) : flatEq P t = some ks := by
  unfold cK at h
  split at h
  · cases h
  · split at h
    · cases h
    · split at h
      · rename_i hf
        injection h with h
        subst h
        exact hf
      · split at h
        · split at h <;> cases h
        · cases h
theorem cK_nil {P : Program} {t : TypeId} {lit : Bool} {j : Nat} (h : cK P t lit = .nil j) : lit = true ∧ nilK P t = some j := by
  unfold cK at h
  split at h
  · cases h
  · split at h
    · cases h
    · split at h
      · cases h
      · split at h
        · split at h
          · rename_i hl _ j' hn
            injection h with h
            subst h
            exact ⟨hl, hn⟩
          · cases h
        · cases h
theorem eqM_ok {P : Program} {t : TypeId} {lit : Bool} {x y : PV} {r : Bool} (hx : ∀ a b, ¬ (x = .agg a ∧ y = .agg b)) (h : eqM (cK P t lit) x y = some r) :
    eqOther P t x y = some r ∨ (lit = true ∧ eqNil P t x y = some r ∧ eqOther P t x y = none) := by
  unfold eqM at h
  split at h
  · split at h
    · rename_i hk; simp only [eqOther, cK_bool hk, if_true]; exact .inl h
    · cases h
  · split at h
    · rename_i hk; simp only [eqOther, cK_slice hk, if_true]; exact .inl h
    · cases h
  · split at h
    · rename_i hk; simp only [eqOther, cK_slice hk, if_true]; exact .inl h
    · cases h
  · split at h
    · rename_i hk; simp only [eqOther, cK_slice hk, if_true]; exact .inl h
    · cases h
  · exact absurd ⟨rfl, rfl⟩ (hx _ _)
  · split at h
    · rename_i j hk
      obtain ⟨hl, hn⟩ := cK_nil hk
      split at h
      · rename_i hj
        subst hj
        refine .inr ⟨hl, ?_, ?_⟩
        · simp only [eqNil, hn, if_true]; exact h
        · unfold eqOther; split <;> first | rfl | (rename_i e; cases e)
      · cases h
    · cases h
  · split at h
    · rename_i j hk
      obtain ⟨hl, hn⟩ := cK_nil hk
      split at h
      · rename_i hj
        subst hj
        refine .inr ⟨hl, ?_, ?_⟩
        · simp only [eqNil, hn, if_true]; exact h
        · unfold eqOther; split <;> first | rfl | (rename_i e; cases e)
      · cases h
    · cases h
  · cases h
theorem eqM_agg {P : Program} {t : TypeId} {lit : Bool} {a b : List PV} {r : Bool} (h : eqM (cK P t lit) (.agg a) (.agg b) = some r) : eqAgg P t a b = some r := by
  simp only [eqM] at h
  unfold eqAgg
  split at h
  · rename_i ks x y hk h1 h2
    rw [cK_flat hk, h1, h2]
    exact h
  · cases h
theorem binOther {P : Program} {op : BinOp} {t : TypeId} {x y : PV} (hn1 : ∀ k a k' b, x = PV.s (SV.int k a) → y = PV.s (SV.int k' b) → False) (hn2 : ∀ a b, x = PV.s (SV.str a) → y = PV.s (SV.str b) → False) (hx : ∀ a b, ¬ (x = .agg a ∧ y = .agg b)) (r : Bool) :
    (eqOther P t x y = some r → op = .eql → binOpS P op t x y = some (.s (.bool r))) ∧ (eqOther P t x y = some r → op = .neq → binOpS P op t x y = some (.s (.bool (!r)))) ∧ (eqOther P t x y = none → binOpS P op t x y = none) := by
  unfold binOpS
  split
  · exact (hn1 _ _ _ _ rfl rfl).elim
  · exact (hn2 _ _ rfl rfl).elim
  · exact absurd ⟨rfl, rfl⟩ (hx _ _)
  · refine ⟨fun h1 h2 => ?_, fun h1 h2 => ?_, fun h1 => ?_⟩
    · subst h2; rw [h1]
    · subst h2; rw [h1]
    · rw [h1]; cases op <;> rfl
theorem binM_ok {P : Program} {op : BinOp} {t : TypeId} {lit : Bool} {x y v : PV} (h : binM op (cK P t lit) x y = some v) : binOpL P op t lit x y = some v := by
  have own : binOpS P op t x y = some v → binOpL P op t lit x y = some v := fun e => by unfold binOpL; rw [e]
  unfold binM at h
  split at h
  · exact own h
  · exact own h
  · rename_i hn1 hn2
    by_cases hagg : ∃ a b, x = .agg a ∧ y = .agg b
    · obtain ⟨a, b, e1, e2⟩ := hagg
      subst e1; subst e2
      apply own
      simp only [binOpS]
      split at h
      · split at h
        · rename_i r hr
          rw [eqM_agg hr]
          exact h
        · cases h
      · split at h
        · rename_i r hr
          rw [eqM_agg hr]
          exact h
        · cases h
      · cases h
    · have hx : ∀ a b, ¬ (x = .agg a ∧ y = .agg b) := fun a b hab => hagg ⟨a, b, hab⟩
      have e := fun r => binOther (P := P) (op := op) (t := t) (fun k a k' b e1 e2 => hn1 k a k' b e1 e2) (fun a b e1 e2 => hn2 a b e1 e2) hx r
      cases hop : op <;> rw [hop] at h <;> simp only at h <;> (try (cases h; done))
      all_goals
        split at h
        · rename_i r hr
          rcases eqM_ok hx hr with h1 | ⟨h1, h2, h3⟩
          · rw [← hop]
            first
              | exact own (by rw [(e r).1 h1 hop]; exact h)
              | exact own (by rw [(e r).2.1 h1 hop]; exact h)
          · unfold binOpL
            rw [← hop, (e r).2.2 h3, hop]
            simp only [h1, if_true, h2]
            exact h
        · cases h
theorem convM_int {P : Program} {s d : TypeId} {k : IntKind} {H H' : Ob} {nid : Nat} {x p : PV} (hk : intT P d = some k) (h : convM (.int k) H nid x = some (p, H')) : convertO P s d H nid x = some (p, H') := by
  unfold convM at h
  split at h <;> first
    | (rename_i hk; cases hk; done)
    | skip
  · rename_i k' kk n hkk
    injection hkk with hkk
    subst hkk
    simp only [convertO, hk]
    exact h
  · cases h
theorem convM_str {P : Program} {s d : TypeId} {b : Bool} {H H' : Ob} {nid : Nat} {x p : PV} (hd : isStringT P d = true) (hb : b = true → ∃ e, elemT P s = some e ∧ intT P e = some .u8) (h : convM (.str b) H nid x = some (p, H')) : convertO P s d H nid x = some (p, H') := by
  unfold convM at h
  split at h <;> first
    | (rename_i hk; cases hk; done)
    | skip
  · rename_i l hk
    simp only [convertO, hd, if_true]
    exact h
  · rename_i hk
    injection hk with hk
    obtain ⟨e, e1, e2⟩ := hb hk
    simp only [convertO, hd, if_true, e1, e2, rowsOf, bytesOf]
    exact h
  · rename_i es f hk
    injection hk with hk
    obtain ⟨e, e1, e2⟩ := hb hk
    simp only [convertO, hd, if_true, e1, e2, rowsOf]
    exact h
  · rename_i id ver off n hk
    injection hk with hk
    obtain ⟨e, e1, e2⟩ := hb hk
    simp only [convertO, hd, if_true, e1, e2]
    exact h
  · cases h
theorem convM_bytes {P : Program} {s d e : TypeId} {H H' : Ob} {nid : Nat} {x p : PV} (hd : ¬ isStringT P d = true) (he : elemT P d = some e) (hu : intT P e = some .u8) (h : convM (.bytes e) H nid x = some (p, H')) : convertO P s d H nid x = some (p, H') := by
  unfold convM at h
  split at h <;> first
    | (rename_i hk; cases hk; done)
    | skip
  · rename_i e' l hk
    injection hk with hk
    subst hk
    simp only [convertO, if_neg hd, he, hu, true_and]
    exact h
  · cases h
theorem tassertM_ok {P : Program} {t : TypeId} {ok : Bool} {x v : PV} (hi : ¬ isIface P t = true) (h : tassertM t ok x = some v) : typeAssertV P t ok x = some v := by
  unfold typeAssertV
  rw [if_neg hi]
  exact h
theorem ifaceM_ok {P : Program} {t : TypeId} {x : PV} (hi : ¬ isIface P t = true) : ifaceV P t x = some (ifaceM t x) := by
  unfold ifaceV
  rw [if_neg hi]
  cases x <;> rfl
theorem keyM_ok {P : Program} {t : TypeId} {k : MKey} {key : SV} (hk : cKey P t = some k) (h : keyM k key = true) : keyT P t = true ∧ keyOk P t key = true := by
  unfold cKey at hk
  unfold keyT keyOk
  split at hk
  · rename_i hu
    injection hk with hk
    subst hk
    cases key <;> simp [keyM] at h
    simp [hu]
  · rename_i hu
    injection hk with hk
    subst hk
    cases key <;> simp [keyM] at h
    simp [hu]
  · cases hk
theorem lookM_ok {P : Program} {t : TypeId} {kt : TypeId × TypeId} {key : MKey} {y : TI} {ok : Bool} {H : Ob} {m k v : PV} (hm : isMapT P t = some kt) (hk : cKey P kt.1 = some key) (hy : ti P kt.2 = some y)
    (h : lookM key (match y.zero, y.agg with | [z], false => some z | _, _ => none) ok H m k = some v) : lookupV P t H m k ok = some v := by
  obtain ⟨a, b⟩ := kt
  simp only at hk hy
  unfold lookM at h
  split at h
  · rename_i id kk
    simp only [lookupV, hm]
    split at h
    · rename_i es hH
      rw [hH]
      simp only
      split at h
      · rename_i hkk
        rw [if_pos (keyM_ok hk hkk), hy]
        split at h
        · rename_i hf
          rw [hf]
          exact h
        · rename_i hf
          rw [hf]
          simp only
          split at h
          · rename_i z hz
            split at hz
            · rename_i h1 h2
              injection hz with hz
              subst hz
              rw [h1, h2]
              exact h
            · cases hz
          · cases h
        · cases h
      · cases h
    · cases h
  · cases h
theorem mupdM_ok {P : Program} {t : TypeId} {kt : TypeId × TypeId} {key : MKey} {H H' : Ob} {m k x : PV} (hm : isMapT P t = some kt) (hk : cKey P kt.1 = some key) (h : mupdM key H m k x = some H') : mapUpdateO P t H m k x = some H' := by
  obtain ⟨a, b⟩ := kt
  simp only at hk
  unfold mupdM at h
  split at h
  · rename_i id kk vv
    simp only [mapUpdateO, hm]
    split at h
    · rename_i es hH
      rw [hH]
      simp only
      split at h
      · rename_i hkk
        rw [if_pos (keyM_ok hk hkk)]
        exact h
      · cases h
    · cases h
  · cases h
theorem mksM_ok {P : Program} {t e : TypeId} {y : TI} {H H' : Ob} {nid : Nat} {l c p : PV} (he : elemT P t = some e) (hy : ti P e = some y) (hc : y.bytes ≤ 65536 ∧ 0 < y.size) (h : mksM e y.size y.zero H nid l c = some (p, H')) : makeSliceO P t H nid l c = some (p, H') := by
  unfold mksM at h
  split at h
  · simp only [makeSliceO, he, hy]
    split at h
    · rename_i h1
      rw [if_pos ⟨h1.1, h1.2.1, h1.2.2, hc.1, hc.2⟩]
      exact h
    · cases h
  · cases h

theorem pureR_of {H : Ob} {o o' : Option PV} {r : PV × Ob} (h : pureR H o = some r) (ho : ∀ v, o = some v → o' = some v) : pureR H o' = some r := by
  obtain ⟨p, H'⟩ := r
  obtain ⟨h1, h2⟩ := pureR_some h
  rw [ho p h1, h2]
  rfl
theorem unitR_of {o o' : Option Ob} {r : PV × Ob} (h : unitR o = some r) (ho : ∀ v, o = some v → o' = some v) : unitR o' = some r := by
  obtain ⟨p, H'⟩ := r
  obtain ⟨h1, h2⟩ := unitR_some h
  rw [ho H' h1, h2]
  rfl
end
end Go.Vm
end
section
set_option linter.unusedVariables false
set_option linter.unusedSimpArgs false
namespace Go.Vm
open Go.RowKit

section
variable {E : Env}

def plainO : Op → Bool
  | .buildSlice _ _ _ => false
  | .panic _ => false
  | .call { callee := .value _, args := _, argTypes := _ } => false
  | _ => true
def plainM : MOp → Bool
  | .call _ _ => false
  | .callv _ _ => false
  | .panic _ => false
  | .mv _ => true
  | .pick _ _ _ => true
  | .alloc _ _ => true
  | .box _ _ => true
  | .build _ _ => true
  | .rows _ _ _ _ => true
  | .load _ _ _ => true
  | .store _ _ _ => true
  | .chk _ => true
  | .bin _ _ _ _ => true
  | .un _ _ => true
  | .conv _ _ => true
  | .ifc _ _ => true
  | .mkf _ _ _ => true
  | .mkm => true
  | .mks _ _ _ _ _ => true
  | .sl _ _ _ _ => true
  | .fa _ _ => true
  | .fv _ _ _ _ => true
  | .ia _ _ _ => true
  | .iv _ _ _ => true
  | .look _ _ _ _ _ => true
  | .mupd _ _ _ _ => true
  | .ta _ _ _ => true
  | .ext _ _ => true
  | .len _ _ => true
  | .app _ _ _ _ => true
  | .mx _ _ _ => true
theorem stepO_plain {callc : CallC} {run : Run} {ops : Array Oper} {draw : Bool} {o : Oper} {T : Nat → PV} {H : Ob} {next : Nat} (h : plainO o.op = true) :
    stepO E callc run ops draw o T H next = if wantedS ops T o.guard then bnd (opStep E o.op T H next) fun r => some (.go (putT T o.dst r.1) r.2 (next + 1)) else some (.go (putT T o.dst .undef) H (next + 1)) := by
  obtain ⟨dst, op, type, pos, after, guard⟩ := o
  cases op with
  | buildSlice t n ps => cases h
  | panic x => cases h
  | call c =>
    obtain ⟨ce, args, ts⟩ := c
    cases ce with
    | value f => cases h
    | _ => rfl
  | _ => rfl
theorem stepM_plain {callc : CallC} {run : Run} {draw : Bool} {o : MOper} {T : Nat → PV} {H : Ob} {next : Nat} (h : plainM o.op = true) :
    stepM E callc run draw o T H next = if wantedM T o.g then bnd (mstep o.op draw T H next) fun r => some (.go (putT T o.d r.1) r.2 (next + 1)) else some (.go (putT T o.d .undef) H (next + 1)) := by
  obtain ⟨d, g, op⟩ := o
  cases op <;> first | rfl | cases h

theorem mstep_ok {op : Op} {m : MOp} {draw : Bool} {T : Nat → PV} {H : Ob} {nid : Nat} {r : PV × Ob} (hc : cOp E op = some m) (hp : plainO op = true) (h : mstep m draw T H nid = some r) : opStep E op T H nid = some r ∧ plainM m = true := by
  cases op with
  | buildSlice t n ps => cases hp
  | panic x => cases hp
  | move x =>
    simp only [cOp] at hc
    obtain ⟨a, h1, hc⟩ := bnd_eq_some.1 hc
    injection hc with hc
    subst hc
    refine ⟨?_, rfl⟩
    simp only [opStep, cX_ok h1, pureR, bnd_some]
    exact h
  | assign x =>
    simp only [cOp] at hc
    obtain ⟨a, h1, hc⟩ := bnd_eq_some.1 hc
    injection hc with hc
    subst hc
    refine ⟨?_, rfl⟩
    simp only [opStep, cX_ok h1, pureR, bnd_some]
    exact h
  | pick c a b =>
    simp only [cOp] at hc
    obtain ⟨c, h1, hc⟩ := bnd_eq_some.1 hc
    obtain ⟨a, h2, hc⟩ := bnd_eq_some.1 hc
    obtain ⟨b, h3, hc⟩ := bnd_eq_some.1 hc
    injection hc with hc
    subst hc
    refine ⟨?_, rfl⟩
    simp only [opStep, cX_ok h1, cX_ok h2, cX_ok h3, bnd_some]
    exact h
  | alloc t =>
    simp only [cOp] at hc
    obtain ⟨y, h1, hc⟩ := bnd_eq_some.1 hc
    injection hc with hc
    subst hc
    refine ⟨?_, rfl⟩
    simp only [opStep, allocO, h1]
    exact h
  | box t x =>
    simp only [cOp] at hc
    obtain ⟨a, h1, hc⟩ := bnd_eq_some.1 hc
    injection hc with hc
    subst hc
    refine ⟨?_, rfl⟩
    simp only [opStep, cX_ok h1, bnd_some]
    exact h
  | build t ps =>
    simp only [cOp] at hc
    obtain ⟨y, h1, hc⟩ := bnd_eq_some.1 hc
    split at hc
    · rename_i hs
      obtain ⟨q, h2, hc⟩ := bnd_eq_some.1 hc
      injection hc with hc
      subst hc
      refine ⟨?_, rfl⟩
      obtain ⟨qs, g1, g2⟩ := cB_ok (T := T) h2
      simp only [mstep] at h
      obtain ⟨c, h3, h⟩ := bnd_eq_some.1 h
      injection h with h
      subst h
      simp only [opStep, g1, bnd_some, buildV, h1, hs, g2 _ _ h3, pureR]
    · cases hc
  | load t a =>
    simp only [cOp] at hc
    obtain ⟨y, h1, hc⟩ := bnd_eq_some.1 hc
    obtain ⟨a, h2, hc⟩ := bnd_eq_some.1 hc
    injection hc with hc
    subst hc
    refine ⟨?_, rfl⟩
    simp only [opStep, cX_ok h2, bnd_some]
    exact pureR_of h (fun v hv => loadM_ok h1 hv)
  | store t a x =>
    simp only [cOp] at hc
    obtain ⟨y, h1, hc⟩ := bnd_eq_some.1 hc
    obtain ⟨a, h2, hc⟩ := bnd_eq_some.1 hc
    obtain ⟨x, h3, hc⟩ := bnd_eq_some.1 hc
    injection hc with hc
    subst hc
    refine ⟨?_, rfl⟩
    simp only [opStep, cX_ok h2, cX_ok h3, bnd_some]
    exact unitR_of h (fun v hv => storeM_ok h1 hv)
  | nilCheck x =>
    simp only [cOp] at hc
    obtain ⟨a, h1, hc⟩ := bnd_eq_some.1 hc
    injection hc with hc
    subst hc
    refine ⟨?_, rfl⟩
    simp only [opStep, cX_ok h1, bnd_some]
    exact h
  | binOp op t x y u =>
    simp only [cOp] at hc
    obtain ⟨a, h1, hc⟩ := bnd_eq_some.1 hc
    obtain ⟨b, h2, hc⟩ := bnd_eq_some.1 hc
    injection hc with hc
    subst hc
    refine ⟨?_, rfl⟩
    simp only [opStep, cX_ok h1, cX_ok h2, bnd_some]
    exact pureR_of h (fun v hv => binM_ok hv)
  | unOp op t x =>
    simp only [cOp] at hc
    obtain ⟨a, h1, hc⟩ := bnd_eq_some.1 hc
    injection hc with hc
    subst hc
    refine ⟨?_, rfl⟩
    simp only [opStep, cX_ok h1, bnd_some]
    exact h
  | convert s d x =>
    simp only [cOp] at hc
    obtain ⟨a, h1, hc⟩ := bnd_eq_some.1 hc
    split at hc
    · rename_i hs
      simp only [opStep, cX_ok h1, bnd_some, if_pos hs]
      obtain ⟨p, H'⟩ := r
      split at hc
      · rename_i k hk
        injection hc with hc
        subst hc
        exact ⟨convM_int hk h, rfl⟩
      · split at hc
        · rename_i hd
          injection hc with hc
          subst hc
          refine ⟨convM_str hd (fun hb => ?_) h, rfl⟩
          split at hb
          · rename_i e he
            exact ⟨e, he, by simpa using hb⟩
          · cases hb
        · rename_i hd
          split at hc
          · rename_i e he
            split at hc
            · rename_i hu
              injection hc with hc
              subst hc
              exact ⟨convM_bytes hd he hu h, rfl⟩
            · cases hc
          · cases hc
    · cases hc
  | makeInterface t x =>
    simp only [cOp] at hc
    split at hc
    · cases hc
    · rename_i hi
      obtain ⟨a, h1, hc⟩ := bnd_eq_some.1 hc
      injection hc with hc
      subst hc
      refine ⟨?_, rfl⟩
      simp only [opStep, cX_ok h1, bnd_some, ifaceM_ok hi, pureR]
      exact h
  | makeFunc fn a b =>
    cases fn with
    | func f =>
      simp only [cOp] at hc
      obtain ⟨a, h1, hc⟩ := bnd_eq_some.1 hc
      obtain ⟨b, h2, hc⟩ := bnd_eq_some.1 hc
      injection hc with hc
      subst hc
      refine ⟨?_, rfl⟩
      simp only [opStep, cL_ok h1, cL_ok h2, bnd_some]
      exact h
    | _ => simp [cOp] at hc
  | makeMap t r =>
    cases r with
    | none =>
      simp only [cOp] at hc
      injection hc with hc
      subst hc
      exact ⟨h, rfl⟩
    | some r => simp [cOp] at hc
  | makeSlice t l c =>
    simp only [cOp] at hc
    obtain ⟨e, h1, hc⟩ := bnd_eq_some.1 hc
    obtain ⟨y, h2, hc⟩ := bnd_eq_some.1 hc
    split at hc
    · rename_i hy
      obtain ⟨l, h3, hc⟩ := bnd_eq_some.1 hc
      obtain ⟨c, h4, hc⟩ := bnd_eq_some.1 hc
      injection hc with hc
      subst hc
      refine ⟨?_, rfl⟩
      obtain ⟨p, H'⟩ := r
      simp only [opStep, cX_ok h3, cX_ok h4, bnd_some]
      exact mksM_ok h1 h2 hy h
    · cases hc
  | slice t x l hh m =>
    cases m with
    | none =>
      simp only [cOp] at hc
      obtain ⟨x, h1, hc⟩ := bnd_eq_some.1 hc
      obtain ⟨l, h2, hc⟩ := bnd_eq_some.1 hc
      obtain ⟨hh, h3, hc⟩ := bnd_eq_some.1 hc
      simp only [opStep, cX_ok h1, cM_ok h2, cM_ok h3, bnd_some]
      split at hc
      · rename_i hs
        injection hc with hc
        subst hc
        exact ⟨pureR_of h (fun v hv => sliceM_str hs hv), rfl⟩
      · obtain ⟨e, h4, hc⟩ := bnd_eq_some.1 hc
        obtain ⟨y, h5, hc⟩ := bnd_eq_some.1 hc
        injection hc with hc
        subst hc
        exact ⟨pureR_of h (fun v hv => sliceM_sl h4 h5 hv), rfl⟩
    | some m => simp [cOp] at hc
  | fieldAddr s x f =>
    simp only [cOp] at hc
    obtain ⟨x, h1, hc⟩ := bnd_eq_some.1 hc
    obtain ⟨o, h2, hc⟩ := bnd_eq_some.1 hc
    injection hc with hc
    subst hc
    refine ⟨?_, rfl⟩
    simp only [opStep, cX_ok h1, bnd_some]
    exact pureR_of h (fun v hv => fieldAM_ok (t := o.2) h2 hv)
  | field s x f =>
    simp only [cOp] at hc
    obtain ⟨x, h1, hc⟩ := bnd_eq_some.1 hc
    obtain ⟨o, h2, hc⟩ := bnd_eq_some.1 hc
    obtain ⟨y, h3, hc⟩ := bnd_eq_some.1 hc
    injection hc with hc
    subst hc
    refine ⟨?_, rfl⟩
    simp only [opStep, cX_ok h1, bnd_some]
    exact pureR_of h (fun v hv => fieldVM_ok (t := o.2) h2 h3 hv)
  | indexAddr t x i =>
    simp only [cOp] at hc
    obtain ⟨x, h1, hc⟩ := bnd_eq_some.1 hc
    obtain ⟨i, h2, hc⟩ := bnd_eq_some.1 hc
    simp only [opStep, cX_ok h1, cX_ok h2, bnd_some]
    split at hc
    · rename_i e he
      obtain ⟨y, h3, hc⟩ := bnd_eq_some.1 hc
      injection hc with hc
      subst hc
      exact ⟨pureR_of h (fun v hv => indexAM_sl he h3 hv), rfl⟩
    · obtain ⟨a, h3, hc⟩ := bnd_eq_some.1 hc
      obtain ⟨y, h4, hc⟩ := bnd_eq_some.1 hc
      injection hc with hc
      subst hc
      exact ⟨pureR_of h (fun v hv => indexAM_arr (e := a.2) h3 h4 hv), rfl⟩
  | index t x i =>
    simp only [cOp] at hc
    obtain ⟨x, h1, hc⟩ := bnd_eq_some.1 hc
    obtain ⟨i, h2, hc⟩ := bnd_eq_some.1 hc
    simp only [opStep, cX_ok h1, cX_ok h2, bnd_some]
    split at hc
    · rename_i hs
      injection hc with hc
      subst hc
      exact ⟨pureR_of h (fun v hv => indexVM_str hs hv), rfl⟩
    · obtain ⟨a, h3, hc⟩ := bnd_eq_some.1 hc
      obtain ⟨y, h4, hc⟩ := bnd_eq_some.1 hc
      injection hc with hc
      subst hc
      exact ⟨pureR_of h (fun v hv => indexVM_arr (e := a.2) h3 h4 hv), rfl⟩
  | lookup t m k ok =>
    simp only [cOp] at hc
    obtain ⟨m, h1, hc⟩ := bnd_eq_some.1 hc
    obtain ⟨k, h2, hc⟩ := bnd_eq_some.1 hc
    obtain ⟨kt, h3, hc⟩ := bnd_eq_some.1 hc
    obtain ⟨key, h4, hc⟩ := bnd_eq_some.1 hc
    obtain ⟨y, h5, hc⟩ := bnd_eq_some.1 hc
    injection hc with hc
    subst hc
    refine ⟨?_, rfl⟩
    simp only [opStep, cX_ok h1, cX_ok h2, bnd_some]
    exact pureR_of h (fun v hv => lookM_ok h3 h4 h5 hv)
  | mapUpdate t m k x =>
    simp only [cOp] at hc
    obtain ⟨m, h1, hc⟩ := bnd_eq_some.1 hc
    obtain ⟨k, h2, hc⟩ := bnd_eq_some.1 hc
    obtain ⟨x, h3, hc⟩ := bnd_eq_some.1 hc
    obtain ⟨kt, h4, hc⟩ := bnd_eq_some.1 hc
    obtain ⟨key, h5, hc⟩ := bnd_eq_some.1 hc
    injection hc with hc
    subst hc
    refine ⟨?_, rfl⟩
    simp only [opStep, cX_ok h1, cX_ok h2, cX_ok h3, bnd_some]
    exact unitR_of h (fun v hv => mupdM_ok h4 h5 hv)
  | insert t m k x =>
    simp only [cOp] at hc
    obtain ⟨m, h1, hc⟩ := bnd_eq_some.1 hc
    obtain ⟨k, h2, hc⟩ := bnd_eq_some.1 hc
    obtain ⟨x, h3, hc⟩ := bnd_eq_some.1 hc
    obtain ⟨kt, h4, hc⟩ := bnd_eq_some.1 hc
    obtain ⟨key, h5, hc⟩ := bnd_eq_some.1 hc
    injection hc with hc
    subst hc
    refine ⟨?_, rfl⟩
    simp only [opStep, cX_ok h1, cX_ok h2, cX_ok h3, bnd_some]
    exact unitR_of h (fun v hv => mupdM_ok h4 h5 hv)
  | typeAssert x s t ok =>
    simp only [cOp] at hc
    split at hc
    · cases hc
    · rename_i hi
      obtain ⟨a, h1, hc⟩ := bnd_eq_some.1 hc
      injection hc with hc
      subst hc
      refine ⟨?_, rfl⟩
      simp only [opStep, cX_ok h1, bnd_some]
      exact pureR_of h (fun v hv => tassertM_ok hi hv)
  | extract x i =>
    simp only [cOp] at hc
    obtain ⟨a, h1, hc⟩ := bnd_eq_some.1 hc
    injection hc with hc
    subst hc
    refine ⟨?_, rfl⟩
    simp only [opStep, cX_ok h1, bnd_some]
    exact h
  | call c =>
    obtain ⟨ce, args, ts⟩ := c
    cases ce with
    | value f => cases hp
    | invoke r n => simp [cOp] at hc
    | builtin b =>
      simp only [cOp] at hc
      split at hc
      · rename_i t x ht hx
        obtain ⟨x, h1, hc⟩ := bnd_eq_some.1 hc
        simp only [opStep, hx, ht, evalL, cX_ok h1, bnd_some, builtinO]
        split at hc
        · rename_i hs
          injection hc with hc
          subst hc
          exact ⟨pureR_of h (fun v hv => lenM_str hs hv), rfl⟩
        · split at hc
          · rename_i hs
            injection hc with hc
            subst hc
            exact ⟨pureR_of h (fun v hv => lenM_sl hs hv), rfl⟩
          · split at hc
            · rename_i hs
              injection hc with hc
              subst hc
              exact ⟨pureR_of h (fun v hv => lenM_map hs hv), rfl⟩
            · cases hc
      · rename_i t t2 s x ht hx
        obtain ⟨s, h1, hc⟩ := bnd_eq_some.1 hc
        obtain ⟨x, h2, hc⟩ := bnd_eq_some.1 hc
        obtain ⟨e, h3, hc⟩ := bnd_eq_some.1 hc
        obtain ⟨y, h4, hc⟩ := bnd_eq_some.1 hc
        split at hc
        · rename_i hy
          injection hc with hc
          subst hc
          refine ⟨?_, rfl⟩
          obtain ⟨p, H'⟩ := r
          simp only [opStep, hx, ht, evalL, cX_ok h1, cX_ok h2, bnd_some, builtinO]
          exact appendM_ok h3 h4 hy h
        · cases hc
      · rename_i x l hx
        obtain ⟨x, h1, hc⟩ := bnd_eq_some.1 hc
        obtain ⟨l, h2, hc⟩ := bnd_eq_some.1 hc
        injection hc with hc
        subst hc
        refine ⟨?_, rfl⟩
        simp only [opStep, hx, evalL, cX_ok h1, cL_ok h2, bnd_some, builtinO]
        exact h
      · rename_i x l hx
        obtain ⟨x, h1, hc⟩ := bnd_eq_some.1 hc
        obtain ⟨l, h2, hc⟩ := bnd_eq_some.1 hc
        injection hc with hc
        subst hc
        refine ⟨?_, rfl⟩
        simp only [opStep, hx, evalL, cX_ok h1, cL_ok h2, bnd_some, builtinO]
        exact h
      · cases hc
  | _ => simp [cOp] at hc

def Pm (o : Option MOp) : Prop := ∀ m, o = some m → plainM m = true
theorem pm_bnd {α : Type} {o : Option α} {f : α → Option MOp} (h : ∀ a, Pm (f a)) : Pm (bnd o f) := fun m e => by
  obtain ⟨a, _, e⟩ := bnd_eq_some.1 e
  exact h a m e
theorem pm_none : Pm none := fun m e => by cases e
theorem pm_some {m : MOp} (h : plainM m = true) : Pm (some m) := fun q e => by injection e with e; subst e; exact h
theorem cOp_plain {op : Op} (hp : plainO op = true) : Pm (cOp E op) := by
  cases op with
  | call c =>
    obtain ⟨ce, args, ts⟩ := c
    cases ce with
    | value f => cases hp
    | invoke r n => exact pm_none
    | builtin b =>
      simp only [cOp]
      repeat' (with_reducible first
        | exact pm_none
        | exact pm_some rfl
        | (refine pm_bnd (fun _ => ?_))
        | split)
  | buildSlice t n ps => cases hp
  | panic x => cases hp
  | makeFunc fn a b =>
    cases fn with
    | func f => exact pm_bnd fun _ => pm_bnd fun _ => pm_some rfl
    | _ => exact pm_none
  | makeMap t r =>
    cases r with
    | none => exact pm_some rfl
    | some r => exact pm_none
  | slice t x l h m =>
    cases m with
    | none =>
      simp only [cOp]
      repeat' (with_reducible first
        | exact pm_none
        | exact pm_some rfl
        | (refine pm_bnd (fun _ => ?_))
        | split)
    | some m => exact pm_none
  | _ =>
    simp only [cOp]
    repeat' (with_reducible first
      | exact pm_none
      | exact pm_some rfl
      | (refine pm_bnd (fun _ => ?_))
      | split)
theorem cG_ok {ops : Array Oper} {g : Option (Nat × Bool)} {g' : Option (Nat × Bool)} {T : Nat → PV} (h : cG ops g = some g') : wantedS ops T g = wantedM T g' := by
  cases g with
  | none => simp only [cG] at h; injection h with h; subst h; rfl
  | some gw =>
    obtain ⟨j, want⟩ := gw
    simp only [cG] at h
    obtain ⟨d, h1, h2⟩ := bnd_eq_some.1 h
    injection h2 with h2
    subst h2
    simp only [wantedS, wantedM, h1]
    rfl

theorem stepM_ok {callc : CallC} {run : Run} {ops : Array Oper} {draw : Bool} {o : Oper} {m : MOp} {g : Option (Nat × Bool)} {T : Nat → PV} {H : Ob} {next : Nat} {x : Step} (hc : cOp E o.op = some m) (hg : cG ops o.guard = some g)
    (h : stepM E callc run draw ⟨o.dst, g, m⟩ T H next = some x) : stepO E callc run ops draw o T H next = some x := by
  by_cases hp : plainO o.op = true
  · rw [stepO_plain hp, cG_ok hg]
    have hpm := cOp_plain hp m hc
    rw [stepM_plain hpm] at h
    simp only at h
    by_cases hw : wantedM T g = true
    · rw [if_pos hw] at h ⊢
      obtain ⟨r, h1, h2⟩ := bnd_eq_some.1 h
      rw [(mstep_ok hc hp h1).1]
      exact h2
    · rw [if_neg hw] at h ⊢
      exact h
  · obtain ⟨dst, op, ty, pos, af, gd⟩ := o
    simp only at hc hg hp h
    cases op with
    | buildSlice t n ps =>
      simp only [cOp] at hc
      obtain ⟨e, h1, hc⟩ := bnd_eq_some.1 hc
      obtain ⟨y, h2, hc⟩ := bnd_eq_some.1 hc
      split at hc
      · rename_i hy
        obtain ⟨q, h3, hc⟩ := bnd_eq_some.1 hc
        injection hc with hc
        subst hc
        rw [stepM_plain rfl] at h
        unfold stepO
        simp only at h ⊢
        rw [cG_ok hg]
        split at h
        · rename_i hw
          rw [if_pos hw, cP_ok h3]
          obtain ⟨r, h4, h5⟩ := bnd_eq_some.1 h
          simp only [mstep] at h4
          simp only [bnd_some]
          split at h4
          · cases h4
          · rename_i hd
            obtain ⟨r2, h6, h7⟩ := bnd_eq_some.1 h4
            injection h7 with h7
            subst h7
            rw [if_neg (by
              intro hh
              apply hd
              refine ⟨hh.1, ?_⟩
              have := hh.2
              rw [List.all_map] at this
              exact this)]
            unfold buildSliceO
            rw [h1]
            simp only
            rw [h2]
            simp only
            rw [if_pos hy, h6]
            exact h5
        · rename_i hw
          rw [if_neg hw]
          exact h
      · cases hc
    | panic y =>
      simp only [cOp] at hc
      obtain ⟨a, h1, hc⟩ := bnd_eq_some.1 hc
      injection hc with hc
      subst hc
      unfold stepO
      unfold stepM at h
      simp only at h ⊢
      rw [cG_ok hg]
      split at h
      · rename_i hw
        rw [if_pos hw, cX_ok h1]
        exact h
      · rename_i hw
        rw [if_neg hw]
        exact h
    | call c =>
      obtain ⟨ce, args, ts⟩ := c
      cases ce with
      | value f =>
        unfold stepO
        unfold stepM at h
        simp only at h ⊢
        rw [cG_ok hg]
        by_cases hw : wantedM T g = true
        · rw [if_pos hw] at h ⊢
          have fin : ∀ {fv : PV} {al : List PV} {c : FuncId × List PV × List PV}, evalO E T f = some fv → evalL E T args.toList = some al → callee fv = some c →
              (bnd (doCall E callc run draw c.1 (c.2.1 ++ al ++ c.2.2) H (next + 1)) fun r => some (afterCall T dst r)) = some x →
              (bnd (evalO E T f) fun fv => bnd (evalL E T args.toList) fun args => bnd (callee fv) fun c => bnd (doCall E callc run draw c.1 (c.2.1 ++ args ++ c.2.2) H (next + 1)) fun r => match r.1 with
                | .ret v => some (.go (putT T dst v) r.2.1 r.2.2)
                | .panic v => some (.panic v T r.2.1 r.2.2)) = some x := by
            intro fv al c e1 e2 e3 hh
            rw [e1, bnd_some, e2, bnd_some, e3, bnd_some]
            obtain ⟨r, h4, h5⟩ := bnd_eq_some.1 hh
            rw [h4, bnd_some]
            unfold afterCall at h5
            cases hr : r.1 with
            | ret v => rw [hr] at h5; exact h5
            | panic v => rw [hr] at h5; exact h5
          have indirect : ∀ fm, cX E f = some fm → (bnd (cL E args.toList) fun a => some (MOp.callv fm a)) = some m →
              (bnd (evalO E T f) fun fv => bnd (evalL E T args.toList) fun args => bnd (callee fv) fun c => bnd (doCall E callc run draw c.1 (c.2.1 ++ args ++ c.2.2) H (next + 1)) fun r => match r.1 with
                | .ret v => some (.go (putT T dst v) r.2.1 r.2.2)
                | .panic v => some (.panic v T r.2.1 r.2.2)) = some x := by
            intro fm e hc
            obtain ⟨a, h1, hc⟩ := bnd_eq_some.1 hc
            injection hc with hc
            subst hc
            simp only at h
            obtain ⟨c, h2, h3⟩ := bnd_eq_some.1 h
            exact fin (cX_ok e) (cL_ok h1) h2 h3
          cases f with
          | func f0 =>
            simp only [cOp] at hc
            obtain ⟨a, h1, hc⟩ := bnd_eq_some.1 hc
            injection hc with hc
            subst hc
            exact fin (fv := .s (.func f0)) (c := (f0, [], [])) rfl (cL_ok h1) rfl (by simpa using h)
          | tmp t =>
            simp only [cOp] at hc
            obtain ⟨fm, h1, hc⟩ := bnd_eq_some.1 hc
            exact indirect fm h1 hc
          | const v =>
            simp only [cOp] at hc
            obtain ⟨fm, h1, hc⟩ := bnd_eq_some.1 hc
            exact indirect fm h1 hc
          | global v =>
            simp only [cOp] at hc
            obtain ⟨fm, h1, hc⟩ := bnd_eq_some.1 hc
            exact indirect fm h1 hc
        · rw [if_neg hw] at h ⊢
          exact h
      | _ => exact absurd rfl hp
    | _ => exact absurd rfl hp

theorem opsM_ok {callc : CallC} {run : Run} {ops : Array Oper} {draw : Bool} {e : Ex × St} : ∀ {os : List Oper} {l : List MOper} {T : Nat → PV} {H : Ob} {next : Nat}, cOps E ops os = some l → opsM E callc run draw l T H next = some e → opsO E callc run ops draw os T H next = some e
  | [], l, T, H, next, hc, h => by
    simp only [cOps] at hc
    injection hc with hc
    subst hc
    exact h
  | o :: os, l, T, H, next, hc, h => by
    simp only [cOps] at hc
    obtain ⟨m, h1, hc⟩ := bnd_eq_some.1 hc
    obtain ⟨g, h2, hc⟩ := bnd_eq_some.1 hc
    obtain ⟨q, h3, hc⟩ := bnd_eq_some.1 hc
    injection hc with hc
    subst hc
    simp only [opsM] at h
    obtain ⟨x, h4, h5⟩ := bnd_eq_some.1 h
    simp only [opsO]
    rw [stepM_ok h1 h2 h4, bnd_some]
    cases x with
    | go T1 H1 n1 => exact opsM_ok h3 h5
    | panic v T1 H1 n1 => exact h5
end
end Go.Vm
end
section
set_option linter.unusedVariables false
set_option linter.unusedSimpArgs false
namespace Go.Vm
open Go.RowKit

/-- From some bound on, always this. -/
def Evn {α : Type} (g : Nat → Option α) (r : α) : Prop := ∃ N, ∀ n, N ≤ n → g n = some r
theorem Evn.uniq {α : Type} {g : Nat → Option α} {r r' : α} (h : Evn g r) (h' : Evn g r') : r = r' := by
  obtain ⟨N, h⟩ := h
  obtain ⟨M, h'⟩ := h'
  have := (h (max N M) (Nat.le_max_left ..)).symm.trans (h' (max N M) (Nat.le_max_right ..))
  exact Option.some.inj this
theorem Evn.const {α : Type} {r : α} : Evn (fun _ => some r) r := ⟨0, fun _ _ => rfl⟩
theorem Evn.bnd {α β : Type} {g : Nat → Option α} {f : Nat → α → Option β} {a : α} {r : β} (h : Evn g a) (h' : Evn (fun n => f n a) r) : Evn (fun n => Vm.bnd (g n) (f n)) r := by
  obtain ⟨N, h⟩ := h
  obtain ⟨M, h'⟩ := h'
  exact ⟨max N M, fun n hn => by
    show Vm.bnd (g n) (f n) = some r
    rw [h n (by omega)]
    exact h' n (by omega)⟩
open Classical in
noncomputable def lim {α : Type} (g : Nat → Option α) : Option α := if h : ∃ r, Evn g r then some (Classical.choose h) else none
theorem lim_eq {α : Type} {g : Nat → Option α} {r : α} : lim g = some r ↔ Evn g r := by
  unfold lim
  constructor
  · intro h
    split at h
    · rename_i hx
      injection h with h
      rw [← h]
      exact Classical.choose_spec hx
    · cases h
  · intro h
    rw [dif_pos ⟨r, h⟩]
    exact congrArg some ((Classical.choose_spec (⟨r, h⟩ : ∃ r, Evn g r)).uniq h)

noncomputable def runL (E : Env) : Run := fun f args H next => lim fun n => runF E n f args H next
noncomputable def calL (E : Env) : CallC := fun f args hs => lim fun n => callE E (runF E n) f args hs

noncomputable def X (E : Env) : MC → St → Option (Ex × St)
  | .skip, s => some (.normal, s)
  | .reg ops draw, s => opsM E (calL E) (runL E) draw ops s.T s.H s.next
  | .orig ops, s => opsD E (calL E) (runL E) ops (masks ops.toList) 0 [] ops.toList s.T (frz s.T (preS E ops) s.H) s.next
  | .regD ops chk pre, s => bnd (opsM E (calL E) (runL E) true ops s.T (frz s.T pre s.H) s.next) fun r => match r.1 with
    | .normal => if chk.all (heldX r.2.T s.next) = true then some r else none
    | _ => none
  | .seq a b, s => bnd (X E a s) fun r => match r.1 with
    | .normal => X E b r.2
    | e => some (e, r.2)
  | .cond c a b, s => match valX s.T c with
    | .s (.bool t) => if t = true then X E a s else X E b s
    | _ => none
  | .block id c, s => bnd (X E c s) fun r => match r.1 with
    | .exit id' => some (if id' = id then .normal else .exit id', r.2)
    | e => some (e, r.2)
  | .loop c, s => lim fun n => loopN (X E c) n s
  | .exit id, s => some (.exit id, s)
  | .ret, s => some (.ret, s)

section
variable {E : Env}
abbrev cc (E : Env) (n : Nat) : CallC := callE E (runF E n)

theorem doCall_ev {draw : Bool} {f : FuncId} {args : List PV} {H : Ob} {next : Nat} {r : Out × Ob × Nat} (h : doCall E (calL E) (runL E) draw f args H next = some r) : Evn (fun n => doCall E (cc E n) (runF E n) draw f args H next) r := by
  unfold doCall at h ⊢
  split at h
  · rename_i hf
    split at h
    · cases h
    · rename_i hd
      simp only [hf, if_true, hd]
      exact lim_eq.1 h
  · rename_i hf
    simp only [if_neg hf]
    split at h
    · rename_i hlf
      simp only [if_pos hlf]
      obtain ⟨a, h1, h⟩ := bnd_eq_some.1 h
      refine Evn.bnd (a := a) ?_ ⟨0, fun _ _ => h⟩
      unfold doLoc at h1 ⊢
      simp only at h1 ⊢
      split at h1
      · rename_i hal
        simp only [if_pos hal]
        obtain ⟨b, h2, h1⟩ := bnd_eq_some.1 h1
        refine Evn.bnd (a := b) ⟨0, fun _ _ => h2⟩ ?_
        obtain ⟨q, h3, h1⟩ := bnd_eq_some.1 h1
        exact Evn.bnd (a := q) (lim_eq.1 h3) ⟨0, fun _ _ => h1⟩
      · cases h1
    rename_i hlf
    simp only [if_neg hlf]
    obtain ⟨a, h1, h⟩ := bnd_eq_some.1 h
    refine Evn.bnd (a := a) ⟨0, fun _ _ => h1⟩ ?_
    simp only at h ⊢
    split at h
    · cases h
    · rename_i hd
      simp only [if_neg hd]
      split at h
      · rename_i hc
        simp only [if_pos hc]
        obtain ⟨q, h2, h⟩ := bnd_eq_some.1 h
        injection h with h
        subst h
        exact Evn.bnd (lim_eq.1 h2) Evn.const
      · cases h
theorem stepO_ev {ops : Array Oper} {draw : Bool} {o : Oper} {T : Nat → PV} {H : Ob} {next : Nat} {x : Step} (h : stepO E (calL E) (runL E) ops draw o T H next = some x) : Evn (fun n => stepO E (cc E n) (runF E n) ops draw o T H next) x := by
  by_cases hp : plainO o.op = true
  · rw [stepO_plain hp] at h
    refine ⟨0, fun n _ => ?_⟩
    show stepO E (cc E n) (runF E n) ops draw o T H next = some x
    rw [stepO_plain hp]
    exact h
  · obtain ⟨dst, op, ty, pos, af, g⟩ := o
    by_cases hw : wantedS ops T g = true
    · cases op with
      | buildSlice t n ps => exact ⟨0, fun _ _ => h⟩
      | panic y => exact ⟨0, fun _ _ => h⟩
      | call c =>
        obtain ⟨ce, args, ts⟩ := c
        cases ce with
        | value f =>
          unfold stepO at h ⊢
          simp only [if_pos hw] at h ⊢
          obtain ⟨a, h1, h⟩ := bnd_eq_some.1 h
          refine Evn.bnd (a := a) ⟨0, fun _ _ => h1⟩ ?_
          obtain ⟨b, h2, h⟩ := bnd_eq_some.1 h
          refine Evn.bnd (a := b) ⟨0, fun _ _ => h2⟩ ?_
          obtain ⟨c, h3, h⟩ := bnd_eq_some.1 h
          refine Evn.bnd (a := c) ⟨0, fun _ _ => h3⟩ ?_
          obtain ⟨r, h4, h⟩ := bnd_eq_some.1 h
          exact Evn.bnd (doCall_ev h4) ⟨0, fun _ _ => h⟩
        | _ => exact absurd rfl hp
      | _ => exact absurd rfl hp
    · refine ⟨0, fun n _ => ?_⟩
      show stepO E (cc E n) (runF E n) ops draw ⟨dst, op, ty, pos, af, g⟩ T H next = some x
      unfold stepO at h ⊢
      simp only at h ⊢
      rw [if_neg hw] at h ⊢
      exact h
theorem opsO_ev {ops : Array Oper} {draw : Bool} {e : Ex × St} : ∀ {os : List Oper} {T : Nat → PV} {H : Ob} {next : Nat}, opsO E (calL E) (runL E) ops draw os T H next = some e → Evn (fun n => opsO E (cc E n) (runF E n) ops draw os T H next) e
  | [], T, H, next, h => ⟨0, fun _ _ => h⟩
  | o :: os, T, H, next, h => by
    simp only [opsO] at h ⊢
    obtain ⟨x, h1, h2⟩ := bnd_eq_some.1 h
    refine Evn.bnd (stepO_ev h1) ?_
    cases x with
    | go T1 H1 n1 => exact opsO_ev h2
    | panic v T1 H1 n1 => exact ⟨0, fun _ _ => h2⟩
theorem opsD_ev {ops : Array Oper} {M : List Nat} {e : Ex × St} : ∀ {os : List Oper} {i : Nat} {tr : List (Nat × List Nat)} {T : Nat → PV} {H : Ob} {next : Nat}, opsD E (calL E) (runL E) ops M i tr os T H next = some e → Evn (fun n => opsD E (cc E n) (runF E n) ops M i tr os T H next) e
  | [], i, tr, T, H, next, h => ⟨0, fun _ _ => h⟩
  | o :: os, i, tr, T, H, next, h => by
    simp only [opsD] at h ⊢
    split at h
    · rename_i hc
      simp only [if_pos hc]
      obtain ⟨x, h1, h2⟩ := bnd_eq_some.1 h
      refine Evn.bnd (stepO_ev h1) ?_
      cases x with
      | go T1 H1 n1 => exact opsD_ev h2
      | panic v T1 H1 n1 => cases h2
    · cases h
theorem stepM_go {callc : CallC} {run : Run} {draw : Bool} {o : MOper} {T T1 : Nat → PV} {H H1 : Ob} {n n1 : Nat} (h : stepM E callc run draw o T H n = some (.go T1 H1 n1)) : (∃ v, T1 = putT T o.d v) ∧ (draw = true → n1 = n + 1) := by
  have after : ∀ {r : Out × Ob × Nat}, afterCall T o.d r = .go T1 H1 n1 → (∃ v, T1 = putT T o.d v) ∧ r.2.2 = n1 := by
    intro r e
    unfold afterCall at e
    split at e
    · injection e with e1 e2 e3
      exact ⟨⟨_, e1.symm⟩, e3⟩
    · cases e
  have docall : ∀ {f : FuncId} {args : List PV} {r : Out × Ob × Nat}, doCall E callc run draw f args H (n + 1) = some r → draw = true → r.2.2 = n + 1 := by
    intro f args r h hd
    subst hd
    unfold doCall at h
    split at h
    · simp at h
    · split at h
      · obtain ⟨a, h1, h⟩ := bnd_eq_some.1 h
        injection h with h
        rw [← h]
      obtain ⟨a, h1, h⟩ := bnd_eq_some.1 h
      simp only at h
      split at h
      · cases h
      · split at h
        · obtain ⟨q, h2, h⟩ := bnd_eq_some.1 h
          injection h with h
          rw [← h]
        · cases h
  unfold stepM at h
  split at h
  · split at h
    · obtain ⟨r, h1, h⟩ := bnd_eq_some.1 h
      injection h with h
      obtain ⟨g1, g2⟩ := after h
      exact ⟨g1, fun hd => g2.symm.trans (docall h1 hd)⟩
    · obtain ⟨c, h0, h⟩ := bnd_eq_some.1 h
      obtain ⟨r, h1, h⟩ := bnd_eq_some.1 h
      injection h with h
      obtain ⟨g1, g2⟩ := after h
      exact ⟨g1, fun hd => g2.symm.trans (docall h1 hd)⟩
    · split at h
      · injection h with h; cases h
      · injection h with h; cases h
      · cases h
    · obtain ⟨r, h1, h⟩ := bnd_eq_some.1 h
      injection h with h
      injection h with e1 e2 e3
      exact ⟨⟨_, e1.symm⟩, fun _ => e3.symm⟩
  · injection h with h
    injection h with e1 e2 e3
    exact ⟨⟨_, e1.symm⟩, fun _ => e3.symm⟩
theorem opsM_dst {callc : CallC} {run : Run} {draw : Bool} {s : St} {x : Nat} : ∀ {os : List MOper} {T : Nat → PV} {H : Ob} {n : Nat}, opsM E callc run draw os T H n = some (.normal, s) → (∀ o ∈ os, o.d ≠ some x) → s.T x = T x
  | [], T, H, n, h, _ => by
    simp only [opsM] at h
    injection h with h
    injection h with _ h
    rw [← h]
  | o :: os, T, H, n, h, hx => by
    simp only [opsM] at h
    obtain ⟨y, h1, h2⟩ := bnd_eq_some.1 h
    cases y with
    | panic v T1 H1 n1 =>
      simp only at h2
      split at h2
      · cases h2
      · injection h2 with h2; cases h2
    | go T1 H1 n1 =>
      obtain ⟨⟨v, e⟩, _⟩ := stepM_go h1
      rw [opsM_dst h2 (fun o ho => hx o (List.mem_cons_of_mem _ ho)), e]
      have := hx o (List.mem_cons_self ..)
      cases hd : o.d with
      | none => rfl
      | some d =>
        simp only [putT, upd]
        rw [if_neg (fun e => this (by rw [hd, e]))]
theorem opsM_normal {callc : CallC} {run : Run} : ∀ {os : List MOper} {T : Nat → PV} {H : Ob} {n : Nat} {r : Ex × St}, opsM E callc run true os T H n = some r → r.1 = .normal
  | [], T, H, n, r, h => by
    simp only [opsM] at h
    injection h with h
    rw [← h]
  | o :: os, T, H, n, r, h => by
    simp only [opsM] at h
    obtain ⟨y, h1, h2⟩ := bnd_eq_some.1 h
    cases y with
    | panic v T1 H1 n1 => simp at h2
    | go T1 H1 n1 => exact opsM_normal h2
theorem cOps_dst {ops : Array Oper} : ∀ {os : List Oper} {l : List MOper}, cOps E ops os = some l → ∀ m ∈ l, ∃ o ∈ os, o.dst = m.d
  | [], l, h, m, hm => by
    simp only [cOps] at h
    injection h with h
    subst h
    cases hm
  | o :: os, l, h, m, hm => by
    simp only [cOps] at h
    obtain ⟨a, h1, h⟩ := bnd_eq_some.1 h
    obtain ⟨b, h2, h⟩ := bnd_eq_some.1 h
    obtain ⟨c, h3, h⟩ := bnd_eq_some.1 h
    injection h with h
    subst h
    rcases List.mem_cons.1 hm with e | hm
    · exact ⟨o, List.mem_cons_self .., by rw [e]⟩
    · obtain ⟨o', ho, e⟩ := cOps_dst h3 m hm
      exact ⟨o', List.mem_cons_of_mem _ ho, e⟩
theorem opsM_opsD {callc : CallC} {run : Run} {ops : Array Oper} {M : List Nat} {s : St} {n0 m : Nat} (hall : ∀ k i ok oi, k < i → ops[k]? = some ok → ops[i]? = some oi → pairOk E ops M k i (touchO E ok.op s.T (n0 + k)) (touchO E oi.op s.T (n0 + i)) = true) :
    ∀ (os : List Oper) (i : Nat) (tr : List (Nat × List Nat)) (l : List MOper) (T : Nat → PV) (H : Ob), (ops.toList.take m).drop i = os → cOps E ops os = some l → stab E os = true → (∀ x ∈ tr, x.1 < i ∧ ∃ o, ops[x.1]? = some o ∧ x.2 = touchO E o.op s.T (n0 + x.1)) →
      opsM E callc run true l T H (n0 + i) = some (.normal, s) → opsD E callc run ops M i tr os T H (n0 + i) = some (.normal, s)
  | [], i, tr, l, T, H, hdrop, hc, hst, htr, h => by
    simp only [cOps] at hc
    injection hc with hc
    subst hc
    exact h
  | o :: os, i, tr, l, T, H, hdrop, hc, hst, htr, h => by
    have ho : ops[i]? = some o := take_at hdrop
    have hdrop' : (ops.toList.take m).drop (i + 1) = os := by
      rw [← List.drop_drop, hdrop]
      rfl
    have hcall := hc
    simp only [cOps] at hc
    obtain ⟨m, h1, hc⟩ := bnd_eq_some.1 hc
    obtain ⟨g, h2, hc⟩ := bnd_eq_some.1 hc
    obtain ⟨q, h3, hc⟩ := bnd_eq_some.1 hc
    injection hc with hc
    subst hc
    have htouch : touchO E o.op T (n0 + i) = touchO E o.op s.T (n0 + i) := by
      simp only [stab, Bool.and_eq_true, Bool.or_eq_true, beq_iff_eq] at hst
      rcases hst.1 with hk | hk
      · simp only [touchO, hk]
      · refine touchO_congr (fun x hx => ?_)
        cases x with
        | tmp t =>
          have ht : t ∈ o.op.operands.toList.filterMap slO := List.mem_filterMap.2 ⟨.tmp t, by simpa using hx, rfl⟩
          have hno := List.all_eq_true.1 hk t ht
          have := opsM_dst (x := t) h (fun m' hm' => by
            obtain ⟨o', ho', e⟩ := cOps_dst hcall m' hm'
            have := List.all_eq_true.1 hno o' ho'
            rw [← e]
            simpa using this)
          simp only [evalO, this]
        | _ => rfl
    simp only [opsM] at h
    obtain ⟨y, h4, h5⟩ := bnd_eq_some.1 h
    simp only [opsD]
    rw [if_pos (List.all_eq_true.2 (fun x hx => by
      obtain ⟨k1, ok, k2, k3⟩ := htr x hx
      rw [k3, htouch]
      exact hall _ _ _ _ k1 k2 ho)), stepM_ok h1 h2 h4, bnd_some]
    cases y with
    | panic v T1 H1 n1 => simp at h5
    | go T1 H1 n1 =>
      have hn := (stepM_go h4).2 rfl
      subst hn
      simp only at h5 ⊢
      simp only [stab, Bool.and_eq_true] at hst
      refine opsM_opsD hall os (i + 1) _ q T1 H1 hdrop' h3 hst.2 (fun x hx => ?_) h5
      rcases List.mem_cons.1 hx with e | hx
      · rw [e]; exact ⟨Nat.lt_succ_self i, o, ho, htouch⟩
      · obtain ⟨k1, k2⟩ := htr x hx
        exact ⟨Nat.lt_succ_of_lt k1, k2⟩
theorem flat_touch {T : Nat → PV} : ∀ {l : List Operand} {q : List MX}, cL E l = some q → l.flatMap (opndIds E T) = q.flatMap fun x => heads (valX T x)
  | [], q, h => by
    simp only [cL] at h
    injection h with h
    subst h
    rfl
  | x :: r, q, h => by
    simp only [cL] at h
    obtain ⟨a, h1, h⟩ := bnd_eq_some.1 h
    obtain ⟨b, h2, h⟩ := bnd_eq_some.1 h
    injection h with h
    subst h
    rw [List.flatMap_cons, List.flatMap_cons, flat_touch h2]
    simp only [opndIds, cX_ok h1]
theorem touch_ok {T : Nat → PV} {op : Op} {q : List MX} {nid : Nat} (h : cL E op.operands.toList = some q) : touchO E op T nid = touchX T nid (kindO E op) q := by
  unfold touchO touchX
  rw [flat_touch h]
  split
  · rename_i e; simp only [e]
  · rename_i e; simp only [e]
  · rename_i e1 e2
    split
    · rename_i e; exact absurd e e1
    · rename_i e; exact absurd e e2
    · rfl
theorem cD_ok {ops : Array Oper} {T : Nat → PV} {n0 : Nat} : ∀ {ps : List (Nat × Nat)} {chk : List (Nat × Nat × List MX × Nat × Nat × List MX)}, cD E ops ps = some chk → chk.all (heldX T n0) = true → ∀ p ∈ ps, ∀ ok oi, ops[p.1]? = some ok → ops[p.2]? = some oi → disj (touchO E ok.op T (n0 + p.1)) (touchO E oi.op T (n0 + p.2)) = true
  | [], chk, h, hc, p, hp, ok, oi, h1, h2 => by cases hp
  | (k, i) :: r, chk, h, hc, p, hp, ok, oi, g1, g2 => by
    simp only [cD] at h
    obtain ⟨a, h1, h⟩ := bnd_eq_some.1 h
    obtain ⟨b, h2, h⟩ := bnd_eq_some.1 h
    obtain ⟨q, h3, h⟩ := bnd_eq_some.1 h
    injection h with h
    subst h
    simp only [List.all_cons, Bool.and_eq_true] at hc
    rcases List.mem_cons.1 hp with e | hp
    · subst e
      simp only at g1 g2 ⊢
      unfold cT at h1 h2
      rw [g1, bnd_some] at h1
      rw [g2, bnd_some] at h2
      obtain ⟨la, k1, h1⟩ := bnd_eq_some.1 h1
      obtain ⟨lb, k2, h2⟩ := bnd_eq_some.1 h2
      injection h1 with h1
      injection h2 with h2
      subst h1; subst h2
      rw [touch_ok k1, touch_ok k2]
      exact hc.1
    · exact cD_ok h3 hc.2 p hp ok oi g1 g2
theorem need_all {ops : Array Oper} {T : Nat → PV} {n0 : Nat} {chk : List (Nat × Nat × List MX × Nat × Nat × List MX)} (h : cD E ops (needD E ops) = some chk) (hc : chk.all (heldX T n0) = true) :
    ∀ k i ok oi, k < i → ops[k]? = some ok → ops[i]? = some oi → pairOk E ops (masks ops.toList) k i (touchO E ok.op T (n0 + k)) (touchO E oi.op T (n0 + i)) = true := by
  intro k i ok oi hki h1 h2
  unfold pairOk
  cases hs : (((masks ops.toList).getD i 0).testBit k || compat (opK E ops k) (opK E ops i)) with
  | true => simp only [Bool.true_or]
  | false =>
    have hi : i < ops.size := (Array.getElem?_eq_some_iff.1 h2).1
    have hm : (k, i) ∈ needD E ops := by
      refine List.mem_filter.2 ⟨List.mem_flatMap.2 ⟨i, List.mem_range.2 hi, List.mem_map.2 ⟨k, List.mem_range.2 hki, rfl⟩⟩, ?_⟩
      simp only [hs, Bool.not_false]
    rw [cD_ok h hc (k, i) hm ok oi h1 h2, Bool.or_true]
theorem X_ev {dyn : Bool} : ∀ {c : Code} {m : MC} {s : St} {r : Ex × St}, comp E dyn c = some m → X E m s = some r → Evn (fun n => exec E dyn (cc E n) (runF E n) n c s) r
  | .skip, m, s, r, hc, h => by
    simp only [comp] at hc
    injection hc with hc
    subst hc
    exact ⟨0, fun _ _ => h⟩
  | .label l, m, s, r, hc, h => by
    simp only [comp] at hc
    injection hc with hc
    subst hc
    exact ⟨0, fun _ _ => h⟩
  | .exit i, m, s, r, hc, h => by
    simp only [comp] at hc
    injection hc with hc
    subst hc
    exact ⟨0, fun _ _ => h⟩
  | .ret, m, s, r, hc, h => by
    simp only [comp] at hc
    injection hc with hc
    subst hc
    exact ⟨0, fun _ _ => h⟩
  | .region id ops draw, m, s, r, hc, h => by
    simp only [comp] at hc
    simp only [exec]
    have htk : ops.toList.take ops.size = ops.toList := List.take_of_length_le (by simp)
    split at hc
    · rename_i hd
      split at hc
      · rename_i hlast
        simp only [if_pos hd, if_pos hlast]
        unfold runT
        split at hc
        · rename_i l l2 chk hl hl2 hchk
          split at hc
          · rename_i hst
            have main : ∀ s1 : St, opsM E (calL E) (runL E) true l s.T (frz s.T (preL E ops (ops.toList.take (ops.size - 1))) s.H) s.next = some (.normal, s1) → chk.all (heldX s1.T s.next) = true → opsM E (calL E) (runL E) false l2 s1.T s1.H s1.next = some r →
                Evn (fun n => bnd (opsD E (cc E n) (runF E n) ops (masks ops.toList) 0 [] (ops.toList.take (ops.size - 1)) s.T (frz s.T (preL E ops (ops.toList.take (ops.size - 1))) s.H) s.next) fun r => match r.1 with
                  | .normal => opsO E (cc E n) (runF E n) ops false (ops.toList.drop (ops.size - 1)) r.2.T r.2.H r.2.next
                  | e => some (e, r.2)) r := by
              intro s1 h1 hck h2
              have := opsM_opsD (m := ops.size - 1) (n0 := s.next) (need_all hchk hck) (ops.toList.take (ops.size - 1)) 0 [] l s.T (frz s.T (preL E ops (ops.toList.take (ops.size - 1))) s.H) rfl hl hst (fun x hx => by cases hx) h1
              exact Evn.bnd (opsD_ev this) (opsO_ev (opsM_ok hl2 h2))
            split at hc
            · rename_i hemp
              injection hc with hc
              subst hc
              simp only [X] at h
              obtain ⟨e1, e2⟩ := hemp
              have e1 : chk = [] := by simpa using e1
              have e2 : preL E ops (ops.toList.take (ops.size - 1)) = [] := by simpa using e2
              subst e1
              rw [e2] at main ⊢
              obtain ⟨⟨e, s1⟩, h1, h2⟩ := bnd_eq_some.1 h
              have hnorm := opsM_normal h1
              simp only at hnorm
              subst hnorm
              exact main s1 h1 rfl h2
            · injection hc with hc
              subst hc
              simp only [X] at h
              obtain ⟨⟨e0, s0⟩, h0, h2⟩ := bnd_eq_some.1 h
              obtain ⟨⟨e, s1⟩, h1, h3⟩ := bnd_eq_some.1 h0
              cases e with
              | normal =>
                simp only at h3
                split at h3
                · rename_i hck
                  injection h3 with h3
                  injection h3 with e1 e2
                  subst e1; subst e2
                  exact main s1 h1 hck h2
                · cases h3
              | _ => cases h3
          · cases hc
        · cases hc
      rename_i hlast
      simp only [if_pos hd, if_neg hlast]
      have orig : MC.orig ops = m → Evn (fun n => opsD E (cc E n) (runF E n) ops (masks ops.toList) 0 [] ops.toList s.T (frz s.T (preS E ops) s.H) s.next) r := by
        intro e
        subst e
        exact opsD_ev h
      split at hc
      · rename_i l chk hl hchk
        split at hc
        · rename_i hst
          have main : ∀ s1 : St, opsM E (calL E) (runL E) true l s.T (frz s.T (preS E ops) s.H) s.next = some (.normal, s1) → chk.all (heldX s1.T s.next) = true → Evn (fun n => opsD E (cc E n) (runF E n) ops (masks ops.toList) 0 [] ops.toList s.T (frz s.T (preS E ops) s.H) s.next) (.normal, s1) := by
            intro s1 h1 hck
            have := opsM_opsD (m := ops.size) (n0 := s.next) (need_all hchk hck) ops.toList 0 [] l s.T (frz s.T (preS E ops) s.H) (by rw [htk]; rfl) hl hst (fun x hx => by cases hx) h1
            exact opsD_ev this
          split at hc
          · rename_i hemp
            injection hc with hc
            subst hc
            simp only [X] at h
            obtain ⟨e1, e2⟩ := hemp
            have e1 : chk = [] := by simpa using e1
            have e2 : preS E ops = [] := by simpa using e2
            subst e1
            rw [e2] at main ⊢
            obtain ⟨e, s1⟩ := r
            have hnorm := opsM_normal h
            simp only at hnorm
            subst hnorm
            exact main s1 h rfl
          · injection hc with hc
            subst hc
            simp only [X] at h
            obtain ⟨⟨e, s1⟩, h1, h2⟩ := bnd_eq_some.1 h
            cases e with
            | normal =>
              simp only at h2
              split at h2
              · rename_i hck
                injection h2 with h2
                subst h2
                exact main s1 h1 hck
              · cases h2
            | _ => cases h2
        · injection hc with hc
          exact orig hc
      · injection hc with hc
        exact orig hc
    · rename_i hd
      obtain ⟨l, h1, hc⟩ := bnd_eq_some.1 hc
      injection hc with hc
      subst hc
      simp only [if_neg hd]
      exact opsO_ev (opsM_ok h1 h)
  | .seq a b, m, s, r, hc, h => by
    simp only [comp] at hc
    obtain ⟨ma, h1, hc⟩ := bnd_eq_some.1 hc
    obtain ⟨mb, h2, hc⟩ := bnd_eq_some.1 hc
    injection hc with hc
    subst hc
    simp only [X] at h
    simp only [exec]
    obtain ⟨⟨e, s1⟩, h3, h4⟩ := bnd_eq_some.1 h
    refine Evn.bnd (X_ev h1 h3) ?_
    cases e with
    | normal => exact X_ev h2 h4
    | _ => exact ⟨0, fun _ _ => h4⟩
  | .cond c a b, m, s, r, hc, h => by
    simp only [comp] at hc
    obtain ⟨mc, h0, hc⟩ := bnd_eq_some.1 hc
    obtain ⟨ma, h1, hc⟩ := bnd_eq_some.1 hc
    obtain ⟨mb, h2, hc⟩ := bnd_eq_some.1 hc
    injection hc with hc
    subst hc
    simp only [X] at h
    simp only [exec, cX_ok h0, bnd_some]
    split at h
    · rename_i t ht
      rw [ht]
      cases t with
      | true =>
        simp only [if_true] at h ⊢
        exact X_ev h1 h
      | false =>
        simp only [Bool.false_eq_true, if_false] at h ⊢
        exact X_ev h2 h
    · cases h
  | .block id c, m, s, r, hc, h => by
    simp only [comp] at hc
    obtain ⟨mc, h1, hc⟩ := bnd_eq_some.1 hc
    injection hc with hc
    subst hc
    simp only [X] at h
    simp only [exec]
    obtain ⟨⟨e, s1⟩, h3, h4⟩ := bnd_eq_some.1 h
    refine Evn.bnd (X_ev h1 h3) ?_
    exact ⟨0, fun _ _ => h4⟩
  | .loop c, m, s, r, hc, h => by
    simp only [comp] at hc
    obtain ⟨mc, h1, hc⟩ := bnd_eq_some.1 hc
    injection hc with hc
    subst hc
    simp only [X] at h
    simp only [exec]
    obtain ⟨K, hK⟩ := lim_eq.1 h
    have key : ∀ (k : Nat) (s : St), loopN (X E mc) k s = some r → ∃ N, ∀ n, N ≤ n → ∀ j, k ≤ j → loopN (exec E dyn (cc E n) (runF E n) n c) j s = some r := by
      intro k
      induction k with
      | zero => intro s hs; simp [loopN] at hs
      | succ k ih =>
        intro s hs
        simp only [loopN] at hs
        obtain ⟨⟨e, s1⟩, h3, h4⟩ := bnd_eq_some.1 hs
        obtain ⟨N, hN⟩ := X_ev h1 h3
        cases e with
        | normal =>
          obtain ⟨M, hM⟩ := ih s1 h4
          refine ⟨max N M, fun n hn j hj => ?_⟩
          obtain ⟨j, rfl⟩ : ∃ i, j = i + 1 := ⟨j - 1, by omega⟩
          have e1 : exec E dyn (cc E n) (runF E n) n c s = some (Ex.normal, s1) := hN n (by omega)
          simp only [loopN, e1, bnd_some]
          exact hM n (by omega) j (by omega)
        | exit i =>
          refine ⟨N, fun n hn j hj => ?_⟩
          obtain ⟨j, rfl⟩ : ∃ i, j = i + 1 := ⟨j - 1, by omega⟩
          have e1 : exec E dyn (cc E n) (runF E n) n c s = some (Ex.exit i, s1) := hN n (by omega)
          simp only [loopN, e1, bnd_some]
          exact h4
        | ret =>
          refine ⟨N, fun n hn j hj => ?_⟩
          obtain ⟨j, rfl⟩ : ∃ i, j = i + 1 := ⟨j - 1, by omega⟩
          have e1 : exec E dyn (cc E n) (runF E n) n c s = some (Ex.ret, s1) := hN n (by omega)
          simp only [loopN, e1, bnd_some]
          exact h4
        | panic v =>
          refine ⟨N, fun n hn j hj => ?_⟩
          obtain ⟨j, rfl⟩ : ∃ i, j = i + 1 := ⟨j - 1, by omega⟩
          have e1 : exec E dyn (cc E n) (runF E n) n c s = some (Ex.panic v, s1) := hN n (by omega)
          simp only [loopN, e1, bnd_some]
          exact h4
    obtain ⟨N, hN⟩ := key K s (hK K (Nat.le_refl _))
    exact ⟨max N K, fun n hn => hN n (by omega) n (by omega)⟩
  | .rangeFunc .., m, s, r, hc, h => by simp [comp] at hc
  | .scope .., m, s, r, hc, h => by simp [comp] at hc
  | .goto .., m, s, r, hc, h => by simp [comp] at hc

/-! ### functions -/
inductive MR where
  | t (i : Nat)
  | cell (agg : Bool) (size : Nat) (i : Nat)
structure MF where
  nt : Nat
  rs : List MR
  c : MC
def cR (P : Program) : List ResultVar → Option (List MR)
  | [] => some []
  | .tmp t :: r => bnd (cR P r) fun q => some (.t t :: q)
  | .cell a t :: r => bnd (ti P t) fun y => bnd (cR P r) fun q => some (.cell y.agg y.size a :: q)
def cF (E : Env) (f : FuncId) : Option MF :=
  if (E.ext f).isNone = true ∧ E.use f = true then bnd (E.P.funcs[f]?) fun fn => bnd fn.body fun c => bnd (cR E.P fn.results.toList) fun rs => bnd (comp E (E.dyn f) c) fun m => some ⟨fn.ntmps, rs, m⟩ else none
def resM (T : Nat → PV) (H : Ob) : List MR → Option (List PV)
  | [] => some []
  | .t i :: r => bnd (resM T H r) fun q => some (T i :: q)
  | .cell agg size i :: r => bnd (loadM agg size H (T i)) fun v => bnd (resM T H r) fun q => some (v :: q)
def finM (rs : List MR) (r : Ex × St) : Option (Out × Ob × Nat) :=
  match r.1 with
  | .normal => bnd (resM r.2.T r.2.H rs) fun vs => some (.ret (packR vs), r.2.H, r.2.next)
  | .ret => bnd (resM r.2.T r.2.H rs) fun vs => some (.ret (packR vs), r.2.H, r.2.next)
  | .panic v => some (.panic v, r.2.H, r.2.next)
  | .exit _ => none
theorem resM_ok {P : Program} {T : Nat → PV} {H : Ob} : ∀ {l : List ResultVar} {rs : List MR} {q : List PV}, cR P l = some rs → resM T H rs = some q → resultsS P T H l = some q
  | [], rs, q, hc, h => by
    simp only [cR] at hc
    injection hc with hc
    subst hc
    exact h
  | .tmp t :: r, rs, q, hc, h => by
    simp only [cR] at hc
    obtain ⟨a, h1, hc⟩ := bnd_eq_some.1 hc
    injection hc with hc
    subst hc
    simp only [resM] at h
    obtain ⟨b, h2, h⟩ := bnd_eq_some.1 h
    injection h with h
    subst h
    simp only [resultsS, resM_ok h1 h2, bnd_some]
  | .cell b t :: r, rs, q, hc, h => by
    simp only [cR] at hc
    obtain ⟨y, h0, hc⟩ := bnd_eq_some.1 hc
    obtain ⟨a, h1, hc⟩ := bnd_eq_some.1 hc
    injection hc with hc
    subst hc
    simp only [resM] at h
    obtain ⟨v, h3, h⟩ := bnd_eq_some.1 h
    obtain ⟨b, h2, h⟩ := bnd_eq_some.1 h
    injection h with h
    subst h
    simp only [resultsS, loadM_ok h0 h3, resM_ok h1 h2, bnd_some]
theorem finM_ok {P : Program} {fn : Func} {rs : List MR} {x : Ex × St} {r : Out × Ob × Nat} (hc : cR P fn.results.toList = some rs) (h : finM rs x = some r) : finishO P fn x = some r := by
  unfold finM at h
  unfold finishO
  obtain ⟨e, s⟩ := x
  cases e with
  | normal =>
    simp only at h ⊢
    obtain ⟨vs, h1, h2⟩ := bnd_eq_some.1 h
    rw [resM_ok hc h1]
    exact h2
  | ret =>
    simp only at h ⊢
    obtain ⟨vs, h1, h2⟩ := bnd_eq_some.1 h
    rw [resM_ok hc h1]
    exact h2
  | panic v => exact h
  | exit i => cases h

theorem run_of {f : FuncId} {m : MF} {args : List PV} {H : Ob} {next : Nat} {x : Ex × St} {r : Out × Ob × Nat} (hf : cF E f = some m) (hl : args.length ≤ m.nt) (hx : X E m.c ⟨enter args, H, next⟩ = some x) (hr : finM m.rs x = some r) :
    Evn (fun n => runF E n f args H next) r := by
  unfold cF at hf
  split at hf
  · rename_i hc
    obtain ⟨fn, h1, hf⟩ := bnd_eq_some.1 hf
    obtain ⟨c, h2, hf⟩ := bnd_eq_some.1 hf
    obtain ⟨rs, h3, hf⟩ := bnd_eq_some.1 hf
    obtain ⟨mc, h4, hf⟩ := bnd_eq_some.1 hf
    injection hf with hf
    subst hf
    simp only at hl hx hr
    obtain ⟨N, hN⟩ := X_ev h4 hx
    refine ⟨N + 1, fun n hn => ?_⟩
    obtain ⟨n, rfl⟩ : ∃ i, n = i + 1 := ⟨n - 1, by omega⟩
    have he : E.ext f = none := by simpa using hc.1
    have e1 : exec E (E.dyn f) (callE E (runF E n)) (runF E n) n c ⟨enter args, H, next⟩ = some x := hN n (by omega)
    simp only [runF, he, h1, h2]
    rw [if_pos ⟨hl, hc.2⟩, e1, bnd_some]
    exact finM_ok h3 hr
  · cases hf
theorem runL_of {f : FuncId} {m : MF} {args : List PV} {H : Ob} {next : Nat} {x : Ex × St} {r : Out × Ob × Nat} (hf : cF E f = some m) (hl : args.length ≤ m.nt) (hx : X E m.c ⟨enter args, H, next⟩ = some x) (hr : finM m.rs x = some r) :
    runL E f args H next = some r := lim_eq.2 (run_of hf hl hx hr)
theorem calL_of {f : FuncId} {m : MF} {args : List PV} {hs : List HObj} {x : Ex × St} {r : Out × Ob × Nat} {o : Out} {l : List HObj} (hf : cF E f = some m) (hl : args.length ≤ m.nt) (hx : X E m.c ⟨enter args, Ob.of hs, hs.length⟩ = some x) (hr : finM m.rs x = some r)
    (hb : finE (E.loc f) hs.length r = some (o, l)) : calL E f args hs = some (o, l) := by
  refine lim_eq.2 ?_
  unfold callE
  exact Evn.bnd (run_of hf hl hx hr) ⟨0, fun _ _ => hb⟩
theorem calL_run {f : FuncId} {args : List PV} {hs : List HObj} {r : Out × List HObj} (h : calL E f args hs = some r) : ∃ n, callE E (runF E n) f args hs = some r := by
  obtain ⟨N, hN⟩ := lim_eq.1 h
  exact ⟨N, hN N (Nat.le_refl _)⟩
theorem ext_cal {f : FuncId} {g : List PV → Option PV} {args : List PV} {v w : PV} (h : E.ext f = some g) (hg : g args = some v) (ho : own 0 (Ob.of []) v = some w) (hlf : E.loc f = false := by rfl) : calL E f args [] = some (.ret w, []) := by
  refine lim_eq.2 ⟨1, fun n hn => ?_⟩
  obtain ⟨n, rfl⟩ : ∃ i, n = i + 1 := ⟨n - 1, by omega⟩
  simp only [callE, runF, h, hg, bnd_some, List.length_nil, finE, hlf, finC, ownOut, ho, firstO, ownObjs, Bool.false_eq_true, if_false]

/-! ### loops -/
theorem loopN_mono {body : St → Option (Ex × St)} {r : Ex × St} : ∀ {n : Nat} {s : St}, loopN body n s = some r → ∀ m, n ≤ m → loopN body m s = some r
  | 0, s, h, m, hm => by simp [loopN] at h
  | n + 1, s, h, m, hm => by
    obtain ⟨m, rfl⟩ : ∃ i, m = i + 1 := ⟨m - 1, by omega⟩
    simp only [loopN] at h ⊢
    obtain ⟨⟨e, s1⟩, h1, h2⟩ := bnd_eq_some.1 h
    rw [h1, bnd_some]
    cases e with
    | normal => exact loopN_mono h2 m (by omega)
    | _ => exact h2
theorem X_loop_next {c : MC} {s s1 : St} {r : Ex × St} (h : X E c s = some (.normal, s1)) (h' : X E (.loop c) s1 = some r) : X E (.loop c) s = some r := by
  simp only [X] at h' ⊢
  obtain ⟨N, hN⟩ := lim_eq.1 h'
  refine lim_eq.2 ⟨N + 1, fun n hn => ?_⟩
  obtain ⟨n, rfl⟩ : ∃ i, n = i + 1 := ⟨n - 1, by omega⟩
  simp only [loopN, h, bnd_some]
  exact hN n (by omega)
theorem X_loop_end {c : MC} {s : St} {r : Ex × St} (h : X E c s = some r) (hn : r.1 ≠ .normal) : X E (.loop c) s = some r := by
  simp only [X]
  refine lim_eq.2 ⟨1, fun n hn' => ?_⟩
  obtain ⟨n, rfl⟩ : ∃ i, n = i + 1 := ⟨n - 1, by omega⟩
  simp only [loopN, h, bnd_some]
/-- A loop, by what holds at its head with at most k rounds to go. -/
theorem X_loop {c : MC} (I : Nat → St → Prop) (R : Ex × St → Prop) (h : ∀ k s, I k s → ∃ r, X E c s = some r ∧ ((r.1 = .normal ∧ ∃ k', k' < k ∧ I k' r.2) ∨ (r.1 ≠ .normal ∧ R r))) {k : Nat} {s : St} (h0 : I k s) : ∃ r, X E (.loop c) s = some r ∧ R r := by
  induction k using Nat.strongRecOn generalizing s with
  | _ k ih =>
    obtain ⟨⟨e, s1⟩, h1, h2⟩ := h k s h0
    rcases h2 with ⟨e1, k', hk, hI⟩ | ⟨e1, hR⟩
    · simp only at e1 hI
      subst e1
      obtain ⟨r, g1, g2⟩ := ih k' hk hI
      exact ⟨r, X_loop_next h1 g1, g2⟩
    · exact ⟨_, X_loop_end h1 e1, hR⟩
end
end Go.Vm
end
