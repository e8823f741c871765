/- Code without types: what the abstract machine does, each type's answer laid in. -/
import Derived.Test.YtfgkhgkgaedcmaaVmT
set_option linter.unusedVariables false
set_option linter.unusedSimpArgs false
namespace Go.Vm
open Go.RowKit

inductive MX where
  | t (i : Nat)
  | c (p : PV)
  deriving Inhabited
def valX (T : Nat → PV) : MX → PV
  | .t i => T i
  | .c p => p
/-- Kinds of values, as '==' knows them. -/
inductive MK where
  | num
  | bool
  | slice
  | flat (ks : List Nat)
inductive MV where
  | int (k : IntKind)
  | str (bytes : Bool)
  | bytes (e : TypeId)
inductive MS where
  | str
  | sl (size : Nat)
  | arr (n : Nat) (agg : Bool) (size : Nat)
  | map
inductive MKey where
  | str
  | int
inductive MOp where
  | mv (x : MX)
  | pick (c a b : MX)
  | alloc (t : TypeId) (zero : List SV)
  | box (t : TypeId) (x : MX)
  | build (zero : List SV) (ps : List (Nat × Nat × MX))
  | rows (size : Nat) (zero : List SV) (n : Nat) (ps : List (Nat × MX))
  | load (agg : Bool) (size : Nat) (a : MX)
  | store (size : Nat) (a x : MX)
  | chk (x : MX)
  | bin (op : BinOp) (k : MK) (x y : MX)
  | un (op : UnOp) (x : MX)
  | conv (k : MV) (x : MX)
  | ifc (t : TypeId) (x : MX)
  | mkf (f : FuncId) (a b : List MX)
  | mkm
  | mks (e : TypeId) (size : Nat) (zero : List SV) (l c : MX)
  | sl (k : MS) (x : MX) (l h : Option MX)
  | fa (o : Nat) (x : MX)
  | fv (o : Nat) (agg : Bool) (size : Nat) (x : MX)
  | ia (k : MS) (x i : MX)
  | iv (k : MS) (x i : MX)
  | look (kt : MKey) (zero : Option SV) (ok : Bool) (m k : MX)
  | mupd (kt : MKey) (m k x : MX)
  | ta (t : TypeId) (ok : Bool) (x : MX)
  | ext (x : MX) (i : Nat)
  | len (k : MS) (x : MX)
  | app (e : TypeId) (size : Nat) (s x : MX)
  | mx (b : Bool) (x : MX) (r : List MX)
  | call (f : FuncId) (args : List MX)
  | callv (f : MX) (args : List MX)
  | panic (x : MX)
structure MOper where
  d : Option Nat
  g : Option (Nat × Bool)
  op : MOp
inductive MC where
  | skip
  | reg (ops : List MOper) (draw : Bool)
  | orig (ops : Array Oper)
  | regD (ops : List MOper) (chk : List (Nat × Nat × List MX × Nat × Nat × List MX)) (pre : List Nat)
  | seq (a b : MC)
  | cond (x : MX) (a b : MC)
  | block (id : Nat) (c : MC)
  | loop (c : MC)
  | exit (id : Nat)
  | ret

/-! ### what they do -/
def loadM (agg : Bool) (size : Nat) (H : Ob) : PV → Option PV
  | .ptr id off => match H id with
    | .box _ cells => loadP agg size cells off
    | _ => none
  | .eptr es i off => match es[i]? with
    | some c => loadS agg size c off
    | none => none
  | .aptr id ver i off => match H id with
    | .sarr _ _ v _ _ es => if v = ver then match es[i]? with
        | some c => loadS agg size c off
        | none => none
      else none
    | _ => none
  | _ => none
def storeM (size : Nat) (H : Ob) (p x : PV) : Option Ob :=
  match p with
  | .ptr id off => match H id with
    | .box ty cells => if x.cells.length = size ∧ off + size ≤ cells.length ∧ x.cells.all cellOk = true then some (H.set id (.box ty (setCells cells off x.cells))) else none
    | _ => none
  | .aptr id ver i off => match H id, toSVs x.cells with
    | .sarr ty sz v false ap es, some xs => if v = ver ∧ xs.length = size then match es[i]? with
        | some c => if off + size ≤ c.length then some (H.set id (.sarr ty sz v false ap (es.set i (setCells c off xs)))) else none
        | none => none
      else none
    | _, _ => none
  | _ => none
def fieldAM (o : Nat) (H : Ob) : PV → Option PV
  | .ptr id off => some (.ptr id (off + o))
  | .eptr es i off => some (.eptr es i (off + o))
  | .aptr id ver i off => match H id with
    | .sarr _ _ v _ _ _ => if v = ver then some (.aptr id ver i (off + o)) else none
    | _ => none
  | _ => none
def fieldVM (o : Nat) (agg : Bool) (size : Nat) : PV → Option PV
  | .agg cs => loadP agg size cs o
  | _ => none
def indexAM (k : MS) (H : Ob) (x ix : PV) : Option PV :=
  match k, x, ix with
  | .sl size, .s (.slice es _), .s (.int _ i) => if 0 ≤ i then match es[i.toNat]? with
      | some c => if c.length = size ∧ 0 < size then some (.eptr es i.toNat 0) else none
      | none => none
    else none
  | .sl size, .hsl id ver off n, .s (.int _ i) => match H id with
    | .sarr _ sz v _ _ es => if 0 ≤ i ∧ i < n ∧ v = ver ∧ sz = size ∧ off + n ≤ es.length then some (.aptr id ver (off + i.toNat) 0) else none
    | _ => none
  | .arr n _ size, .ptr id off, .s (.int _ i) => if 0 ≤ i ∧ i < n ∧ 0 < size then some (.ptr id (off + i.toNat * size)) else none
  | .arr n _ size, .eptr es k off, .s (.int _ i) => if 0 ≤ i ∧ i < n ∧ 0 < size then some (.eptr es k (off + i.toNat * size)) else none
  | _, _, _ => none
def indexVM (k : MS) (x ix : PV) : Option PV :=
  match k, x, ix with
  | .str, .s (.str l), .s (.int _ i) => if 0 ≤ i then match l[i.toNat]? with
      | some b => some (.s (.int .u8 b.toNat))
      | none => none
    else none
  | .arr n agg size, .agg cs, .s (.int _ i) => if 0 ≤ i ∧ i < n then loadP agg size cs (i.toNat * size) else none
  | _, _, _ => none
def sliceM (k : MS) (H : Ob) (x : PV) (lo hi : Option PV) : Option PV :=
  match k, x with
  | .str, .s (.str l) => match bounds l.length lo hi with
      | some (a, b) => some (.s (.str ((l.take b).drop a)))
      | none => none
  | .sl _, .s .nils => match bounds 0 lo hi with
    | some _ => some (.s .nils)
    | none => none
  | .sl size, .s (.slice es full) => match bounds es.length lo hi with
    | some (a, b) => if es.all (fun c => decide (c.length = size)) = true ∧ 0 < size then some (.s (.slice ((es.take b).drop a) (full && decide (b = es.length)))) else none
    | none => none
  | .sl size, .hsl id ver off n => match H id with
    | .sarr _ sz v _ _ es => if v = ver ∧ sz = size ∧ off + n ≤ es.length then match bounds n lo hi with
        | some (a, b) => if a = b ∧ a ≠ 0 then some (.s (.slice [] false)) else some (.hsl id ver (off + a) (b - a))
        | none => none
      else none
    | _ => none
  | _, _ => none
def lenM (k : MS) (H : Ob) (x : PV) : Option PV :=
  match k, x with
  | .str, .s (.str l) => some (.i64 l.length)
  | .sl _, .s .nils => some (.i64 0)
  | .sl _, .s (.slice es _) => some (.i64 es.length)
  | .sl _, .hsl id ver _ n => match H id with
    | .sarr _ _ v _ _ _ => if v = ver then some (.i64 n) else none
    | _ => none
  | .map, .map id => match H id with
    | .map es => some (.i64 es.length)
    | _ => none
  | _, _ => none
def appendM (e : TypeId) (size : Nat) (H : Ob) (nid : Nat) (s x : PV) : Option (PV × Ob) :=
  match rowsOf H x with
  | some new =>
    if new.all (fun c => decide (c.length = size)) = true then
      match s with
      | .s .nils => if new.length ≤ 1073741824 then if new.isEmpty = true then some (.s .nils, H) else some (.hsl nid 0 0 new.length, H.set nid (.sarr e size 0 false true new)) else none
      | .s (.slice es full) => if es.all (fun c => decide (c.length = size)) = true ∧ es.length + new.length ≤ 1073741824 then
          if new.isEmpty = true then some (.s (.slice es full), H)
          else if full = true then some (.hsl nid 0 0 (es.length + new.length), H.set nid (.sarr e size 0 false true (es ++ new))) else none
        else none
      | .hsl id ver off n => match H id with
        | .sarr ty sz v fz true es => if v = ver ∧ off = 0 ∧ n = es.length ∧ sz = size ∧ ty = e ∧ n + new.length ≤ 1073741824 then
            if new.isEmpty = true then some (.hsl id ver off n, H)
            else some (.hsl id (ver + 1) 0 (n + new.length), H.set id (.sarr ty sz (ver + 1) fz true (es ++ new)))
          else none
        | _ => none
      | _ => none
    else none
  | none => none
def buildM : List PV → List (Nat × Nat × PV) → Option (List PV)
  | c, [] => some c
  | c, (o, n, x) :: r => if x.cells.length = n ∧ o + n ≤ c.length then buildM (setCells c o x.cells) r else none
def eqM (k : MK) : PV → PV → Option Bool
  | .s (.bool a), .s (.bool b) => match k with
    | .bool => some (a == b)
    | _ => none
  | .s .nils, .s .nils => match k with
    | .slice => some true
    | _ => none
  | .s (.slice _ _), .s .nils => match k with
    | .slice => some false
    | _ => none
  | .s .nils, .s (.slice _ _) => match k with
    | .slice => some false
    | _ => none
  | .agg a, .agg b => match k, toSVs a, toSVs b with
    | .flat ks, some x, some y => svEqs ks x y
    | _, _, _ => none
  | _, _ => none
def binM (op : BinOp) (k : MK) : PV → PV → Option PV
  | .s (.int k a), .s (.int k' b) => match binInt op k a k' b with
    | some v => some (.s v)
    | none => none
  | .s (.str a), .s (.str b) => match binStr op a b with
    | some v => some (.s v)
    | none => none
  | x, y => match op with
    | .eql => match eqM k x y with
      | some r => some (.s (.bool r))
      | none => none
    | .neq => match eqM k x y with
      | some r => some (.s (.bool (!r)))
      | none => none
    | _ => none
def convM (k : MV) (H : Ob) (nid : Nat) (x : PV) : Option (PV × Ob) :=
  match k, x with
  | .int k, .s (.int _ n) => some (.s (.int k (k.wrap n)), H)
  | .str _, .s (.str l) => some (.s (.str l), H)
  | .bytes e, .s (.str l) => if l.length ≤ 1073741824 then some (.hsl nid 0 0 l.length, H.set nid (.sarr e 1 0 false false (l.map fun b => [.int .u8 b.toNat]))) else none
  | .str true, .s .nils => some (.s (.str []), H)
  | .str true, .s (.slice es f) => match bytesOf es with
    | some l => some (.s (.str l), H)
    | none => none
  | .str true, .hsl id ver off n => match rowsOf H (.hsl id ver off n) with
    | some rows => match bytesOf rows with
      | some l => some (.s (.str l), H)
      | none => none
    | none => none
  | _, _ => none
def ifaceM (t : TypeId) : PV → PV
  | .s v => .s (.iface t v)
  | x => .iface t x
def tassertM (t : TypeId) (ok : Bool) : PV → Option PV
  | .iface t' v => if t' = t then some (if ok then .tuple [v, .bool true] else v) else none
  | .s (.iface t' v) => if t' = t then some (if ok then .tuple [.s v, .bool true] else .s v) else none
  | _ => none
def keyM : MKey → SV → Bool
  | .int, .int _ _ => true
  | .str, .str _ => true
  | _, _ => false
def lookM (kt : MKey) (zero : Option SV) (ok : Bool) (H : Ob) (m k : PV) : Option PV :=
  match m, k with
  | .map id, .s key => match H id with
    | .map es => if keyM kt key = true then match mapFind key es 0 with
        | some (some (_, v)) => some (if ok then .tuple [.s v, .bool true] else .s v)
        | some none => match zero with
          | some z => some (if ok then .tuple [.s z, .bool false] else .s z)
          | none => none
        | none => none
      else none
    | _ => none
  | _, _ => none
def mupdM (kt : MKey) (H : Ob) (m k x : PV) : Option Ob :=
  match m, k, x with
  | .map id, .s key, .s v => match H id with
    | .map es => if keyM kt key = true then match mapFind key es 0 with
        | some (some (i, _)) => some (H.set id (.map (es.set i (key, v))))
        | some none => some (H.set id (.map (es ++ [(key, v)])))
        | none => none
      else none
    | _ => none
  | _, _, _ => none
def mksM (e : TypeId) (size : Nat) (zero : List SV) (H : Ob) (nid : Nat) (len cap : PV) : Option (PV × Ob) :=
  match len, cap with
  | .s (.int _ l), .s (.int _ c) => if 0 ≤ l ∧ l ≤ c ∧ c ≤ 1073741824 then some (.hsl nid 0 0 l.toNat, H.set nid (.sarr e size 0 false true (List.replicate l.toNat zero))) else none
  | _, _ => none
def valM (T : Nat → PV) : Option MX → Option PV
  | none => none
  | some x => some (valX T x)
/-- One operation; calls and panics stand apart. -/
def mstep (op : MOp) (draw : Bool) (T : Nat → PV) (H : Ob) (nid : Nat) : Option (PV × Ob) :=
  match op with
  | .mv x => some (valX T x, H)
  | .pick c a b => match valX T c with
    | .s (.bool t) => some (if t then valX T a else valX T b, H)
    | _ => none
  | .alloc t z => some (.ptr nid 0, H.set nid (.box t (z.map .s)))
  | .box t x => boxO H nid t (valX T x)
  | .build z ps => bnd (buildM (z.map .s) (ps.map fun x => (x.1, x.2.1, valX T x.2.2))) fun c => some (.agg c, H)
  | .rows size z n ps => if draw = true ∧ (ps.all fun x => decide (idb (valX T x.2) = 0)) = false then none else bnd (rowParts size H (List.replicate n z) (ps.map fun x => (x.1, valX T x.2))) fun r => some (.s (.slice r.1 true), r.2)
  | .load agg size a => pureR H (loadM agg size H (valX T a))
  | .store size a x => unitR (storeM size H (valX T a) (valX T x))
  | .chk x => pureR H (nilCheckV (valX T x))
  | .bin op k x y => pureR H (binM op k (valX T x) (valX T y))
  | .un op x => pureR H (unOpS op (valX T x))
  | .conv k x => convM k H nid (valX T x)
  | .ifc t x => some (ifaceM t (valX T x), H)
  | .mkf f a b => some (.func f (a.map (valX T)) (b.map (valX T)), H)
  | .mkm => some (.map nid, H.set nid (.map []))
  | .mks e size z l c => mksM e size z H nid (valX T l) (valX T c)
  | .sl k x l h => pureR H (sliceM k H (valX T x) (valM T l) (valM T h))
  | .fa o x => pureR H (fieldAM o H (valX T x))
  | .fv o agg size x => pureR H (fieldVM o agg size (valX T x))
  | .ia k x i => pureR H (indexAM k H (valX T x) (valX T i))
  | .iv k x i => pureR H (indexVM k (valX T x) (valX T i))
  | .look kt z ok m k => pureR H (lookM kt z ok H (valX T m) (valX T k))
  | .mupd kt m k x => unitR (mupdM kt H (valX T m) (valX T k) (valX T x))
  | .ta t ok x => pureR H (tassertM t ok (valX T x))
  | .ext x i => pureR H (extractV i (valX T x))
  | .len k x => pureR H (lenM k H (valX T x))
  | .app e size s x => appendM e size H nid (valX T s) (valX T x)
  | .mx b x r => pureR H (maxMin b (valX T x) (r.map (valX T)))
  | _ => none
def wantedM (T : Nat → PV) (g : Option (Nat × Bool)) : Bool :=
  match g with
  | none => true
  | some (d, want) => match T d with
    | .s (.bool b) => b == want
    | _ => false
def afterCall (T : Nat → PV) (d : Option Nat) (r : Out × Ob × Nat) : Step :=
  match r.1 with
  | .ret v => .go (putT T d v) r.2.1 r.2.2
  | .panic v => .panic v T r.2.1 r.2.2
def stepM (E : Env) (callc : CallC) (run : Run) (draw : Bool) (o : MOper) (T : Nat → PV) (H : Ob) (next : Nat) : Option Step :=
  if wantedM T o.g then
    match o.op with
    | .call f args => bnd (doCall E callc run draw f (args.map (valX T)) H (next + 1)) fun r => some (afterCall T o.d r)
    | .callv f args => bnd (callee (valX T f)) fun c => bnd (doCall E callc run draw c.1 (c.2.1 ++ args.map (valX T) ++ c.2.2) H (next + 1)) fun r => some (afterCall T o.d r)
    | .panic x => match valX T x with
      | .iface t v => some (.panic (.iface t v) T H (next + 1))
      | .s (.iface t v) => some (.panic (.s (.iface t v)) T H (next + 1))
      | _ => none
    | op => bnd (mstep op draw T H next) fun r => some (.go (putT T o.d r.1) r.2 (next + 1))
  else some (.go (putT T o.d .undef) H (next + 1))
def opsM (E : Env) (callc : CallC) (run : Run) (draw : Bool) : List MOper → (Nat → PV) → Ob → Nat → Option (Ex × St)
  | [], T, H, next => some (.normal, ⟨T, H, next⟩)
  | o :: r, T, H, next => bnd (stepM E callc run draw o T H next) fun x => match x with
    | .go T H next => opsM E callc run draw r T H next
    | .panic v T H next => if draw = true then none else some (.panic v, ⟨T, H, next⟩)

/-! ### out of the program's code -/
def cX (E : Env) : Operand → Option MX
  | .tmp t => some (.t t)
  | .const v => match ofConst v with
    | some p => some (.c p)
    | none => none
  | .func f => some (.c (.s (.func f)))
  | .global g => match E.G g with
    | some p => some (.c p)
    | none => none
def cL (E : Env) : List Operand → Option (List MX)
  | [] => some []
  | x :: r => bnd (cX E x) fun a => bnd (cL E r) fun q => some (a :: q)
def cP (E : Env) : List (Nat × Operand) → Option (List (Nat × MX))
  | [] => some []
  | (i, x) :: r => bnd (cX E x) fun a => bnd (cP E r) fun q => some ((i, a) :: q)
def cB (E : Env) (t : TypeId) : List (Nat × Operand) → Option (List (Nat × Nat × MX))
  | [] => some []
  | (i, x) :: r => bnd (fo E.P t i) fun f => bnd (ti E.P f.2) fun y => bnd (cX E x) fun a => bnd (cB E t r) fun q => some ((f.1, y.size, a) :: q)
def cM (E : Env) : Option Operand → Option (Option MX)
  | none => some none
  | some x => bnd (cX E x) fun a => some (some a)
def cK (P : Program) (t : TypeId) : MK :=
  if isBoolT P t then .bool else if isSliceT P t then .slice else match flatEq P t with
    | some ks => .flat ks
    | none => .num
def cKey (P : Program) (t : TypeId) : Option MKey :=
  match P.underlying t with
  | some .string => some .str
  | some (.int _) => some .int
  | _ => none
def cOp (E : Env) (op : Op) : Option MOp :=
  match op with
  | .move x => bnd (cX E x) fun x => some (.mv x)
  | .assign x => bnd (cX E x) fun x => some (.mv x)
  | .pick c a b => bnd (cX E c) fun c => bnd (cX E a) fun a => bnd (cX E b) fun b => some (.pick c a b)
  | .alloc t => bnd (ti E.P t) fun y => some (.alloc t y.zero)
  | .box t x => bnd (cX E x) fun x => some (.box t x)
  | .build t ps => bnd (ti E.P t) fun y => if structOk E.P t = true then bnd (cB E t ps.toList) fun q => some (.build y.zero q) else none
  | .buildSlice t n ps => bnd (elemT E.P t) fun e => bnd (ti E.P e) fun y => if n * y.size ≤ 16777216 ∧ 0 < y.size then bnd (cP E ps.toList) fun q => some (.rows y.size y.zero n q) else none
  | .load t a => bnd (ti E.P t) fun y => bnd (cX E a) fun a => some (.load y.agg y.size a)
  | .store t a x => bnd (ti E.P t) fun y => bnd (cX E a) fun a => bnd (cX E x) fun x => some (.store y.size a x)
  | .nilCheck x => bnd (cX E x) fun x => some (.chk x)
  | .binOp op t x y _ => bnd (cX E x) fun x => bnd (cX E y) fun y => some (.bin op (cK E.P t) x y)
  | .unOp op _ x => bnd (cX E x) fun x => some (.un op x)
  | .convert s d x => bnd (cX E x) fun x => if (E.P.underlying s).isSome = true then match intT E.P d with
      | some k => some (.conv (.int k) x)
      | none => if isStringT E.P d = true then some (.conv (.str (match elemT E.P s with
          | some e => decide (intT E.P e = some .u8)
          | none => false)) x) else match elemT E.P d with
        | some e => if intT E.P e = some .u8 then some (.conv (.bytes e) x) else none
        | none => none
    else none
  | .makeInterface t x => if isIface E.P t = true then none else bnd (cX E x) fun x => some (.ifc t x)
  | .makeFunc (.func f) a b => bnd (cL E a.toList) fun a => bnd (cL E b.toList) fun b => some (.mkf f a b)
  | .makeMap t none => some .mkm
  | .makeSlice t l c => bnd (elemT E.P t) fun e => bnd (ti E.P e) fun y => if y.bytes ≤ 65536 ∧ 0 < y.size then bnd (cX E l) fun l => bnd (cX E c) fun c => some (.mks e y.size y.zero l c) else none
  | .slice t x l h none => bnd (cX E x) fun x => bnd (cM E l) fun l => bnd (cM E h) fun h => if isStringT E.P t = true then some (.sl .str x l h) else bnd (elemT E.P t) fun e => bnd (ti E.P e) fun y => some (.sl (.sl y.size) x l h)
  | .fieldAddr s x f => bnd (cX E x) fun x => bnd (fo E.P s f) fun o => some (.fa o.1 x)
  | .field s x f => bnd (cX E x) fun x => bnd (fo E.P s f) fun o => bnd (ti E.P o.2) fun y => some (.fv o.1 y.agg y.size x)
  | .indexAddr t x i => bnd (cX E x) fun x => bnd (cX E i) fun i => match elemT E.P t with
    | some e => bnd (ti E.P e) fun y => some (.ia (.sl y.size) x i)
    | none => bnd (arrT E.P t) fun a => bnd (ti E.P a.2) fun y => some (.ia (.arr a.1 y.agg y.size) x i)
  | .index t x i => bnd (cX E x) fun x => bnd (cX E i) fun i => if isStringT E.P t = true then some (.iv .str x i) else bnd (arrT E.P t) fun a => bnd (ti E.P a.2) fun y => some (.iv (.arr a.1 y.agg y.size) x i)
  | .lookup t m k ok => bnd (cX E m) fun m => bnd (cX E k) fun k => bnd (isMapT E.P t) fun kt => bnd (cKey E.P kt.1) fun key => bnd (ti E.P kt.2) fun y => some (.look key (match y.zero, y.agg with
      | [z], false => some z
      | _, _ => none) ok m k)
  | .mapUpdate t m k x => bnd (cX E m) fun m => bnd (cX E k) fun k => bnd (cX E x) fun x => bnd (isMapT E.P t) fun kt => bnd (cKey E.P kt.1) fun key => some (.mupd key m k x)
  | .insert t m k x => bnd (cX E m) fun m => bnd (cX E k) fun k => bnd (cX E x) fun x => bnd (isMapT E.P t) fun kt => bnd (cKey E.P kt.1) fun key => some (.mupd key m k x)
  | .typeAssert x _ t ok => if isIface E.P t = true then none else bnd (cX E x) fun x => some (.ta t ok x)
  | .extract x i => bnd (cX E x) fun x => some (.ext x i)
  | .panic x => bnd (cX E x) fun x => some (.panic x)
  | .call c => match c.callee with
    | .builtin b => match b, c.argTypes.toList, c.args.toList with
      | .len, [t], [x] => bnd (cX E x) fun x => if isStringT E.P t = true then some (.len .str x) else if isSliceT E.P t = true then some (.len (.sl 0) x) else if (isMapT E.P t).isSome = true then some (.len .map x) else none
      | .append, [t, t2], [s, x] => bnd (cX E s) fun s => bnd (cX E x) fun x => bnd (elemT E.P t) fun e => bnd (ti E.P e) fun y =>
        if 0 < y.size ∧ y.bytes ≤ 65536 ∧ (t2 = t ∨ (isStringT E.P t2 = true ∧ intT E.P e = some .u8)) then some (.app e y.size s x) else none
      | .max, _, x :: r => bnd (cX E x) fun x => bnd (cL E r) fun r => some (.mx true x r)
      | .min, _, x :: r => bnd (cX E x) fun x => bnd (cL E r) fun r => some (.mx false x r)
      | _, _, _ => none
    | .value (.func f) => bnd (cL E c.args.toList) fun a => some (.call f a)
    | .value f => bnd (cX E f) fun f => bnd (cL E c.args.toList) fun a => some (.callv f a)
    | _ => none
  | _ => none
def cG (ops : Array Oper) : Option (Nat × Bool) → Option (Option (Nat × Bool))
  | none => some none
  | some (j, want) => bnd ((ops[j]?).bind (·.dst)) fun d => some (some (d, want))
def cOps (E : Env) (ops : Array Oper) : List Oper → Option (List MOper)
  | [] => some []
  | o :: r => bnd (cOp E o.op) fun m => bnd (cG ops o.guard) fun g => bnd (cOps E ops r) fun q => some (⟨o.dst, g, m⟩ :: q)
/-! drawn regions of which two operations may touch one object -/
def touchX (T : Nat → PV) (nid k : Nat) (l : List MX) : List Nat :=
  match k with
  | 0 => []
  | 1 => l.flatMap fun x => heads (valX T x)
  | _ => nid :: l.flatMap fun x => heads (valX T x)
def heldX (T : Nat → PV) (n0 : Nat) (c : Nat × Nat × List MX × Nat × Nat × List MX) : Bool := disj (touchX T (n0 + c.1) c.2.1 c.2.2.1) (touchX T (n0 + c.2.2.2.1) c.2.2.2.2.1 c.2.2.2.2.2)
def needD (ops : Array Oper) : List (Nat × Nat) := ((List.range ops.size).flatMap fun i => (List.range i).map fun k => (k, i)).filter fun p => !(((masks ops.toList).getD p.2 0).testBit p.1 || compat (opK ops p.1) (opK ops p.2))
def cT (E : Env) (ops : Array Oper) (k : Nat) : Option (Nat × List MX) := bnd ops[k]? fun o => bnd (cL E o.op.operands.toList) fun l => some (kindO o.op, l)
def cD (E : Env) (ops : Array Oper) : List (Nat × Nat) → Option (List (Nat × Nat × List MX × Nat × Nat × List MX))
  | [] => some []
  | (k, i) :: r => bnd (cT E ops k) fun a => bnd (cT E ops i) fun b => bnd (cD E ops r) fun q => some ((k, a.1, a.2, i, b.1, b.2) :: q)
def slO : Operand → Option Nat
  | .tmp t => some t
  | _ => none
def stab : List Oper → Bool
  | [] => true
  | o :: r => (kindO o.op == 0 || (o.op.operands.toList.filterMap slO).all fun x => (o :: r).all fun q => !(q.dst == some x)) && stab r
def comp (E : Env) (dyn : Bool) : Code → Option MC
  | .skip => some .skip
  | .label _ => some .skip
  | .region _ ops draw => if draw = true ∧ dyn = true then (match cOps E ops ops.toList, cD E ops (needD ops) with
      | some l, some chk => if stab ops.toList = true then (if chk.isEmpty = true ∧ (preS ops).isEmpty = true then some (.reg l true) else some (.regD l chk (preS ops))) else some (.orig ops)
      | _, _ => some (.orig ops)) else bnd (cOps E ops ops.toList) fun l => some (.reg l draw)
  | .seq a b => bnd (comp E dyn a) fun a => bnd (comp E dyn b) fun b => some (.seq a b)
  | .cond c a b => bnd (cX E c) fun c => bnd (comp E dyn a) fun a => bnd (comp E dyn b) fun b => some (.cond c a b)
  | .block id c => bnd (comp E dyn c) fun c => some (.block id c)
  | .loop c => bnd (comp E dyn c) fun c => some (.loop c)
  | .exit id => some (.exit id)
  | .ret => some .ret
  | _ => none
end Go.Vm
