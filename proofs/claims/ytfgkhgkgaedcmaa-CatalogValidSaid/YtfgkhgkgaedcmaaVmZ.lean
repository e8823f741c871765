/- Code by expressions: short-lived places are read where they are wanted. Definitions. -/
import Derived.Test.YtfgkhgkgaedcmaaVmY
set_option linter.unusedVariables false
set_option linter.unusedSimpArgs false
namespace Go.Vm

inductive Xp where
  | x (m : MX)
  | op (o : MOp) (l : List (Nat × Xp))
  | pick (c a b : Xp)
def over (T : Nat → PV) : List (Nat × PV) → Nat → PV
  | [] => T
  | (i, v) :: r => upd (over T r) i v
mutual
noncomputable def evX (T : Nat → PV) (H : Ob) : Xp → Option PV
  | .x m => some (valX T m)
  | .op o l => bnd (evS T H l) fun q => bnd (mstep o false (over T q) H 0) fun r => some r.1
  | .pick c a b => bnd (evX T H c) fun c => match c with
    | .s (.bool t) => if t = true then evX T H a else evX T H b
    | _ => none
noncomputable def evS (T : Nat → PV) (H : Ob) : List (Nat × Xp) → Option (List (Nat × PV))
  | [] => some []
  | (i, e) :: r => bnd (evX T H e) fun v => bnd (evS T H r) fun q => some ((i, v) :: q)
end

/-- The places that an operation reads. -/
def sx : MX → List Nat
  | .t i => [i]
  | .c _ => []
def so : Option MX → List Nat
  | some x => sx x
  | none => []
def slotsOf : MOp → List Nat
  | .mv x => sx x
  | .pick c a b => sx c ++ sx a ++ sx b
  | .alloc _ _ => []
  | .box _ x => sx x
  | .build _ ps => ps.flatMap fun p => sx p.2.2
  | .rows _ _ _ ps => ps.flatMap fun p => sx p.2
  | .load _ _ a => sx a
  | .store _ a x => sx a ++ sx x
  | .chk x => sx x
  | .bin _ _ x y => sx x ++ sx y
  | .un _ x => sx x
  | .conv _ x => sx x
  | .ifc _ x => sx x
  | .mkf _ a b => a.flatMap sx ++ b.flatMap sx
  | .mkm => []
  | .mks _ _ _ l c => sx l ++ sx c
  | .sl _ x l h => sx x ++ so l ++ so h
  | .fa _ x => sx x
  | .fv _ _ _ x => sx x
  | .ia _ x i => sx x ++ sx i
  | .iv _ x i => sx x ++ sx i
  | .look _ _ _ m k => sx m ++ sx k
  | .mupd _ m k x => sx m ++ sx k ++ sx x
  | .ta _ _ x => sx x
  | .ext x _ => sx x
  | .len _ x => sx x
  | .app _ _ s x => sx s ++ sx x
  | .mx _ x r => sx x ++ r.flatMap sx
  | .call _ args => args.flatMap sx
  | .callv f args => sx f ++ args.flatMap sx
  | .panic x => sx x
/-- 0: looks at its operands alone; 1: looks at objects; 2: turns objects, calls or panics. -/
def kindM : MOp → Nat
  | .build _ _ => 0
  | .chk _ => 0
  | .bin _ _ _ _ => 0
  | .un _ _ => 0
  | .ifc _ _ => 0
  | .mkf _ _ _ => 0
  | .fv _ _ _ _ => 0
  | .iv _ _ _ => 0
  | .ta _ _ _ => 0
  | .ext _ _ => 0
  | .mx _ _ _ => 0
  | .conv (.int _) _ => 0
  | .conv (.str _) _ => 1
  | .load _ _ _ => 1
  | .sl _ _ _ _ => 1
  | .fa _ _ => 1
  | .ia _ _ _ => 1
  | .look _ _ _ _ _ => 1
  | .len _ _ => 1
  | _ => 2

/-- Statements: places and objects are turned in this order. -/
inductive St1 where
  | set (d : Nat) (e : Xp)
  | need (g : List (Xp × Bool)) (e : Xp)
  | tick (n : Nat)
  | act (d : Option Nat) (g : List (Xp × Bool)) (o : MOp) (l : List (Nat × Xp))
inductive SC where
  | skip
  | reg (l : List St1) (draw : Bool)
  | orig (ops : Array Oper)
  | regD (l : List St1) (chk : List (Nat × Nat × List MX × Nat × Nat × List MX)) (pre : List Nat)
  | seq (a b : SC)
  | cond (e : Xp) (a b : SC)
  | block (id : Nat) (c : SC)
  | loop (c : SC)
  | exit (id : Nat)
  | ret
/-- All conditions hold; none where one has no answer. -/
noncomputable def evG (T : Nat → PV) (H : Ob) : List (Xp × Bool) → Option Bool
  | [] => some true
  | (e, w) :: r => bnd (evX T H e) fun v => match v with
    | .s (.bool b) => if (b == w) = true then evG T H r else some false
    | _ => none
noncomputable def actV (E : Env) (draw : Bool) (o : MOp) (q : Nat → PV) (H : Ob) (next : Nat) : Option (Out × Ob × Nat) :=
  match o with
  | .call f args => doCall E (calL E) (runL E) draw f (args.map (valX q)) H (next + 1)
  | .callv f args => bnd (callee (valX q f)) fun c => doCall E (calL E) (runL E) draw c.1 (c.2.1 ++ args.map (valX q) ++ c.2.2) H (next + 1)
  | .panic x => match valX q x with
    | .iface t v => some (.panic (.iface t v), H, next + 1)
    | .s (.iface t v) => some (.panic (.s (.iface t v)), H, next + 1)
    | _ => none
  | o => bnd (mstep o draw q H next) fun r => some (.ret r.1, r.2, next + 1)
noncomputable def st1 (E : Env) (draw : Bool) (s : St1) (T : Nat → PV) (H : Ob) (next : Nat) : Option Step :=
  match s with
  | .set d e => bnd (evX T H e) fun v => some (.go (upd T d v) H next)
  | .need g e => bnd (evG T H g) fun b => if b = true then bnd (evX T H e) fun _ => some (.go T H next) else some (.go T H next)
  | .tick n => some (.go T H (next + n))
  | .act d g o l => bnd (evG T H g) fun b => if b = true then bnd (evS T H l) fun q => bnd (actV E draw o (over T q) H next) fun r => some (afterCall T d r) else some (.go (putT T d .undef) H (next + 1))
noncomputable def sts (E : Env) (draw : Bool) : List St1 → (Nat → PV) → Ob → Nat → Option (Ex × St)
  | [], T, H, next => some (.normal, ⟨T, H, next⟩)
  | s :: r, T, H, next => bnd (st1 E draw s T H next) fun x => match x with
    | .go T H next => sts E draw r T H next
    | .panic v T H next => if draw = true then none else some (.panic v, ⟨T, H, next⟩)
noncomputable def Y (E : Env) : SC → St → Option (Ex × St)
  | .skip, s => some (.normal, s)
  | .reg l draw, s => sts E draw l s.T s.H s.next
  | .orig ops, s => opsD E (calL E) (runL E) ops (masks ops.toList) 0 [] ops.toList s.T (frz s.T (preS ops) s.H) s.next
  | .regD l chk pre, s => bnd (sts E true l s.T (frz s.T pre s.H) s.next) fun r => match r.1 with
    | .normal => if chk.all (heldX r.2.T s.next) = true then some r else none
    | _ => none
  | .seq a b, s => bnd (Y E a s) fun r => match r.1 with
    | .normal => Y E b r.2
    | e => some (e, r.2)
  | .cond e a b, s => bnd (evX s.T s.H e) fun v => match v with
    | .s (.bool t) => if t = true then Y E a s else Y E b s
    | _ => none
  | .block id c, s => bnd (Y E c s) fun r => match r.1 with
    | .exit id' => some (if id' = id then .normal else .exit id', r.2)
    | e => some (e, r.2)
  | .loop c, s => lim fun n => loopN (Y E c) n s
  | .exit id, s => some (.exit id, s)
  | .ret, s => some (.ret, s)

/-! ### the turning of code into statements -/
structure Pe where
  d : Nat
  gd : Option (Nat × Bool)
  g : List (Xp × Bool)
  e : Xp
  cv : Option Nat
  sure : Bool
mutual
def slotsX : Xp → List Nat
  | .x m => sx m
  | .op o l => (slotsOf o).filter (fun i => !(l.any fun p => p.1 == i)) ++ slotsS l
  | .pick c a b => slotsX c ++ slotsX a ++ slotsX b
def slotsS : List (Nat × Xp) → List Nat
  | [] => []
  | (_, e) :: r => slotsX e ++ slotsS r
end
mutual
def heapX : Xp → Bool
  | .x _ => false
  | .op o l => !(kindM o == 0) || heapS l
  | .pick c a b => heapX c || heapX a || heapX b
def heapS : List (Nat × Xp) → Bool
  | [] => false
  | (_, e) :: r => heapX e || heapS r
end
def look1 (S : List Pe) (i : Nat) : Option Pe := S.find? fun p => p.d == i
/-- A place, read under a guard. -/
def rdS (D : List Nat) (S : List Pe) (G : Option (Nat × Bool)) (i : Nat) : Option Xp :=
  if D.contains i then match look1 S i with
    | some p => if p.gd == none || p.gd == G then some p.e else none
    | none => none
  else some (.x (.t i))
def rdX (D : List Nat) (S : List Pe) (G : Option (Nat × Bool)) : MX → Option Xp
  | .t i => rdS D S G i
  | .c p => some (.x (.c p))
/-- The short-lived ones of the places that an operation reads. -/
def rdL (D : List Nat) (S : List Pe) (G : Option (Nat × Bool)) : List Nat → Option (List (Nat × Xp))
  | [] => some []
  | i :: r => if D.contains i then bnd (rdS D S G i) fun e => bnd (rdL D S G r) fun q => some (if q.any (fun p => p.1 == i) then q else (i, e) :: q) else rdL D S G r
/-- A branch of a choice: what is guarded by the choice's own condition is read there. -/
def rdB (D : List Nat) (S : List Pe) (G : Option (Nat × Bool)) (c : MX) (w : Bool) : MX → Option Xp
  | .t i => match rdS D S G i with
    | some e => some e
    | none => match c with
      | .t j => rdS D S (some (j, w)) i
      | .c _ => none
  | .c p => some (.x (.c p))
/-- An operation that turns nothing, as an expression. -/
def mkX (D : List Nat) (S : List Pe) (G : Option (Nat × Bool)) (o : MOp) : Option Xp :=
  match o with
  | .mv x => rdX D S G x
  | .pick c a b => bnd (rdX D S G c) fun ec => bnd (rdB D S G c true a) fun ea => bnd (rdB D S G c false b) fun eb => some (.pick ec ea eb)
  | o => bnd (rdL D S G (slotsOf o)) fun l => some (.op o l)
def gdOf (D : List Nat) (S : List Pe) : Option (Nat × Bool) → Option (List (Xp × Bool))
  | none => some []
  | some (g, w) => if D.contains g then match look1 S g with
      | some p => some (p.g ++ [(p.e, w)])
      | none => none
    else some [(.x (.t g), w)]
def isPure : MOp → Bool
  | .mv _ => true
  | .pick _ _ _ => true
  | o => decide (kindM o < 2)
def isX : Xp → Bool
  | .x _ => true
  | _ => false
/-- Those that the operation reads anyway, under the same guard. -/
def cvd (S : List Pe) (G : Option (Nat × Bool)) (o : MOp) (p : Pe) : Bool :=
  match o with
  | .pick c a b => (p.gd == G && (sx c).contains p.d) || (match c with
    | .t j => (match look1 S j with
      | some q => q.gd == G
      | none => false) && ((p.gd == some (j, true) && (sx a).contains p.d) || (p.gd == some (j, false) && (sx b).contains p.d))
    | .c _ => false)
  | o => p.gd == G && (slotsOf o).contains p.d
def men (d : Option Nat) (e : Xp) : Bool :=
  match d with
  | some d => (slotsX e).contains d
  | none => false
def mentions (d : Option Nat) (hp : Bool) (p : Pe) : Bool := (men d p.e || (hp && heapX p.e)) || p.g.any fun x => men d x.1 || (hp && heapX x.1)
def needsOf (S : List Pe) : List St1 := (S.filter fun p => p.cv.isNone && !p.sure && !isX p.e).map fun p => .need p.g p.e
/-- What stays behind a statement that turns a place (and objects). -/
def kill (d : Option Nat) (hp : Bool) (S : List Pe) : List Pe :=
  let dead := (S.filter (mentions d hp)).map (·.d)
  (S.filter fun p => !mentions d hp p).map fun p => match p.cv with
    | some k => if dead.contains k then { p with cv := none } else p
    | none => p
def tr1 (D : List Nat) (S : List Pe) (o : MOper) : Option (List St1 × List Pe) :=
  let pend := match o.d with
    | some d => D.contains d
    | none => false
  if isPure o.op = true then
    match o.d, pend with
    | some d, true => if (S.any fun p => p.d == d) then none else bnd (gdOf D S o.g) fun g => bnd (mkX D S o.g o.op) fun e =>
        some ([.tick 1], ⟨d, o.g, g, e, none, false⟩ :: S.map fun p => if p.cv.isNone && cvd S o.g o.op p then { p with cv := some d } else p)
    | some d, false => match o.g with
      | none => bnd (mkX D S none o.op) fun e => some (needsOf ((S.filter (mentions (some d) false)).filter fun p => !cvd S none o.op p) ++ [.set d e, .tick 1], kill (some d) false (S.map fun p => if cvd S none o.op p then { p with sure := true } else p))
      | some _ => none
    | none, _ => none
  else if pend then none else
    bnd (gdOf D S o.g) fun g => bnd (rdL D S o.g (slotsOf o.op)) fun l =>
      some (needsOf (S.filter fun p => !cvd S o.g o.op p) ++ [.act o.d g o.op l], (kill o.d true S).map fun p => { p with sure := true })
def trL (D : List Nat) : List Pe → List MOper → Option (List St1 × List Pe)
  | S, [] => some ([], S)
  | S, o :: r => bnd (tr1 D S o) fun x => bnd (trL D x.2 r) fun y => some (x.1 ++ y.1, y.2)
/-- Steps told together. -/
def ticks : Nat → List St1 → List St1
  | 0, [] => []
  | n + 1, [] => [.tick (n + 1)]
  | n, .tick m :: r => ticks (n + m) r
  | 0, s :: r => s :: ticks 0 r
  | n + 1, .set d e :: r => .set d e :: ticks (n + 1) r
  | n + 1, .need g e :: r => .need g e :: ticks (n + 1) r
  | n + 1, s :: r => .tick (n + 1) :: s :: ticks 0 r
def withNeeds (S : List Pe) (c : SC) : SC :=
  match needsOf S with
  | [] => c
  | l => .seq (.reg l false) c
def endNeeds (S : List Pe) (c : SC) : SC :=
  match needsOf S with
  | [] => c
  | l => .seq c (.reg l false)
def chkSl (chk : List (Nat × Nat × List MX × Nat × Nat × List MX)) : List Nat := chk.flatMap fun c => c.2.2.1.flatMap sx ++ c.2.2.2.2.2.flatMap sx
def tr (D : List Nat) : List Pe → MC → Option (SC × List Pe)
  | S, .skip => some (.skip, S)
  | S, .reg ops draw => bnd (trL D S ops) fun x => some (.reg (ticks 0 x.1) draw, x.2)
  | S, .regD ops chk pre => if (chkSl chk).all (fun x => !D.contains x) = true ∧ pre.all (fun x => !D.contains x) = true ∧ S.isEmpty = true then bnd (trL D [] ops) fun x => some (.regD (ticks 0 x.1) chk pre, x.2) else none
  | _, .orig ops => if D.isEmpty = true then some (.orig ops, []) else none
  | S, .seq a b => bnd (tr D S a) fun x => bnd (tr D x.2 b) fun y => some (.seq x.1 y.1, y.2)
  | S, .cond x a b => bnd (rdX D S none x) fun e => bnd (tr D [] a) fun p => bnd (tr D [] b) fun q =>
      some (withNeeds (S.filter fun p => !(p.gd == none && (sx x).contains p.d)) (.cond e (endNeeds p.2 p.1) (endNeeds q.2 q.1)), [])
  | S, .block id c => bnd (tr D S c) fun x => some (.block id (endNeeds x.2 x.1), [])
  | S, .loop c => bnd (tr D [] c) fun x => some (withNeeds S (.loop (endNeeds x.2 x.1)), [])
  | S, .exit id => some (withNeeds S (.exit id), [])
  | S, .ret => some (withNeeds S .ret, [])

/-! ### which places are short-lived: a guess, made once -/
def defsR (ops : List MOper) : List Nat := ops.filterMap (·.d)
def readsO (o : MOper) : List Nat := slotsOf o.op ++ match o.g with
  | some (g, _) => [g]
  | none => []
def readsC : MC → List Nat
  | .reg ops _ => ops.flatMap readsO
  | .regD ops _ _ => ops.flatMap readsO
  | .seq a b => readsC a ++ readsC b
  | .cond x a b => sx x ++ readsC a ++ readsC b
  | .block _ c => readsC c
  | .loop c => readsC c
  | _ => []
def defsC : MC → List Nat
  | .reg ops _ => defsR ops
  | .regD ops _ _ => defsR ops
  | .seq a b => defsC a ++ defsC b
  | .cond _ a b => defsC a ++ defsC b
  | .block _ c => defsC c
  | .loop c => defsC c
  | _ => []
def firstC : MC → List Nat
  | .cond x _ _ => sx x
  | .seq a _ => firstC a
  | .block _ c => firstC c
  | _ => []
/-- Pure operations' places, read in their own region or by the choice that follows alone. -/
def cands (reads defs : List Nat) (ops : List MOper) (nxt : List Nat) : List Nat :=
  let rs := ops.flatMap readsO ++ nxt
  ops.filterMap fun o => match o.d with
    | some d => if isPure o.op = true ∧ defs.count d = 1 ∧ reads.count d = rs.count d then some d else none
    | none => none
def guessD (reads defs : List Nat) : List Nat → MC → List Nat
  | n, .reg ops _ => cands reads defs ops n
  | n, .regD ops chk _ => (cands reads defs ops n).filter fun x => !(chkSl chk).contains x
  | n, .seq a b => guessD reads defs (firstC b) a ++ guessD reads defs n b
  | _, .cond _ a b => guessD reads defs [] a ++ guessD reads defs [] b
  | _, .block _ c => guessD reads defs [] c
  | _, .loop c => guessD reads defs [] c
  | _, _ => []
def guess (m : MF) : List Nat := guessD (readsC m.c ++ m.rs.map fun r => match r with | .t i => i | .cell _ _ i => i) (defsC m.c) [] m.c
structure SF where
  nt : Nat
  rs : List MR
  c : SC
def slotR : MR → Nat
  | .t i => i
  | .cell _ _ i => i
def trF (D : List Nat) (m : MF) : Option SF := if m.rs.all (fun r => !D.contains (slotR r)) = true then bnd (tr D [] m.c) fun x => some ⟨m.nt, m.rs, endNeeds x.2 x.1⟩ else none
def sF (E : Env) (f : FuncId) (D : List Nat) : Option SF := bnd (cF E f) (trF D)
end Go.Vm
