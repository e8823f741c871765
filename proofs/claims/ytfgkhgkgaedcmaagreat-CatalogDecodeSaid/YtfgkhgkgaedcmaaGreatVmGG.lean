/- Code by expressions: short-lived places are read where they are wanted. Definitions. -/
import Derived.Test.YtfgkhgkgaedcmaaGreatVmGF
section
set_option linter.unusedVariables false
set_option linter.unusedSimpArgs false
namespace Go.Vm

inductive Xp where
  | x (m : MX)
  | op (o : MOp) (l : List (Nat × Xp))
  | pick (c a b : Xp)
def over (T : Nat → PV) : List (Nat × PV) → Nat → PV
  | [] => T
  | (i, v) :: r => upd (over T r) i v
mutual
noncomputable def evX (T : Nat → PV) (H : Ob) : Xp → Option PV
  | .x m => some (valX T m)
  | .op o l => bnd (evS T H l) fun q => bnd (mstep o false (over T q) H 0) fun r => some r.1
  | .pick c a b => bnd (evX T H c) fun c => match c with
    | .s (.bool t) => if t = true then evX T H a else evX T H b
    | _ => none
noncomputable def evS (T : Nat → PV) (H : Ob) : List (Nat × Xp) → Option (List (Nat × PV))
  | [] => some []
  | (i, e) :: r => bnd (evX T H e) fun v => bnd (evS T H r) fun q => some ((i, v) :: q)
end

/-- The places that an operation reads. -/
def sx : MX → List Nat
  | .t i => [i]
  | .c _ => []
def so : Option MX → List Nat
  | some x => sx x
  | none => []
def slotsOf : MOp → List Nat
  | .mv x => sx x
  | .pick c a b => sx c ++ sx a ++ sx b
  | .alloc _ _ => []
  | .box _ x => sx x
  | .build _ ps => ps.flatMap fun p => sx p.2.2
  | .rows _ _ _ ps => ps.flatMap fun p => sx p.2
  | .load _ _ a => sx a
  | .store _ a x => sx a ++ sx x
  | .chk x => sx x
  | .bin _ _ x y => sx x ++ sx y
  | .un _ x => sx x
  | .conv _ x => sx x
  | .ifc _ x => sx x
  | .mkf _ a b => a.flatMap sx ++ b.flatMap sx
  | .mkm => []
  | .mks _ _ _ l c => sx l ++ sx c
  | .sl _ x l h => sx x ++ so l ++ so h
  | .fa _ x => sx x
  | .fv _ _ _ x => sx x
  | .ia _ x i => sx x ++ sx i
  | .iv _ x i => sx x ++ sx i
  | .look _ _ _ m k => sx m ++ sx k
  | .mupd _ m k x => sx m ++ sx k ++ sx x
  | .ta _ _ x => sx x
  | .ext x _ => sx x
  | .len _ x => sx x
  | .app _ _ s x => sx s ++ sx x
  | .mx _ x r => sx x ++ r.flatMap sx
  | .call _ args => args.flatMap sx
  | .callv f args => sx f ++ args.flatMap sx
  | .panic x => sx x
/-- 0: looks at its operands alone; 1: looks at objects; 2: turns objects, calls or panics. -/
def kindM : MOp → Nat
  | .build _ _ => 0
  | .chk _ => 0
  | .bin _ _ _ _ => 0
  | .un _ _ => 0
  | .ifc _ _ => 0
  | .mkf _ _ _ => 0
  | .fv _ _ _ _ => 0
  | .iv _ _ _ => 0
  | .ta _ _ _ => 0
  | .ext _ _ => 0
  | .mx _ _ _ => 0
  | .conv (.int _) _ => 0
  | .conv (.str _) _ => 1
  | .load _ _ _ => 1
  | .sl _ _ _ _ => 1
  | .fa _ _ => 1
  | .ia _ _ _ => 1
  | .look _ _ _ _ _ => 1
  | .len _ _ => 1
  | _ => 2

/-- Statements: places and objects are turned in this order. -/
inductive St1 where
  | set (d : Nat) (e : Xp)
  | need (g : List (Xp × Bool)) (e : Xp)
  | tick (n : Nat)
  | act (d : Option Nat) (g : List (Xp × Bool)) (o : MOp) (l : List (Nat × Xp))
inductive SC where
  | skip
  | reg (l : List St1) (draw : Bool)
  | orig (ops : Array Oper)
  | regD (l : List St1) (chk : List (Nat × Nat × List MX × Nat × Nat × List MX)) (pre : List Nat)
  | seq (a b : SC)
  | cond (e : Xp) (a b : SC)
  | block (id : Nat) (c : SC)
  | loop (c : SC)
  | exit (id : Nat)
  | ret
/-- All conditions hold; none where one has no answer. -/
noncomputable def evG (T : Nat → PV) (H : Ob) : List (Xp × Bool) → Option Bool
  | [] => some true
  | (e, w) :: r => bnd (evX T H e) fun v => match v with
    | .s (.bool b) => if (b == w) = true then evG T H r else some false
    | _ => some false
noncomputable def actV (E : Env) (draw : Bool) (o : MOp) (q : Nat → PV) (H : Ob) (next : Nat) : Option (Out × Ob × Nat) :=
  match o with
  | .call f args => doCall E (calL E) (runL E) draw f (args.map (valX q)) H (next + 1)
  | .callv f args => bnd (callee (valX q f)) fun c => doCall E (calL E) (runL E) draw c.1 (c.2.1 ++ args.map (valX q) ++ c.2.2) H (next + 1)
  | .panic x => match valX q x with
    | .iface t v => some (.panic (.iface t v), H, next + 1)
    | .s (.iface t v) => some (.panic (.s (.iface t v)), H, next + 1)
    | _ => none
  | o => bnd (mstep o draw q H next) fun r => some (.ret r.1, r.2, next + 1)
noncomputable def st1 (E : Env) (draw : Bool) (s : St1) (T : Nat → PV) (H : Ob) (next : Nat) : Option Step :=
  match s with
  | .set d e => bnd (evX T H e) fun v => some (.go (upd T d v) H next)
  | .need g e => bnd (evG T H g) fun b => if b = true then bnd (evX T H e) fun _ => some (.go T H next) else some (.go T H next)
  | .tick n => some (.go T H (next + n))
  | .act d g o l => bnd (evG T H g) fun b => if b = true then bnd (evS T H l) fun q => bnd (actV E draw o (over T q) H next) fun r => some (afterCall T d r) else some (.go (putT T d .undef) H (next + 1))
noncomputable def sts (E : Env) (draw : Bool) : List St1 → (Nat → PV) → Ob → Nat → Option (Ex × St)
  | [], T, H, next => some (.normal, ⟨T, H, next⟩)
  | s :: r, T, H, next => bnd (st1 E draw s T H next) fun x => match x with
    | .go T H next => sts E draw r T H next
    | .panic v T H next => if draw = true then none else some (.panic v, ⟨T, H, next⟩)
noncomputable def Y (E : Env) : SC → St → Option (Ex × St)
  | .skip, s => some (.normal, s)
  | .reg l draw, s => sts E draw l s.T s.H s.next
  | .orig ops, s => opsD E (calL E) (runL E) ops (masks ops.toList) 0 [] ops.toList s.T (frz s.T (preS E ops) s.H) s.next
  | .regD l chk pre, s => bnd (sts E true l s.T (frz s.T pre s.H) s.next) fun r => match r.1 with
    | .normal => if chk.all (heldX r.2.T s.next) = true then some r else none
    | _ => none
  | .seq a b, s => bnd (Y E a s) fun r => match r.1 with
    | .normal => Y E b r.2
    | e => some (e, r.2)
  | .cond e a b, s => bnd (evX s.T s.H e) fun v => match v with
    | .s (.bool t) => if t = true then Y E a s else Y E b s
    | _ => none
  | .block id c, s => bnd (Y E c s) fun r => match r.1 with
    | .exit id' => some (if id' = id then .normal else .exit id', r.2)
    | e => some (e, r.2)
  | .loop c, s => lim fun n => loopN (Y E c) n s
  | .exit id, s => some (.exit id, s)
  | .ret, s => some (.ret, s)

/-! ### the turning of code into statements -/
structure Pe where
  d : Nat
  gd : Option (Nat × Bool)
  g : List (Xp × Bool)
  e : Xp
  cv : Option Nat
  sure : Bool
mutual
def slotsX : Xp → List Nat
  | .x m => sx m
  | .op o l => (slotsOf o).filter (fun i => !(l.any fun p => p.1 == i)) ++ slotsS l
  | .pick c a b => slotsX c ++ slotsX a ++ slotsX b
def slotsS : List (Nat × Xp) → List Nat
  | [] => []
  | (_, e) :: r => slotsX e ++ slotsS r
end
mutual
def heapX : Xp → Bool
  | .x _ => false
  | .op o l => !(kindM o == 0) || heapS l
  | .pick c a b => heapX c || heapX a || heapX b
def heapS : List (Nat × Xp) → Bool
  | [] => false
  | (_, e) :: r => heapX e || heapS r
end
def look1 (S : List Pe) (i : Nat) : Option Pe := S.find? fun p => p.d == i
/-- A place, read under a guard. -/
def rdS (D : List Nat) (S : List Pe) (G : Option (Nat × Bool)) (i : Nat) : Option Xp :=
  if D.contains i then match look1 S i with
    | some p => if p.gd == none || p.gd == G then some p.e else none
    | none => none
  else some (.x (.t i))
def rdX (D : List Nat) (S : List Pe) (G : Option (Nat × Bool)) : MX → Option Xp
  | .t i => rdS D S G i
  | .c p => some (.x (.c p))
/-- The short-lived ones of the places that an operation reads. -/
def rdL (D : List Nat) (S : List Pe) (G : Option (Nat × Bool)) : List Nat → Option (List (Nat × Xp))
  | [] => some []
  | i :: r => if D.contains i then bnd (rdS D S G i) fun e => bnd (rdL D S G r) fun q => some (if q.any (fun p => p.1 == i) then q else (i, e) :: q) else rdL D S G r
/-- A branch of a choice: what is guarded by the choice's own condition is read there. -/
def rdB (D : List Nat) (S : List Pe) (G : Option (Nat × Bool)) (c : MX) (w : Bool) : MX → Option Xp
  | .t i => match rdS D S G i with
    | some e => some e
    | none => match c with
      | .t j => rdS D S (some (j, w)) i
      | .c _ => none
  | .c p => some (.x (.c p))
/-- An operation that turns nothing, as an expression. -/
def mkX (D : List Nat) (S : List Pe) (G : Option (Nat × Bool)) (o : MOp) : Option Xp :=
  match o with
  | .mv x => rdX D S G x
  | .pick c a b => bnd (rdX D S G c) fun ec => bnd (rdB D S G c true a) fun ea => bnd (rdB D S G c false b) fun eb => some (.pick ec ea eb)
  | o => bnd (rdL D S G (slotsOf o)) fun l => some (.op o l)
def gdOf (D : List Nat) (S : List Pe) : Option (Nat × Bool) → Option (List (Xp × Bool))
  | none => some []
  | some (g, w) => if D.contains g then match look1 S g with
      | some p => some (p.g ++ [(p.e, w)])
      | none => none
    else some [(.x (.t g), w)]
def isPure : MOp → Bool
  | .mv _ => true
  | .pick _ _ _ => true
  | o => decide (kindM o < 2)
def isX : Xp → Bool
  | .x _ => true
  | _ => false
/-- Those that the operation reads anyway, under the same guard. -/
def cvd (S : List Pe) (G : Option (Nat × Bool)) (o : MOp) (p : Pe) : Bool :=
  match o with
  | .pick c a b => (p.gd == G && (sx c).contains p.d) || (match c with
    | .t j => (match look1 S j with
      | some q => q.gd == G
      | none => false) && ((p.gd == some (j, true) && (sx a).contains p.d) || (p.gd == some (j, false) && (sx b).contains p.d))
    | .c _ => false)
  | o => p.gd == G && (slotsOf o).contains p.d
def men (d : Option Nat) (e : Xp) : Bool :=
  match d with
  | some d => (slotsX e).contains d
  | none => false
def mentions (d : Option Nat) (hp : Bool) (p : Pe) : Bool := (men d p.e || (hp && heapX p.e)) || p.g.any fun x => men d x.1 || (hp && heapX x.1)
def needsOf (S : List Pe) : List St1 := (S.filter fun p => p.cv.isNone && !p.sure && !isX p.e).map fun p => .need p.g p.e
/-- What stays behind a statement that turns a place (and objects). -/
def kill (d : Option Nat) (hp : Bool) (S : List Pe) : List Pe :=
  let dead := (S.filter (mentions d hp)).map (·.d)
  (S.filter fun p => !mentions d hp p).map fun p => match p.cv with
    | some k => if dead.contains k then { p with cv := none } else p
    | none => p
def tr1 (D : List Nat) (S : List Pe) (o : MOper) : Option (List St1 × List Pe) :=
  let pend := match o.d with
    | some d => D.contains d
    | none => false
  if isPure o.op = true then
    match o.d, pend with
    | some d, true => if (S.any fun p => p.d == d) then none else bnd (gdOf D S o.g) fun g => bnd (mkX D S o.g o.op) fun e =>
        some ([.tick 1], ⟨d, o.g, g, e, none, false⟩ :: S.map fun p => if p.cv.isNone && cvd S o.g o.op p then { p with cv := some d } else p)
    | some d, false => match o.g with
      | none => bnd (mkX D S none o.op) fun e => some (needsOf ((S.filter (mentions (some d) false)).filter fun p => !cvd S none o.op p) ++ [.set d e, .tick 1], kill (some d) false (S.map fun p => if cvd S none o.op p then { p with sure := true } else p))
      | some _ => match o.op with
        | .pick _ _ _ => none
        | op => bnd (gdOf D S o.g) fun g => bnd (rdL D S o.g (slotsOf op)) fun l =>
          some (needsOf (S.filter fun p => !cvd S o.g op p) ++ [.act o.d g op l], (kill o.d true S).map fun p => { p with sure := true })
    | none, _ => none
  else if pend then none else
    bnd (gdOf D S o.g) fun g => bnd (rdL D S o.g (slotsOf o.op)) fun l =>
      some (needsOf (S.filter fun p => !cvd S o.g o.op p) ++ [.act o.d g o.op l], (kill o.d true S).map fun p => { p with sure := true })
def trL (D : List Nat) : List Pe → List MOper → Option (List St1 × List Pe)
  | S, [] => some ([], S)
  | S, o :: r => bnd (tr1 D S o) fun x => bnd (trL D x.2 r) fun y => some (x.1 ++ y.1, y.2)
/-- Steps told together. -/
def ticks : Nat → List St1 → List St1
  | 0, [] => []
  | n + 1, [] => [.tick (n + 1)]
  | n, .tick m :: r => ticks (n + m) r
  | 0, s :: r => s :: ticks 0 r
  | n + 1, .set d e :: r => .set d e :: ticks (n + 1) r
  | n + 1, .need g e :: r => .need g e :: ticks (n + 1) r
  | n + 1, s :: r => .tick (n + 1) :: s :: ticks 0 r
def withNeeds (S : List Pe) (c : SC) : SC :=
  match needsOf S with
  | [] => c
  | l => .seq (.reg l false) c
def endNeeds (S : List Pe) (c : SC) : SC :=
  match needsOf S with
  | [] => c
  | l => .seq c (.reg l false)
def chkSl (chk : List (Nat × Nat × List MX × Nat × Nat × List MX)) : List Nat := chk.flatMap fun c => c.2.2.1.flatMap sx ++ c.2.2.2.2.2.flatMap sx
def tr (D : List Nat) : List Pe → MC → Option (SC × List Pe)
  | S, .skip => some (.skip, S)
  | S, .reg ops draw => bnd (trL D S ops) fun x => some (.reg (ticks 0 x.1) draw, x.2)
  | S, .regD ops chk pre => if (chkSl chk).all (fun x => !D.contains x) = true ∧ pre.all (fun x => !D.contains x) = true ∧ S.isEmpty = true then bnd (trL D [] ops) fun x => some (.regD (ticks 0 x.1) chk pre, x.2) else none
  | _, .orig ops => if D.isEmpty = true then some (.orig ops, []) else none
  | S, .seq a b => bnd (tr D S a) fun x => bnd (tr D x.2 b) fun y => some (.seq x.1 y.1, y.2)
  | S, .cond x a b => bnd (rdX D S none x) fun e => bnd (tr D [] a) fun p => bnd (tr D [] b) fun q =>
      some (withNeeds (S.filter fun p => !(p.gd == none && (sx x).contains p.d)) (.cond e (endNeeds p.2 p.1) (endNeeds q.2 q.1)), [])
  | S, .block id c => bnd (tr D S c) fun x => some (.block id (endNeeds x.2 x.1), [])
  | S, .loop c => bnd (tr D [] c) fun x => some (withNeeds S (.loop (endNeeds x.2 x.1)), [])
  | S, .exit id => some (withNeeds S (.exit id), [])
  | S, .ret => some (withNeeds S .ret, [])

/-! ### which places are short-lived: a guess, made once -/
def defsR (ops : List MOper) : List Nat := ops.filterMap (·.d)
def readsO (o : MOper) : List Nat := slotsOf o.op ++ match o.g with
  | some (g, _) => [g]
  | none => []
def readsC : MC → List Nat
  | .reg ops _ => ops.flatMap readsO
  | .regD ops _ _ => ops.flatMap readsO
  | .seq a b => readsC a ++ readsC b
  | .cond x a b => sx x ++ readsC a ++ readsC b
  | .block _ c => readsC c
  | .loop c => readsC c
  | _ => []
def defsC : MC → List Nat
  | .reg ops _ => defsR ops
  | .regD ops _ _ => defsR ops
  | .seq a b => defsC a ++ defsC b
  | .cond _ a b => defsC a ++ defsC b
  | .block _ c => defsC c
  | .loop c => defsC c
  | _ => []
def firstC : MC → List Nat
  | .cond x _ _ => sx x
  | .seq a _ => firstC a
  | .block _ c => firstC c
  | _ => []
/-- Pure operations' places, read in their own region or by the choice that follows alone. -/
def cands (reads defs : List Nat) (ops : List MOper) (nxt : List Nat) : List Nat :=
  let rs := ops.flatMap readsO ++ nxt
  ops.filterMap fun o => match o.d with
    | some d => if isPure o.op = true ∧ defs.count d = 1 ∧ reads.count d = rs.count d then some d else none
    | none => none
def guessD (reads defs : List Nat) : List Nat → MC → List Nat
  | n, .reg ops _ => cands reads defs ops n
  | n, .regD ops chk _ => (cands reads defs ops n).filter fun x => !(chkSl chk).contains x
  | n, .seq a b => guessD reads defs (firstC b) a ++ guessD reads defs n b
  | _, .cond _ a b => guessD reads defs [] a ++ guessD reads defs [] b
  | _, .block _ c => guessD reads defs [] c
  | _, .loop c => guessD reads defs [] c
  | _, _ => []
def guess (m : MF) : List Nat := guessD (readsC m.c ++ m.rs.map fun r => match r with | .t i => i | .cell _ _ i => i) (defsC m.c) [] m.c
structure SF where
  nt : Nat
  rs : List MR
  c : SC
def slotR : MR → Nat
  | .t i => i
  | .cell _ _ i => i
def trF (D : List Nat) (m : MF) : Option SF := if m.rs.all (fun r => !D.contains (slotR r)) = true then bnd (tr D [] m.c) fun x => some ⟨m.nt, m.rs, endNeeds x.2 x.1⟩ else none
def sF (E : Env) (f : FuncId) (D : List Nat) : Option SF := bnd (cF E f) (trF D)
end Go.Vm
end
section
set_option linter.unusedVariables false
set_option linter.unusedSimpArgs false
namespace Go.Vm

theorem valX_congr {T T2 : Nat → PV} {x : MX} (h : ∀ i ∈ sx x, T2 i = T i) : valX T2 x = valX T x := by
  cases x with
  | t i => exact h i (by simp [sx])
  | c p => rfl
theorem valM_congr {T T2 : Nat → PV} {x : Option MX} (h : ∀ i ∈ so x, T2 i = T i) : valM T2 x = valM T x := by
  cases x with
  | none => rfl
  | some x => simp only [valM]; rw [valX_congr h]
theorem map_congr' {α β : Type} {l : List α} {f g : α → β} (h : ∀ x ∈ l, f x = g x) : l.map f = l.map g := List.map_congr_left h
theorem mapX_congr {T T2 : Nat → PV} {l : List MX} (h : ∀ i ∈ l.flatMap sx, T2 i = T i) : l.map (valX T2) = l.map (valX T) :=
  map_congr' fun x hx => valX_congr fun i hi => h i (List.mem_flatMap.2 ⟨x, hx, hi⟩)
theorem mstep_congr {o : MOp} {dr : Bool} {T T2 : Nat → PV} {H : Ob} {nid : Nat} (h : ∀ i ∈ slotsOf o, T2 i = T i) : mstep o dr T2 H nid = mstep o dr T H nid := by
  cases o with
  | build z ps =>
    simp only [mstep]
    rw [map_congr' (f := fun x : Nat × Nat × MX => (x.1, x.2.1, valX T2 x.2.2)) (g := fun x => (x.1, x.2.1, valX T x.2.2)) (fun x hx => by
      rw [valX_congr fun i hi => h i (by simp only [slotsOf]; exact List.mem_flatMap.2 ⟨x, hx, hi⟩)])]
  | rows size z n ps =>
    simp only [mstep]
    have e : ∀ x ∈ ps, valX T2 x.2 = valX T x.2 := fun x hx => valX_congr fun i hi => h i (by simp only [slotsOf]; exact List.mem_flatMap.2 ⟨x, hx, hi⟩)
    rw [map_congr' (f := fun x : Nat × MX => (x.1, valX T2 x.2)) (g := fun x => (x.1, valX T x.2)) (fun x hx => by rw [e x hx])]
    have e2 : (ps.all fun x => decide (idb (valX T2 x.2) = 0)) = (ps.all fun x => decide (idb (valX T x.2) = 0)) := by
      have h1 : ∀ l : List (Nat × MX), (∀ x ∈ l, x ∈ ps) → (l.all fun x => decide (idb (valX T2 x.2) = 0)) = (l.all fun x => decide (idb (valX T x.2) = 0)) := by
        intro l hl
        induction l with
        | nil => rfl
        | cons x r ih =>
          simp only [List.all_cons]
          rw [e x (hl x (List.mem_cons_self ..)), ih (fun y hy => hl y (List.mem_cons_of_mem _ hy))]
      exact h1 ps (fun x hx => hx)
    rw [e2]
  | mkf f a b =>
    simp only [mstep]
    rw [mapX_congr (fun i hi => h i (by simp only [slotsOf, List.mem_append]; exact .inl hi)), mapX_congr (fun i hi => h i (by simp only [slotsOf, List.mem_append]; exact .inr hi))]
  | mx b x r =>
    simp only [mstep]
    rw [valX_congr (fun i hi => h i (by simp only [slotsOf, List.mem_append]; exact .inl hi)), mapX_congr (fun i hi => h i (by simp only [slotsOf, List.mem_append]; exact .inr hi))]
  | sl k x l hh =>
    simp only [mstep]
    rw [valX_congr (fun i hi => h i (by simp only [slotsOf, List.mem_append]; exact .inl (.inl hi))), valM_congr (fun i hi => h i (by simp only [slotsOf, List.mem_append]; exact .inl (.inr hi))),
      valM_congr (fun i hi => h i (by simp only [slotsOf, List.mem_append]; exact .inr hi))]
  | pick c a b =>
    simp only [mstep]
    rw [valX_congr (fun i hi => h i (by simp only [slotsOf, List.mem_append]; exact .inl (.inl hi))), valX_congr (fun i hi => h i (by simp only [slotsOf, List.mem_append]; exact .inl (.inr hi))),
      valX_congr (fun i hi => h i (by simp only [slotsOf, List.mem_append]; exact .inr hi))]
  | mupd kt m k x =>
    simp only [mstep]
    rw [valX_congr (fun i hi => h i (by simp only [slotsOf, List.mem_append]; exact .inl (.inl hi))), valX_congr (fun i hi => h i (by simp only [slotsOf, List.mem_append]; exact .inl (.inr hi))),
      valX_congr (fun i hi => h i (by simp only [slotsOf, List.mem_append]; exact .inr hi))]
  | store size a x =>
    simp only [mstep]
    rw [valX_congr (fun i hi => h i (by simp only [slotsOf, List.mem_append]; exact .inl hi)), valX_congr (fun i hi => h i (by simp only [slotsOf, List.mem_append]; exact .inr hi))]
  | bin op k x y =>
    simp only [mstep]
    rw [valX_congr (fun i hi => h i (by simp only [slotsOf, List.mem_append]; exact .inl hi)), valX_congr (fun i hi => h i (by simp only [slotsOf, List.mem_append]; exact .inr hi))]
  | mks e s z x y =>
    simp only [mstep]
    rw [valX_congr (fun i hi => h i (by simp only [slotsOf, List.mem_append]; exact .inl hi)), valX_congr (fun i hi => h i (by simp only [slotsOf, List.mem_append]; exact .inr hi))]
  | ia k x y =>
    simp only [mstep]
    rw [valX_congr (fun i hi => h i (by simp only [slotsOf, List.mem_append]; exact .inl hi)), valX_congr (fun i hi => h i (by simp only [slotsOf, List.mem_append]; exact .inr hi))]
  | iv k x y =>
    simp only [mstep]
    rw [valX_congr (fun i hi => h i (by simp only [slotsOf, List.mem_append]; exact .inl hi)), valX_congr (fun i hi => h i (by simp only [slotsOf, List.mem_append]; exact .inr hi))]
  | look kt z ok x y =>
    simp only [mstep]
    rw [valX_congr (fun i hi => h i (by simp only [slotsOf, List.mem_append]; exact .inl hi)), valX_congr (fun i hi => h i (by simp only [slotsOf, List.mem_append]; exact .inr hi))]
  | app e s x y =>
    simp only [mstep]
    rw [valX_congr (fun i hi => h i (by simp only [slotsOf, List.mem_append]; exact .inl hi)), valX_congr (fun i hi => h i (by simp only [slotsOf, List.mem_append]; exact .inr hi))]
  | alloc t z => rfl
  | mkm => rfl
  | call f a => rfl
  | callv f a => rfl
  | panic x => rfl
  | _ => simp only [mstep]; rw [valX_congr (fun i hi => h i (by simpa only [slotsOf] using hi))]

theorem convM_str_pure {b : Bool} {H : Ob} {nid nid2 : Nat} {p : PV} {r : PV × Ob} (h : convM (.str b) H nid p = some r) : r.2 = H ∧ convM (.str b) H nid2 p = some r := by
  cases p with
  | s v =>
    cases v with
    | str l =>
      simp only [convM] at h ⊢
      exact ⟨by injection h with h; subst h; rfl, h⟩
    | nils =>
      cases b with
      | false => simp [convM] at h
      | true =>
        simp only [convM] at h ⊢
        exact ⟨by injection h with h; subst h; rfl, h⟩
    | slice es f =>
      cases b with
      | false => simp [convM] at h
      | true =>
        simp only [convM] at h ⊢
        refine ⟨?_, h⟩
        split at h
        · injection h with h; subst h; rfl
        · cases h
    | _ => cases b <;> simp [convM] at h
  | hsl id ver off n =>
    cases b with
    | false => simp [convM] at h
    | true =>
      simp only [convM] at h ⊢
      refine ⟨?_, h⟩
      split at h
      · split at h
        · injection h with h; subst h; rfl
        · cases h
      · cases h
  | _ => cases b <;> simp [convM] at h
theorem pureR_shape {H : Ob} {o : Option PV} : pureR H o = bnd o fun v => some (v, H) := rfl
/-- A pure operation: a value alone, whatever number a new object would have. -/
theorem mstep_pure {o : MOp} {dr dr2 : Bool} {T : Nat → PV} {H : Ob} {nid nid2 : Nat} {r : PV × Ob} (hk : kindM o < 2) (h : mstep o dr T H nid = some r) : r.2 = H ∧ mstep o dr2 T H nid2 = some r := by
  have kp : ∀ {v : Option PV}, pureR H v = some r → r.2 = H := fun e => by obtain ⟨p, H'⟩ := r; exact (pureR_some e).2
  cases o with
  | build z ps =>
    simp only [mstep] at h ⊢
    refine ⟨?_, h⟩
    obtain ⟨c, _, h2⟩ := bnd_eq_some.1 h
    injection h2 with h2
    rw [← h2]
  | ifc t x =>
    simp only [mstep] at h ⊢
    refine ⟨?_, h⟩
    injection h with h
    rw [← h]
  | mkf f a b =>
    simp only [mstep] at h ⊢
    refine ⟨?_, h⟩
    injection h with h
    rw [← h]
  | conv k x =>
    cases k with
    | bytes e => simp [kindM] at hk
    | int k =>
      simp only [mstep] at h ⊢
      have : ∀ p, convM (.int k) H nid p = some r → r.2 = H ∧ convM (.int k) H nid2 p = some r := by
        intro p hp
        unfold convM at hp ⊢
        split at hp <;> first
          | (rename_i hkk; cases hkk; done)
          | (injection hp with hp; subst hp; exact ⟨rfl, rfl⟩)
          | (cases hp; done)
      exact this _ h
    | str b => exact convM_str_pure h
  | load agg size a => exact ⟨kp h, h⟩
  | chk x => exact ⟨kp h, h⟩
  | bin op k x y => exact ⟨kp h, h⟩
  | un op x => exact ⟨kp h, h⟩
  | sl k x l hh => exact ⟨kp h, h⟩
  | fa o x => exact ⟨kp h, h⟩
  | fv o agg size x => exact ⟨kp h, h⟩
  | ia k x i => exact ⟨kp h, h⟩
  | iv k x i => exact ⟨kp h, h⟩
  | look kt z ok m k => exact ⟨kp h, h⟩
  | ta t ok x => exact ⟨kp h, h⟩
  | ext x i => exact ⟨kp h, h⟩
  | len k x => exact ⟨kp h, h⟩
  | mx b x r => exact ⟨kp h, h⟩
  | _ => simp [kindM] at hk
/-- One that looks at no object. -/
theorem mstep_zero {o : MOp} {T : Nat → PV} {H H2 : Ob} (hk : kindM o = 0) : (bnd (mstep o false T H2 0) fun r => some r.1) = bnd (mstep o false T H 0) fun r => some r.1 := by
  have kp : ∀ {v : Option PV}, (bnd (pureR H2 v) fun r => some r.1) = bnd (pureR H v) fun r => some r.1 := fun {v} => by cases v <;> rfl
  cases o with
  | build z ps =>
    simp only [mstep]
    cases buildM (z.map .s) (ps.map fun x => (x.1, x.2.1, valX T x.2.2)) <;> rfl
  | ifc t x => rfl
  | mkf f a b => rfl
  | conv k x =>
    cases k with
    | int k =>
      simp only [mstep]
      have : ∀ p : PV, (bnd (convM (.int k) H2 0 p) fun r => some r.1) = bnd (convM (.int k) H 0 p) fun r => some r.1 := by
        intro p
        cases p with
        | s v => cases v <;> rfl
        | _ => rfl
      exact this _
    | _ => simp [kindM] at hk
  | chk x => exact kp
  | bin op k x y => exact kp
  | un op x => exact kp
  | fv o agg size x => exact kp
  | iv k x i => exact kp
  | ta t ok x => exact kp
  | ext x i => exact kp
  | mx b x r => exact kp
  | _ => simp [kindM] at hk
end Go.Vm
end
section
set_option linter.unusedVariables false
set_option linter.unusedSimpArgs false
namespace Go.Vm

theorem over_in {T T2 : Nat → PV} {i : Nat} : ∀ {l : List (Nat × PV)}, i ∈ l.map (·.1) → over T2 l i = over T l i
  | [], h => by cases h
  | (j, v) :: r, h => by
    simp only [over, upd]
    split
    · rfl
    · rename_i hne
      rcases List.mem_cons.1 h with e | h
      · exact absurd e hne
      · exact over_in h
theorem over_out {T : Nat → PV} {i : Nat} : ∀ {l : List (Nat × PV)}, i ∉ l.map (·.1) → over T l i = T i
  | [], h => rfl
  | (j, v) :: r, h => by
    simp only [over, upd]
    rw [if_neg (fun e : i = j => h (by rw [e]; exact List.mem_cons_self ..))]
    exact over_out (fun hm => h (List.mem_cons_of_mem _ hm))
theorem evS_keys {T : Nat → PV} {H : Ob} : ∀ {l : List (Nat × Xp)} {q : List (Nat × PV)}, evS T H l = some q → q.map (·.1) = l.map (·.1)
  | [], q, h => by simp only [evS] at h; injection h with h; subst h; rfl
  | (i, e) :: r, q, h => by
    simp only [evS] at h
    obtain ⟨v, h1, h⟩ := bnd_eq_some.1 h
    obtain ⟨w, h2, h⟩ := bnd_eq_some.1 h
    injection h with h
    subst h
    simp only [List.map_cons, evS_keys h2]
mutual
/-- An expression looks at its places, and at objects only where it says so. -/
theorem evX_congr {T T2 : Nat → PV} {H H2 : Ob} : ∀ {e : Xp}, (∀ i ∈ slotsX e, T2 i = T i) → (heapX e = true → H2 = H) → evX T2 H2 e = evX T H e
  | .x m, hs, hh => by
    simp only [evX]
    rw [valX_congr (fun i hi => hs i (by simpa only [slotsX] using hi))]
  | .pick c a b, hs, hh => by
    simp only [slotsX, List.mem_append] at hs
    simp only [heapX, Bool.or_eq_true] at hh
    simp only [evX]
    rw [evX_congr (e := c) (fun i hi => hs i (.inl (.inl hi))) (fun h => hh (.inl (.inl h))), evX_congr (e := a) (fun i hi => hs i (.inl (.inr hi))) (fun h => hh (.inl (.inr h))), evX_congr (e := b) (fun i hi => hs i (.inr hi)) (fun h => hh (.inr h))]
  | .op o l, hs, hh => by
    simp only [slotsX, List.mem_append, List.mem_filter] at hs
    simp only [heapX, Bool.or_eq_true, Bool.not_eq_true', beq_eq_false_iff_ne] at hh
    simp only [evX]
    rw [evS_congr (l := l) (fun i hi => hs i (.inr hi)) (fun h => hh (.inr h))]
    cases hq : evS T H l with
    | none => rfl
    | some q =>
      simp only [bnd_some]
      have ho : ∀ i ∈ slotsOf o, over T2 q i = over T q i := by
        intro i hi
        by_cases hm : i ∈ q.map (·.1)
        · exact over_in hm
        · rw [over_out hm, over_out hm]
          refine hs i (.inl ⟨hi, ?_⟩)
          rw [evS_keys hq] at hm
          simp only [Bool.not_eq_true', List.any_eq_false, beq_iff_eq]
          intro p hp e
          exact hm (List.mem_map.2 ⟨p, hp, e⟩)
      rw [mstep_congr ho]
      by_cases hk : kindM o = 0
      · exact mstep_zero hk
      · rw [hh (.inl hk)]
theorem evS_congr {T T2 : Nat → PV} {H H2 : Ob} : ∀ {l : List (Nat × Xp)}, (∀ i ∈ slotsS l, T2 i = T i) → (heapS l = true → H2 = H) → evS T2 H2 l = evS T H l
  | [], hs, hh => rfl
  | (i, e) :: r, hs, hh => by
    simp only [slotsS, List.mem_append] at hs
    simp only [heapS, Bool.or_eq_true] at hh
    simp only [evS]
    rw [evX_congr (e := e) (fun i hi => hs i (.inl hi)) (fun h => hh (.inl h)), evS_congr (l := r) (fun i hi => hs i (.inr hi)) (fun h => hh (.inr h))]
end
def Holds (T : Nat → PV) (H : Ob) (g : List (Xp × Bool)) : Prop := ∀ x ∈ g, evX T H x.1 = some (.s (.bool x.2))
theorem evG_holds {T : Nat → PV} {H : Ob} : ∀ {g : List (Xp × Bool)} {b : Bool}, evG T H g = some b → (b = true ↔ Holds T H g)
  | [], b, h => by
    simp only [evG] at h
    injection h with h
    subst h
    exact ⟨fun _ x hx => (by cases hx), fun _ => rfl⟩
  | (e, w) :: r, b, h => by
    simp only [evG] at h
    obtain ⟨v, h1, h⟩ := bnd_eq_some.1 h
    split at h
    · rename_i t
      split at h
      · rename_i hbw
        have hw : t = w := by simpa using hbw
        have ih := evG_holds h
        rw [ih]
        constructor
        · intro hr x hx
          rcases List.mem_cons.1 hx with e1 | hx
          · subst e1; rw [← hw]; exact h1
          · exact hr x hx
        · intro ha x hx
          exact ha x (List.mem_cons_of_mem _ hx)
      · rename_i hbw
        injection h with h
        subst h
        constructor
        · intro hf; cases hf
        · intro ha
          have := ha (e, w) (List.mem_cons_self ..)
          simp only at this
          rw [h1] at this
          injection this with this
          injection this with this
          injection this with this
          exact absurd (by simp [this]) hbw
    · rename_i hne
      injection h with h
      subst h
      constructor
      · intro hf; cases hf
      · intro ha
        have := ha (e, w) (List.mem_cons_self ..)
        simp only at this
        rw [h1] at this
        injection this with this
        exact absurd this (fun e => hne _ e)
theorem evG_true {T : Nat → PV} {H : Ob} : ∀ {g : List (Xp × Bool)}, Holds T H g → evG T H g = some true
  | [], h => rfl
  | (e, w) :: r, h => by
    simp only [evG, h (e, w) (List.mem_cons_self ..), bnd_some, beq_self_eq_true, if_true]
    exact evG_true (fun x hx => h x (List.mem_cons_of_mem _ hx))
/-- What a statement that turns a place leaves as it was. -/
theorem evX_keep {T : Nat → PV} {H H2 : Ob} {d : Option Nat} {v : PV} {hp : Bool} {e : Xp} (hd : ∀ x, d = some x → (slotsX e).contains x = false) (hh : hp = true → heapX e = false) (hH : hp = false → H2 = H) : evX (putT T d v) H2 e = evX T H e := by
  refine evX_congr (fun i hi => ?_) (fun h => ?_)
  · cases d with
    | none => rfl
    | some x =>
      simp only [putT, upd]
      rw [if_neg]
      intro e1
      subst e1
      have := hd i rfl
      simp [hi] at this
  · cases hp with
    | true => rw [hh rfl] at h; cases h
    | false => exact hH rfl
end Go.Vm
end
section
set_option linter.unusedVariables false
set_option linter.unusedSimpArgs false
namespace Go.Vm

def Ok (T : Nat → PV) (H : Ob) (p : Pe) : Prop := Holds T H p.g → ∃ v, evX T H p.e = some v
def Imp (q p : Pe) : Prop := ∀ T H, Holds T H p.g → Holds T H q.g ∧ ((∃ v, evX T H q.e = some v) → ∃ v, evX T H p.e = some v)
/-- Each covered one is covered by one ahead of it. -/
def Cv : List Pe → List Pe → Prop
  | _, [] => True
  | F, p :: S => (∀ k, p.cv = some k → ∃ q ∈ F, q.d = k ∧ Imp q p) ∧ Cv (p :: F) S
structure Inv (D : List Nat) (S : List Pe) : Prop where
  mem : ∀ p ∈ S, D.contains p.d = true
  uniq : ∀ p ∈ S, look1 S p.d = some p
  gd : ∀ p ∈ S, gdOf D S p.gd = some p.g
  cv : Cv [] S
structure Sim (D : List Nat) (S : List Pe) (T T' : Nat → PV) (H : Ob) : Prop where
  out : ∀ i, D.contains i = false → T' i = T i
  ent : ∀ p ∈ S, (Holds T H p.g → ∀ v, evX T H p.e = some v → T' p.d = v) ∧ (¬ Holds T H p.g → T' p.d = .undef)
def Su (S : List Pe) (T : Nat → PV) (H : Ob) : Prop := ∀ p ∈ S, p.sure = true → Ok T H p
/-- Like one another, but for what is noted of them. -/
def Lk (f : Pe → Pe) : Prop := ∀ p, (f p).d = p.d ∧ (f p).gd = p.gd ∧ (f p).g = p.g ∧ (f p).e = p.e

theorem Cv.ok {T : Nat → PV} {H : Ob} : ∀ {F S : List Pe}, Cv F S → (∀ q ∈ F, Ok T H q) → (∀ p ∈ S, p.cv = none → Ok T H p) → ∀ p ∈ S, Ok T H p
  | F, [], hc, hF, hS, p, hp => by cases hp
  | F, p :: S, hc, hF, hS, r, hr => by
    have h0 : Ok T H p := by
      cases hcv : p.cv with
      | none => exact hS p (List.mem_cons_self ..) hcv
      | some k =>
        obtain ⟨q, hq, _, himp⟩ := hc.1 k hcv
        intro hh
        obtain ⟨h1, h2⟩ := himp T H hh
        exact h2 (hF q hq h1)
    rcases List.mem_cons.1 hr with e | hr
    · rw [e]; exact h0
    · exact Cv.ok hc.2 (fun q hq => by
        rcases List.mem_cons.1 hq with e | hq
        · rw [e]; exact h0
        · exact hF q hq) (fun p hp => hS p (List.mem_cons_of_mem _ hp)) r hr
theorem look1_mem {S : List Pe} {i : Nat} {p : Pe} (h : look1 S i = some p) : p ∈ S ∧ p.d = i := by
  unfold look1 at h
  exact ⟨List.mem_of_find?_eq_some h, by simpa using List.find?_some h⟩
theorem look1_map {f : Pe → Pe} (hf : Lk f) {i : Nat} : ∀ {S : List Pe}, look1 (S.map f) i = (look1 S i).map f
  | [] => rfl
  | p :: S => by
    have ih := look1_map hf (i := i) (S := S)
    unfold look1 at ih ⊢
    simp only [List.map_cons, List.find?_cons, (hf p).1]
    cases h : (p.d == i) with
    | true => rfl
    | false => exact ih
theorem gdOf_map {D : List Nat} {f : Pe → Pe} (hf : Lk f) {S : List Pe} {G : Option (Nat × Bool)} : gdOf D (S.map f) G = gdOf D S G := by
  cases G with
  | none => rfl
  | some gw =>
    obtain ⟨g, w⟩ := gw
    simp only [gdOf]
    rw [look1_map hf]
    cases look1 S g with
    | none => rfl
    | some p => simp only [Option.map_some, (hf p).2.2.1, (hf p).2.2.2]
theorem Holds.append {T : Nat → PV} {H : Ob} {a b : List (Xp × Bool)} : Holds T H (a ++ b) ↔ Holds T H a ∧ Holds T H b := by
  unfold Holds
  constructor
  · intro h
    exact ⟨fun x hx => h x (List.mem_append_left _ hx), fun x hx => h x (List.mem_append_right _ hx)⟩
  · intro h x hx
    rcases List.mem_append.1 hx with hx | hx
    · exact h.1 x hx
    · exact h.2 x hx
theorem Holds.one {T : Nat → PV} {H : Ob} {e : Xp} {w : Bool} : Holds T H [(e, w)] ↔ evX T H e = some (.s (.bool w)) := by
  unfold Holds
  constructor
  · intro h; exact h (e, w) (List.mem_cons_self ..)
  · intro h x hx
    rcases List.mem_cons.1 hx with e1 | hx
    · subst e1; exact h
    · cases hx
theorem Holds.nil {T : Nat → PV} {H : Ob} : Holds T H [] := fun x hx => by cases hx
def Same (p q : Pe) : Prop := p.d = q.d ∧ p.gd = q.gd ∧ p.g = q.g ∧ p.e = q.e
theorem Imp.same {q q' p p' : Pe} (hq : Same q' q) (hp : Same p' p) (h : Imp q p) : Imp q' p' := by
  intro T H hh
  rw [hp.2.2.1] at hh
  obtain ⟨h1, h2⟩ := h T H hh
  rw [hq.2.2.1, hq.2.2.2, hp.2.2.2]
  exact ⟨h1, h2⟩
theorem Cv.front {S : List Pe} : ∀ {F F' : List Pe}, Cv F S → (∀ q ∈ F, ∃ q' ∈ F', Same q' q) → Cv F' S := by
  induction S with
  | nil => intro F F' _ _; trivial
  | cons p S ih =>
    intro F F' hc hF
    refine ⟨fun k hk => ?_, ih hc.2 (fun q hq => ?_)⟩
    · obtain ⟨q, hq, e, himp⟩ := hc.1 k hk
      obtain ⟨q', hq', hs⟩ := hF q hq
      exact ⟨q', hq', hs.1.trans e, himp.same hs ⟨rfl, rfl, rfl, rfl⟩⟩
    · rcases List.mem_cons.1 hq with e | hq
      · exact ⟨p, List.mem_cons_self .., by rw [e]; exact ⟨rfl, rfl, rfl, rfl⟩⟩
      · obtain ⟨q', hq', hs⟩ := hF q hq
        exact ⟨q', List.mem_cons_of_mem _ hq', hs⟩
/-- What is noted may be turned, where each that is covered stays so. -/
theorem Cv.mapf {f : Pe → Pe} (hf : Lk f) {S : List Pe} : ∀ {F F' : List Pe}, Cv F S → (∀ q ∈ F, ∃ q' ∈ F', Same q' q) → (∀ p ∈ S, ∀ k, (f p).cv = some k → p.cv = some k ∨ ∃ q ∈ F', q.d = k ∧ Imp q p) → Cv F' (S.map f) := by
  induction S with
  | nil => intro F F' _ _ _; trivial
  | cons p S ih =>
    intro F F' hc hF hk
    have hs : Same (f p) p := hf p
    refine ⟨fun k hkk => ?_, ih hc.2 (fun q hq => ?_) (fun r hr k hkk => ?_)⟩
    · rcases hk p (List.mem_cons_self ..) k hkk with h1 | ⟨q, hq, e, himp⟩
      · obtain ⟨q, hq, e, himp⟩ := hc.1 k h1
        obtain ⟨q', hq', hs'⟩ := hF q hq
        exact ⟨q', hq', hs'.1.trans e, himp.same hs' hs⟩
      · exact ⟨q, hq, e, himp.same ⟨rfl, rfl, rfl, rfl⟩ hs⟩
    · rcases List.mem_cons.1 hq with e | hq
      · exact ⟨f p, List.mem_cons_self .., by rw [e]; exact hs⟩
      · obtain ⟨q', hq', hs'⟩ := hF q hq
        exact ⟨q', List.mem_cons_of_mem _ hq', hs'⟩
    · rcases hk r (List.mem_cons_of_mem _ hr) k hkk with h1 | ⟨q, hq, e, himp⟩
      · exact .inl h1
      · exact .inr ⟨q, List.mem_cons_of_mem _ hq, e, himp⟩
theorem Inv.map {D : List Nat} {S : List Pe} {f : Pe → Pe} (hf : Lk f) (h : Inv D S) (hcv : ∀ p ∈ S, ∀ k, (f p).cv = some k → p.cv = some k) : Inv D (S.map f) where
  mem := fun p hp => by
    obtain ⟨q, hq, e⟩ := List.mem_map.1 hp
    rw [← e, (hf q).1]
    exact h.mem q hq
  uniq := fun p hp => by
    obtain ⟨q, hq, e⟩ := List.mem_map.1 hp
    rw [look1_map hf, ← e, (hf q).1, h.uniq q hq]
    rfl
  gd := fun p hp => by
    obtain ⟨q, hq, e⟩ := List.mem_map.1 hp
    rw [gdOf_map hf, ← e, (hf q).2.1, (hf q).2.2.1]
    exact h.gd q hq
  cv := h.cv.mapf hf (fun q hq => by cases hq) (fun p hp k hk => .inl (hcv p hp k hk))

/-! ### those that a statement turns -/
theorem mentions_guard {d : Option Nat} {hp : Bool} {p q : Pe} {w : Bool} (h : mentions d hp p = false) (hg : p.g = q.g ++ [(q.e, w)]) : mentions d hp q = false := by
  unfold mentions at h ⊢
  simp only [hg, List.any_append, List.any_cons, List.any_nil, Bool.or_false, Bool.or_eq_false_iff] at h ⊢
  exact ⟨h.2.2, h.2.1⟩
theorem look1_filter {S : List Pe} {P : Pe → Bool} {p : Pe} (hu : look1 S p.d = some p) (hP : P p = true) : look1 (S.filter P) p.d = some p := by
  induction S with
  | nil => simp [look1] at hu
  | cons q S ih =>
    unfold look1 at hu ih ⊢
    simp only [List.find?_cons] at hu
    cases hq : (q.d == p.d) with
    | true =>
      rw [hq] at hu
      injection hu with hu
      subst hu
      simp only [List.filter_cons, hP, if_true, List.find?_cons, hq]
    | false =>
      rw [hq] at hu
      simp only [List.filter_cons]
      split
      · simp only [List.find?_cons, hq]
        exact ih hu
      · exact ih hu
def deadf (dead : List Nat) (p : Pe) : Pe := match p.cv with
  | some k => if dead.contains k then { p with cv := none } else p
  | none => p
theorem deadf_lk (dead : List Nat) : Lk (deadf dead) := by
  intro p
  unfold deadf
  split
  · split <;> exact ⟨rfl, rfl, rfl, rfl⟩
  · exact ⟨rfl, rfl, rfl, rfl⟩
theorem kill_eq (d : Option Nat) (hp : Bool) (S : List Pe) : kill d hp S = (S.filter fun p => !mentions d hp p).map (deadf ((S.filter (mentions d hp)).map (·.d))) := rfl
theorem Cv.kill {d : Option Nat} {hp : Bool} {dead : List Nat} {S : List Pe} : ∀ {F F' : List Pe}, Cv F S → (∀ q ∈ F, mentions d hp q = false → ∃ q' ∈ F', Same q' q) → (∀ q, q ∈ F ∨ q ∈ S → mentions d hp q = true → dead.contains q.d = true) →
    Cv F' ((S.filter fun p => !mentions d hp p).map (deadf dead)) := by
  induction S with
  | nil => intro F F' _ _ _; trivial
  | cons p S ih =>
    intro F F' hc hF hd
    have hd' : ∀ q, q ∈ p :: F ∨ q ∈ S → mentions d hp q = true → dead.contains q.d = true := fun q hq => hd q (by
      rcases hq with hq | hq
      · rcases List.mem_cons.1 hq with e | hq
        · exact .inr (by rw [e]; exact List.mem_cons_self ..)
        · exact .inl hq
      · exact .inr (List.mem_cons_of_mem _ hq))
    cases hm : mentions d hp p with
    | true =>
      simp only [List.filter_cons, hm, Bool.not_true, Bool.false_eq_true, if_false]
      refine ih hc.2 (fun q hq hmq => ?_) hd'
      rcases List.mem_cons.1 hq with e | hq
      · rw [e, hm] at hmq; cases hmq
      · exact hF q hq hmq
    | false =>
      simp only [List.filter_cons, hm, Bool.not_false, if_true, List.map_cons]
      have hs : Same (deadf dead p) p := deadf_lk dead p
      refine ⟨fun k hk => ?_, ih hc.2 (fun q hq hmq => ?_) hd'⟩
      · have hpk : p.cv = some k ∧ dead.contains k = false := by
          unfold deadf at hk
          cases hcv : p.cv with
          | none => rw [hcv] at hk; simp only at hk; rw [hcv] at hk; cases hk
          | some k' =>
            rw [hcv] at hk
            simp only at hk
            split at hk
            · cases hk
            · rename_i hdk
              rw [hcv] at hk
              injection hk with hk
              subst hk
              exact ⟨rfl, by simpa using hdk⟩
        obtain ⟨q, hq, e, himp⟩ := hc.1 k hpk.1
        have hmq : mentions d hp q = false := by
          cases hmq : mentions d hp q with
          | false => rfl
          | true =>
            have := hd q (.inl hq) hmq
            rw [e, hpk.2] at this
            cases this
        obtain ⟨q', hq', hs'⟩ := hF q hq hmq
        exact ⟨q', hq', hs'.1.trans e, himp.same hs' hs⟩
      · rcases List.mem_cons.1 hq with e | hq
        · exact ⟨_, List.mem_cons_self .., by rw [e]; exact hs⟩
        · obtain ⟨q', hq', hs'⟩ := hF q hq hmq
          exact ⟨q', List.mem_cons_of_mem _ hq', hs'⟩
theorem Inv.kill {D : List Nat} {S : List Pe} {d : Option Nat} {hp : Bool} (h : Inv D S) : Inv D (kill d hp S) := by
  rw [kill_eq]
  have hlk := deadf_lk ((S.filter (mentions d hp)).map (·.d))
  have hmem : ∀ q, q ∈ S.filter (fun p => !mentions d hp p) → q ∈ S ∧ mentions d hp q = false := fun q hq => by
    have := List.mem_filter.1 hq
    exact ⟨this.1, by simpa using this.2⟩
  have huf : ∀ q, q ∈ S → mentions d hp q = false → look1 (S.filter fun p => !mentions d hp p) q.d = some q := fun q hq hm => look1_filter (h.uniq q hq) (by simp [hm])
  refine ⟨fun p hp' => ?_, fun p hp' => ?_, fun p hp' => ?_, ?_⟩
  · obtain ⟨q, hq, e⟩ := List.mem_map.1 hp'
    rw [← e, (hlk q).1]
    exact h.mem q (hmem q hq).1
  · obtain ⟨q, hq, e⟩ := List.mem_map.1 hp'
    rw [look1_map hlk, ← e, (hlk q).1, huf q (hmem q hq).1 (hmem q hq).2]
    rfl
  · obtain ⟨q, hq, e⟩ := List.mem_map.1 hp'
    rw [gdOf_map hlk, ← e, (hlk q).2.1, (hlk q).2.2.1]
    have hg := h.gd q (hmem q hq).1
    cases hgd : q.gd with
    | none => rw [hgd] at hg; exact hg
    | some gw =>
      obtain ⟨g, w⟩ := gw
      rw [hgd] at hg
      simp only [gdOf] at hg ⊢
      split at hg
      · rename_i hD
        rw [if_pos hD]
        split at hg
        · rename_i r hr
          injection hg with hg
          obtain ⟨hr1, hr2⟩ := look1_mem hr
          have := huf r hr1 (mentions_guard (hmem q hq).2 hg.symm)
          rw [hr2] at this
          rw [this, ← hg]
        · cases hg
      · rename_i hD
        rw [if_neg hD]
        exact hg
  · refine Cv.kill h.cv (fun q hq => by cases hq) (fun q hq hm => ?_)
    rcases hq with hq | hq
    · cases hq
    · have : q.d ∈ (S.filter (mentions d hp)).map (·.d) := List.mem_map.2 ⟨q, List.mem_filter.2 ⟨hq, hm⟩, rfl⟩
      simpa using this
end Go.Vm
end
section
set_option linter.unusedVariables false
set_option linter.unusedSimpArgs false
namespace Go.Vm

section
variable {D : List Nat} {S : List Pe} {T T' : Nat → PV} {H : Ob}

theorem rdS_cases {G : Option (Nat × Bool)} {i : Nat} {e : Xp} (h : rdS D S G i = some e) : (D.contains i = false ∧ e = .x (.t i)) ∨ (D.contains i = true ∧ ∃ p ∈ S, look1 S i = some p ∧ p.d = i ∧ p.e = e ∧ (p.gd = none ∨ p.gd = G)) := by
  unfold rdS at h
  split at h
  · rename_i hD
    split at h
    · rename_i p hp
      split at h
      · rename_i hg
        injection h with h
        obtain ⟨h1, h2⟩ := look1_mem hp
        simp only [Bool.or_eq_true, beq_iff_eq] at hg
        exact .inr ⟨hD, p, h1, hp, h2, h, hg⟩
      · cases h
    · cases h
  · rename_i hD
    injection h with h
    exact .inl ⟨by simpa using hD, h.symm⟩
theorem Inv.chain (hI : Inv D S) {p : Pe} (hp : p ∈ S) {G : Option (Nat × Bool)} {g : List (Xp × Bool)} (hg : gdOf D S G = some g) (h : p.gd = none ∨ p.gd = G) (hh : Holds T H g) : Holds T H p.g := by
  have h1 := hI.gd p hp
  rcases h with h | h
  · rw [h] at h1
    simp only [gdOf] at h1
    injection h1 with h1
    rw [← h1]
    exact Holds.nil
  · rw [h, hg] at h1
    injection h1 with h1
    rw [← h1]
    exact hh
theorem rdS_ok (hI : Inv D S) (hS : Sim D S T T' H) {G : Option (Nat × Bool)} {g : List (Xp × Bool)} (hg : gdOf D S G = some g) (hh : Holds T H g) {i : Nat} {e : Xp} {v : PV} (h : rdS D S G i = some e) (hv : evX T H e = some v) : T' i = v := by
  rcases rdS_cases h with ⟨hD, he⟩ | ⟨hD, p, hp, hl, hd, he, hgd⟩
  · subst he
    simp only [evX, valX] at hv
    injection hv with hv
    rw [hS.out i hD, hv]
  · rw [← hd]
    exact (hS.ent p hp).1 (hI.chain hp hg hgd hh) v (by rw [he]; exact hv)
theorem rdX_ok (hI : Inv D S) (hS : Sim D S T T' H) {G : Option (Nat × Bool)} {g : List (Xp × Bool)} (hg : gdOf D S G = some g) (hh : Holds T H g) {x : MX} {e : Xp} {v : PV} (h : rdX D S G x = some e) (hv : evX T H e = some v) : valX T' x = v := by
  cases x with
  | t i => exact rdS_ok hI hS hg hh h hv
  | c p =>
    simp only [rdX] at h
    injection h with h
    subst h
    simp only [evX, valX] at hv
    injection hv with hv
theorem rdL_mem {G : Option (Nat × Bool)} : ∀ {is : List Nat} {l : List (Nat × Xp)}, rdL D S G is = some l → (∀ x ∈ l, D.contains x.1 = true ∧ rdS D S G x.1 = some x.2) ∧ ∀ i ∈ is, D.contains i = true → i ∈ l.map (·.1)
  | [], l, h => by
    simp only [rdL] at h
    injection h with h
    subst h
    exact ⟨(fun x hx => by cases hx), (fun i hi => by cases hi)⟩
  | i :: r, l, h => by
    simp only [rdL] at h
    split at h
    · rename_i hD
      obtain ⟨e, h1, h⟩ := bnd_eq_some.1 h
      obtain ⟨q, h2, h⟩ := bnd_eq_some.1 h
      injection h with h
      obtain ⟨g1, g2⟩ := rdL_mem h2
      split at h
      · rename_i hany
        subst h
        refine ⟨g1, fun j hj hDj => ?_⟩
        rcases List.mem_cons.1 hj with e1 | hj
        · rw [e1]
          obtain ⟨x, hx, e2⟩ := List.any_eq_true.1 hany
          exact List.mem_map.2 ⟨x, hx, by simpa using e2⟩
        · exact g2 j hj hDj
      · subst h
        refine ⟨fun x hx => ?_, fun j hj hDj => ?_⟩
        · rcases List.mem_cons.1 hx with e1 | hx
          · subst e1; exact ⟨hD, h1⟩
          · exact g1 x hx
        · rcases List.mem_cons.1 hj with e1 | hj
          · rw [e1]; exact List.mem_cons_self ..
          · exact List.mem_cons_of_mem _ (g2 j hj hDj)
    · rename_i hD
      obtain ⟨g1, g2⟩ := rdL_mem h
      refine ⟨g1, fun j hj hDj => ?_⟩
      rcases List.mem_cons.1 hj with e1 | hj
      · rw [e1] at hDj; exact absurd hDj hD
      · exact g2 j hj hDj
theorem evS_over : ∀ {l : List (Nat × Xp)} {q : List (Nat × PV)} {i : Nat}, evS T H l = some q → i ∈ l.map (·.1) → ∃ e, (i, e) ∈ l ∧ evX T H e = some (over T q i)
  | [], q, i, h, hi => by cases hi
  | (j, e) :: r, q, i, h, hi => by
    simp only [evS] at h
    obtain ⟨v, h1, h⟩ := bnd_eq_some.1 h
    obtain ⟨w, h2, h⟩ := bnd_eq_some.1 h
    injection h with h
    subst h
    simp only [over, upd]
    by_cases e1 : i = j
    · subst e1
      rw [if_pos rfl]
      exact ⟨e, List.mem_cons_self .., h1⟩
    · rw [if_neg e1]
      rcases List.mem_cons.1 hi with e2 | hi
      · exact absurd e2 e1
      · obtain ⟨e', he', hv⟩ := evS_over h2 hi
        exact ⟨e', List.mem_cons_of_mem _ he', hv⟩
theorem evS_mem : ∀ {l : List (Nat × Xp)} {q : List (Nat × PV)} {x : Nat × Xp}, evS T H l = some q → x ∈ l → ∃ v, evX T H x.2 = some v
  | [], q, x, h, hx => by cases hx
  | (j, e) :: r, q, x, h, hx => by
    simp only [evS] at h
    obtain ⟨v, h1, h⟩ := bnd_eq_some.1 h
    obtain ⟨w, h2, h⟩ := bnd_eq_some.1 h
    rcases List.mem_cons.1 hx with e1 | hx
    · subst e1; exact ⟨v, h1⟩
    · exact evS_mem h2 hx
theorem rdL_ok (hI : Inv D S) (hS : Sim D S T T' H) {G : Option (Nat × Bool)} {g : List (Xp × Bool)} (hg : gdOf D S G = some g) (hh : Holds T H g) {is : List Nat} {l : List (Nat × Xp)} {q : List (Nat × PV)} (h : rdL D S G is = some l) (hq : evS T H l = some q) :
    ∀ i ∈ is, T' i = over T q i := by
  intro i hi
  obtain ⟨g1, g2⟩ := rdL_mem h
  cases hD : D.contains i with
  | true =>
    obtain ⟨e, he, hv⟩ := evS_over hq (g2 i hi hD)
    exact rdS_ok hI hS hg hh (g1 _ he).2 hv
  | false =>
    rw [over_out, hS.out i hD]
    intro hm
    rw [evS_keys hq] at hm
    obtain ⟨x, hx, e⟩ := List.mem_map.1 hm
    have := (g1 x hx).1
    rw [e, hD] at this
    cases this

theorem pick_inv {c a b : Xp} {v : PV} (h : evX T H (.pick c a b) = some v) : ∃ t, evX T H c = some (.s (.bool t)) ∧ evX T H (if t = true then a else b) = some v := by
  simp only [evX] at h
  obtain ⟨w, h1, h⟩ := bnd_eq_some.1 h
  split at h
  · rename_i t
    refine ⟨t, h1, ?_⟩
    cases t with
    | true => simpa using h
    | false => simpa using h
  · cases h
theorem rdB_ok (hI : Inv D S) (hS : Sim D S T T' H) {G : Option (Nat × Bool)} {g : List (Xp × Bool)} (hg : gdOf D S G = some g) (hh : Holds T H g) {c x : MX} {w : Bool} {ec e : Xp} {v : PV} (hc : rdX D S G c = some ec) (hec : evX T H ec = some (.s (.bool w)))
    (h : rdB D S G c w x = some e) (hv : evX T H e = some v) : valX T' x = v := by
  cases x with
  | c p =>
    simp only [rdB] at h
    injection h with h
    subst h
    simp only [evX, valX] at hv
    injection hv with hv
  | t i =>
    simp only [rdB] at h
    split at h
    · rename_i e' he'
      injection h with h
      subst h
      exact rdS_ok hI hS hg hh he' hv
    · split at h
      · rename_i j
        simp only [rdX] at hc
        rcases rdS_cases hc with ⟨hD, he⟩ | ⟨hD, p, hp, hl, hd, he, hgd⟩
        · have hg' : gdOf D S (some (j, w)) = some [(.x (.t j), w)] := by simp only [gdOf]; rw [if_neg (by rw [hD]; simp)]
          exact rdS_ok hI hS hg' (Holds.one.2 (by rw [← he]; exact hec)) h hv
        · have hg' : gdOf D S (some (j, w)) = some (p.g ++ [(p.e, w)]) := by simp only [gdOf]; rw [if_pos hD, hl]
          exact rdS_ok hI hS hg' (Holds.append.2 ⟨hI.chain hp hg hgd hh, Holds.one.2 (by rw [he]; exact hec)⟩) h hv
      · cases h
theorem mkX_ok (hI : Inv D S) (hS : Sim D S T T' H) {G : Option (Nat × Bool)} {g : List (Xp × Bool)} (hg : gdOf D S G = some g) (hh : Holds T H g) {o : MOp} {e : Xp} {v : PV} {dr : Bool} {n : Nat} (hp : isPure o = true) (h : mkX D S G o = some e) (hv : evX T H e = some v) :
    mstep o dr T' H n = some (v, H) := by
  have gen : kindM o < 2 → (bnd (rdL D S G (slotsOf o)) fun l => some (Xp.op o l)) = some e → mstep o dr T' H n = some (v, H) := by
    intro hk h
    obtain ⟨l, h1, h⟩ := bnd_eq_some.1 h
    injection h with h
    subst h
    simp only [evX] at hv
    obtain ⟨q, h2, hv⟩ := bnd_eq_some.1 hv
    obtain ⟨r, h3, hv⟩ := bnd_eq_some.1 hv
    injection hv with hv
    obtain ⟨r1, r2⟩ := r
    simp only at hv
    subst hv
    obtain ⟨e1, e2⟩ := mstep_pure (dr2 := dr) (nid2 := n) hk h3
    simp only at e1
    rw [mstep_congr (rdL_ok hI hS hg hh h1 h2), e2, e1]
  cases o with
  | mv x =>
    simp only [mkX] at h
    simp only [mstep, rdX_ok hI hS hg hh h hv]
  | pick c a b =>
    simp only [mkX] at h
    obtain ⟨ec, h1, h⟩ := bnd_eq_some.1 h
    obtain ⟨ea, h2, h⟩ := bnd_eq_some.1 h
    obtain ⟨eb, h3, h⟩ := bnd_eq_some.1 h
    injection h with h
    subst h
    obtain ⟨t, g1, g2⟩ := pick_inv hv
    simp only [mstep, rdX_ok hI hS hg hh h1 g1]
    cases t with
    | true =>
      simp only [if_true] at g2 ⊢
      rw [rdB_ok hI hS hg hh h1 g1 h2 g2]
    | false =>
      simp only [Bool.false_eq_true, if_false] at g2 ⊢
      rw [rdB_ok hI hS hg hh h1 g1 h3 g2]
  | _ => exact gen (by simpa [isPure] using hp) h
/-- What an operation reads anyway need not be asked for by itself. -/
theorem rdS_mem (hI : Inv D S) {G : Option (Nat × Bool)} {p : Pe} (hp : p ∈ S) {e : Xp} (h : rdS D S G p.d = some e) : e = p.e := by
  rcases rdS_cases h with ⟨hD, he⟩ | ⟨hD, q, hq, hl, hd, he, hgd⟩
  · rw [hI.mem p hp] at hD; cases hD
  · rw [hI.uniq p hp] at hl
    injection hl with hl
    rw [← he, hl]
theorem rdX_mem (hI : Inv D S) {G : Option (Nat × Bool)} {p : Pe} (hp : p ∈ S) {x : MX} {e : Xp} (h : rdX D S G x = some e) (hx : (sx x).contains p.d = true) : e = p.e := by
  cases x with
  | t i =>
    have : p.d = i := by simpa [sx] using hx
    simp only [rdX] at h
    rw [← this] at h
    exact rdS_mem hI hp h
  | c q => simp [sx] at hx
theorem rdB_mem (hI : Inv D S) {G : Option (Nat × Bool)} {p : Pe} (hp : p ∈ S) {c x : MX} {w : Bool} {e : Xp} (h : rdB D S G c w x = some e) (hx : (sx x).contains p.d = true) : e = p.e := by
  cases x with
  | t i =>
    have : p.d = i := by simpa [sx] using hx
    simp only [rdB] at h
    rw [← this] at h
    split at h
    · rename_i e' he'
      injection h with h
      subst h
      exact rdS_mem hI hp he'
    · split at h
      · exact rdS_mem hI hp h
      · cases h
  | c q => simp [sx] at hx
theorem rdL_read (hI : Inv D S) {G : Option (Nat × Bool)} {p : Pe} (hp : p ∈ S) {is : List Nat} {l : List (Nat × Xp)} (h : rdL D S G is = some l) (hx : is.contains p.d = true) : (p.d, p.e) ∈ l := by
  obtain ⟨g1, g2⟩ := rdL_mem h
  obtain ⟨x, hx', e⟩ := List.mem_map.1 (g2 p.d (by simpa using hx) (hI.mem p hp))
  obtain ⟨xi, xe⟩ := x
  simp only at e
  subst e
  have := rdS_mem hI hp (g1 _ hx').2
  simp only at this
  rw [← this]
  exact hx'
theorem cvd_imp (hI : Inv D S) {G : Option (Nat × Bool)} {g : List (Xp × Bool)} (hg : gdOf D S G = some g) {o : MOp} {e : Xp} {d : Nat} (h : mkX D S G o = some e) {p : Pe} (hp : p ∈ S) (hc : cvd S G o p = true) : Imp ⟨d, G, g, e, none, false⟩ p := by
  have same : p.gd = G → p.g = g := by
    intro e1
    have := hI.gd p hp
    rw [e1, hg] at this
    injection this with this
    exact this.symm
  have gen : (p.gd == G && (slotsOf o).contains p.d) = true → (bnd (rdL D S G (slotsOf o)) fun l => some (Xp.op o l)) = some e → Imp ⟨d, G, g, e, none, false⟩ p := by
    intro hc h T H hh
    simp only [Bool.and_eq_true, beq_iff_eq] at hc
    obtain ⟨l, h1, h⟩ := bnd_eq_some.1 h
    injection h with h
    subst h
    refine ⟨by simp only; rw [← same hc.1]; exact hh, fun hv => ?_⟩
    obtain ⟨v, hv⟩ := hv
    simp only [evX] at hv
    obtain ⟨q, h2, hv⟩ := bnd_eq_some.1 hv
    exact evS_mem h2 (rdL_read hI hp h1 hc.2)
  cases o with
  | mv x =>
    simp only [cvd, Bool.and_eq_true, beq_iff_eq] at hc
    simp only [mkX] at h
    have he := rdX_mem hI hp h (by simpa [slotsOf] using hc.2)
    subst he
    intro T H hh
    exact ⟨by simp only; rw [← same hc.1]; exact hh, fun hv => hv⟩
  | pick c a b =>
    simp only [mkX] at h
    obtain ⟨ec, h1, h⟩ := bnd_eq_some.1 h
    obtain ⟨ea, h2, h⟩ := bnd_eq_some.1 h
    obtain ⟨eb, h3, h⟩ := bnd_eq_some.1 h
    injection h with h
    subst h
    simp only [cvd, Bool.or_eq_true, Bool.and_eq_true, beq_iff_eq] at hc
    rcases hc with ⟨e1, hx⟩ | hc
    · have he := rdX_mem hI hp h1 hx
      subst he
      intro T H hh
      refine ⟨by simp only; rw [← same e1]; exact hh, fun hv => ?_⟩
      obtain ⟨v, hv⟩ := hv
      obtain ⟨t, g1, _⟩ := pick_inv hv
      exact ⟨_, g1⟩
    · cases c with
      | c q => simp at hc
      | t j =>
        simp only [Bool.and_eq_true, Bool.or_eq_true, beq_iff_eq] at hc
        obtain ⟨hj, hc⟩ := hc
        split at hj
        · rename_i q hq
          obtain ⟨hq1, hq2⟩ := look1_mem hq
          have hqg : q.gd = G := by simpa using hj
          have hec : ec = q.e := by
            simp only [rdX] at h1
            rw [← hq2] at h1
            exact rdS_mem hI hq1 h1
          have hqch : q.g = g := by
            have := hI.gd q hq1
            rw [hqg, hg] at this
            injection this with this
            exact this.symm
          have hDj : D.contains j = true := by rw [← hq2]; exact hI.mem q hq1
          have chain : ∀ w, p.gd = some (j, w) → p.g = g ++ [(ec, w)] := by
            intro w e1
            have := hI.gd p hp
            rw [e1] at this
            simp only [gdOf] at this
            rw [if_pos hDj, hq] at this
            injection this with this
            rw [← this, hqch, hec]
          intro T H hh
          rcases hc with ⟨e1, hx⟩ | ⟨e1, hx⟩
          · rw [chain true e1] at hh
            obtain ⟨k1, k2⟩ := Holds.append.1 hh
            refine ⟨k1, fun hv => ?_⟩
            obtain ⟨v, hv⟩ := hv
            obtain ⟨t, g1, g2⟩ := pick_inv hv
            rw [Holds.one.1 k2] at g1
            injection g1 with g1
            injection g1 with g1
            injection g1 with g1
            subst g1
            rw [← rdB_mem hI hp h2 hx]
            exact ⟨v, by simpa using g2⟩
          · rw [chain false e1] at hh
            obtain ⟨k1, k2⟩ := Holds.append.1 hh
            refine ⟨k1, fun hv => ?_⟩
            obtain ⟨v, hv⟩ := hv
            obtain ⟨t, g1, g2⟩ := pick_inv hv
            rw [Holds.one.1 k2] at g1
            injection g1 with g1
            injection g1 with g1
            injection g1 with g1
            subst g1
            rw [← rdB_mem hI hp h3 hx]
            exact ⟨v, by simpa using g2⟩
        · cases hj
  | _ => exact gen hc h
end
end Go.Vm
end
