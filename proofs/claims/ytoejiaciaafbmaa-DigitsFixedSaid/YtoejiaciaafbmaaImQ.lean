/- The ideal machine, part Q: code, calls. -/
import Derived.Test.YtoejiaciaafbmaaImV
namespace Go.IM
open Go Go.RowKit

inductive Out where
  | normal
  | exit (id : Nat)
  | ret
  | pnc (v : Value)

inductive COut where
  | ret (v : Value)
  | pnc (v : Value)

/-- The mode of a function that is being left: it hands back; or a panic goes through it, that has been recovered, or not. -/
inductive DM where
  | ret
  | pan (v : Value) (rec : Bool)

def okOperand : Operand → Bool
  | .tmp _ | .func _ => true
  | .const v => flat 4 v
  | .global _ => false
def okOp (o : Oper) : Bool := o.op.operands.all okOperand

abbrev CallF := FuncId → Array Value → M → Option (COut × M)

def runOps (P : Program) (C : CallF) (ops : Array Oper) : List Nat → Act → M → Option (Out × Act × M)
  | [], a, m => some (.normal, a, m)
  | i :: rest, a, m =>
    match ops[i]? with
    | none => none
    | some o =>
      if Region.wanted o (yielded ops a.tmps) then
        if okOp o then
          match iop P a.eval o m with
          | some (.val v m1) => runOps P C ops rest (a.put o.dst v) m1
          | some (.skip m1) => runOps P C ops rest (a.put o.dst undef) m1
          | some (.dfr d m1) => runOps P C ops rest (({ a with defers := d :: a.defers } : Act).put o.dst undef) m1
          | some (.call f args m1) => match C f args m1 with
            | some (.ret v, m2) => runOps P C ops rest (a.put o.dst v) m2
            | some (.pnc v, m2) => some (.pnc v, a, m2)
            | none => none
          | some (.pnc v m1) => some (.pnc v, a, m1)
          | none => none
        else none
      else runOps P C ops rest (a.put o.dst undef) m

abbrev Ev := Code → Act → M → Option (Out × Act × M)

def iresult (P : Program) (tmps : Array Value) (m : M) : ResultVar → Option Value
  | .tmp t => some (tmps.getD t undef)
  | .cell a t => iload P t (tmps.getD a undef) m
def iresultsL (P : Program) (tmps : Array Value) (m : M) : List ResultVar → Option (List Value)
  | [] => some []
  | r :: l => match iresult P tmps m r, iresultsL P tmps m l with
    | some v, some vs => some (v :: vs)
    | _, _ => none
def iresults (P : Program) (fn : Func) (tmps : Array Value) (m : M) : Option Value :=
  match iresultsL P tmps m fn.results.toList with
  | some [v] => some v
  | some l => some (.tuple l.toArray)
  | none => none

/-- A function that begins with 'recover': the slot, and what follows. -/
def recHead : Code → Option (Tmp × Code)
  | .seq (.region _ ops false) rest => match ops.toList with
    | [o] => match o.dst, o.op, o.guard with
      | some d, .call c, none => match c.callee with
        | .builtin .recover => if c.args.size = 0 then some (d, rest) else none
        | _ => none
      | _, _, _ => none
    | _ => none
  | _ => none

def frame (fn : Func) (args : Array Value) : Act := { tmps := args ++ Array.replicate (fn.ntmps - args.size) undef, defers := [] }

def settleD : DM → DM
  | .pan _ true => .ret
  | u => u
def recoverI : DM → Value × DM
  | .pan v false => (v, .pan v true)
  | u => (.nilIface, u)

/-- A deferred call. -/
def callD (P : Program) (ev : Ev) (f : FuncId) (args : Array Value) (u : DM) (m : M) : Option (DM × M) :=
  match P.funcs[f]? with
  | some fn => match fn.body with
    | some c =>
      if fn.name == "runtime.NumGoroutine" then none else
      match (match recHead c with
        | some (d, rest) => (ev rest ((frame fn args).put (some d) (recoverI u).1) m, (recoverI u).2)
        | none => (ev c (frame fn args) m, u)) with
      | (some (.normal, a, m1), u1) | (some (.ret, a, m1), u1) => match a.defers, iresults P fn a.tmps m1 with
        | [], some _ => some (settleD u1, m1)
        | _, _ => none
      | _ => none
    | none => none
  | none => none

def leave (P : Program) (ev : Ev) (fn : Func) (tmps : Array Value) : List Deferred → DM → M → Option (COut × M)
  | [], .ret, m => (iresults P fn tmps m).map (.ret ·, m)
  | [], .pan v false, m => some (.pnc v, m)
  | [], .pan _ true, _ => none
  | d :: ds, u, m => match d.target with
    | .fn (.func k) cap => match callD P ev k (d.args ++ cap) u m with
      | some (u1, m1) => leave P ev fn tmps ds u1 m1
      | none => none
    | _ => none

def callF (P : Program) (ev : Ev) : CallF := fun f args m =>
  match P.funcs[f]? with
  | some fn => match fn.body with
    | some c => match ev c (frame fn args) m with
      | some (.normal, a, m1) | some (.ret, a, m1) => leave P ev fn a.tmps a.defers .ret m1
      | some (.pnc v, a, m1) => leave P ev fn a.tmps a.defers (.pan v false) m1
      | _ => none
    | none => none
  | none => none

/-! ### Regions whose order is drawn -/
inductive Kind where
  | p | l | a | x

/-- What an operation does to the memory: nothing; it looks at it; it draws a block; anything. -/
def kindOf (P : Program) (o : Oper) : Kind :=
  match o.op with
  | .alloc _ | .box .. | .buildSlice .. | .makeSlice .. => .a
  | .load .. | .slice .. => .l
  | .convert src dst _ => match P.underlying src, P.underlying dst with
    | some .string, some (.slice _) => .a
    | some (.slice _), _ => .l
    | _, _ => .p
  | .call c => match c.callee with
    | .builtin .len => .p
    | _ => .x
  | .move _ | .assign _ | .pick .. | .build .. | .nilCheck _ | .binOp .. | .unOp .. | .makeInterface .. | .makeFunc .. | .fieldAddr .. | .field .. | .indexAddr .. | .index .. | .typeAssert .. | .extract .. => .p
  | _ => .x

/-- The block that an operation looks at. -/
def touch (ev : Operand → Value) (o : Oper) : Option Nat :=
  match o.op with
  | .load _ a => match ev a with | .pointer (some q) => some q.block | _ => none
  | .slice _ x _ _ _ => match ev x with | .slice (some q) _ _ => some q.block | _ => none
  | .convert _ _ x => match ev x with | .slice (some q) _ _ => some q.block | _ => none
  | _ => none
def touchOK (ev : Operand → Value) (o : Oper) (n0 : Nat) : Bool :=
  match touch ev o with | some i => decide (i < n0) | none => true

def omask (acc : List Nat) : List Edge → Nat
  | [] => 0
  | e :: r => if Region.binds .any e then (1 <<< e.on) ||| acc.getD e.on 0 ||| omask acc r else omask acc r
/-- What each operation comes after. -/
def amasks : List Oper → List Nat → List Nat
  | [], acc => acc
  | o :: r, acc => amasks r (acc ++ [omask acc o.after.toList])

def backward (i : Nat) : List Edge → Bool
  | [] => true
  | e :: r => (!Region.binds .any e || decide (e.on < i)) && backward i r

def unord (ms : List Nat) (i j : Nat) : Bool := if i < j then !(Nat.testBit (ms.getD j 0) i) else if j < i then !(Nat.testBit (ms.getD i 0) j) else false

def kindsOK : Kind → Kind → Bool
  | .p, _ | .l, _ => true
  | _, .p | _, .l | _, .a => true
  | _, _ => false

def pairOK (P : Program) (ops : Array Oper) (ms : List Nat) (i j : Nat) : Bool :=
  if unord ms i j then match ops[i]?, ops[j]? with
    | some x, some y => x.apart ops y && kindsOK (kindOf P x) (kindOf P y)
    | _, _ => false
  else true

/-- May an operation meet one that it must be kept apart from? -/
def flagK : Kind → Kind → Bool
  | .x, .l => true
  | .l, .a | .l, .x => true
  | _, _ => false
def flagOf (P : Program) (ops : Array Oper) (ms : List Nat) (i : Nat) : Bool :=
  (List.range ops.size).any fun j => unord ms i j && match ops[i]?, ops[j]? with
    | some x, some y => flagK (kindOf P x) (kindOf P y)
    | _, _ => false

def okDraw (P : Program) (ops : Array Oper) : Bool :=
  let ms := amasks ops.toList []
  (List.range ops.size).all fun j => (match ops[j]? with | some o => backward j o.after.toList | none => false) && (List.range j).all fun i => pairOK P ops ms i j

def isAX : Kind → Bool
  | .a | .x => true
  | _ => false
/-- The first operation ahead of a look with which it may change places, and that changes something. -/
def firstFree (P : Program) (ops : Array Oper) (ms : List Nat) (i : Nat) : Option Nat :=
  match ops[i]? with
  | some x => match kindOf P x with
    | .l => (List.range i).find? fun j => unord ms j i && match ops[j]? with
      | some y => isAX (kindOf P y)
      | none => false
    | _ => none
  | none => none

def opD (P : Program) (C : CallF) (n0 β : Nat) (fl wanted : Bool) (o : Oper) (ev : Operand → Value) (k : Nat) (t : Tr) : Option (Value × Tr × Nat) :=
  if wanted then
    if okOp o && (!fl || touchOK ev o n0) then
      match iop P ev o ⟨t, k, if fl then k else β⟩ with
      | some (.val v m1) => some (v, m1.tr, m1.nxt)
      | some (.skip m1) => some (undef, m1.tr, m1.nxt)
      | some (.call f args m1) => match C f args m1 with
        | some (.ret v, m2) => some (v, m2.tr, m2.nxt)
        | _ => none
      | _ => none
    else none
  else some (undef, t, k)

def limOf (ff : Nat → Option Nat) (ss : Nat → Nat) (i k : Nat) : Nat :=
  match ff i with
  | some j => ss j
  | none => k
def setN (ss : Nat → Nat) (i k : Nat) : Nat → Nat := fun q => bif Nat.beq q i then k else ss q

def runD (P : Program) (C : CallF) (ops : Array Oper) (β : Nat) (fl : Nat → Bool) (ff : Nat → Option Nat) : List Nat → (Nat → Nat) → Act → Nat → Tr → Option (Act × Nat × Tr)
  | [], _, a, k, t => some (a, k, t)
  | i :: rest, ss, a, k, t =>
    match ops[i]? with
    | none => none
    | some o => match opD P C (limOf ff ss i k) β (fl i) (Region.wanted o (yielded ops a.tmps)) o a.eval k t with
      | some (v, t1, k1) => runD P C ops β fl ff rest (setN ss i k) (a.put o.dst v) k1 t1
      | none => none

def runDraw (P : Program) (C : CallF) (ops : Array Oper) (a : Act) (m : M) : Option (Out × Act × M) :=
  if okDraw P ops && P.follows .mixedOrders && decide (m.bar ≤ m.nxt) then
    let ms := amasks ops.toList []
    match runD P C ops m.bar (flagOf P ops ms) (firstFree P ops ms) (List.range ops.size) (fun _ => 0) a m.nxt m.tr with
    | some (a1, k1, t1) => some (.normal, a1, ⟨t1, k1, m.bar⟩)
    | none => none
  else none

/-- Code: by rounds of depth. -/
def E (P : Program) : Nat → Ev
  | 0, _, _, _ => none
  | n + 1, c, a, m =>
    match c with
    | .skip | .label _ => some (.normal, a, m)
    | .region _ ops draw => if draw then runDraw P (callF P (E P n)) ops a m else runOps P (callF P (E P n)) ops (List.range ops.size) a m
    | .seq x y => match E P n x a m with
      | some (.normal, a1, m1) => E P n y a1 m1
      | r => r
    | .cond c x y => if okOperand c then match a.eval c with
      | .bool b => E P n (if b then x else y) a m
      | _ => none
      else none
    | .block id b => match E P n b a m with
      | some (.exit id', a1, m1) => if id' = id then some (.normal, a1, m1) else some (.exit id', a1, m1)
      | r => r
    | .loop b => match E P n b a m with
      | some (.normal, a1, m1) => E P n (.loop b) a1 m1
      | r => r
    | .exit id => some (.exit id, a, m)
    | .ret => some (.ret, a, m)
    | _ => none

end Go.IM
