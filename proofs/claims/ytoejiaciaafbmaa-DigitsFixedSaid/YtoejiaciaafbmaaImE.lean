/- The ideal machine, part E: what an operation does. -/
import Derived.Test.YtoejiaciaafbmaaImD
namespace Go.IM
open Go Go.RowKit

/-- What touches no memory and draws nothing. -/
def pureSem {α : Type} (P : Program) : Sem α → Option α
  | .pure a => some a
  | .program k => pureSem P (k P)
  | .mark _ k => pureSem P k
  | _ => none

/-- A value of one cell. -/
def one : Value → Bool
  | .agg _ | .tuple _ => false
  | _ => true

def M.row (m : M) (i : Nat) : Option (Array Value × TypeId) :=
  match m.alive i with
  | some b => match b.obj with
    | .cells c e _ => some (c, e)
    | _ => none
  | none => none
def M.cell (m : M) (i o : Nat) : Option Value :=
  match m.row i with
  | some (c, _) => c[o]?
  | none => none
/-- So many cells from a place on. -/
def M.cells (m : M) (i o n : Nat) : Option (Array Value) :=
  match m.row i with
  | some (c, _) => if o + n ≤ c.size then some (c.extract o (o + n)) else none
  | none => none

def wr (c : Array Value) (o : Nat) : List Value → Array Value
  | [] => c
  | v :: r => wr (c.setIfInBounds o v) (o + 1) r

/-- Cells are written. -/
def M.store (m : M) (i o : Nat) (vs : List Value) : Option M :=
  match m.alive i with
  | some b => match b.obj with
    | .cells c e fr => if b.ro = false ∧ b.sup = false ∧ o + vs.length ≤ c.size ∧ vs.all one = true ∧ m.bar ≤ i ∧ m.bar ≤ b.root then some (m.put i b (.cells (wr c o vs) e fr)) else none
    | _ => none
  | none => none

/-- A new block of cells. -/
def M.new (m : M) (c : Array Value) (e : TypeId) : Option (Addr × M) :=
  match m.get m.nxt with
  | none => some (⟨m.nxt, 0, none⟩, m.mk1 (.cells c e))
  | some _ => none

def isAggT (P : Program) (t : TypeId) : Option Bool :=
  match P.underlying t with
  | some (.struct _) | some (.array _ _) => some true
  | some _ => some false
  | none => none

def partOf (P : Program) (t : TypeId) (cs : Array Value) (off : Nat) : Option Value :=
  match isAggT P t, P.info? t with
  | some true, some i => some (.agg (cs.extract off (off + i.size)))
  | some false, some _ => cs[off]?
  | _, _ => none

def iload (P : Program) (t : TypeId) (a : Value) (m : M) : Option Value :=
  match a with
  | .pointer (some ⟨i, o, none⟩) =>
    match isAggT P t, P.info? t with
    | some true, some ti => (m.cells i o ti.size).map .agg
    | some false, some _ => m.cell i o
    | _, _ => none
  | _ => none

def istore (P : Program) (t : TypeId) (a v : Value) (m : M) : Option M :=
  match a, P.info? t with
  | .pointer (some ⟨i, o, none⟩), some ti => if v.cells.size = ti.size then m.store i o v.cells.toList else none
  | _, _ => none

def zeroOf (P : Program) (t : TypeId) : Option Value :=
  match P.info? t with
  | some i => match i.zero with
    | some z => if flat 3 z then some z else none
    | none => none
  | none => none

def boundOf (x : Value) (y : Nat) : Option Nat :=
  match x with
  | .int _ i => if 0 ≤ i ∧ i ≤ (y : Int) then some i.toNat else none
  | _ => none

def boundD (x : Option Value) (d y : Nat) : Option Nat :=
  match x with
  | some v => boundOf v y
  | none => some d

/-- A slice of a slice. -/
def islice (P : Program) (t : TypeId) (x : Value) (lo hi mx : Option Value) (m : M) : Option Value :=
  match P.underlying t, x with
  | some (.slice e), .slice a len cap =>
    match P.info? e, boundD mx cap cap with
    | some ti, some mm =>
      if mx.isSome = true ∧ hi.isNone = true then none else
      match boundD hi len mm with
      | some h => match boundD lo 0 h with
        | some l =>
          if h ≤ mm ∧ l ≤ h then
            match a with
            | none => if len = 0 ∧ cap = 0 then some (.slice none 0 0) else none
            | some ⟨i, o, none⟩ =>
              if cap = 0 then some (.slice (some ⟨i, o, none⟩) 0 0) else
              match m.row i with
              | some (_, e') => if P.cellsOf e' = ti.size then some (.slice (some ⟨i, o + l * ti.size, none⟩) (h - l) (mm - l)) else none
              | none => none
            | some ⟨_, _, some _⟩ => none
          else none
        | none => none
      | none => none
    | _, _ => none
  | _, _ => none

/-- The address of an element. -/
def iindexAddr (P : Program) (t : TypeId) (x ix : Value) : Option Value :=
  match P.underlying t, x, ix with
  | some (.slice e), .slice (some ⟨i, o, none⟩) len _, .int _ k =>
    match P.info? e with
    | some ti => if 0 ≤ k ∧ k < len then some (.pointer (some ⟨i, o + k.toNat * ti.size, none⟩)) else none
    | none => none
  | some (.array len e), .pointer (some ⟨i, o, none⟩), .int _ k =>
    match P.info? e with
    | some ti => if 0 ≤ k ∧ k < len then some (.pointer (some ⟨i, o + k.toNat * ti.size, none⟩)) else none
    | none => none
  | _, _, _ => none

def ifieldAddr (P : Program) (s : TypeId) (x : Value) (f : Nat) : Option Value :=
  match P.underlying s, x with
  | some (.struct fields), .pointer (some ⟨i, o, none⟩) =>
    match fields[f]? with
    | some fd => match P.info? fd.type with
      | some ti => if ti.size = 0 then none else some (.pointer (some ⟨i, o + fd.offset, none⟩))
      | none => none
    | none => none
  | _, _ => none

def ifield (P : Program) (s : TypeId) (x : Value) (f : Nat) : Option Value :=
  match P.underlying s, x with
  | some (.struct fields), .agg cs =>
    match fields[f]? with
    | some fd => partOf P fd.type cs fd.offset
    | none => none
  | _, _ => none

def iindex (P : Program) (t : TypeId) (x ix : Value) : Option Value :=
  match P.underlying t, x, ix with
  | some (.array len e), .agg cs, .int _ k =>
    match P.info? e with
    | some ti => if 0 ≤ k ∧ k < len then partOf P e cs (k.toNat * ti.size) else none
    | none => none
  | some .string, .string s, .int _ k =>
    match (if 0 ≤ k then s[k.toNat]? else none) with
    | some b => some (.int .u8 b.toNat)
    | none => none
  | _, _, _ => none

def ibuildSlice (P : Program) (t : TypeId) (len : Nat) (parts : List (Nat × Value)) (m : M) : Option (Value × M) :=
  match P.underlying t with
  | some (.slice e) =>
    match P.info? e, zeroOf P e with
    | some ti, some z =>
      if len * ti.size ≤ 16777216 then
        match Instr.fill (fun i => some (i * ti.size, ti.size)) ((Array.range (len * ti.size)).map ((if len * ti.size = 0 then #[] else z.cells)[· % (if len * ti.size = 0 then (#[] : Array Value) else z.cells).size]!)) parts with
        | some cells => match m.new cells e with
          | some (a, m') => if len * ti.size ≤ cells.size then some (.slice (some a) len len, m') else none
          | none => none
        | none => none
      else none
    | _, _ => none
  | _ => none

def imakeSlice (P : Program) (t : TypeId) (len cap : Value) (m : M) : Option (Value × M) :=
  match P.underlying t, len, cap with
  | some (.slice e), .int _ l, .int _ c =>
    match P.info? e, zeroOf P e with
    | some ti, some z =>
      if 0 ≤ l ∧ l ≤ c ∧ c ≤ 140737488355328 ∧ (ti.bytes : Int) * c ≤ 281474976710656 then
        match m.new ((Array.range (c.toNat * ti.size)).map ((if c.toNat * ti.size = 0 then #[] else z.cells)[· % (if c.toNat * ti.size = 0 then (#[] : Array Value) else z.cells).size]!)) e with
        | some (a, m') => some (.slice (some a) l.toNat c.toNat, m')
        | none => none
      else none
    | _, _ => none
  | _, _, _ => none

/-- The bytes of some cells. -/
def bytesOf : List Value → Option (List UInt8)
  | [] => some []
  | .int .u8 n :: r => (bytesOf r).map (UInt8.ofNat n.toNat :: ·)
  | _ => none

def istringOf (x : Value) (m : M) : Option Value :=
  match x with
  | .slice none _ _ => some (.string .empty)
  | .slice (some ⟨i, o, none⟩) len _ =>
    match m.cells i o len with
    | some cs => match bytesOf cs.toList with
      | some l => some (.string ⟨l.toArray⟩)
      | none => none
    | none => if len = 0 then some (.string .empty) else none
  | _ => none

def ibytesOf (e : TypeId) (s : ByteArray) (m : M) : Option (Value × M) :=
  match m.new (s.data.map fun (b : UInt8) => .int .u8 b.toNat) e with
  | some (a, m') => some (.slice (some a) s.size s.size, m')
  | none => none

/-- The cells that are appended. -/
def news (size : Nat) (x : Value) (m : M) : Option (Nat × Array Value) :=
  match x with
  | .slice none 0 _ => some (0, #[])
  | .slice (some ⟨i, o, none⟩) n _ => if n * size = 0 then some (n, #[]) else (m.cells i o (n * size)).map (n, ·)
  | .string s => if size = 1 then some (s.size, s.data.map fun (b : UInt8) => .int .u8 b.toNat) else none
  | _ => none

def iappendCore (P : Program) (e : TypeId) (ti : TypeInfo) (base : Option Addr) (len cap : Nat) (x : Value) (m : M) : Option (Value × M) :=
  match news ti.size x m with
  | some (n, cs) =>
    if n = 0 then (if len ≤ cap then some (.slice base len cap, m) else none)
    else if (len + n) * ti.bytes > 140737488355328 ∨ len + n > 9223372036854775807 ∨ cs.all one = false then none
    else match base with
      | none => if len = 0 ∧ cap = 0 then (match m.new cs e with | some (a, m') => some (.slice (some a) n n, m') | none => none) else none
      | some ⟨i, o, none⟩ =>
        match m.alive i with
        | some b => match b.obj with
          | .cells c e' fr =>
            if P.cellsOf e' ≠ ti.size then none
            else if len + n ≤ cap then (m.store i (o + len * ti.size) cs.toList).map (.slice (some ⟨i, o, none⟩) (len + n) cap, ·)
            else if o + cap * ti.size < c.size ∨ b.ro = true then
              -- it is capped: a new row
              (if o + len * ti.size ≤ c.size then (match m.new (c.extract o (o + len * ti.size) ++ cs) e with | some (a, m') => some (.slice (some a) (len + n) (len + n), m') | none => none) else none)
            else if o = 0 ∧ len = cap ∧ b.sup = false ∧ c.size = len * ti.size ∧ b.root ≤ m.nxt then
              (match m.get m.nxt with
               | none => some (.slice (some ⟨m.nxt, 0, none⟩) (len + n) (len + n), m.gen i b (.cells (c ++ cs) e' fr))
               | some _ => none)
            else none
          | _ => none
        | none => none
      | some ⟨_, _, some _⟩ => none
  | none => none

def iappend (P : Program) (t : TypeId) (xt : Option TypeId) (s x : Value) (m : M) : Option (Value × M) :=
  match P.underlying t, s with
  | some (.slice e), .slice base len cap =>
    match P.info? e, zeroOf P e with
    | some ti, some z =>
      if ti.size = 0 ∨ z.cells.size ≠ ti.size then none else
      match xt.bind P.underlying with
      | some (.slice _) | some .string => iappendCore P e ti base len cap x m
      | _ => none
    | _, _ => none
  | _, _ => none

def copyLen : Value → Option Nat
  | .slice _ n _ => some n
  | .string s => some s.size
  | _ => none
def copyCells (size k : Nat) (m : M) : Value → Option (Array Value)
  | .slice none _ _ => some #[]
  | .slice (some ⟨i, o, none⟩) _ _ => if k * size = 0 then some #[] else m.cells i o (k * size)
  | .string s => if size = 1 then some ((s.extract 0 k).data.map fun (b : UInt8) => .int .u8 b.toNat) else none
  | _ => none

def icopy (P : Program) (t : TypeId) (dst src : Value) (m : M) : Option (Value × M) :=
  match P.underlying t, dst with
  | some (.slice e), .slice base dl _ =>
    match P.info? e, copyLen src with
    | some ti, some n =>
      match copyCells ti.size (min n dl) m src with
      | some cs =>
        if min n dl = 0 then some (.int .i64 0, m)
        else match base with
          | some ⟨i, o, none⟩ => (m.store i o cs.toList).map (.int .i64 (min n dl : Nat), ·)
          | _ => none
      | none => none
    | _, _ => none
  | _, _ => none

def isNilV : Value → Option Bool
  | .pointer none => some true
  | .pointer (some _) => some false
  | .slice none _ _ => some true
  | .slice (some _) _ _ => some false
  | .map none => some true
  | .map (some _) => some false
  | .nilFunc => some true
  | .func .. => some false
  | .nilIface => some true
  | .iface .. => some false
  | _ => none

/-- '==' where one of both is nil. -/
def ieqNil (P : Program) (t : TypeId) (x y : Value) : Option Bool :=
  match P.underlying t, x, y with
  | some (.pointer _), .pointer none, .pointer b => some b.isNone
  | some (.pointer _), .pointer (some _), .pointer none => some false
  | some (.slice _), .slice none _ _, .slice b _ _ => some b.isNone
  | some (.slice _), .slice (some _) _ _, .slice none _ _ => some false
  | some (.map _ _), .map none, .map b => some b.isNone
  | some (.map _ _), .map (some _), .map none => some false
  | some (.func _ _ _), .nilFunc, .func .. => some false
  | some (.func _ _ _), .func .., .nilFunc => some false
  | some (.interface _), .nilIface, .iface .. => some false
  | some (.interface _), .iface .., .nilIface => some false
  | _, _, _ => none

inductive Res where
  | val (v : Value) (m : M)
  | skip (m : M)
  | dfr (d : Deferred) (m : M)
  | call (f : FuncId) (args : Array Value) (m : M)
  | pnc (v : Value) (m : M)

def opFlat (ev : Operand → Value) (o : Oper) : Bool := o.op.operands.all fun x => flat 4 (ev x)

/-- An operation on values without addresses. -/
def iflat (P : Program) (ev : Operand → Value) (o : Oper) (m : M) : Option Res :=
  if opFlat ev o then
    match pureSem P (execOp ev o) with
    | some (.value v) => if flat 5 v then some (.val v m) else none
    | _ => none
  else none

def icall (P : Program) (ev : Operand → Value) (o : Oper) (c : Call) (m : M) : Option Res :=
  match c.callee with
  | .value f => match ev f with
    | .func (.func k) first captured =>
      match P.funcs[k]? with
      | some fn => if fn.body.isSome && !(fn.name == "runtime.NumGoroutine") then some (.call k (first ++ c.args.map ev ++ captured) m) else iflat P ev o m
      | none => none
    | _ => none
  | .builtin .len => match (c.args[0]?).map ev, (c.argTypes[0]?).bind P.underlying with
    | some (.slice _ n _), some (.slice _) => some (.val (.int .i64 (n : Nat)) m)
    | _, _ => iflat P ev o m
  | .builtin .append => match (c.args[0]?).map ev, (c.args[1]?).map ev, c.argTypes[0]? with
    | some s, some x, some t => if c.args.size = 2 then (iappend P t c.argTypes[1]? s x m).map fun (v, m') => .val v m' else none
    | _, _, _ => none
  | .builtin .copy => match (c.args[0]?).map ev, (c.args[1]?).map ev, c.argTypes[0]? with
    | some s, some x, some t => if c.args.size = 2 then (icopy P t s x m).map fun (v, m') => .val v m' else none
    | _, _, _ => none
  | .builtin .recover => none
  | .builtin .panic => none
  | .builtin _ => iflat P ev o m
  | .invoke _ _ => none

def idefer (ev : Operand → Value) (c : Call) (m : M) : Option Res :=
  match c.callee with
  | .value f => match ev f with
    | .func (.func k) first captured => some (.dfr { target := .fn (.func k) captured, args := first ++ c.args.map ev } m)
    | _ => none
  | _ => none

def iconvert (P : Program) (ev : Operand → Value) (o : Oper) (src dst : TypeId) (x : Value) (m : M) : Option Res :=
  match P.underlying src, P.underlying dst, x with
  | some .string, some (.slice e), .string s =>
    match P.underlying e with
    | some (.int .u8) => if P.cellsOf e = 1 then (ibytesOf e s m).map fun (v, m') => .val v m' else none
    | _ => none
  | some (.slice e), some .string, x =>
    match P.underlying e with
    | some (.int .u8) => (istringOf x m).map fun v => .val v m
    | _ => none
  | some (.slice _), some (.slice e), .slice (some a) n c =>
    match src == dst, P.underlying e, m.alive a.block with
    | true, some (.int .u8), some b => match b.obj with
      | .cells _ _ _ => if b.ro = true ∨ c = 0 ∨ a.spot.isSome = true then none else some (.val (.slice (some a) n c) m)
      | _ => none
    | _, _, _ => none
  | _, _, _ => iflat P ev o m

def iop (P : Program) (ev : Operand → Value) (o : Oper) (m : M) : Option Res :=
  match o.op with
  | .move x | .assign x => some (.val (ev x) m)
  | .pick c a b => match ev c with
    | .bool t => some (.val (if t then ev a else ev b) m)
    | _ => none
  | .alloc t => match zeroOf P t with
    | some z => (m.new z.cells t).map fun (a, m') => .val (.pointer (some a)) m'
    | none => none
  | .box t x => (m.new (ev x).cells t).map fun (a, m') => .val (.pointer (some a)) m'
  | .build t parts => (pureSem P (Instr.build t (parts.map fun (i, x) => (i, ev x)))).bind fun v => match zeroOf P t with
    | some _ => some (.val v m)
    | none => none
  | .buildSlice t len parts => (ibuildSlice P t len (parts.map fun (i, x) => (i, ev x)).toList m).map fun (v, m') => .val v m'
  | .load t a => (iload P t (ev a) m).map fun v => .val v m
  | .store t a x => (istore P t (ev a) (ev x) m).map .skip
  | .nilCheck x => match ev x with
    | .pointer none | .nilIface | .nilFunc => none
    | .func (.method _) _ _ => none
    | v => some (.val v m)
  | .binOp .eql t x y _ => match ieqNil P t (ev x) (ev y) with
    | some b => some (.val (.bool b) m)
    | none => iflat P ev o m
  | .binOp .neq t x y _ => match ieqNil P t (ev x) (ev y) with
    | some b => some (.val (.bool (!b)) m)
    | none => iflat P ev o m
  | .convert src dst x => iconvert P ev o src dst (ev x) m
  | .makeInterface t x => match P.underlying t with
    | some (.interface _) | none => none
    | some _ => some (.val (.iface t (ev x)) m)
  | .makeFunc fn first captured => if stillFn fn then some (.val (.func fn (first.map ev) (captured.map ev)) m) else none
  | .makeSlice t l c => (imakeSlice P t (ev l) (ev c) m).map fun (v, m') => .val v m'
  | .slice t x lo hi mx => match islice P t (ev x) (lo.map ev) (hi.map ev) (mx.map ev) m with
    | some v => some (.val v m)
    | none => iflat P ev o m
  | .fieldAddr s x f => (ifieldAddr P s (ev x) f).map fun v => .val v m
  | .field s x f => (ifield P s (ev x) f).map fun v => .val v m
  | .indexAddr t x ix => (iindexAddr P t (ev x) (ev ix)).map fun v => .val v m
  | .index t x ix => (iindex P t (ev x) (ev ix)).map fun v => .val v m
  | .typeAssert x _ t ok => match P.underlying t, ev x with
    | some (.interface _), _ => none
    | some _, .iface u v => if u = t then some (.val (if ok then .tuple #[v, .bool true] else v) m) else if ok then (zeroOf P t).map fun z => .val (.tuple #[z, .bool false]) m else none
    | some _, .nilIface => if ok then (zeroOf P t).map fun z => .val (.tuple #[z, .bool false]) m else none
    | _, _ => none
  | .extract x ix => match ev x with
    | .tuple vs => (vs[ix]?).map fun v => .val v m
    | _ => none
  | .call c => icall P ev o c m
  | .defer c => idefer ev c m
  | .panic x => match ev x with
    | .iface t v => some (.pnc (.iface t v) m)
    | _ => none
  | .binOp .. | .unOp .. => iflat P ev o m
  | _ => none

end Go.IM
