/- The ideal machine: a guided run through code; what it takes on trust, it lists. -/
import Derived.Test.YtoejiaciaafbmaaImArith
set_option linter.unusedVariables false
namespace Go.IM
open Go Go.RowKit

/-- How one operation goes. -/
inductive Ent where
  | norm (v : Value)
  | op (v : Value) (m1 : M)
  | skp (m1 : M)
  | load (v : Value)
  | idx
  | shift
  | call (v : Value) (m1 : M)
  | pnc (v : Value) (m1 : M)

abbrev GR := Option (Out × Act × M × Prop)
def addO (p : Prop) : GR → GR
  | some (e, a, m, o) => some (e, a, m, p ∧ o)
  | none => none

def lookE : List (Nat × Nat × Ent) → Nat → Nat → Option Ent
  | [], _, _ => none
  | (r, i, e) :: l, r', i' => bif Nat.beq r r' && Nat.beq i i' then some e else lookE l r' i'
abbrev Lp := Out × Act × M
def lookL : List (Nat × Lp) → Nat → Option Lp
  | [], _ => none
  | (r, e) :: l, r' => bif Nat.beq r r' then some e else lookL l r'

def headReg : Code → Nat
  | .region id _ _ => id
  | .seq x _ => headReg x
  | .block _ x => headReg x
  | .loop x => headReg x
  | _ => 0

def stepG (P : Program) (e : Option Ent) (a : Act) (o : Oper) (m : M) (K : Act → M → GR) : GR :=
  match e with
  | none => match iop P a.eval o m with
    | some (.val v m1) => K (a.put o.dst v) m1
    | some (.skip m1) => K (a.put o.dst undef) m1
    | some (.dfr d m1) => K (({ a with defers := d :: a.defers } : Act).put o.dst undef) m1
    | some (.pnc v m1) => some (.pnc v, a, m1, True)
    | _ => none
  | some (.norm v) => match iop P a.eval o m with
    | some (.val v0 m1) => addO (v0 = v) (K (a.put o.dst v) m1)
    | _ => none
  | some (.op v m1) => addO (iop P a.eval o m = some (.val v m1)) (K (a.put o.dst v) m1)
  | some (.skp m1) => addO (iop P a.eval o m = some (.skip m1)) (K (a.put o.dst undef) m1)
  | some (.load v) => match o.op with
    | .load t x => match a.eval x, isAggT P t, P.info? t with
      | .pointer (some ⟨i, off, none⟩), some false, some _ => addO (m.cell i off = some v) (K (a.put o.dst v) m)
      | _, _, _ => none
    | _ => none
  | some .idx => match o.op with
    | .indexAddr t x y => match P.underlying t, a.eval x, a.eval y with
      | some (.slice e), .slice (some ⟨i, off, none⟩) len _, .int _ k => match P.info? e with
        | some ti => addO (0 ≤ k ∧ k < (len : Int)) (K (a.put o.dst (.pointer (some ⟨i, off + k.toNat * ti.size, none⟩))) m)
        | none => none
      | _, _, _ => none
    | _ => none
  | some .shift => match o.op with
    | .binOp .shl _ x y _ => match a.eval x, a.eval y with
      | .int k n, .int _ b => addO (0 ≤ b) (K (a.put o.dst (.int k (iShl k n b))) m)
      | _, _ => none
    | .binOp .shr _ x y _ => match a.eval x, a.eval y with
      | .int k n, .int _ b => addO (0 ≤ b) (K (a.put o.dst (.int k (iShr k n b))) m)
      | _, _ => none
    | _ => none
  | some (.call v m1) => match iop P a.eval o m with
    | some (.call f args m0) => addO (Cal P f args m0 (.ret v) m1) (K (a.put o.dst v) m1)
    | _ => none
  | some (.pnc v m1) => match iop P a.eval o m with
    | some (.call f args m0) => some (.pnc v, a, m1, Cal P f args m0 (.pnc v) m1)
    | _ => none

def runG (P : Program) (gd : List (Nat × Nat × Ent)) (r : Nat) (ops : Array Oper) : List Nat → Act → M → GR
  | [], a, m => some (.normal, a, m, True)
  | i :: rest, a, m =>
    match ops[i]? with
    | none => none
    | some o =>
      if Region.wanted o (yielded ops a.tmps) then
        if okOp o then stepG P (lookE gd r i) a o m fun a1 m1 => runG P gd r ops rest a1 m1
        else none
      else runG P gd r ops rest (a.put o.dst undef) m

def G (P : Program) (gd : List (Nat × Nat × Ent)) (gl : List (Nat × Lp)) : Nat → Code → Act → M → GR
  | 0, _, _, _ => none
  | n + 1, c, a, m =>
    match c with
    | .skip | .label _ => some (.normal, a, m, True)
    | .exit id => some (.exit id, a, m, True)
    | .ret => some (.ret, a, m, True)
    | .region id ops false => runG P gd id ops (List.range ops.size) a m
    | .seq x y => match G P gd gl n x a m with
      | some (.normal, a1, m1, o) => match G P gd gl n y a1 m1 with
        | some (e, a2, m2, o2) => some (e, a2, m2, o ∧ o2)
        | none => none
      | r => r
    | .cond c x y => if okOperand c then match a.eval c with
      | .bool true => G P gd gl n x a m
      | .bool false => G P gd gl n y a m
      | _ => none
      else none
    | .block id b => match G P gd gl n b a m with
      | some (.exit id', a1, m1, o) => bif Nat.beq id' id then some (.normal, a1, m1, o) else some (.exit id', a1, m1, o)
      | r => r
    | .loop b => match lookL gl (headReg b) with
      | some (e, a1, m1) => some (e, a1, m1, Ev.To P (.loop b) a m e a1 m1)
      | none => none
    | _ => none

theorem iop_shl {P : Program} {m : M} {ev : Operand → Value} {o : Oper} {t u : TypeId} {x y : Operand} {k k' : IntKind} {n b : Int} (ho : o.op = .binOp .shl t x y u) (hx : ev x = .int k n) (hy : ev y = .int k' b) (hb : 0 ≤ b) : iop P ev o m = some (.val (.int k (iShl k n b)) m) := by
  unfold iop
  rw [ho]
  dsimp only
  unfold iflat opFlat
  rw [ho]
  have : ¬ b < 0 := by omega
  simp [Op.operands, hx, hy, flat, execOp, ho, binOp, Op.shift, this, iShl, eqGuard]
  rfl
theorem iop_shr {P : Program} {m : M} {ev : Operand → Value} {o : Oper} {t u : TypeId} {x y : Operand} {k k' : IntKind} {n b : Int} (ho : o.op = .binOp .shr t x y u) (hx : ev x = .int k n) (hy : ev y = .int k' b) (hb : 0 ≤ b) : iop P ev o m = some (.val (.int k (iShr k n b)) m) := by
  unfold iop
  rw [ho]
  dsimp only
  unfold iflat opFlat
  rw [ho]
  have : ¬ b < 0 := by omega
  simp [Op.operands, hx, hy, flat, execOp, ho, binOp, Op.shift, this, iShr, eqGuard]
  rfl

variable {P : Program} {gd : List (Nat × Nat × Ent)} {gl : List (Nat × Lp)}

theorem addO_some {p : Prop} {r : GR} {e : Out} {a : Act} {m : M} {o : Prop} (h : addO p r = some (e, a, m, o)) : ∃ o1, r = some (e, a, m, o1) ∧ (o → p ∧ o1) := by
  unfold addO at h
  split at h
  · cases h; exact ⟨_, rfl, id⟩
  · cases h

theorem Ops.pnc {ops : Array Oper} {l : List Nat} {i : Nat} {o : Oper} {a : Act} {m m1 : M} {v : Value} (ho : ops[i]? = some o) (hw : Region.wanted o (yielded ops a.tmps) = true) (hok : okOp o = true) (hi : iop P a.eval o m = some (.pnc v m1)) : Ops P ops (i :: l) a m (.pnc v) a m1 := by
  refine ⟨0, fun k hk => ?_⟩
  simp only [runOps, ho, hw, hok, hi, if_true]
theorem Ops.call_pnc {ops : Array Oper} {l : List Nat} {i : Nat} {o : Oper} {a : Act} {m m1 : M} {v : Value} {f : FuncId} {args : Array Value} {m0 : M} (ho : ops[i]? = some o) (hw : Region.wanted o (yielded ops a.tmps) = true) (hok : okOp o = true) (hi : iop P a.eval o m = some (.call f args m0)) (hc : Cal P f args m0 (.pnc v) m1) :
    Ops P ops (i :: l) a m (.pnc v) a m1 := by
  obtain ⟨n1, hc⟩ := hc
  refine ⟨n1, fun k hk => ?_⟩
  simp only [runOps, ho, hw, hok, hi, if_true]
  rw [hc k (by omega)]
theorem Ops.call' {ops : Array Oper} {l : List Nat} {i : Nat} {o : Oper} {a a2 : Act} {m m0 m1 m2 : M} {v : Value} {e : Out} {f : FuncId} {args : Array Value} (ho : ops[i]? = some o) (hw : Region.wanted o (yielded ops a.tmps) = true) (hok : okOp o = true) (hi : iop P a.eval o m = some (.call f args m0)) (hc : Cal P f args m0 (.ret v) m1)
    (h : Ops P ops l (a.put o.dst v) m1 e a2 m2) : Ops P ops (i :: l) a m e a2 m2 := by
  obtain ⟨n1, hc⟩ := hc
  obtain ⟨n, h⟩ := h
  refine ⟨n1 + n, fun k hk => ?_⟩
  simp only [runOps, ho, hw, hok, hi, if_true]
  rw [hc k (by omega)]
  exact h k (by omega)
theorem Ops.dfr {ops : Array Oper} {l : List Nat} {i : Nat} {o : Oper} {a a2 : Act} {m m1 m2 : M} {d : Deferred} {e : Out} (ho : ops[i]? = some o) (hw : Region.wanted o (yielded ops a.tmps) = true) (hok : okOp o = true) (hi : iop P a.eval o m = some (.dfr d m1))
    (h : Ops P ops l (({ a with defers := d :: a.defers } : Act).put o.dst undef) m1 e a2 m2) : Ops P ops (i :: l) a m e a2 m2 := by
  obtain ⟨n, h⟩ := h
  refine ⟨n, fun k hk => ?_⟩
  simp only [runOps, ho, hw, hok, hi, if_true]
  exact h k hk

theorem runG_sound {r : Nat} {ops : Array Oper} : ∀ (l : List Nat) {a a1 : Act} {m m1 : M} {e : Out} {o : Prop}, runG P gd r ops l a m = some (e, a1, m1, o) → o → Ops P ops l a m e a1 m1 := by
  intro l
  induction l with
  | nil =>
    intro a a1 m m1 e o h ho
    simp only [runG, Option.some.injEq, Prod.mk.injEq] at h
    obtain ⟨rfl, rfl, rfl, _⟩ := h
    exact Ops.nil
  | cons i rest ih =>
    intro a a1 m m1 e p h hp
    simp only [runG] at h
    split at h
    · cases h
    · rename_i o ho
      split at h
      · rename_i hw
        split at h
        · rename_i hok
          unfold stepG at h
          split at h
          · split at h
            · rename_i v m2 hi; exact Ops.val ho hw hok hi (ih h hp)
            · rename_i m2 hi; exact Ops.skip ho hw hok hi (ih h hp)
            · rename_i d m2 hi; exact Ops.dfr ho hw hok hi (ih h hp)
            · rename_i v m2 hi; cases h; exact Ops.pnc ho hw hok hi
            · cases h
          · split at h
            · rename_i v0 m2 hi
              obtain ⟨o1, h1, h2⟩ := addO_some h
              obtain ⟨h3, h4⟩ := h2 hp
              rw [h3] at hi
              exact Ops.val ho hw hok hi (ih h1 h4)
            · cases h
          · obtain ⟨o1, h1, h2⟩ := addO_some h
            obtain ⟨h3, h4⟩ := h2 hp
            exact Ops.val ho hw hok h3 (ih h1 h4)
          · obtain ⟨o1, h1, h2⟩ := addO_some h
            obtain ⟨h3, h4⟩ := h2 hp
            exact Ops.skip ho hw hok h3 (ih h1 h4)
          · split at h
            · rename_i t x hop
              split at h
              · rename_i i2 off ti hx ht hi
                obtain ⟨o1, h1, h2⟩ := addO_some h
                obtain ⟨h3, h4⟩ := h2 hp
                exact Ops.val ho hw hok (iop_load hop hx ht (by rw [hi]; rfl) h3) (ih h1 h4)
              · cases h
            · cases h
          · split at h
            · rename_i t x y hop
              split at h
              · rename_i e2 i2 off len cap kd k hu hx hy
                split at h
                · rename_i ti hi
                  obtain ⟨o1, h1, h2⟩ := addO_some h
                  obtain ⟨h3, h4⟩ := h2 hp
                  exact Ops.val ho hw hok (iop_indexAddr hop hx hy hu hi h3.1 h3.2) (ih h1 h4)
                · cases h
              · cases h
            · cases h
          · split at h
            · rename_i t x y u hop
              split at h
              · rename_i k n k' b hx hy
                obtain ⟨o1, h1, h2⟩ := addO_some h
                obtain ⟨h3, h4⟩ := h2 hp
                exact Ops.val ho hw hok (iop_shl hop hx hy h3) (ih h1 h4)
              · cases h
            · rename_i t x y u hop
              split at h
              · rename_i k n k' b hx hy
                obtain ⟨o1, h1, h2⟩ := addO_some h
                obtain ⟨h3, h4⟩ := h2 hp
                exact Ops.val ho hw hok (iop_shr hop hx hy h3) (ih h1 h4)
              · cases h
            · cases h
          · split at h
            · rename_i f args m0 hi
              obtain ⟨o1, h1, h2⟩ := addO_some h
              obtain ⟨h3, h4⟩ := h2 hp
              exact Ops.call' ho hw hok hi h3 (ih h1 h4)
            · cases h
          · split at h
            · rename_i f args m0 hi
              cases h
              exact Ops.call_pnc ho hw hok hi hp
            · cases h
        · cases h
      · rename_i hw
        exact Ops.unwanted ho (by simpa using hw) (ih h hp)

theorem G_sound : ∀ (n : Nat) {c : Code} {a a1 : Act} {m m1 : M} {e : Out} {o : Prop}, G P gd gl n c a m = some (e, a1, m1, o) → o → Ev.To P c a m e a1 m1 := by
  intro n
  induction n with
  | zero => intro c a a1 m m1 e o h; cases h
  | succ n ih =>
    intro c a a1 m m1 e o h hp
    cases c with
    | skip => simp only [G, Option.some.injEq, Prod.mk.injEq] at h; obtain ⟨rfl, rfl, rfl, _⟩ := h; exact To.skip
    | label => simp only [G, Option.some.injEq, Prod.mk.injEq] at h; obtain ⟨rfl, rfl, rfl, _⟩ := h; exact To.label
    | exit => simp only [G, Option.some.injEq, Prod.mk.injEq] at h; obtain ⟨rfl, rfl, rfl, _⟩ := h; exact To.exit
    | ret => simp only [G, Option.some.injEq, Prod.mk.injEq] at h; obtain ⟨rfl, rfl, rfl, _⟩ := h; exact To.ret
    | region id ops draw =>
      cases draw with
      | true => simp [G] at h
      | false => simp only [G] at h; exact To.region rfl (runG_sound _ h hp)
    | seq x y =>
      simp only [G] at h
      split at h
      · rename_i a2 m2 o1 h1
        split at h
        · rename_i e3 a3 m3 o3 h3
          cases h
          exact To.seq (ih h1 hp.1) (ih h3 hp.2)
        · cases h
      · rename_i hn
        exact To.seq_out (ih h hp) (by intro he; subst he; exact hn _ _ _ h)
    | cond c x y =>
      simp only [G] at h
      split at h
      · rename_i hok
        split at h
        · rename_i hb; exact To.cond hok hb (ih h hp)
        · rename_i hb; exact To.cond hok hb (ih h hp)
        · cases h
      · cases h
    | block id b =>
      simp only [G] at h
      split at h
      · rename_i id' a2 m2 o1 h1
        cases hq : Nat.beq id' id with
        | true =>
          rw [hq] at h
          simp only [cond_true] at h
          cases h
          have : id' = id := Nat.eq_of_beq_eq_true hq
          subst this
          exact To.block (ih h1 hp)
        | false =>
          rw [hq] at h
          simp only [cond_false] at h
          cases h
          exact To.block_out (ih h1 hp) (by intro he; cases he; exact Nat.ne_of_beq_eq_false hq rfl)
      · rename_i hn
        exact To.block_out (ih h hp) (by intro he; subst he; exact hn _ _ _ _ h)
    | loop b =>
      simp only [G] at h
      split at h
      · cases h; exact hp
      · cases h
    | _ => simp [G] at h

/-! ### What is handed to a guided run -/
theorem vb_true {p : Prop} [Decidable p] (h : p) : Value.bool (decide p) = .bool true := by rw [decide_eq_true h]
theorem vb_false {p : Prop} [Decidable p] (h : ¬ p) : Value.bool (decide p) = .bool false := by rw [decide_eq_false h]
theorem vn_true {b : Bool} (h : b = false) : Value.bool (!b) = .bool true := by rw [h]; rfl
theorem vn_false {b : Bool} (h : b = true) : Value.bool (!b) = .bool false := by rw [h]; rfl
theorem vb {b c : Bool} (h : b = c) : Value.bool b = .bool c := by rw [h]
theorem vi {k : IntKind} {a b : Int} (h : a = b) : Value.int k a = .int k b := by rw [h]
theorem Ev.To.conv {c : Code} {a a' b b' : Act} {m m1 : M} {e : Out} (h : Ev.To P c a m e b m1) (h1 : a' = a) (h2 : b = b') : Ev.To P c a' m e b' m1 := by subst h1; subst h2; exact h

def rNew (P : Program) (c : Array Value) (t : TypeId) (m : M) : Option Res := (m.new c t).map fun (a, m') => .val (.pointer (some a)) m'
def rPair (x : Option (Value × M)) : Option Res := x.map fun (v, m') => .val v m'
def rVal (x : Option Value) (m : M) : Option Res := x.map fun v => .val v m
def rSkip (x : Option M) : Option Res := x.map .skip
theorem rPair_of {x : Option (Value × M)} {v : Value} {m : M} (h : x = some (v, m)) : rPair x = some (.val v m) := by rw [h]; rfl
theorem rVal_of {x : Option Value} {v : Value} {m : M} (h : x = some v) : rVal x m = some (.val v m) := by rw [h]; rfl
theorem rSkip_of {x : Option M} {m : M} (h : x = some m) : rSkip x = some (.skip m) := by rw [h]; rfl

end Go.IM
