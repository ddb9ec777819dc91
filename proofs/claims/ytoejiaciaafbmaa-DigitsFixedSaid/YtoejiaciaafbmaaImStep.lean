/- The ideal machine: steps, one by one. -/
import Derived.Test.YtoejiaciaafbmaaImRow
set_option linter.unusedVariables false
namespace Go.IM
open Go Go.RowKit

variable {P : Program}

def Ev.To (P : Program) (c : Code) (a : Act) (m : M) (e : Out) (a1 : Act) (m1 : M) : Prop := ∃ n, ∀ k, n ≤ k → E P k c a m = some (e, a1, m1)
def Cal (P : Program) (f : FuncId) (args : Array Value) (m : M) (out : COut) (m1 : M) : Prop := ∃ n, ∀ k, n ≤ k → callF P (E P k) f args m = some (out, m1)
def Ops (P : Program) (ops : Array Oper) (l : List Nat) (a : Act) (m : M) (e : Out) (a1 : Act) (m1 : M) : Prop := ∃ n, ∀ k, n ≤ k → runOps P (callF P (E P k)) ops l a m = some (e, a1, m1)

variable {a a1 a2 : Act} {m m1 m2 : M} {e : Out} {c x y : Code} {id : Nat}

theorem To.skip : Ev.To P .skip a m .normal a m := ⟨1, fun k hk => by obtain ⟨k, rfl⟩ : ∃ j, k = j + 1 := ⟨k - 1, by omega⟩; rfl⟩
theorem To.label {l : Nat} : Ev.To P (.label l) a m .normal a m := ⟨1, fun k hk => by obtain ⟨k, rfl⟩ : ∃ j, k = j + 1 := ⟨k - 1, by omega⟩; rfl⟩
theorem To.exit : Ev.To P (.exit id) a m (.exit id) a m := ⟨1, fun k hk => by obtain ⟨k, rfl⟩ : ∃ j, k = j + 1 := ⟨k - 1, by omega⟩; rfl⟩
theorem To.ret : Ev.To P .ret a m .ret a m := ⟨1, fun k hk => by obtain ⟨k, rfl⟩ : ∃ j, k = j + 1 := ⟨k - 1, by omega⟩; rfl⟩
theorem To.seq (h : Ev.To P x a m .normal a1 m1) (h2 : Ev.To P y a1 m1 e a2 m2) : Ev.To P (.seq x y) a m e a2 m2 := by
  obtain ⟨n1, h⟩ := h
  obtain ⟨n2, h2⟩ := h2
  refine ⟨n1 + n2 + 1, fun k hk => ?_⟩
  obtain ⟨k, rfl⟩ : ∃ j, k = j + 1 := ⟨k - 1, by omega⟩
  simp only [E]
  rw [h k (by omega)]
  exact h2 k (by omega)
theorem To.seq_out (h : Ev.To P x a m e a1 m1) (he : e ≠ .normal) : Ev.To P (.seq x y) a m e a1 m1 := by
  obtain ⟨n1, h⟩ := h
  refine ⟨n1 + 1, fun k hk => ?_⟩
  obtain ⟨k, rfl⟩ : ∃ j, k = j + 1 := ⟨k - 1, by omega⟩
  simp only [E]
  rw [h k (by omega)]
  cases e <;> first | rfl | exact absurd rfl he
theorem To.cond {o : Operand} {b : Bool} (hok : okOperand o = true) (hb : a.eval o = .bool b) (h : Ev.To P (if b then x else y) a m e a1 m1) : Ev.To P (.cond o x y) a m e a1 m1 := by
  obtain ⟨n1, h⟩ := h
  refine ⟨n1 + 1, fun k hk => ?_⟩
  obtain ⟨k, rfl⟩ : ∃ j, k = j + 1 := ⟨k - 1, by omega⟩
  simp only [E]
  rw [hok, hb]
  exact h k (by omega)
theorem To.block (h : Ev.To P x a m (.exit id) a1 m1) : Ev.To P (.block id x) a m .normal a1 m1 := by
  obtain ⟨n1, h⟩ := h
  refine ⟨n1 + 1, fun k hk => ?_⟩
  obtain ⟨k, rfl⟩ : ∃ j, k = j + 1 := ⟨k - 1, by omega⟩
  simp only [E]
  rw [h k (by omega)]
  simp
theorem To.block_out (h : Ev.To P x a m e a1 m1) (he : e ≠ .exit id) : Ev.To P (.block id x) a m e a1 m1 := by
  obtain ⟨n1, h⟩ := h
  refine ⟨n1 + 1, fun k hk => ?_⟩
  obtain ⟨k, rfl⟩ : ∃ j, k = j + 1 := ⟨k - 1, by omega⟩
  simp only [E]
  rw [h k (by omega)]
  cases e <;> first | rfl | skip
  rename_i id'
  dsimp only
  rw [if_neg]
  intro h2; exact he (by rw [h2])
theorem To.loop (h : Ev.To P x a m .normal a1 m1) (h2 : Ev.To P (.loop x) a1 m1 e a2 m2) : Ev.To P (.loop x) a m e a2 m2 := by
  obtain ⟨n1, h⟩ := h
  obtain ⟨n2, h2⟩ := h2
  refine ⟨n1 + n2 + 1, fun k hk => ?_⟩
  obtain ⟨k, rfl⟩ : ∃ j, k = j + 1 := ⟨k - 1, by omega⟩
  simp only [E]
  rw [h k (by omega)]
  exact h2 k (by omega)
theorem To.loop_out (h : Ev.To P x a m e a1 m1) (he : e ≠ .normal) : Ev.To P (.loop x) a m e a1 m1 := by
  obtain ⟨n1, h⟩ := h
  refine ⟨n1 + 1, fun k hk => ?_⟩
  obtain ⟨k, rfl⟩ : ∃ j, k = j + 1 := ⟨k - 1, by omega⟩
  simp only [E]
  rw [h k (by omega)]
  cases e <;> first | rfl | exact absurd rfl he
theorem To.region {ops : Array Oper} {l : List Nat} (hl : List.range ops.size = l) (h : Ops P ops l a m e a1 m1) : Ev.To P (.region id ops false) a m e a1 m1 := by
  obtain ⟨n1, h⟩ := h
  refine ⟨n1 + 1, fun k hk => ?_⟩
  obtain ⟨k, rfl⟩ : ∃ j, k = j + 1 := ⟨k - 1, by omega⟩
  simp only [E]
  rw [hl]
  exact h k (by omega)

section ops
variable {ops : Array Oper} {l l1 l2 : List Nat} {i : Nat} {o : Oper} {v : Value}

theorem Ops.nil : Ops P ops [] a m .normal a m := ⟨0, fun k _ => rfl⟩
theorem runOps_append (C : CallF) : ∀ (l1 l2 : List Nat) {a a1 : Act} {m m1 : M}, runOps P C ops l1 a m = some (.normal, a1, m1) → runOps P C ops (l1 ++ l2) a m = runOps P C ops l2 a1 m1 := by
  intro l1
  induction l1 with
  | nil => intro l2 a a1 m m1 h; simp only [runOps, Option.some.injEq, Prod.mk.injEq] at h; obtain ⟨_, rfl, rfl⟩ := h; rfl
  | cons i l1 ih =>
    intro l2 a a1 m m1 h
    simp only [List.cons_append, runOps] at h ⊢
    split at h
    · cases h
    · rename_i o ho
      split at h
      · rename_i hw
        rw [if_pos hw]
        split at h
        · rename_i hok
          rw [if_pos hok]
          split at h
          · rename_i v m2 hi; exact ih l2 h
          · rename_i m2 hi; exact ih l2 h
          · rename_i d m2 hi; exact ih l2 h
          · rename_i f args m2 hi
            split at h
            · rename_i v m3 hc; exact ih l2 h
            · cases h
            · cases h
          · cases h
          · cases h
        · cases h
      · rename_i hw
        rw [if_neg hw]
        exact ih l2 h
/-- What calls nothing. -/
theorem Ops.pure (hs : ∀ C, runOps P C ops l1 a m = some (.normal, a1, m1)) (h : Ops P ops l2 a1 m1 e a2 m2) : Ops P ops (l1 ++ l2) a m e a2 m2 := by
  obtain ⟨n, h⟩ := h
  exact ⟨n, fun k hk => by rw [runOps_append _ _ _ (hs _)]; exact h k hk⟩
theorem Ops.pure_all (hs : ∀ C, runOps P C ops l a m = some (.normal, a1, m1)) : Ops P ops l a m .normal a1 m1 := ⟨0, fun k hk => hs _⟩
theorem Ops.val (ho : ops[i]? = some o) (hw : Region.wanted o (yielded ops a.tmps) = true) (hok : okOp o = true) (hi : iop P a.eval o m = some (.val v m1)) (h : Ops P ops l (a.put o.dst v) m1 e a2 m2) : Ops P ops (i :: l) a m e a2 m2 := by
  obtain ⟨n, h⟩ := h
  refine ⟨n, fun k hk => ?_⟩
  simp only [runOps, ho, hw, hok, hi, if_true]
  exact h k hk
theorem Ops.skip (ho : ops[i]? = some o) (hw : Region.wanted o (yielded ops a.tmps) = true) (hok : okOp o = true) (hi : iop P a.eval o m = some (.skip m1)) (h : Ops P ops l (a.put o.dst undef) m1 e a2 m2) : Ops P ops (i :: l) a m e a2 m2 := by
  obtain ⟨n, h⟩ := h
  refine ⟨n, fun k hk => ?_⟩
  simp only [runOps, ho, hw, hok, hi, if_true]
  exact h k hk
theorem Ops.unwanted (ho : ops[i]? = some o) (hw : Region.wanted o (yielded ops a.tmps) = false) (h : Ops P ops l (a.put o.dst undef) m e a2 m2) : Ops P ops (i :: l) a m e a2 m2 := by
  obtain ⟨n, h⟩ := h
  refine ⟨n, fun k hk => ?_⟩
  simp only [runOps, ho, hw]
  exact h k hk
theorem Ops.call {f : FuncId} {args : Array Value} (ho : ops[i]? = some o) (hw : Region.wanted o (yielded ops a.tmps) = true) (hok : okOp o = true) (hi : iop P a.eval o m = some (.call f args m)) (hc : Cal P f args m (.ret v) m1)
    (h : Ops P ops l (a.put o.dst v) m1 e a2 m2) : Ops P ops (i :: l) a m e a2 m2 := by
  obtain ⟨n1, hc⟩ := hc
  obtain ⟨n, h⟩ := h
  refine ⟨n1 + n, fun k hk => ?_⟩
  simp only [runOps, ho, hw, hok, hi, if_true]
  rw [hc k (by omega)]
  exact h k (by omega)
end ops

theorem Cal.ret {f : FuncId} {fn : Func} {args : Array Value} {v : Value} (hf : P.funcs[f]? = some fn) (hb : fn.body = some c) (h : Ev.To P c (frame fn args) m e a m1) (he : e = .normal ∨ e = .ret) (hd : a.defers = []) (hr : iresults P fn a.tmps m1 = some v) :
    Cal P f args m (.ret v) m1 := by
  obtain ⟨n, h⟩ := h
  refine ⟨n, fun k hk => ?_⟩
  unfold callF
  rw [hf]; dsimp only; rw [hb]; dsimp only; rw [h k hk]
  rcases he with rfl | rfl <;> (dsimp only; rw [hd]; simp only [leave, hr]; rfl)

theorem Cal.law {f : FuncId} {args : Array Value} (h : Cal P f args m (.ret (.bool true)) m1) : ∃ n m1, callF P (E P n) f args m = some (.ret (.bool true), m1) := by
  obtain ⟨n, h⟩ := h
  exact ⟨n, m1, h n (Nat.le_refl _)⟩

/-- A region of a function's code. -/
def regsOf : Code → List (Nat × Array Oper)
  | .region id ops _ => [(id, ops)]
  | .seq x y => regsOf x ++ regsOf y
  | .cond _ x y => regsOf x ++ regsOf y
  | .block _ x => regsOf x
  | .loop x => regsOf x
  | _ => []
def regOf (fn : Func) (id : Nat) : Array Oper :=
  match fn.body with
  | some c => (((regsOf c).find? fun p => p.1 == id).map (·.2)).getD #[]
  | none => #[]

/-! ### What memory does -/
theorem iop_load {ev : Operand → Value} {o : Oper} {t : TypeId} {x : Operand} {v : Value} {i off : Nat} (ho : o.op = .load t x) (hx : ev x = .pointer (some ⟨i, off, none⟩)) (ht : isAggT P t = some false) (hi : (P.info? t).isSome = true) (h : m.cell i off = some v) :
    iop P ev o m = some (.val v m) := by
  unfold iop
  rw [ho]
  dsimp only
  unfold iload
  rw [hx, ht]
  cases hq : P.info? t with
  | none => rw [hq] at hi; cases hi
  | some ti => simp [h]
theorem iop_indexAddr {ev : Operand → Value} {o : Oper} {t e : TypeId} {ti : TypeInfo} {x y : Operand} {i off len cap : Nat} {kd : IntKind} {k : Int} (ho : o.op = .indexAddr t x y) (hx : ev x = .slice (some ⟨i, off, none⟩) len cap) (hy : ev y = .int kd k) (hu : P.underlying t = some (.slice e))
    (hi : P.info? e = some ti) (h0 : 0 ≤ k) (h1 : k < len) : iop P ev o m = some (.val (.pointer (some ⟨i, off + k.toNat * ti.size, none⟩)) m) := by
  unfold iop
  rw [ho]
  dsimp only
  unfold iindexAddr
  rw [hx, hy, hu]
  simp only [hi]
  rw [if_pos ⟨h0, h1⟩]
  rfl

end Go.IM
