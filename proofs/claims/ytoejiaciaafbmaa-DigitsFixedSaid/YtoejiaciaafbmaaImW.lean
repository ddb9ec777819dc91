/- The ideal machine, part W: what code leaves alone; a block more changes nothing. -/
import Derived.Test.YtoejiaciaafbmaaImQ
set_option linter.unusedVariables false
set_option linter.unusedSimpArgs false
namespace Go.IM
open Go Go.RowKit

variable {P : Program}

def CGood (C : CallF) : Prop := ∀ (f : FuncId) (args : Array Value) (m : M) (out : COut) (m1 : M), C f args m = some (out, m1) →
  Fr m m1 ∧ ∀ (k : Nat) (b : Blk), m1.get k = none → m1.nxt ≤ k → C f args (m.set k b) = some (out, m1.set k b)
def EvGood (ev : Ev) : Prop := ∀ (c : Code) (a : Act) (m : M) (e : Out) (a1 : Act) (m1 : M), ev c a m = some (e, a1, m1) →
  Fr m m1 ∧ ∀ (k : Nat) (b : Blk), m1.get k = none → m1.nxt ≤ k → ev c a (m.set k b) = some (e, a1, m1.set k b)

def Tr.put (t : Tr) (k : Nat) (b : Blk) : Tr := Tr.set b (k + 1) k t

theorem runOps_good {C : CallF} (hC : CGood C) (ops : Array Oper) : ∀ (l : List Nat) {a : Act} {m : M} {e : Out} {a1 : Act} {m1 : M}, runOps P C ops l a m = some (e, a1, m1) →
    Fr m m1 ∧ ∀ (k : Nat) (b : Blk), m1.get k = none → m1.nxt ≤ k → runOps P C ops l a (m.set k b) = some (e, a1, m1.set k b) := by
  intro l
  induction l with
  | nil =>
    intro a m e a1 m1 h
    simp only [runOps, Option.some.injEq, Prod.mk.injEq] at h
    obtain ⟨rfl, rfl, rfl⟩ := h
    exact ⟨Fr.refl _, fun k b _ _ => rfl⟩
  | cons i rest ih =>
    intro a m e a1 m1 h
    simp only [runOps] at h ⊢
    cases ho : ops[i]? with
    | none => rw [ho] at h; cases h
    | some o =>
      rw [ho] at h
      dsimp only at h ⊢
      split at h
      · rename_i hw
        split at h
        · rename_i hok
          have step : ∀ {r : Res} (hi : iop P a.eval o m = some r) {a2 : Act}, runOps P C ops rest a2 r.mem = some (e, a1, m1) →
              Fr m m1 ∧ ∀ (k : Nat) (b : Blk), m1.get k = none → m1.nxt ≤ k → iop P a.eval o (m.set k b) = some (r.ins k b) ∧ runOps P C ops rest a2 (r.mem.set k b) = some (e, a1, m1.set k b) := by
            intro r hi a2 hr
            obtain ⟨f1, f2⟩ := ih hr
            refine ⟨(iop_good (k := 0) (b := ⟨.cells #[] 0, 0, false, false, false⟩) hi).1.trans f1, fun k b hk hl => ⟨(iop_good hi).2 (f1.dom k hk) (Nat.le_trans f1.nxt hl), f2 k b hk hl⟩⟩
          cases hi : iop P a.eval o m with
          | none => rw [hi] at h; cases h
          | some r =>
            rw [hi] at h
            cases r with
            | val v m2 =>
              obtain ⟨f1, f2⟩ := step hi h
              refine ⟨f1, fun k b hk hl => ?_⟩
              obtain ⟨g1, g2⟩ := f2 k b hk hl
              rw [if_pos hw, if_pos hok, g1]; exact g2
            | skip m2 =>
              obtain ⟨f1, f2⟩ := step hi h
              refine ⟨f1, fun k b hk hl => ?_⟩
              obtain ⟨g1, g2⟩ := f2 k b hk hl
              rw [if_pos hw, if_pos hok, g1]; exact g2
            | dfr d m2 =>
              obtain ⟨f1, f2⟩ := step hi h
              refine ⟨f1, fun k b hk hl => ?_⟩
              obtain ⟨g1, g2⟩ := f2 k b hk hl
              rw [if_pos hw, if_pos hok, g1]; exact g2
            | call f args m2 =>
              dsimp only at h
              have g0 := fun k b => iop_good (k := k) (b := b) hi
              split at h
              · rename_i v m3 hc
                obtain ⟨f1, f2⟩ := hC _ _ _ _ _ hc
                obtain ⟨f3, f4⟩ := ih h
                refine ⟨((g0 0 ⟨.cells #[] 0, 0, false, false, false⟩).1.trans f1).trans f3, fun k b hk hl => ?_⟩
                have k3 := f3.dom k hk
                have l3 := Nat.le_trans f3.nxt hl
                rw [if_pos hw, if_pos hok, (g0 k b).2 (f1.dom k k3) (Nat.le_trans f1.nxt l3)]
                simp only [Res.ins]
                rw [f2 k b k3 l3]
                exact f4 k b hk hl
              · rename_i v m3 hc
                obtain ⟨f1, f2⟩ := hC _ _ _ _ _ hc
                cases h
                refine ⟨((g0 0 ⟨.cells #[] 0, 0, false, false, false⟩).1.trans f1), fun k b hk hl => ?_⟩
                rw [if_pos hw, if_pos hok, (g0 k b).2 (f1.dom k hk) (Nat.le_trans f1.nxt hl)]
                simp only [Res.ins]
                rw [f2 k b hk hl]
              · cases h
            | pnc v m2 =>
              cases h
              have g0 := fun k b => iop_good (k := k) (b := b) hi
              refine ⟨(g0 0 ⟨.cells #[] 0, 0, false, false, false⟩).1, fun k b hk hl => ?_⟩
              rw [if_pos hw, if_pos hok, (g0 k b).2 hk hl]
              simp only [Res.ins]
        · cases h
      · rename_i hw
        obtain ⟨f1, f2⟩ := ih h
        refine ⟨f1, fun k b hk hl => ?_⟩
        rw [if_neg hw]
        exact f2 k b hk hl

theorem opD_good {C : CallF} (hC : CGood C) {n0 β : Nat} {fl wd : Bool} {o : Oper} {ev : Operand → Value} {k : Nat} {t t' : Tr} {v : Value} {e : Nat} (h : opD P C n0 β fl wd o ev k t = some (v, t', e)) :
    Fr ⟨t, k, if fl then k else β⟩ ⟨t', e, if fl then k else β⟩ ∧ ∀ (k' : Nat) (b : Blk), Tr.get t' (k' + 1) k' = none → e ≤ k' → opD P C n0 β fl wd o ev k (t.put k' b) = some (v, t'.put k' b, e) := by
  unfold opD at h ⊢
  split at h
  · rename_i hw
    split at h
    · rename_i hok
      have g0 := fun {r : Res} (hi : iop P ev o ⟨t, k, if fl then k else β⟩ = some r) k b => iop_good (k := k) (b := b) hi
      have mk : ∀ {m1 : M}, Fr ⟨t, k, if fl then k else β⟩ m1 → Fr ⟨t, k, if fl then k else β⟩ ⟨m1.tr, m1.nxt, if fl then k else β⟩ := by
        intro m1 hf
        have := hf.bar
        dsimp only at this
        rw [← this]; rw [this]; exact ⟨rfl, hf.nxt, hf.dom, hf.wf, hf.look⟩
      split at h
      · rename_i v2 m1 hi
        cases h
        refine ⟨mk (g0 hi 0 ⟨.cells #[] 0, 0, false, false, false⟩).1, fun k' b hk hl => ?_⟩
        rw [if_pos hw, if_pos hok]
        have := (g0 hi k' b).2 hk hl
        change iop P ev o ⟨t.put k' b, k, if fl then k else β⟩ = _ at this
        rw [this]; rfl
      · rename_i m1 hi
        cases h
        refine ⟨mk (g0 hi 0 ⟨.cells #[] 0, 0, false, false, false⟩).1, fun k' b hk hl => ?_⟩
        rw [if_pos hw, if_pos hok]
        have := (g0 hi k' b).2 hk hl
        change iop P ev o ⟨t.put k' b, k, if fl then k else β⟩ = _ at this
        rw [this]; rfl
      · rename_i f args m1 hi
        split at h
        · rename_i v2 m2 hc
          cases h
          obtain ⟨f1, f2⟩ := hC _ _ _ _ _ hc
          refine ⟨mk ((g0 hi 0 ⟨.cells #[] 0, 0, false, false, false⟩).1.trans f1), fun k' b hk hl => ?_⟩
          rw [if_pos hw, if_pos hok]
          have := (g0 hi k' b).2 (f1.dom k' hk) (Nat.le_trans f1.nxt hl)
          change iop P ev o ⟨t.put k' b, k, if fl then k else β⟩ = _ at this
          rw [this]
          simp only [Res.ins]
          rw [f2 k' b hk hl]
          rfl
        · cases h
      · cases h
    · cases h
  · rename_i hw
    cases h
    exact ⟨Fr.refl _, fun k' b _ _ => by rw [if_neg hw]⟩

/-- The bar does not matter where less is asked. -/
theorem Fr.bars {t t' : Tr} {k e β γ : Nat} (h : Fr ⟨t, k, γ⟩ ⟨t', e, γ⟩) (hle : β ≤ γ) (hk : γ ≤ k) : Fr ⟨t, k, β⟩ ⟨t', e, β⟩ :=
  ⟨rfl, h.nxt, h.dom, h.wf, fun w _ i hi => h.look w hk i (Nat.lt_of_lt_of_le hi hle)⟩

theorem runD_good {C : CallF} (hC : CGood C) (ops : Array Oper) {β : Nat} {fl : Nat → Bool} {ff : Nat → Option Nat} : ∀ (l : List Nat) {ss : Nat → Nat} {a : Act} {k : Nat} {t : Tr} {a1 : Act} {k1 : Nat} {t1 : Tr}, β ≤ k → runD P C ops β fl ff l ss a k t = some (a1, k1, t1) →
    Fr ⟨t, k, β⟩ ⟨t1, k1, β⟩ ∧ ∀ (k' : Nat) (b : Blk), Tr.get t1 (k' + 1) k' = none → k1 ≤ k' → runD P C ops β fl ff l ss a k (t.put k' b) = some (a1, k1, t1.put k' b) := by
  intro l
  induction l with
  | nil =>
    intro ss a k t a1 k1 t1 hk h
    simp only [runD, Option.some.injEq, Prod.mk.injEq] at h
    obtain ⟨rfl, rfl, rfl⟩ := h
    exact ⟨Fr.refl _, fun k b _ _ => rfl⟩
  | cons i rest ih =>
    intro ss a k t a1 k1 t1 hk h
    simp only [runD] at h ⊢
    cases ho : ops[i]? with
    | none => rw [ho] at h; cases h
    | some o =>
      rw [ho] at h
      dsimp only at h ⊢
      split at h
      · rename_i v t2 k2 hd
        obtain ⟨g1, g2⟩ := opD_good hC hd
        have hn : k ≤ k2 := g1.nxt
        obtain ⟨f1, f2⟩ := ih (Nat.le_trans hk hn) h
        have g1' : Fr ⟨t, k, β⟩ ⟨t2, k2, β⟩ := g1.bars (by split <;> omega) (by split <;> omega)
        refine ⟨g1'.trans f1, fun k' b hk' hl => ?_⟩
        have f1n : k2 ≤ k1 := f1.nxt
        rw [g2 k' b (f1.dom k' hk') (by omega)]
        exact f2 k' b hk' hl
      · cases h

theorem runDraw_good {C : CallF} (hC : CGood C) (ops : Array Oper) {a : Act} {m : M} {e : Out} {a1 : Act} {m1 : M} (h : runDraw P C ops a m = some (e, a1, m1)) :
    Fr m m1 ∧ ∀ (k : Nat) (b : Blk), m1.get k = none → m1.nxt ≤ k → runDraw P C ops a (m.set k b) = some (e, a1, m1.set k b) := by
  unfold runDraw at h ⊢
  split at h
  · rename_i hok
    dsimp only at h ⊢
    split at h
    · rename_i a2 k1 t1 hr
      cases h
      have hb : m.bar ≤ m.nxt := by simp only [Bool.and_eq_true, decide_eq_true_eq] at hok; exact hok.2
      obtain ⟨f1, f2⟩ := runD_good hC ops _ hb hr
      refine ⟨f1, fun k b hk hl => ?_⟩
      have := f2 k b hk hl
      change runD P C ops m.bar (flagOf P ops (amasks ops.toList [])) (firstFree P ops (amasks ops.toList [])) (List.range ops.size) (fun _ => 0) a m.nxt (m.set k b).tr = _ at this
      rw [if_pos (by exact hok)]
      simp only [M.nxt_set, M.bar_set]
      rw [this]
      rfl
    · cases h
  · cases h

theorem iresult_good {tmps : Array Value} {m : M} {r : ResultVar} {v : Value} {k : Nat} {b : Blk} (hk : m.get k = none) (h : iresult P tmps m r = some v) : iresult P tmps (m.set k b) r = some v := by
  cases r with
  | tmp t => exact h
  | cell a t => exact iload_ins hk h
theorem iresultsL_good {tmps : Array Value} {m : M} {k : Nat} {b : Blk} (hk : m.get k = none) : ∀ (l : List ResultVar) {vs : List Value}, iresultsL P tmps m l = some vs → iresultsL P tmps (m.set k b) l = some vs := by
  intro l
  induction l with
  | nil => intro vs h; exact h
  | cons r l ih =>
    intro vs h
    simp only [iresultsL] at h ⊢
    split at h
    · rename_i v vs0 h1 h2
      cases h
      rw [iresult_good hk h1, ih h2]
    · cases h
theorem iresults_good {fn : Func} {tmps : Array Value} {m : M} {v : Value} {k : Nat} {b : Blk} (hk : m.get k = none) (h : iresults P fn tmps m = some v) : iresults P fn tmps (m.set k b) = some v := by
  unfold iresults at h ⊢
  split at h
  · rename_i v2 h1
    rw [iresultsL_good hk _ h1]; exact h
  · rename_i l hne h1
    rw [iresultsL_good hk _ h1]
    cases h
    split
    · rename_i v3 h3; cases h3; exact absurd rfl (hne v3)
    · rename_i h3; cases h3; rfl
    · rename_i h3; cases h3
  · cases h

theorem callD_good {ev : Ev} (hev : EvGood ev) {f : FuncId} {args : Array Value} {u u1 : DM} {m m1 : M} (h : callD P ev f args u m = some (u1, m1)) :
    Fr m m1 ∧ ∀ (k : Nat) (b : Blk), m1.get k = none → m1.nxt ≤ k → callD P ev f args u (m.set k b) = some (u1, m1.set k b) := by
  unfold callD at h ⊢
  split at h
  · rename_i fn hfn
    split at h
    · rename_i c hc
      split at h
      · cases h
      · rename_i hname
        have key : ∀ (c2 : Code) (a0 : Act) (u2 : DM), (match (ev c2 a0 m, u2) with
            | (some (.normal, a, m1), u1) | (some (.ret, a, m1), u1) => match a.defers, iresults P fn a.tmps m1 with
              | [], some _ => some (settleD u1, m1)
              | _, _ => none
            | _ => none) = some (u1, m1) → Fr m m1 ∧ ∀ (k : Nat) (b : Blk), m1.get k = none → m1.nxt ≤ k → (match (ev c2 a0 (m.set k b), u2) with
            | (some (.normal, a, m1), u1) | (some (.ret, a, m1), u1) => match a.defers, iresults P fn a.tmps m1 with
              | [], some _ => some (settleD u1, m1)
              | _, _ => none
            | _ => none) = some (u1, m1.set k b) := by
          intro c2 a0 u2 h
          cases hr : ev c2 a0 m with
          | none => rw [hr] at h; cases h
          | some p =>
            obtain ⟨e, a, m2⟩ := p
            rw [hr] at h
            obtain ⟨f1, f2⟩ := hev _ _ _ _ _ _ hr
            have fin : (match a.defers, iresults P fn a.tmps m2 with
              | [], some _ => some (settleD u2, m2)
              | _, _ => none) = some (u1, m1) → Fr m m1 ∧ ∀ (k : Nat) (b : Blk), m1.get k = none → m1.nxt ≤ k → m2 = m1 ∧ (match a.defers, iresults P fn a.tmps (m1.set k b) with
              | [], some _ => some (settleD u2, m1.set k b)
              | _, _ => none) = some (u1, m1.set k b) := by
              intro h
              split at h
              · rename_i v hd hv
                cases h
                exact ⟨f1, fun k b hk hl => ⟨rfl, by rw [hd, iresults_good hk hv]⟩⟩
              · cases h
            cases e with
            | normal =>
              obtain ⟨g1, g2⟩ := fin h
              refine ⟨g1, fun k b hk hl => ?_⟩
              obtain ⟨rfl, g3⟩ := g2 k b hk hl
              rw [f2 k b hk hl]; exact g3
            | ret =>
              obtain ⟨g1, g2⟩ := fin h
              refine ⟨g1, fun k b hk hl => ?_⟩
              obtain ⟨rfl, g3⟩ := g2 k b hk hl
              rw [f2 k b hk hl]; exact g3
            | exit id => cases h
            | pnc v => cases h
        cases hrec : recHead c with
        | some p =>
          obtain ⟨d, rest⟩ := p
          rw [hrec] at h
          obtain ⟨g1, g2⟩ := key _ _ _ h
          refine ⟨g1, fun k b hk hl => ?_⟩
          rw [if_neg hname]
          exact g2 k b hk hl
        | none =>
          rw [hrec] at h
          obtain ⟨g1, g2⟩ := key _ _ _ h
          refine ⟨g1, fun k b hk hl => ?_⟩
          rw [if_neg hname]
          exact g2 k b hk hl
    · cases h
  · cases h

theorem leave_good {ev : Ev} (hev : EvGood ev) {fn : Func} {tmps : Array Value} : ∀ (ds : List Deferred) {u : DM} {m m1 : M} {out : COut}, leave P ev fn tmps ds u m = some (out, m1) →
    Fr m m1 ∧ ∀ (k : Nat) (b : Blk), m1.get k = none → m1.nxt ≤ k → leave P ev fn tmps ds u (m.set k b) = some (out, m1.set k b) := by
  intro ds
  induction ds with
  | nil =>
    intro u m m1 out h
    cases u with
    | ret =>
      simp only [leave, Option.map_eq_some_iff, Prod.mk.injEq] at h ⊢
      obtain ⟨v, hv, rfl, rfl⟩ := h
      exact ⟨Fr.refl _, fun k b hk hl => ⟨v, iresults_good hk hv, rfl, rfl⟩⟩
    | pan v r =>
      cases r with
      | true => simp [leave] at h
      | false =>
        simp only [leave, Option.some.injEq, Prod.mk.injEq] at h
        obtain ⟨rfl, rfl⟩ := h
        exact ⟨Fr.refl _, fun k b hk hl => rfl⟩
  | cons d ds ih =>
    intro u m m1 out h
    simp only [leave] at h ⊢
    split at h
    · rename_i q cap ht
      split at h
      · rename_i u1 m2 hc
        obtain ⟨f1, f2⟩ := callD_good hev hc
        obtain ⟨f3, f4⟩ := ih h
        refine ⟨f1.trans f3, fun k b hk hl => ?_⟩
        rw [f2 k b (f3.dom k hk) (Nat.le_trans f3.nxt hl)]
        exact f4 k b hk hl
      · cases h
    · cases h

theorem callF_good {ev : Ev} (hev : EvGood ev) : CGood (callF P ev) := by
  intro f args m out m1 h
  unfold callF at h ⊢
  split at h
  · rename_i fn hfn
    split at h
    · rename_i c hc
      cases hr : ev c (frame fn args) m with
      | none => rw [hr] at h; cases h
      | some p =>
        obtain ⟨e, a, m2⟩ := p
        rw [hr] at h
        obtain ⟨f1, f2⟩ := hev _ _ _ _ _ _ hr
        cases e with
        | normal | ret | pnc =>
          obtain ⟨f3, f4⟩ := leave_good hev _ h
          refine ⟨f1.trans f3, fun k b hk hl => ?_⟩
          rw [f2 k b (f3.dom k hk) (Nat.le_trans f3.nxt hl)]
          exact f4 k b hk hl
        | exit => cases h
    · cases h
  · cases h

theorem E_good : ∀ (n : Nat), EvGood (E P n) := by
  intro n
  induction n with
  | zero => intro c a m e a1 m1 h; simp [E] at h
  | succ n ih =>
    have two : ∀ {c1 c2 : Code} {a a2 : Act} {m m2 m1 : M} {e e2 : Out} {a1 : Act}, E P n c1 a m = some (e2, a2, m2) → E P n c2 a2 m2 = some (e, a1, m1) →
        Fr m m1 ∧ ∀ (k : Nat) (b : Blk), m1.get k = none → m1.nxt ≤ k → E P n c1 a (m.set k b) = some (e2, a2, m2.set k b) ∧ E P n c2 a2 (m2.set k b) = some (e, a1, m1.set k b) := by
      intro c1 c2 a a2 m m2 m1 e e2 a1 h1 h2
      obtain ⟨f1, f2⟩ := ih _ _ _ _ _ _ h1
      obtain ⟨f3, f4⟩ := ih _ _ _ _ _ _ h2
      exact ⟨f1.trans f3, fun k b hk hl => ⟨f2 k b (f3.dom k hk) (Nat.le_trans f3.nxt hl), f4 k b hk hl⟩⟩
    intro c a m e a1 m1 h
    cases c with
    | skip => simp only [E, Option.some.injEq, Prod.mk.injEq] at h ⊢; obtain ⟨rfl, rfl, rfl⟩ := h; exact ⟨Fr.refl _, fun k b _ _ => ⟨rfl, rfl, rfl⟩⟩
    | label l => simp only [E, Option.some.injEq, Prod.mk.injEq] at h ⊢; obtain ⟨rfl, rfl, rfl⟩ := h; exact ⟨Fr.refl _, fun k b _ _ => ⟨rfl, rfl, rfl⟩⟩
    | exit id => simp only [E, Option.some.injEq, Prod.mk.injEq] at h ⊢; obtain ⟨rfl, rfl, rfl⟩ := h; exact ⟨Fr.refl _, fun k b _ _ => ⟨rfl, rfl, rfl⟩⟩
    | ret => simp only [E, Option.some.injEq, Prod.mk.injEq] at h ⊢; obtain ⟨rfl, rfl, rfl⟩ := h; exact ⟨Fr.refl _, fun k b _ _ => ⟨rfl, rfl, rfl⟩⟩
    | region id ops draw =>
      simp only [E] at h ⊢
      cases draw with
      | true => exact runDraw_good (callF_good ih) ops h
      | false => exact runOps_good (callF_good ih) ops _ h
    | seq x y =>
      simp only [E] at h ⊢
      split at h
      · rename_i a2 m2 hb
        obtain ⟨f1, f2⟩ := two hb h
        refine ⟨f1, fun k b hk hl => ?_⟩
        obtain ⟨g1, g2⟩ := f2 k b hk hl
        rw [g1]; exact g2
      · rename_i hn
        obtain ⟨f1, f2⟩ := ih _ _ _ _ _ _ h
        refine ⟨f1, fun k b hk hl => ?_⟩
        rw [f2 k b hk hl]
        cases e with
        | normal => exact absurd h (hn a1 m1)
        | _ => rfl
    | loop y =>
      simp only [E] at h ⊢
      split at h
      · rename_i a2 m2 hb
        obtain ⟨f1, f2⟩ := two hb h
        refine ⟨f1, fun k b hk hl => ?_⟩
        obtain ⟨g1, g2⟩ := f2 k b hk hl
        rw [g1]; exact g2
      · rename_i hn
        obtain ⟨f1, f2⟩ := ih _ _ _ _ _ _ h
        refine ⟨f1, fun k b hk hl => ?_⟩
        rw [f2 k b hk hl]
        cases e with
        | normal => exact absurd h (hn a1 m1)
        | _ => rfl
    | cond c x y =>
      simp only [E] at h ⊢
      split at h
      · rename_i hok
        simp only [hok, if_true]
        split at h
        · rename_i bb hb
          exact ih _ _ _ _ _ _ h
        · cases h
      · cases h
    | block id y =>
      simp only [E] at h ⊢
      split at h
      · rename_i id' a2 m2 hb
        obtain ⟨f1, f2⟩ := ih _ _ _ _ _ _ hb
        split at h
        · rename_i hid
          cases h
          exact ⟨f1, fun k b hk hl => by rw [f2 k b hk hl]; dsimp only; rw [if_pos hid]⟩
        · rename_i hid
          cases h
          exact ⟨f1, fun k b hk hl => by rw [f2 k b hk hl]; dsimp only; rw [if_neg hid]⟩
      · rename_i hn
        obtain ⟨f1, f2⟩ := ih _ _ _ _ _ _ h
        refine ⟨f1, fun k b hk hl => ?_⟩
        rw [f2 k b hk hl]
        cases e with
        | exit id' => exact absurd h (hn id' a1 m1)
        | _ => rfl
    | _ => simp [E] at h

end Go.IM
