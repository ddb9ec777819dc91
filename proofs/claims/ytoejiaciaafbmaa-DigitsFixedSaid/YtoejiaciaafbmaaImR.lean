/- The ideal machine, part R: code and calls are sound. -/
import Derived.Test.YtoejiaciaafbmaaImX
namespace Go.IM
open Go Go.RowKit

variable {P : Program} {B : Nat} {w0 : World}

/-- Deferred calls, one by one. -/
def DefsRel (ρ : Ren) : List Deferred → List Deferred → Prop
  | [], [] => True
  | d :: l, d' :: l' => DefRel ρ d d' ∧ DefsRel ρ l l'
  | _, _ => False
theorem DefsRel.mono {ρ ρ' : Ren} (hr : ρ.le ρ') : ∀ {l l' : List Deferred}, DefsRel ρ l l' → DefsRel ρ' l l'
  | [], [], _ => trivial
  | _ :: _, _ :: _, h => ⟨h.1.mono hr, h.2.mono hr⟩

def ActRel (ρ : Ren) (a a' : Act) : Prop := VsRel ρ a.tmps a'.tmps ∧ DefsRel ρ a.defers a'.defers
theorem ActRel.mono {ρ ρ' : Ren} (hr : ρ.le ρ') {a a' : Act} (h : ActRel ρ a a') : ActRel ρ' a a' := ⟨h.1.mono hr, h.2.mono hr⟩
theorem ActRel.put {ρ : Ren} {a a' : Act} (h : ActRel ρ a a') (d : Option Tmp) {v v' : Value} (hv : VRel ρ v v') : ActRel ρ (a.put d v) (a'.put d v') := by
  cases d with
  | none => exact h
  | some d => exact ⟨h.1.set d hv, h.2⟩
theorem ActRel.eval {ρ : Ren} {a a' : Act} (h : ActRel ρ a a') {x : Operand} (hx : okOperand x = true) : VRel ρ (a.eval x) (a'.eval x) := by
  cases x with
  | tmp t =>
    have := h.1.getD t (VRel.undef ρ)
    exact this
  | const v => exact flat_rel ρ 4 v hx
  | global g => simp [okOperand] at hx
  | func f => exact .func _ rfl rfl rfl (fun i x y hx => by simp at hx) (fun i x y hx => by simp at hx)

inductive OutRel (ρ : Ren) : Out → Exit → Prop
  | normal : OutRel ρ .normal .normal
  | exit (id : Nat) : OutRel ρ (.exit id) (.exit id)
  | ret : OutRel ρ .ret .ret
  | pnc {v v' : Value} (h : VRel ρ v v') : OutRel ρ (.pnc v) (.panic [{ v := v', recovered := false }])

inductive EndRel (ρ : Ren) : COut → Ending → Prop
  | ret {v v' : Value} (h : VRel ρ v v') : EndRel ρ (.ret v) (.returned v')
  | pnc {v v' : Value} (h : VRel ρ v v') : EndRel ρ (.pnc v) (.panicked [{ v := v', recovered := false }])

def CallOK (P : Program) (B : Nat) (w0 : World) (C : CallF) : Prop :=
  ∀ (ρ : Ren) (m : M) (w : World) (f : FuncId) (args args' : Array Value) (out : COut) (m1 : M), Inv P B w0 ρ m w → Wf m → VsRel ρ args args' → C f args m = some (out, m1) →
    Calls P f args' w fun e w' => ∃ ρ', ρ.le ρ' ∧ Inv P B w0 ρ' m1 w' ∧ EndRel ρ' out e

/-- What the machine comes to is what the ideal one does. -/
def Meets (P : Program) (B : Nat) (w0 : World) (ρ : Ren) (e : Out) (a1 : Act) (m1 : M) (Q : Exit → Act → World → Prop) : Prop :=
  ∀ (ρ' : Ren) (x : Exit) (a1' : Act) (w' : World), ρ.le ρ' → Inv P B w0 ρ' m1 w' → ActRel ρ' a1 a1' → OutRel ρ' e x → Q x a1' w'
theorem Meets.mono {ρ ρ' : Ren} (hr : ρ.le ρ') {e : Out} {a1 : Act} {m1 : M} {Q : Exit → Act → World → Prop} (h : Meets P B w0 ρ e a1 m1 Q) : Meets P B w0 ρ' e a1 m1 Q :=
  fun ρ2 x a w hle => h ρ2 x a w (Ren.le_trans hr hle)

theorem yielded_rel {ρ : Ren} {a a' : Act} (h : ActRel ρ a a') (ops : Array Oper) : yielded ops a'.tmps = yielded ops a.tmps := by
  funext j
  unfold yielded
  cases hd : (ops[j]?).bind (·.dst) with
  | none => rfl
  | some d =>
    simp only [Option.bind_some]
    cases hx : a.tmps[d]? with
    | none =>
      have : a'.tmps[d]? = none := by
        rw [Array.getElem?_eq_none_iff] at hx ⊢
        rw [← h.1.1]; exact hx
      rw [this]
    | some x =>
      obtain ⟨y, hy, hv⟩ := h.1.get hx
      rw [hy]
      cases hv <;> rfl

theorem runOps_sound {C : CallF} (hC : CallOK P B w0 C) (hCg : CGood C) (ops : Array Oper) : ∀ (l : List Nat) {ρ : Ren} {m : M} {w : World} {a a' : Act} {e : Out} {a1 : Act} {m1 : M} {Q : Exit → Act → World → Prop},
    Inv P B w0 ρ m w → Wf m → ActRel ρ a a' → runOps P C ops l a m = some (e, a1, m1) → Meets P B w0 ρ e a1 m1 Q → wpOps P ops Q l a' w := by
  intro l
  induction l with
  | nil =>
    intro ρ m w a a' e a1 m1 Q hI hW hA hr hQ
    simp only [runOps, Option.some.injEq, Prod.mk.injEq] at hr
    obtain ⟨rfl, rfl, rfl⟩ := hr
    exact hQ ρ _ a' w (Ren.le_refl _) hI hA .normal
  | cons i rest ih =>
    intro ρ m w a a' e a1 m1 Q hI hW hA hr hQ
    simp only [runOps] at hr
    simp only [wpOps]
    cases ho : ops[i]? with
    | none => rw [ho] at hr; cases hr
    | some o =>
      rw [ho] at hr
      dsimp only at hr ⊢
      rw [yielded_rel hA]
      split at hr
      · rename_i hw
        rw [if_pos hw]
        left
        split at hr
        · rename_i hok
          have hev : ∀ x ∈ o.op.operands, VRel ρ (a.eval x) (a'.eval x) := by
            intro x hx
            unfold okOp at hok
            rw [Array.all_eq_true'] at hok
            exact hA.eval (hok x hx)
          cases hi : iop P a.eval o m with
          | none => rw [hi] at hr; cases hr
          | some r =>
            rw [hi] at hr
            have hs := iop_sound hI hev hi
            have hW1 : Wf r.mem := (iop_good (k := 0) (b := ⟨.cells #[] 0, 0, false, false, false⟩) hi).1.wf hW
            unfold Oper.wp
            cases r with
            | val v m2 =>
              obtain ⟨v', w', ρ', h1, h2, h3, h4⟩ := hs
              rw [h1, Oper.upon_value]
              exact ih h3 hW1 ((hA.mono h2).put _ h4) hr (hQ.mono h2)
            | skip m2 =>
              obtain ⟨w', ρ', h1, h2, h3⟩ := hs
              rw [h1, Oper.upon_skip]
              exact ih h3 hW1 ((hA.mono h2).put _ (VRel.undef _)) hr (hQ.mono h2)
            | dfr d m2 =>
              obtain ⟨d', h1, h3, h4⟩ := hs
              rw [h1, Oper.upon_defer]
              exact ih h3 hW1 (ActRel.put (a := { a with defers := d :: a.defers }) (a' := { a' with defers := d' :: a'.defers }) ⟨hA.1, h4, hA.2⟩ _ (VRel.undef _)) hr hQ
            | call f args m2 =>
              obtain ⟨args', h1, h3, h4⟩ := hs
              rw [h1, Oper.upon_enter]
              dsimp only at hr
              split at hr
              · rename_i v m3 hc
                have hW2 : Wf m3 := (hCg _ _ _ _ _ hc).1.wf hW1
                refine (hC ρ m2 w f args args' _ m3 h3 hW1 h4 hc).mono ?_
                rintro en w' ⟨ρ', k1, k2, k3⟩
                cases k3
                exact ih k2 hW2 ((hA.mono k1).put _ ‹_›) hr (hQ.mono k1)
              · rename_i v m3 hc
                have hW2 : Wf m3 := (hCg _ _ _ _ _ hc).1.wf hW1
                refine (hC ρ m2 w f args args' _ m3 h3 hW1 h4 hc).mono ?_
                rintro en w' ⟨ρ', k1, k2, k3⟩
                cases k3
                cases hr
                exact hQ ρ' _ a' w' k1 k2 (hA.mono k1) (.pnc ‹_›)
              · cases hr
            | pnc v m2 =>
              obtain ⟨v', h1, h3, h4⟩ := hs
              rw [h1, Oper.upon_panic]
              cases hr
              exact hQ ρ _ a' w (Ren.le_refl _) h3 hA (.pnc h4)
        · cases hr
      · rename_i hw
        rw [if_neg hw]
        exact ih hI hW (hA.put _ (VRel.undef _)) hr hQ

def EvOK (P : Program) (B : Nat) (w0 : World) (ev : Ev) : Prop :=
  ∀ (ρ : Ren) (m : M) (w : World) (c : Code) (a a' : Act) (e : Out) (a1 : Act) (m1 : M) (Q : Exit → Act → World → Prop), Inv P B w0 ρ m w → Wf m → ActRel ρ a a' → ev c a m = some (e, a1, m1) → Meets P B w0 ρ e a1 m1 Q → c.wp P Q a' w

/-! ### What a function hands back -/
def resOne (tmps' : Array Value) : ResultVar → Sem Value
  | .tmp t => pure (tmps'.getD t undef)
  | .cell a t => do loadVar t (← asAddr (tmps'.getD a undef))
theorem results_eq (fn : Func) (tmps' : Array Value) : results fn tmps' = (do let vs ← fn.results.mapM (resOne tmps'); pure (if h : vs.size = 1 then vs[0] else .tuple vs)) := by
  unfold results
  have : (fun r => match r with | .tmp t => pure (tmps'.getD t undef) | .cell a t => do loadVar t (← asAddr (tmps'.getD a undef)) : ResultVar → Sem Value) = resOne tmps' := by
    funext r; cases r <;> rfl
  rw [← this]
  rfl

theorem iresult_sound {ρ : Ren} {m : M} {w : World} (hI : Inv P B w0 ρ m w) {tmps tmps' : Array Value} (ht : VsRel ρ tmps tmps') (r : ResultVar) {v : Value} (h : iresult P tmps m r = some v) :
    ∃ v', (resOne tmps' r).run P w = .ok v' w ∧ VRel ρ v v' := by
  cases r with
  | tmp t =>
    simp only [iresult, Option.some.injEq] at h
    subst h
    exact ⟨_, rfl, ht.getD t (VRel.undef ρ)⟩
  | cell a t =>
    simp only [iresult] at h
    have hv := ht.getD a (VRel.undef ρ)
    obtain ⟨v', h1, h2⟩ := load_sound hI hv h
    refine ⟨v', ?_, h2⟩
    rw [← h1]
    unfold resOne
    dsimp only
    unfold iload at h
    split at h
    · rename_i i o hq
      rw [hq] at hv
      generalize tmps'.getD a undef = q at hv h1 ⊢
      cases hv
      simp [Instr.loadAt, Instr.sureAddr, asAddr]
    · cases h

theorem run_mapM_list {α β : Type} (f : α → Sem β) (w : World) : ∀ (l : List α) (vs : List β), l.length = vs.length → (∀ (i : Nat) (x : α) (v : β), l[i]? = some x → vs[i]? = some v → (f x).run P w = .ok v w) →
    (l.mapM f).run P w = .ok vs w := by
  intro l
  induction l with
  | nil => intro vs hl h; cases vs with
    | nil => simp [List.mapM_nil]
    | cons => simp at hl
  | cons x l ih =>
    intro vs hl h
    cases vs with
    | nil => simp at hl
    | cons v vs =>
      simp only [List.mapM_cons, Sem.run_bind, h 0 x v rfl rfl, Result.andThen_ok]
      rw [ih vs (by simpa using hl) (fun i y u hy hu => h (i + 1) y u (by simpa using hy) (by simpa using hu))]
      rfl

theorem iresultsL_sound {ρ : Ren} {m : M} {w : World} (hI : Inv P B w0 ρ m w) {tmps tmps' : Array Value} (ht : VsRel ρ tmps tmps') : ∀ (l : List ResultVar) {vs : List Value}, iresultsL P tmps m l = some vs →
    ∃ vs' : List Value, l.length = vs'.length ∧ VsRel ρ vs.toArray vs'.toArray ∧ ∀ (i : Nat) (r : ResultVar) (v : Value), l[i]? = some r → vs'[i]? = some v →
      (resOne tmps' r).run P w = .ok v w := by
  intro l
  induction l with
  | nil => intro vs h; simp [iresultsL] at h; subst h; exact ⟨[], rfl, VsRel.nil _, fun i r v h => by simp at h⟩
  | cons r l ih =>
    intro vs h
    simp only [iresultsL] at h
    split at h
    · rename_i v vs0 h1 h2
      cases h
      obtain ⟨v', k1, k2⟩ := iresult_sound hI ht r h1
      obtain ⟨vs', j1, j2, j3⟩ := ih h2
      refine ⟨v' :: vs', by simp [j1], ?_, ?_⟩
      · have := (VsRel.one k2).append j2
        simpa using this
      · intro i x u hx hu
        cases i with
        | zero => simp at hx hu; subst hx; subst hu; exact k1
        | succ i => exact j3 i x u (by simpa using hx) (by simpa using hu)
    · cases h

theorem iresults_sound {ρ : Ren} {m : M} {w : World} (hI : Inv P B w0 ρ m w) {fn : Func} {tmps tmps' : Array Value} (ht : VsRel ρ tmps tmps') {v : Value} (h : iresults P fn tmps m = some v) :
    ∃ v', (results fn tmps').run P w = .ok v' w ∧ VRel ρ v v' := by
  unfold iresults at h
  cases hl : iresultsL P tmps m fn.results.toList with
  | none => rw [hl] at h; cases h
  | some vs =>
    rw [hl] at h
    obtain ⟨vs', j1, j2, j3⟩ := iresultsL_sound hI ht _ hl
    have hm : (fn.results.mapM (resOne tmps')).run P w = .ok vs'.toArray w := by
      rw [Array.mapM_eq_mapM_toList, Sem.run_map, run_mapM_list (P := P) (resOne tmps') w fn.results.toList vs' j1 j3]
      rfl
    have hlen : vs.length = vs'.length := by have := j2.1; simpa using this
    have hrun : (results fn tmps').run P w = .ok (if h : vs'.toArray.size = 1 then vs'.toArray[0] else .tuple vs'.toArray) w := by
      rw [results_eq, Sem.run_bind, hm]
      rfl
    match vs, h, hlen, j2 with
    | [], h, hlen, j2 =>
      cases h
      refine ⟨_, hrun, ?_⟩
      have : vs' = [] := by cases vs' with | nil => rfl | cons => simp at hlen
      subst this
      exact .tuple j2.1 j2.2
    | [u], h, hlen, j2 =>
      cases h
      refine ⟨_, hrun, ?_⟩
      obtain ⟨u', rfl⟩ : ∃ u', vs' = [u'] := by
        match vs', hlen with
        | [u'], _ => exact ⟨u', rfl⟩
      exact j2.2 0 v u' rfl rfl
    | u :: u2 :: r, h, hlen, j2 =>
      cases h
      refine ⟨_, hrun, ?_⟩
      have hne : ¬ (vs'.toArray.size = 1) := by simp; simp at hlen; omega
      rw [dif_neg hne]
      exact .tuple j2.1 j2.2

end Go.IM
