/- The ideal machine, part S: calls, deferred calls, code. -/
import Derived.Test.YtoejiaciaafbmaaImY
namespace Go.IM
open Go Go.RowKit

variable {P : Program} {B : Nat} {w0 : World}

inductive DMRel (ρ : Ren) : DM → FrameMode → Prop
  | ret : DMRel ρ .ret .returning
  | pan {v v' : Value} (r : Bool) (h : VRel ρ v v') : DMRel ρ (.pan v r) (.panicking [{ v := v', recovered := r }])
theorem DMRel.mono {ρ ρ' : Ren} (hr : ρ.le ρ') {u : DM} {u' : FrameMode} (h : DMRel ρ u u') : DMRel ρ' u u' := by
  cases h with
  | ret => exact .ret
  | pan r h => exact .pan r (h.mono hr)
theorem DMRel.settle {ρ : Ren} {u : DM} {u' : FrameMode} (h : DMRel ρ u u') : DMRel ρ (settleD u) (settle u') := by
  cases h with
  | ret => exact .ret
  | pan r h => cases r with
    | true => exact .ret
    | false => exact .pan false h
theorem DMRel.run_ne {ρ : Ren} {u : DM} {u' : FrameMode} (h : DMRel ρ u u') : u' ≠ .run := by cases h <;> simp

theorem recHead_some {c rest : Code} {d : Tmp} (h : recHead c = some (d, rest)) :
    ∃ id ops o c0, c = .seq (.region id ops false) rest ∧ ops = #[o] ∧ o.dst = some d ∧ o.op = .call c0 ∧ o.guard = none ∧ c0.callee = .builtin .recover ∧ c0.args = #[] := by
  unfold recHead at h
  split at h
  · rename_i id ops rest'
    split at h
    · rename_i o hops
      split at h
      · rename_i d' c0 hd hop hg
        split at h
        · rename_i hcal
          split at h
          · rename_i hsz
            cases h
            refine ⟨id, ops, o, c0, rfl, ?_, hd, hop, hg, hcal, Array.eq_empty_of_size_eq_zero hsz⟩
            rw [← Array.toArray_toList (xs := ops), hops]
          · cases h
        · cases h
      · cases h
    · cases h
  · cases h

theorem frame_rel {ρ : Ren} (fn : Func) {args args' : Array Value} (h : VsRel ρ args args') : ActRel ρ (frame fn args) { tmps := args' ++ Array.replicate (fn.ntmps - args'.size) undef, defers := [] } := by
  refine ⟨?_, trivial⟩
  unfold frame
  rw [← h.1]
  exact h.append (VsRel.replicate ρ _ (VRel.undef ρ))

theorem callD_sound {ev : Ev} (hev : EvOK P B w0 ev) {ρ : Ren} {m m1 : M} {w : World} {k : FuncId} {args args' : Array Value} {u u1 : DM} {u' : FrameMode} (hI : Inv P B w0 ρ m w) (hW : Wf m) (hu : DMRel ρ u u') (ha : VsRel ρ args args')
    (h : callD P ev k args u m = some (u1, m1)) :
    (∃ fn, P.funcs[k]? = some fn ∧ fn.body.isSome = true ∧ (fn.name == "runtime.NumGoroutine") = false) ∧
    CallsD P k args' u' w fun e u2 w' => ∃ ρ', ρ.le ρ' ∧ Inv P B w0 ρ' m1 w' ∧ (∃ v, e = .returned v) ∧ DMRel ρ' u1 (settle u2) := by
  unfold callD at h
  split at h
  · rename_i fn hfn
    split at h
    · rename_i c hc
      split at h
      · cases h
      · rename_i hname
        refine ⟨⟨fn, hfn, by simp [hc], by simpa using hname⟩, ?_⟩
        have hfr := frame_rel fn ha
        -- what the rest comes to
        have fin : ∀ (a : Act) (m2 : M) (e : Out), (e = .normal ∨ e = .ret) → ∀ (u2 : DM), (match a.defers, iresults P fn a.tmps m2 with | [], some _ => some (settleD u2, m2) | _, _ => none) = some (u1, m1) →
            a.defers = [] ∧ m2 = m1 ∧ u1 = settleD u2 ∧ ∃ v, iresults P fn a.tmps m2 = some v := by
          intro a m2 e _ u2 hq
          split at hq
          · rename_i v hd hr
            cases hq
            exact ⟨hd, rfl, rfl, v, hr⟩
          · cases hq
        have post : ∀ (c₀ : Frame) (cs : List Frame) (a : Act) (m2 : M) (e : Out) (u2 : DM) (u2' : FrameMode), (e = .normal ∨ e = .ret) → DMRel ρ u2 u2' →
            (match a.defers, iresults P fn a.tmps m2 with | [], some _ => some (settleD u2, m2) | _, _ => none) = some (u1, m1) →
            Meets P B w0 ρ e a m2 (fun x a' w' => bodyPostS P fn c₀ cs (fun e u2 w' => ∃ ρ', ρ.le ρ' ∧ Inv P B w0 ρ' m1 w' ∧ (∃ v, e = .returned v) ∧ DMRel ρ' u1 (settle u2)) x a' ({ c₀ with mode := u2' } :: cs) w') := by
          intro c₀ cs a m2 e u2 u2' he hu2 hq ρ' x a' w' hle hI' hA hx
          obtain ⟨h1, rfl, rfl, v, hv⟩ := fin a m2 e he u2 hq
          obtain ⟨v', hv', _⟩ := iresults_sound hI' hA.1 hv
          have hd : a'.defers = [] := by
            have := hA.2
            rw [h1] at this
            cases hq : a'.defers with
            | nil => rfl
            | cons => rw [hq] at this; exact this.elim
          rcases he with rfl | rfl <;> cases hx <;> exact ⟨hd, u2', rfl, v', hv', ρ', hle, hI', ⟨v', rfl⟩, (hu2.mono hle).settle⟩
        refine callsD_of_wpS hfn hc fun c₀ cs hmode => ?_
        cases hrec : recHead c with
        | some p =>
          obtain ⟨d, rest⟩ := p
          rw [hrec] at h
          dsimp only at h
          obtain ⟨id, ops, o, c0, rfl, rfl, hd, hop, hg, hcal, hargs⟩ := recHead_some hrec
          apply wpS_seq
          apply wpS_region
          have hrange : List.range (#[o] : Array Oper).size = [0] := rfl
          rw [hrange]
          unfold wpOpsS
          have hrun : ∀ (a : Act), (execOp a.eval o).run P w = .ok .recover w := by
            intro a
            simp [execOp, hop, resolve, hcal, hargs, invoke, builtin]
          have ho0 : (#[o] : Array Oper)[0]? = some o := rfl
          rw [ho0]
          dsimp only
          rw [if_pos (by simp [Region.wanted, hg]), hrun]
          dsimp only
          -- what is recovered
          obtain ⟨v', cs', hcs', hval, hu2⟩ : ∃ v' u2', (match recoverD (c₀ :: cs) with | some (v, cs') => (v, cs') | none => (.nilIface, c₀ :: cs)) = (v', { c₀ with mode := u2' } :: cs) ∧ VRel ρ (recoverI u).1 v' ∧ DMRel ρ (recoverI u).2 u2' := by
            have hc0 : ({ c₀ with mode := u' } : Frame) = c₀ := by rw [← hmode]
            cases hu with
            | ret => exact ⟨.nilIface, .returning, by simp [recoverD, hmode]; exact hc0.symm, .nilIface, .ret⟩
            | pan r hv =>
              rename_i v v'
              cases r with
              | true => exact ⟨.nilIface, .panicking [{ v := v', recovered := true }], by simp [recoverD, hmode]; exact hc0.symm, .nilIface, .pan true hv⟩
              | false => exact ⟨v', .panicking [{ v := v', recovered := true }], by simp [recoverD, hmode], hv, .pan true hv⟩
          have hA2 := hfr.put (some d) hval
          have goal : ∀ (vv : Value) (css : List Frame), vv = v' → css = { c₀ with mode := cs' } :: cs →
              wpOpsS P #[o] (Exit.thenS (rest.wpS P (bodyPostS P fn c₀ cs fun e u2 w' => ∃ ρ', ρ.le ρ' ∧ Inv P B w0 ρ' m1 w' ∧ (∃ v, e = .returned v) ∧ DMRel ρ' u1 (settle u2)))
                (bodyPostS P fn c₀ cs fun e u2 w' => ∃ ρ', ρ.le ρ' ∧ Inv P B w0 ρ' m1 w' ∧ (∃ v, e = .returned v) ∧ DMRel ρ' u1 (settle u2))) []
                (({ tmps := args' ++ Array.replicate (fn.ntmps - args'.size) undef, defers := [] } : Act).put o.dst vv) css w := by
            intro vv css hvv hcss
            subst hvv; subst hcss
            simp only [wpOpsS, Exit.thenS]
            rw [hd]
            cases hr : ev rest ((frame fn args).put (some d) (recoverI u).1) m with
            | none => rw [hr] at h; cases h
            | some p =>
              obtain ⟨e, a, m2⟩ := p
              rw [hr] at h
              refine wpS_of_wp (hev ρ m w rest _ _ e a m2 _ hI hW hA2 hr ?_)
              cases e with
              | normal => exact post c₀ cs a m2 .normal _ cs' (.inl rfl) hu2 h
              | ret => exact post c₀ cs a m2 .ret _ cs' (.inr rfl) hu2 h
              | exit id => cases h
              | pnc v => cases h
          split
          · rename_i v2 cs2 hq
            rw [hq] at hcs'
            simp only [Prod.mk.injEq] at hcs'
            exact goal _ _ hcs'.1 hcs'.2
          · rename_i hq
            rw [hq] at hcs'
            simp only [Prod.mk.injEq] at hcs'
            exact goal _ _ hcs'.1 hcs'.2
        | none =>
          rw [hrec] at h
          dsimp only at h
          cases hr : ev c (frame fn args) m with
          | none => rw [hr] at h; cases h
          | some p =>
            obtain ⟨e, a, m2⟩ := p
            rw [hr] at h
            have hc0 : ({ c₀ with mode := u' } : Frame) = c₀ := by rw [← hmode]
            have key : ∀ e, (e = .normal ∨ e = .ret) → ev c (frame fn args) m = some (e, a, m2) → (match a.defers, iresults P fn a.tmps m2 with | [], some _ => some (settleD u, m2) | _, _ => none) = some (u1, m1) →
                c.wpS P (bodyPostS P fn c₀ cs fun e u2 w' => ∃ ρ', ρ.le ρ' ∧ Inv P B w0 ρ' m1 w' ∧ (∃ v, e = .returned v) ∧ DMRel ρ' u1 (settle u2)) { tmps := args' ++ Array.replicate (fn.ntmps - args'.size) undef, defers := [] } (c₀ :: cs) w := by
              intro e he hr h
              refine wpS_of_wp (hev ρ m w c _ _ e a m2 _ hI hW hfr hr ?_)
              have := post c₀ cs a m2 e u u' he hu h
              rw [hc0] at this
              exact this
            cases e with
            | normal => exact key .normal (.inl rfl) hr h
            | ret => exact key .ret (.inr rfl) hr h
            | exit id => cases h
            | pnc v => cases h
    · cases h
  · cases h

theorem leave_sound {ev : Ev} (hev : EvOK P B w0 ev) (hg : EvGood ev) {fn : Func} : ∀ (ds ds' : List Deferred) {ρ : Ren} {m m1 : M} {w : World} {tmps tmps' : Array Value} {u : DM} {u' : FrameMode} {out : COut} {R : Ending → World → Prop},
    Inv P B w0 ρ m w → Wf m → VsRel ρ tmps tmps' → DefsRel ρ ds ds' → DMRel ρ u u' → leave P ev fn tmps ds u m = some (out, m1) →
    (∀ ρ' e w', ρ.le ρ' → Inv P B w0 ρ' m1 w' → EndRel ρ' out e → R e w') → Leaves P fn tmps' R ds' u' w := by
  intro ds
  induction ds with
  | nil =>
    intro ds' ρ m m1 w tmps tmps' u u' out R hI hW ht hd hu h hR
    cases ds' with
    | cons => exact hd.elim
    | nil =>
      cases hu with
      | ret =>
        simp only [leave, Option.map_eq_some_iff, Prod.mk.injEq] at h
        obtain ⟨v, hv, rfl, rfl⟩ := h
        obtain ⟨v', h1, h2⟩ := iresults_sound hI ht hv
        exact ⟨v', h1, hR ρ _ w (Ren.le_refl _) hI (.ret h2)⟩
      | pan r hv =>
        cases r with
        | true => simp [leave] at h
        | false =>
          simp only [leave, Option.some.injEq, Prod.mk.injEq] at h
          obtain ⟨rfl, rfl⟩ := h
          exact hR ρ _ w (Ren.le_refl _) hI (.pnc hv)
  | cons d ds ih =>
    intro ds' ρ m m1 w tmps tmps' u u' out R hI hW ht hd hu h hR
    cases ds' with
    | nil => exact hd.elim
    | cons d' ds' =>
      obtain ⟨⟨k, cap, cap', t1, t2, hcap, hargs⟩, hds⟩ := hd
      simp only [leave] at h
      rw [t1] at h
      dsimp only at h
      split at h
      · rename_i u1 m2 hc
        obtain ⟨⟨f, hf1, hf2, hf3⟩, hcd⟩ := callD_sound hev hI hW hu (hargs.append hcap) hc
        have hL : Leaves P fn tmps' R (d' :: ds') u' w ↔ (u' ≠ .run ∧ ∃ fv cap f args, d'.target = .fn fv cap ∧ (invoke d'.target d'.args).run P w = .ok (.enter f args) w ∧
            CallsD P f args u' w fun
              | .returned _, u', w' => Leaves P fn tmps' R ds' (settle u') w'
              | .panicked chain, u', w' => Leaves P fn tmps' R ds' (raised u' chain) w'
              | .outgrown, _, w' => R .outgrown w') := by
          cases u' <;> exact Iff.rfl
        rw [hL]
        refine ⟨hu.run_ne, .func k, cap', k, d'.args ++ cap', t2, ?_, ?_⟩
        · have hnm : ¬ (f.name = "runtime.NumGoroutine") := by simpa using hf3
          have hbn : ¬ (f.body = none) := by intro q; rw [q] at hf2; cases hf2
          simp [t2, invoke, callFunc, hf1, hnm, hbn]
        · intro c cs hm
          obtain ⟨e, u2, w', fr, ⟨ρ', hle, hI', ⟨v, rfl⟩, hu2⟩, rest⟩ := hcd c cs hm
          exact ⟨.returned v, u2, w', fr, ih ds' hI' ((callD_good hg hc).1.wf hW) (ht.mono hle) (hds.mono hle) hu2 h (fun ρ2 e w2 h1 => hR ρ2 e w2 (Ren.le_trans hle h1)), rest⟩
      · cases h

theorem callF_sound {ev : Ev} (hev : EvOK P B w0 ev) (hg : EvGood ev) : CallOK P B w0 (callF P ev) := by
  intro ρ m w f args args' out m1 hI hW ha h
  unfold callF at h
  split at h
  · rename_i fn hfn
    split at h
    · rename_i c hc
      refine calls_of_wp_defers hfn hc ?_
      have hfr := frame_rel fn ha
      split at h
      · rename_i a m2 hr
        refine hev ρ m w c _ _ _ a m2 _ hI hW hfr hr fun ρ' x a' w' hle hI' hA hx => ?_
        cases hx
        exact leave_sound hev hg a.defers a'.defers hI' ((hg _ _ _ _ _ _ hr).1.wf hW) hA.1 hA.2 .ret h fun ρ2 e w2 h1 h2 h3 => ⟨ρ2, Ren.le_trans hle h1, h2, h3⟩
      · rename_i a m2 hr
        refine hev ρ m w c _ _ _ a m2 _ hI hW hfr hr fun ρ' x a' w' hle hI' hA hx => ?_
        cases hx
        exact leave_sound hev hg a.defers a'.defers hI' ((hg _ _ _ _ _ _ hr).1.wf hW) hA.1 hA.2 .ret h fun ρ2 e w2 h1 h2 h3 => ⟨ρ2, Ren.le_trans hle h1, h2, h3⟩
      · rename_i v a m2 hr
        refine hev ρ m w c _ _ _ a m2 _ hI hW hfr hr fun ρ' x a' w' hle hI' hA hx => ?_
        cases hx
        rename_i v' hv
        exact leave_sound hev hg a.defers a'.defers hI' ((hg _ _ _ _ _ _ hr).1.wf hW) hA.1 hA.2 (.pan false hv) h fun ρ2 e w2 h1 h2 h3 => ⟨ρ2, Ren.le_trans hle h1, h2, h3⟩
      · cases h
    · cases h
  · cases h

end Go.IM
