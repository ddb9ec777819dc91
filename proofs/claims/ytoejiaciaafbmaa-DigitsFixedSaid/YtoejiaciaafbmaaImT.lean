/- The ideal machine, part T: code is sound. -/
import Derived.Test.YtoejiaciaafbmaaImS
namespace Go.IM
open Go Go.RowKit

variable {P : Program} {B : Nat} {w0 : World}

theorem E_sound : ∀ (n : Nat), EvOK P B w0 (E P n) ∧
    ∀ (ρ : Ren) (m : M) (w : World) (b : Code) (a a' : Act) (e : Out) (a1 : Act) (m1 : M) (Q : Exit → Act → World → Prop), Inv P B w0 ρ m w → Wf m → ActRel ρ a a' → E P n (.loop b) a m = some (e, a1, m1) → Meets P B w0 ρ e a1 m1 Q →
      Code.rounds P b Q n a' w := by
  intro n
  induction n with
  | zero => exact ⟨fun ρ m w c a a' e a1 m1 Q _ _ _ h => by simp [E] at h, fun ρ m w c a a' e a1 m1 Q _ _ _ h => by simp [E] at h⟩
  | succ n ih =>
    obtain ⟨ih1, ih2⟩ := ih
    have hloop : ∀ (ρ : Ren) (m : M) (w : World) (b : Code) (a a' : Act) (e : Out) (a1 : Act) (m1 : M) (Q : Exit → Act → World → Prop), Inv P B w0 ρ m w → Wf m → ActRel ρ a a' → E P (n + 1) (.loop b) a m = some (e, a1, m1) → Meets P B w0 ρ e a1 m1 Q →
        Code.rounds P b Q (n + 1) a' w := by
      intro ρ m w b a a' e a1 m1 Q hI hW hA h hQ
      simp only [E] at h
      rw [rounds_succ]
      split at h
      · rename_i a2 m2 hb
        refine ih1 ρ m w b a a' .normal a2 m2 _ hI hW hA hb fun ρ' x a2' w' hle hI' hA' hx => ?_
        cases hx
        exact ih2 ρ' m2 w' b a2 a2' e a1 m1 Q hI' ((E_good n _ _ _ _ _ _ hb).1.wf hW) hA' h (hQ.mono hle)
      · rename_i hn
        refine ih1 ρ m w b a a' e a1 m1 _ hI hW hA h fun ρ' x a2' w' hle hI' hA' hx => ?_
        have := hQ ρ' x a2' w' hle hI' hA' hx
        cases hx with
        | normal => exact absurd h (hn a1 m1)
        | _ => exact this
    refine ⟨?_, hloop⟩
    intro ρ m w c a a' e a1 m1 Q hI hW hA h hQ
    cases c with
    | loop b => exact wp_loop_rounds (n + 1) (hloop ρ m w b a a' e a1 m1 Q hI hW hA h hQ)
    | skip => simp only [E, Option.some.injEq, Prod.mk.injEq] at h; obtain ⟨rfl, rfl, rfl⟩ := h; exact wp_skip (hQ ρ _ a' w (Ren.le_refl _) hI hA .normal)
    | label l => simp only [E, Option.some.injEq, Prod.mk.injEq] at h; obtain ⟨rfl, rfl, rfl⟩ := h; exact wp_label (hQ ρ _ a' w (Ren.le_refl _) hI hA .normal)
    | exit id => simp only [E, Option.some.injEq, Prod.mk.injEq] at h; obtain ⟨rfl, rfl, rfl⟩ := h; exact wp_exit (hQ ρ _ a' w (Ren.le_refl _) hI hA (.exit id))
    | ret => simp only [E, Option.some.injEq, Prod.mk.injEq] at h; obtain ⟨rfl, rfl, rfl⟩ := h; exact wp_ret (hQ ρ _ a' w (Ren.le_refl _) hI hA .ret)
    | region id ops draw =>
      simp only [E] at h
      cases draw with
      | true => exact draw_sound (callF_sound ih1 (E_good n)) (callF_good (E_good n)) hI hW hA h hQ
      | false => exact wp_region (runOps_sound (callF_sound ih1 (E_good n)) (callF_good (E_good n)) ops _ hI hW hA h hQ)
    | seq x y =>
      simp only [E] at h
      refine wp_seq ?_
      split at h
      · rename_i a2 m2 hb
        refine ih1 ρ m w x a a' .normal a2 m2 _ hI hW hA hb fun ρ' x' a2' w' hle hI' hA' hx => ?_
        cases hx
        exact ih1 ρ' m2 w' y a2 a2' e a1 m1 Q hI' ((E_good n _ _ _ _ _ _ hb).1.wf hW) hA' h (hQ.mono hle)
      · rename_i hn
        refine ih1 ρ m w x a a' e a1 m1 _ hI hW hA h fun ρ' x' a2' w' hle hI' hA' hx => ?_
        have := hQ ρ' x' a2' w' hle hI' hA' hx
        cases hx with
        | normal => exact absurd h (hn a1 m1)
        | _ => exact this
    | cond c x y =>
      simp only [E] at h
      split at h
      · rename_i hok
        have hv := hA.eval hok
        split at h
        · rename_i b hb
          rw [hb] at hv
          have hb' : a'.eval c = .bool b := by generalize a'.eval c = q at hv; cases hv; rfl
          refine wp_cond hb' ?_
          cases b <;> exact ih1 ρ m w _ a a' e a1 m1 Q hI hW hA h hQ
        · cases h
      · cases h
    | block id b =>
      simp only [E] at h
      refine wp_block ?_
      split at h
      · rename_i id' a2 m2 hb
        refine ih1 ρ m w b a a' (.exit id') a2 m2 _ hI hW hA hb fun ρ' x' a2' w' hle hI' hA' hx => ?_
        cases hx
        simp only [Exit.inBlock]
        split at h
        · rename_i hid
          cases h
          rw [if_pos hid]
          exact hQ ρ' _ a2' w' hle hI' hA' .normal
        · rename_i hid
          cases h
          rw [if_neg hid]
          exact hQ ρ' _ a2' w' hle hI' hA' (.exit id')
      · rename_i hn
        refine ih1 ρ m w b a a' e a1 m1 _ hI hW hA h fun ρ' x' a2' w' hle hI' hA' hx => ?_
        have := hQ ρ' x' a2' w' hle hI' hA' hx
        cases hx with
        | exit id' => exact absurd h (hn id' a1 m1)
        | _ => exact this
    | _ => simp [E] at h

/-- A CALL: what the ideal machine comes to, the machine comes to, whatever the tape. -/
theorem callE_sound (n : Nat) : CallOK P B w0 (callF P (E P n)) := callF_sound (E_sound n).1 (E_good n)

end Go.IM
