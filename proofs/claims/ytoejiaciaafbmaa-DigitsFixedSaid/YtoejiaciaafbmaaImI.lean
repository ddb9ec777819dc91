/- The ideal machine, part I: cuts, places, texts, nil. -/
import Derived.Test.YtoejiaciaafbmaaImH
set_option linter.unusedVariables false
set_option linter.unusedSimpArgs false
namespace Go.IM
open Go Go.RowKit

variable {P : Program} {B : Nat} {w0 : World} {ρ : Ren} {m m' : M} {w : World}

theorem VRel.slice_inv {i o len cap : Nat} {x' : Value} (h : VRel ρ (.slice (some ⟨i, o, none⟩) len cap) x') :
    (∃ r cap', x' = .slice (some ⟨r.g, r.base + o, none⟩) len cap' ∧ ρ i = some r ∧ len ≤ cap ∧ o + cap * r.sz ≤ r.n ∧ (cap = cap' ∨ (r.base = 0 ∧ o + cap * r.sz = r.n ∧ cap ≤ cap' ∧ o + cap' * r.sz ≤ r.N))) ∨
    (len = 0 ∧ cap = 0 ∧ ∃ a', x' = .slice (some a') 0 0) := by
  generalize hx : Value.slice (some ⟨i, o, none⟩) len cap = x at h
  cases h <;> simp at hx
  · rename_i h hl hb hc
    obtain ⟨⟨rfl, rfl⟩, rfl, rfl⟩ := hx
    exact .inl ⟨_, _, rfl, h, hl, hb, hc⟩
  · obtain ⟨_, rfl, rfl⟩ := hx
    exact .inr ⟨rfl, rfl, _, rfl⟩

theorem cellsOf_info {e : TypeId} {ti : TypeInfo} (h : P.info? e = some ti) : P.cellsOf e = ti.size := by simp [Program.cellsOf, h]

theorem boundD_run {x x' : Option Value} {d y n : Nat} (hx : ∀ v v', x = some v → x' = some v' → VRel ρ v v') (hs : x.isSome = x'.isSome) (h : boundD x d y = some n) (code : BoundsCode) :
    (x' = none ∧ x = none ∧ n = d) ∨ (∃ v', x' = some v' ∧ (∀ y', y ≤ y' → (Instr.sliceBound v' y' code).run P w = .ok n w) ∧ n ≤ y ∧ x.isSome = true) := by
  unfold boundD at h
  cases x with
  | none =>
    cases x' with
    | none => simp at h; exact .inl ⟨rfl, rfl, h.symm⟩
    | some v' => simp at hs
  | some v =>
    cases x' with
    | none => simp at hs
    | some v' =>
      have hv := hx v v' rfl rfl
      dsimp only at h
      unfold boundOf at h
      split at h
      · cases hv
        rename_i k i
        split at h
        · cases h
          rename_i hi
          refine .inr ⟨_, rfl, fun y' hy' => ?_, by omega, rfl⟩
          have : 0 ≤ i ∧ i ≤ (y' : Int) := by omega
          simp [Instr.sliceBound, asIntOf, this]
        · cases h
      · cases h

theorem slice_sound (h : Inv P B w0 ρ m w) {t : TypeId} {x x' v : Value} {lo lo' hi hi' mx mx' : Option Value} (hx : VRel ρ x x')
    (hlo : ∀ v v', lo = some v → lo' = some v' → VRel ρ v v') (slo : lo.isSome = lo'.isSome) (hhi : ∀ v v', hi = some v → hi' = some v' → VRel ρ v v') (shi : hi.isSome = hi'.isSome)
    (hmx : ∀ v v', mx = some v → mx' = some v' → VRel ρ v v') (smx : mx.isSome = mx'.isSome) (hs : islice P t x lo hi mx m = some v) :
    ∃ v', (Instr.sliceAt t x' lo' hi' mx').run P w = .ok v' w ∧ VRel ρ v v' := by
  unfold islice at hs
  split at hs
  · rename_i e a len cap hu
    split at hs
    · rename_i ti mm hti hmm
      split at hs
      · cases hs
      · rename_i hmh
        split at hs
        · rename_i hh hhi2
          split at hs
          · rename_i l hl
            split at hs
            · rename_i hle
              obtain ⟨hle1, hle2⟩ := hle
              -- the machine's bounds, at a capacity that is no less
              have bounds : ∀ cap', cap ≤ cap' → (mx.isSome = true → True) → ∃ mm', (Instr.sliceBounds true len cap' lo' hi' mx').run P w = .ok (l, hh, mm') w ∧ ((mx.isSome = true ∧ mm' = mm) ∨ (mx = none ∧ mm' = cap' ∧ mm = cap)) ∧ mm ≤ cap := by
                intro cap' hc _
                rcases boundD_run (P := P) (w := w) hmx smx hmm .slice3Acap with ⟨e1, e2, e3⟩ | ⟨vm, e1, e2, e3, e4⟩
                · subst e1; subst e2; subst e3
                  rcases boundD_run (P := P) (w := w) hhi shi hhi2 .sliceAcap with ⟨f1, f2, f3⟩ | ⟨vh, f1, f2, f3, f4⟩
                  · subst f1; subst f2; subst f3
                    rcases boundD_run (P := P) (w := w) hlo slo hl .sliceB with ⟨g1, g2, g3⟩ | ⟨vl, g1, g2, g3, g4⟩
                    · subst g1; subst g2; subst g3
                      exact ⟨cap', by simp [Instr.sliceBounds], .inr ⟨rfl, rfl, rfl⟩, Nat.le_refl _⟩
                    · subst g1
                      exact ⟨cap', by simp [Instr.sliceBounds, g2 _ (Nat.le_refl _)], .inr ⟨rfl, rfl, rfl⟩, Nat.le_refl _⟩
                  · subst f1
                    rcases boundD_run (P := P) (w := w) hlo slo hl .sliceB with ⟨g1, g2, g3⟩ | ⟨vl, g1, g2, g3, g4⟩
                    · subst g1; subst g2; subst g3
                      exact ⟨cap', by simp [Instr.sliceBounds, f2 _ hc], .inr ⟨rfl, rfl, rfl⟩, Nat.le_refl _⟩
                    · subst g1
                      exact ⟨cap', by simp [Instr.sliceBounds, f2 _ hc, g2 _ (Nat.le_refl _)], .inr ⟨rfl, rfl, rfl⟩, Nat.le_refl _⟩
                · subst e1
                  rcases boundD_run (P := P) (w := w) hhi shi hhi2 .slice3B with ⟨f1, f2, f3⟩ | ⟨vh, f1, f2, f3, f4⟩
                  · exact absurd ⟨e4, by rw [f2]; rfl⟩ hmh
                  · subst f1
                    rcases boundD_run (P := P) (w := w) hlo slo hl .slice3C with ⟨g1, g2, g3⟩ | ⟨vl, g1, g2, g3, g4⟩
                    · subst g1; subst g2; subst g3
                      exact ⟨mm, by simp [Instr.sliceBounds, e2 _ hc, f2 _ (Nat.le_refl _)], .inl ⟨e4, rfl⟩, e3⟩
                    · subst g1
                      exact ⟨mm, by simp [Instr.sliceBounds, e2 _ hc, f2 _ (Nat.le_refl _), g2 _ (Nat.le_refl _)], .inl ⟨e4, rfl⟩, e3⟩
              have hun : ∀ x', (Instr.sliceAt t x' lo' hi' mx').run P w = (Instr.slice t x' lo' hi' mx').run P w := by
                intro x'; simp [Instr.sliceAt, run_underlying hu]
              split at hs
              · -- nil
                split at hs
                · rename_i h0
                  cases hs
                  obtain ⟨rfl, rfl⟩ := h0
                  cases hx
                  obtain ⟨mm', hr, hm2, hm3⟩ := bounds 0 (Nat.le_refl _) (fun _ => trivial)
                  have z1 : mm' = 0 := by rcases hm2 with ⟨_, h2⟩ | ⟨_, h2, _⟩ <;> omega
                  subst z1
                  refine ⟨.slice none 0 0, ?_, .sliceNil⟩
                  have z2 : l = 0 := by omega
                  have z3 : hh = 0 := by omega
                  subst z2; subst z3
                  rw [hun]
                  simp [Instr.slice, run_underlying hu, hr, run_sizeOf hti]
                · cases hs
              · rename_i i o
                split at hs
                · rename_i hc0
                  cases hs
                  subst hc0
                  have z2 : l = 0 := by
                    rcases boundD_run (P := P) (w := w) hmx smx hmm .slice3Acap with ⟨_, _, e3⟩ | ⟨_, _, _, e3, _⟩ <;> omega
                  have z3 : hh = 0 := by
                    rcases boundD_run (P := P) (w := w) hmx smx hmm .slice3Acap with ⟨_, _, e3⟩ | ⟨_, _, _, e3, _⟩ <;> omega
                  subst z2; subst z3
                  rcases hx.slice_inv with ⟨r', cap', rfl, hr', hlc, hb, hc⟩ | ⟨rfl, _, a', rfl⟩
                  · obtain rfl : len = 0 := by omega
                    obtain ⟨mm', hrun, hm2, hm3⟩ := bounds cap' (Nat.zero_le _) (fun _ => trivial)
                    by_cases hml : mm' = 0
                    · refine ⟨.slice (some ⟨r'.g, r'.base + o, none⟩) 0 0, ?_, .slice0 _ _⟩
                      rw [hun]
                      simp [Instr.slice, run_underlying hu, hrun, run_sizeOf hti, hml]
                    · have hmc : mm' = cap' := by rcases hm2 with ⟨_, h2⟩ | ⟨_, h2, _⟩ <;> omega
                      refine ⟨.slice (some ⟨r'.g, r'.base + o, none⟩) 0 cap', ?_, hx⟩
                      rw [hun]
                      simp [Instr.slice, run_underlying hu, hrun, run_sizeOf hti, hml, add_plain, hmc]
                  · obtain ⟨mm', hrun, hm2, hm3⟩ := bounds 0 (Nat.zero_le _) (fun _ => trivial)
                    have hml : mm' = 0 := by rcases hm2 with ⟨_, h2⟩ | ⟨_, h2, _⟩ <;> omega
                    refine ⟨.slice (some a') 0 0, ?_, .slice0 _ _⟩
                    rw [hun]
                    simp [Instr.slice, run_underlying hu, hrun, run_sizeOf hti, hml]
                split at hs
                · rename_i c e' hrow
                  split at hs
                  · rename_i hsz
                    cases hs
                    obtain ⟨r, hr, hn, hrsz, _⟩ := h.row hrow
                    rw [hsz] at hrsz
                    rcases hx.slice_inv with ⟨r', cap', rfl, hr', hlc, hb, hc⟩ | ⟨rfl, rfl, a', rfl⟩
                    · rw [hr] at hr'; cases hr'
                      have hcap : cap ≤ cap' := by rcases hc with h1 | ⟨_, _, h1, _⟩ <;> omega
                      obtain ⟨mm', hrun, hm2, hm3⟩ := bounds cap' hcap (fun _ => trivial)
                      have hmle : mm ≤ mm' := by rcases hm2 with ⟨_, h2⟩ | ⟨_, h2, h3⟩ <;> omega
                      by_cases hml : mm' = l
                      · -- nothing is left
                        have : hh = l := by omega
                        subst this
                        have hm0 : mm - hh = 0 := by omega
                        refine ⟨.slice (some ⟨r.g, r.base + o, none⟩) 0 0, ?_, ?_⟩
                        · rw [hun]
                          simp [Instr.slice, run_underlying hu, hrun, run_sizeOf hti, hml]
                        · rw [hm0, Nat.sub_self]; exact .slice0 _ _
                      · refine ⟨.slice (some ⟨r.g, r.base + (o + l * ti.size), none⟩) (hh - l) (mm' - l), ?_, ?_⟩
                        · rw [hun]
                          simp [Instr.slice, run_underlying hu, hrun, run_sizeOf hti, hml, add_plain, Nat.add_assoc]
                        · have hmul : ∀ a, l ≤ a → o + l * ti.size + (a - l) * ti.size = o + a * ti.size := by
                            intro a ha
                            rw [Nat.add_assoc, ← Nat.add_mul]
                            congr 2; omega
                          have hmono : mm * ti.size ≤ cap * ti.size := Nat.mul_le_mul_right _ hm3
                          rw [hrsz] at hb
                          refine VRel.slice hr (by omega) ?_ ?_
                          · rw [hrsz, hmul mm (by omega)]; omega
                          · rcases hm2 with ⟨_, h2⟩ | ⟨_, h2, h3⟩
                            · left; omega
                            · subst h2; subst h3
                              rcases hc with h1 | ⟨k1, k2, k3, k4⟩
                              · left; omega
                              · right
                                rw [hrsz] at k2 k4 ⊢
                                exact ⟨k1, by rw [hmul _ (by omega)]; exact k2, by omega, by rw [hmul _ (by omega)]; exact k4⟩
                    · obtain ⟨mm', hrun, hm2, hm3⟩ := bounds 0 (Nat.le_refl _) (fun _ => trivial)
                      have z1 : mm' = 0 := by rcases hm2 with ⟨_, h2⟩ | ⟨_, h2, _⟩ <;> omega
                      subst z1
                      have z2 : l = 0 := by omega
                      have z3 : hh = 0 := by omega
                      have z4 : mm = 0 := by omega
                      subst z2; subst z3; subst z4
                      refine ⟨.slice (some a') 0 0, ?_, .slice0 _ _⟩
                      rw [hun]
                      simp [Instr.slice, run_underlying hu, hrun, run_sizeOf hti]
                  · cases hs
                · cases hs
              · cases hs
            · cases hs
          · cases hs
        · cases hs
    · cases hs
  · cases hs

theorem indexAddr_sound {t : TypeId} {x x' ix ix' v : Value} (hx : VRel ρ x x') (hi : VRel ρ ix ix') (hs : iindexAddr P t x ix = some v) :
    ∃ v', (Instr.indexAt t x' ix').run P w = .ok v' w ∧ VRel ρ v v' := by
  unfold iindexAddr at hs
  split at hs
  · rename_i e i o len cap k n hu
    split at hs
    · rename_i ti hti
      split at hs
      · rename_i hk
        cases hs
        cases hi
        rcases hx.slice_inv with ⟨r, cap', rfl, hr, _⟩ | ⟨rfl, _⟩
        · exact ⟨_, by simp [Instr.indexAt, run_underlying hu, asIntOf, hk, run_sizeOf hti, add_plain, Nat.add_assoc], .ptr _ hr⟩
        · omega
      · cases hs
    · cases hs
  · rename_i len e i o k n hu
    split at hs
    · rename_i ti hti
      split at hs
      · rename_i hk
        cases hs
        cases hi
        cases hx
        rename_i r hr
        exact ⟨_, by simp [Instr.indexAt, run_underlying hu, asIntOf, Instr.sureAddr, hk, run_sizeOf hti, add_plain, Nat.add_assoc], .ptr _ hr⟩
      · cases hs
    · cases hs
  · cases hs

theorem fieldAddr_sound {s : TypeId} {x x' v : Value} {f : Nat} (hx : VRel ρ x x') (hs : ifieldAddr P s x f = some v) :
    ∃ v', (Instr.fieldAt s x' f).run P w = .ok v' w ∧ VRel ρ v v' := by
  unfold ifieldAddr at hs
  split at hs
  · rename_i fields i o hu
    split at hs
    · rename_i fd hfd
      split at hs
      · rename_i ti hti
        split at hs
        · cases hs
        · rename_i h0
          cases hs
          cases hx
          rename_i r hr
          exact ⟨_, by simp [Instr.fieldAt, run_underlying hu, hfd, Instr.sureAddr, fieldPlace, run_sizeOf hti, h0, add_plain, Nat.add_assoc], .ptr _ hr⟩
      · cases hs
    · cases hs
  · cases hs

theorem field_sound {s : TypeId} {x x' v : Value} {f : Nat} (hx : VRel ρ x x') (hs : ifield P s x f = some v) :
    ∃ v', (Instr.field s x' f).run P w = .ok v' w ∧ VRel ρ v v' := by
  unfold ifield at hs
  split at hs
  · rename_i fields cs hu
    split at hs
    · rename_i fd hfd
      cases hx
      rename_i cs' ha hva
      obtain ⟨v', h1, h2⟩ := partOf_sound (w := w) ⟨ha, hva⟩ hs
      exact ⟨v', by simp [Instr.field, run_underlying hu, hfd, asAgg, h1], h2⟩
    · cases hs
  · cases hs

theorem index_sound {t : TypeId} {x x' ix ix' v : Value} (hx : VRel ρ x x') (hi : VRel ρ ix ix') (hs : iindex P t x ix = some v) :
    ∃ v', (Instr.index t x' ix').run P w = .ok v' w ∧ VRel ρ v v' := by
  unfold iindex at hs
  split at hs
  · rename_i len e cs k n hu
    split at hs
    · rename_i ti hti
      split at hs
      · rename_i hk
        cases hi
        cases hx
        rename_i cs' ha hva
        obtain ⟨v', h1, h2⟩ := partOf_sound (w := w) ⟨ha, hva⟩ hs
        exact ⟨v', by simp [Instr.index, run_underlying hu, asIntOf, hk, run_sizeOf hti, h1], h2⟩
      · cases hs
    · cases hs
  · rename_i s k n hu
    cases hi
    cases hx
    split at hs
    · rename_i b hb
      cases hs
      exact ⟨_, by simp [Instr.index, run_underlying hu, asIntOf, hb], .int _ _⟩
    · cases hs
  · cases hs

theorem eqNil_sound {t : TypeId} {x x' y y' : Value} {b : Bool} (hx : VRel ρ x x') (hy : VRel ρ y y') (hs : ieqNil P t x y = some b) : (Op.equal t x' y').run P w = .ok b w := by
  obtain ⟨d, hd⟩ : ∃ d, Op.maxDepth = d + 1 := ⟨9999, rfl⟩
  unfold ieqNil at hs
  split at hs <;> rename_i hu <;> cases hs <;> cases hx <;> (try cases hy) <;> simp [Op.equal, hd, Op.equalIn, run_underlying hu]

end Go.IM
