/- The ideal machine, part D: a new generation of a block (append). -/
import Derived.Test.YtoejiaciaafbmaaImC
namespace Go.IM
open Go Go.RowKit

variable {P : Program} {B : Nat} {w0 : World} {ρ : Ren} {m : M} {w : World}

/-- A block is appended to: it lives on, a new one holds what it held, and more. -/
def M.gen (m : M) (i : Nat) (b : Blk) (o : Obj) : M := ((m.set i { b with sup := true }).set m.nxt { obj := o, root := b.root }).bump

theorem Inv.gen (h : Inv P B w0 ρ m w) (hf : m.get m.nxt = none) {i : Nat} {b : Blk} (ha : m.alive i = some b) (hro : b.ro = false) (hsup : b.sup = false) {ri : RE} (hri : ρ i = some ri) (o : Obj) (r : RE)
    {w' : World} (hbel : Below B w0 w')
    (hold : ∀ j bj rj, m.alive j = some bj → ρ j = some rj → Holds P B (ρ.upd m.nxt r) bj rj w')
    (hnew : Holds P B (ρ.upd m.nxt r) { obj := o, root := b.root } r w')
    (hg : (r.g = ri.g ∧ ri.n ≤ r.n) ∨ (∀ j bj rj, m.alive j = some bj → ρ j = some rj → rj.g ≠ r.g)) : Inv P B w0 (ρ.upd m.nxt r) (m.gen i b o) w' := by
  have hgi := alive_get ha
  have hin : i ≠ m.nxt := by intro e; rw [e, hf] at hgi; cases hgi
  obtain ⟨rb, hrb, hrr, hrs⟩ := h.roots i b hgi
  obtain ⟨rb', hrb', hdead⟩ := alive_root ha
  rw [hrb] at hrb'; cases hrb'
  have hrn : b.root ≠ m.nxt := root_ne h hf hgi
  have hget : ∀ j, (m.gen i b o).get j = if j = m.nxt then some { obj := o, root := b.root } else if i = j then some { b with sup := true } else m.get j := by
    intro j
    simp only [M.gen, M.get_bump, M.get_set]
    by_cases e : j = m.nxt
    · subst e; simp
    · rw [if_neg e, if_neg (Ne.symm e)]
  -- a block of old, as it is now
  have hnow : ∀ j bj, m.get j = some bj → (m.gen i b o).get j = some { bj with sup := bj.sup || decide (i = j) } := by
    intro j bj hj
    rw [hget, if_neg (by intro e; rw [e, hf] at hj; cases hj)]
    split
    · rename_i e; subst e; rw [hgi] at hj; cases hj; simp
    · rename_i e; simp [hj, e]
  have hwas : ∀ j bj, (m.gen i b o).get j = some bj → (j = m.nxt ∧ bj = { obj := o, root := b.root }) ∨ (j ≠ m.nxt ∧ ∃ b0, m.get j = some b0 ∧ bj = { b0 with sup := b0.sup || decide (i = j) }) := by
    intro j bj hj
    rw [hget] at hj
    split at hj
    · rename_i e; cases hj; exact .inl ⟨e, rfl⟩
    · rename_i e
      split at hj
      · rename_i e2; subst e2; cases hj; exact .inr ⟨e, b, hgi, by simp⟩
      · rename_i e2; exact .inr ⟨e, bj, hj, by simp [e2]⟩
  have halive : ∀ j bj, (m.gen i b o).alive j = some bj → (j = m.nxt ∧ bj = { obj := o, root := b.root }) ∨ (j ≠ m.nxt ∧ ∃ b0, m.alive j = some b0 ∧ bj = { b0 with sup := b0.sup || decide (i = j) }) := by
    intro j bj hj
    obtain ⟨rj, hj1, hj2⟩ := alive_root hj
    rcases hwas j bj (alive_get hj) with h1 | ⟨h1, b0, h2, h3⟩
    · exact .inl h1
    · refine .inr ⟨h1, b0, ?_, h3⟩
      subst h3
      dsimp only at hj1
      rcases hwas _ _ hj1 with ⟨h4, _⟩ | ⟨_, b1, h5, h6⟩
      · exact absurd h4 (root_ne h hf h2)
      · exact alive_mk h2 h5 (by subst h6; exact hj2)
  have hle := Ren.le_upd ρ m.nxt r (h.dom _ hf)
  have hholdsup : ∀ (bj : Blk) (s : Bool) (rj : RE), Holds P B (ρ.upd m.nxt r) bj rj w' → Holds P B (ρ.upd m.nxt r) { bj with sup := s } rj w' := fun bj s rj hh => by unfold Holds at hh ⊢; exact hh
  refine ⟨hbel, h.size, ?_, ?_, ?_, ?_, ?_, ?_, ?_, ?_⟩
  · intro j hj
    rw [hget] at hj
    split at hj
    · cases hj
    · rename_i e
      split at hj
      · cases hj
      · rw [Ren.upd_ne _ _ e]; exact h.dom j hj
  · intro j bj hj
    rcases hwas j bj hj with ⟨rfl, _⟩ | ⟨h1, b0, h2, _⟩
    · exact ⟨r, Ren.upd_same _ _ _⟩
    · rw [Ren.upd_ne _ _ h1]; exact h.blk j b0 h2
  · intro j bj rj hj hrj
    rcases halive j bj hj with ⟨rfl, rfl⟩ | ⟨h1, b0, h2, rfl⟩
    · rw [Ren.upd_same] at hrj; cases hrj; exact hnew
    · rw [Ren.upd_ne _ _ h1] at hrj
      exact hholdsup _ _ _ (hold j b0 rj h2 hrj)
  · intro j bj hj
    rcases hwas j bj hj with ⟨rfl, rfl⟩ | ⟨h1, b0, h2, rfl⟩
    · dsimp only
      refine ⟨_, hnow _ rb hrb, hrr, fun _ => ?_⟩
      by_cases e : i = b.root
      · simp [e]
      · simp [hrs (Ne.symm e)]
    · obtain ⟨r0, k1, k2, k3⟩ := h.roots j b0 h2
      dsimp only
      exact ⟨_, hnow _ r0 k1, k2, fun hx => by simp [k3 hx]⟩
  · intro j k bj bk hj hk he hsj hsk
    rcases hwas j bj hj with ⟨rfl, rfl⟩ | ⟨h1, b0, h2, rfl⟩ <;> rcases hwas k bk hk with ⟨rfl, rfl⟩ | ⟨k1, b1, k2, rfl⟩
    · rfl
    · dsimp only at he hsk
      simp only [Bool.or_eq_false_iff, decide_eq_false_iff_not] at hsk
      exact absurd (h.tip i k b b1 hgi k2 he hsup hsk.1) hsk.2
    · dsimp only at he hsj
      simp only [Bool.or_eq_false_iff, decide_eq_false_iff_not] at hsj
      exact absurd (h.tip i j b b0 hgi h2 he.symm hsup hsj.1) hsj.2
    · dsimp only at he hsj hsk
      simp only [Bool.or_eq_false_iff, decide_eq_false_iff_not] at hsj hsk
      exact h.tip j k b0 b1 h2 k2 he hsj.1 hsk.1
  · intro j k bj bk rj rk hj hk hrj hrk he
    have side : ∀ (b1 : Blk) (k : Nat) (rk : RE), m.alive k = some b1 → ρ k = some rk → rk.g = r.g → b1.root = b.root := by
      intro b1 k rk k2 hrk he
      rcases hg with ⟨hg1, _⟩ | hg2
      · rcases h.sep k i b1 b rk ri k2 ha hrk hri (by rw [he, hg1]) with h3 | ⟨_, h3⟩
        · exact h3
        · rw [hro] at h3; cases h3
      · exact absurd he (hg2 k b1 rk k2 hrk)
    rcases halive j bj hj with ⟨rfl, rfl⟩ | ⟨h1, b0, h2, rfl⟩ <;> rcases halive k bk hk with ⟨rfl, rfl⟩ | ⟨k1, b1, k2, rfl⟩
    · exact .inl rfl
    · rw [Ren.upd_same] at hrj; cases hrj
      rw [Ren.upd_ne _ _ k1] at hrk
      exact .inl (side b1 k rk k2 hrk he.symm).symm
    · rw [Ren.upd_same] at hrk; cases hrk
      rw [Ren.upd_ne _ _ h1] at hrj
      exact .inl (side b0 j rj h2 hrj he)
    · rw [Ren.upd_ne _ _ h1] at hrj; rw [Ren.upd_ne _ _ k1] at hrk
      exact h.sep j k b0 b1 rj rk h2 k2 hrj hrk he
  · intro j k bj bk rj rk hj hk hrj hrk he hrt hsk
    rcases halive j bj hj with ⟨rfl, rfl⟩ | ⟨h1, b0, h2, rfl⟩ <;> rcases halive k bk hk with ⟨rfl, rfl⟩ | ⟨k1, b1, k2, rfl⟩
    · rw [hrj] at hrk; cases hrk; exact Nat.le_refl _
    · dsimp only at hrt hsk
      simp only [Bool.or_eq_false_iff, decide_eq_false_iff_not] at hsk
      exact absurd (h.tip i k b b1 hgi (alive_get k2) hrt hsup hsk.1) hsk.2
    · rw [Ren.upd_same] at hrk; cases hrk
      rw [Ren.upd_ne _ _ h1] at hrj
      rcases hg with ⟨hg1, hg2⟩ | hg2
      · exact Nat.le_trans (h.top j i b0 b rj ri h2 ha hrj hri (by rw [he, hg1]) hrt hsup) hg2
      · exact absurd he (hg2 j b0 rj h2 hrj)
    · dsimp only at hrt hsk
      simp only [Bool.or_eq_false_iff, decide_eq_false_iff_not] at hsk
      rw [Ren.upd_ne _ _ h1] at hrj; rw [Ren.upd_ne _ _ k1] at hrk
      exact h.top j k b0 b1 rj rk h2 k2 hrj hrk he hrt hsk.1
  · intro j bj hj hrj
    rcases hwas j bj hj with ⟨rfl, rfl⟩ | ⟨h1, b0, h2, rfl⟩
    · cases hrj
    · dsimp only at hrj ⊢
      obtain ⟨k1, k2⟩ := h.rosup j b0 h2 hrj
      refine ⟨?_, k2⟩
      have : i ≠ j := by
        intro e; subst e; rw [hgi] at h2; cases h2; rw [hro] at hrj; cases hrj
      simp [k1, this]

end Go.IM
