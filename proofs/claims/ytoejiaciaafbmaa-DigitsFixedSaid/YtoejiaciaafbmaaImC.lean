/- The ideal machine, part C: a block is made; a cell is read, written. -/
import Derived.Test.YtoejiaciaafbmaaImB
set_option linter.unusedVariables false
set_option linter.unusedSimpArgs false
namespace Go.IM
open Go Go.RowKit

variable {P : Program} {B : Nat} {w0 : World} {ρ : Ren} {m : M} {w : World}

theorem Inv.drew (h : Inv P B w0 ρ m w) : Inv P B w0 ρ m { w with drawn := w.drawn + 1 } :=
  ⟨⟨h.below.os, h.below.tape, h.below.output, h.below.size, h.below.block⟩, h.size, h.dom, h.blk,
   fun i b r ha hr => (h.holds i b r ha hr).of_block rfl, h.roots, h.tip, h.sep, h.top, h.rosup⟩

/-- The block behind a place. -/
theorem Inv.re (h : Inv P B w0 ρ m w) {i : Nat} {b : Blk} (ha : m.alive i = some b) : ∃ r, ρ i = some r ∧ Holds P B ρ b r w := by
  obtain ⟨r, hr⟩ := h.blk i b (alive_get ha)
  exact ⟨r, hr, h.holds i b r ha hr⟩

theorem Inv.cell (h : Inv P B w0 ρ m w) {i : Nat} {b : Blk} {c : Array Value} {e : TypeId} {fr : Nat × Nat} (ha : m.alive i = some b) (ho : b.obj = .cells c e fr) {r : RE} (hr : ρ i = some r)
    {k : Nat} {x : Value} (hx : c[k]? = some x) : ∃ y, w.cell? ⟨r.g, r.base + k, none⟩ = some y ∧ VRel ρ x y := by
  have hh := h.holds i b r ha hr
  unfold Holds at hh
  rw [ho] at hh
  obtain ⟨h1, h2, c', e', fr', h3, h4, h5, _⟩ := hh
  obtain ⟨y, hy, hv⟩ := h5 k x hx
  exact ⟨y, by simp [World.cell?, h3, hy], hv⟩

theorem root_ne (h : Inv P B w0 ρ m w) {n : Nat} (hf : m.get n = none) {i : Nat} {b : Blk} (hg : m.get i = some b) : b.root ≠ n := by
  obtain ⟨rb, hr, _⟩ := h.roots i b hg
  intro e; rw [e, hf] at hr; cases hr

/-- A new block, the first of its kind. -/
def M.mk1 (m : M) (o : Obj) : M := (m.set m.nxt { obj := o, root := m.nxt }).bump

theorem alive_mk1 (h : Inv P B w0 ρ m w) (hf : m.get m.nxt = none) (o : Obj) (i : Nat) : (m.mk1 o).alive i = if i = m.nxt then some { obj := o, root := m.nxt } else m.alive i := by
  by_cases e : i = m.nxt
  · subst e
    rw [if_pos rfl]
    exact alive_mk (rb := { obj := o, root := m.nxt }) (by simp [M.mk1, M.get_set_same]) (by simp [M.mk1, M.get_set_same]) rfl
  · rw [if_neg e]
    unfold M.alive
    have e1 : (m.mk1 o).get i = m.get i := by simp [M.mk1, M.get_set_ne _ _ _ _ (Ne.symm e)]
    rw [e1]
    cases hg : m.get i with
    | none => rfl
    | some b =>
      dsimp only
      have e2 : (m.mk1 o).get b.root = m.get b.root := by simp [M.mk1, M.get_set_ne _ _ _ _ (Ne.symm (root_ne h hf hg))]
      rw [e2]

theorem get_mk1 (m : M) (o : Obj) (i : Nat) : (m.mk1 o).get i = if i = m.nxt then some { obj := o, root := m.nxt } else m.get i := by
  by_cases e : i = m.nxt
  · subst e; simp [M.mk1, M.get_set_same]
  · rw [if_neg e]; simp [M.mk1, M.get_set_ne _ _ _ _ (Ne.symm e)]

theorem holds_lt {b : Blk} {r : RE} (hh : Holds P B ρ b r w) : r.g < w.heap.size := by
  unfold Holds at hh
  split at hh
  · obtain ⟨_, _, c', e', fr', h3, _⟩ := hh
    exact (Array.getElem?_eq_some_iff.1 h3).1
  · obtain ⟨_, _, es', h2, _⟩ := hh
    exact (Array.getElem?_eq_some_iff.1 h2).1
  · obtain ⟨_, _, h2⟩ := hh
    exact (Array.getElem?_eq_some_iff.1 h2).1
  · exact hh.elim

theorem Inv.alloc (h : Inv P B w0 ρ m w) (hf : m.get m.nxt = none) (o o' : Obj) (r : RE) (hg : r.g = w.heap.size)
    (hh : Holds P B (ρ.upd m.nxt r) { obj := o, root := m.nxt } r (w.alloc o')) : Inv P B w0 (ρ.upd m.nxt r) (m.mk1 o) (w.alloc o') := by
  have hle := Ren.le_upd ρ m.nxt r (h.dom _ hf)
  have old : ∀ i b s, m.alive i = some b → ρ i = some s → Holds P B (ρ.upd m.nxt r) b s (w.alloc o') := by
    intro i b s ha hs
    have h1 := h.holds i b s ha hs
    refine (h1.of_block ?_).mono hle
    exact Below.heap_alloc w o' s.g (holds_lt h1)
  have lt : ∀ i b s, m.alive i = some b → ρ i = some s → s.g < w.heap.size := fun i b s ha hs => holds_lt (h.holds i b s ha hs)
  refine ⟨h.below.alloc (Nat.le_trans h.size h.below.size) o', h.size, ?_, ?_, ?_, ?_, ?_, ?_, ?_, ?_⟩
  · intro i hi
    rw [get_mk1] at hi
    split at hi
    · cases hi
    · rename_i e; rw [Ren.upd_ne _ _ e]; exact h.dom i hi
  · intro i b hi
    rw [get_mk1] at hi
    split at hi
    · rename_i e; subst e; exact ⟨r, Ren.upd_same _ _ _⟩
    · rename_i e; rw [Ren.upd_ne _ _ e]; exact h.blk i b hi
  · intro i b s ha hs
    rw [alive_mk1 h hf] at ha
    split at ha
    · rename_i e; subst e; cases ha; rw [Ren.upd_same] at hs; cases hs; exact hh
    · rename_i e; rw [Ren.upd_ne _ _ e] at hs; exact old i b s ha hs
  · intro i b hi
    rw [get_mk1] at hi
    split at hi
    · rename_i e; subst e; cases hi; exact ⟨_, by rw [get_mk1, if_pos rfl], rfl, fun h => absurd rfl h⟩
    · obtain ⟨rb, h1, h2, h3⟩ := h.roots i b hi
      exact ⟨rb, by rw [get_mk1, if_neg (root_ne h hf hi)]; exact h1, h2, h3⟩
  · intro i j bi bj hi hj he hsi hsj
    rw [get_mk1] at hi hj
    split at hi <;> split at hj
    · rename_i e1 e2; rw [e1, e2]
    · cases hi; exact absurd he.symm (root_ne h hf hj)
    · cases hj; exact absurd he (root_ne h hf hi)
    · exact h.tip i j bi bj hi hj he hsi hsj
  · intro i j bi bj ri rj hi hj hri hrj he
    rw [alive_mk1 h hf] at hi hj
    split at hi <;> split at hj
    · cases hi; cases hj; exact .inl rfl
    · rename_i e1 e2
      subst e1; rw [Ren.upd_same] at hri; cases hri
      rw [Ren.upd_ne _ _ e2] at hrj
      have := lt j bj rj hj hrj
      omega
    · rename_i e1 e2
      subst e2; rw [Ren.upd_same] at hrj; cases hrj
      rw [Ren.upd_ne _ _ e1] at hri
      have := lt i bi ri hi hri
      omega
    · rename_i e1 e2
      rw [Ren.upd_ne _ _ e1] at hri; rw [Ren.upd_ne _ _ e2] at hrj
      exact h.sep i j bi bj ri rj hi hj hri hrj he
  · intro i j bi bj ri rj hi hj hri hrj he hrt hsj
    rw [alive_mk1 h hf] at hi hj
    split at hi <;> split at hj
    · rename_i e1 e2; subst e1; subst e2; rw [hri] at hrj; cases hrj; exact Nat.le_refl _
    · cases hi; exact absurd hrt.symm (root_ne h hf (alive_get hj))
    · cases hj; exact absurd hrt (root_ne h hf (alive_get hi))
    · rename_i e1 e2
      rw [Ren.upd_ne _ _ e1] at hri; rw [Ren.upd_ne _ _ e2] at hrj
      exact h.top i j bi bj ri rj hi hj hri hrj he hrt hsj
  · intro i b hi hro
    rw [get_mk1] at hi
    split at hi
    · cases hi; cases hro
    · exact h.rosup i b hi hro

/-- A cell of a block is written: the elder generations are stale from now on. -/
def M.put (m : M) (i : Nat) (b : Blk) (o : Obj) : M :=
  if b.root = i then m.set i { b with obj := o }
  else match m.get b.root with
    | some rb => (m.set b.root { rb with dead := true }).set i { b with obj := o, root := i }
    | none => m

theorem Inv.put (h : Inv P B w0 ρ m w) {i : Nat} {b : Blk} (ha : m.alive i = some b) (hro : b.ro = false) (hsup : b.sup = false) {r : RE} (hr : ρ i = some r) (o o' : Obj)
    {w' : World} (hos : w'.os = w.os) (htp : w'.tape = w.tape) (hout : w'.output = w.output) (hsz : w'.heap.size = w.heap.size) (hB : B ≤ r.g)
    (hoth : ∀ k, k ≠ r.g → w'.heap[k]? = w.heap[k]?) (hnew : Holds P B ρ { b with obj := o } r w') : Inv P B w0 ρ (m.put i b o) w' := by
  have hg := alive_get ha
  obtain ⟨rb, hrb, hrr, hrs⟩ := h.roots i b hg
  obtain ⟨rb', hrb', hdead⟩ := alive_root ha
  rw [hrb] at hrb'; cases hrb'
  have hbel : Below B w0 w' := h.below.trans ⟨hos, htp, hout, by omega, fun k hk => hoth k (by omega)⟩
  -- who else is alive over the same real block is of the same family
  have hfam : ∀ j bj rj, m.alive j = some bj → ρ j = some rj → rj.g = r.g → bj.root = b.root := by
    intro j bj rj hj hrj he
    rcases h.sep j i bj b rj r hj ha hrj hr he with h1 | ⟨_, h2⟩
    · exact h1
    · rw [hro] at h2; cases h2
  by_cases hroot : b.root = i
  · -- it is the first one: nobody else is of its family
    have honly : ∀ j bj, m.get j = some bj → bj.root = i → j = i := by
      intro j bj hj hje
      by_cases e : j = i
      · exact e
      · obtain ⟨rbj, h1, _, h3⟩ := h.roots j bj hj
        rw [hje, hg] at h1; cases h1
        have := h3 (by rw [hje]; exact Ne.symm e)
        rw [hsup] at this; cases this
    have eput : m.put i b o = m.set i { b with obj := o } := by simp [M.put, hroot]
    have hget : ∀ j, (m.put i b o).get j = if i = j then some { b with obj := o } else m.get j := fun j => by rw [eput, M.get_set]
    rw [hroot, hg] at hrb; cases hrb
    have hal : ∀ j, (m.put i b o).alive j = if i = j then some { b with obj := o } else m.alive j := by
      intro j
      by_cases e : i = j
      · subst e
        rw [if_pos rfl]
        exact alive_mk (rb := { b with obj := o }) (by rw [hget, if_pos rfl]) (by rw [hget, if_pos hroot.symm]) hdead
      · rw [if_neg e]
        unfold M.alive
        rw [hget, if_neg e]
        cases hj : m.get j with
        | none => rfl
        | some bj =>
          dsimp only
          rw [hget, if_neg (fun he => e (honly j bj hj he.symm).symm)]
    refine ⟨hbel, h.size, ?_, ?_, ?_, ?_, ?_, ?_, ?_, ?_⟩
    · intro j hj; rw [hget] at hj; split at hj
      · cases hj
      · exact h.dom j hj
    · intro j bj hj; rw [hget] at hj; split at hj
      · rename_i e; subst e; exact ⟨r, hr⟩
      · exact h.blk j bj hj
    · intro j bj rj hj hrj; rw [hal] at hj; split at hj
      · rename_i e; subst e; cases hj; rw [hr] at hrj; cases hrj; exact hnew
      · rename_i e
        refine (h.holds j bj rj hj hrj).of_block (hoth _ fun he => ?_)
        exact e (honly j bj (alive_get hj) ((hfam j bj rj hj hrj he).trans hroot)).symm
    · intro j bj hj; rw [hget] at hj; split at hj
      · rename_i e; subst e; cases hj
        exact ⟨{ b with obj := o }, by rw [hget, if_pos hroot.symm], rfl, fun hne => absurd hroot hne⟩
      · rename_i e
        obtain ⟨rbj, h1, h2, h3⟩ := h.roots j bj hj
        refine ⟨rbj, ?_, h2, h3⟩
        rw [hget, if_neg (fun he => e (honly j bj hj he.symm).symm)]; exact h1
    · intro j k bj bk hj hk he hsj hsk
      rw [hget] at hj hk
      split at hj <;> split at hk
      · rename_i e1 e2; rw [← e1, ← e2]
      · rename_i e1 e2; cases hj; exact absurd (honly k bk hk (he.symm.trans hroot)).symm e2
      · rename_i e1 e2; cases hk; exact absurd (honly j bj hj (he.trans hroot)).symm e1
      · exact h.tip j k bj bk hj hk he hsj hsk
    · intro j k bj bk rj rk hj hk hrj hrk he
      rw [hal] at hj hk
      split at hj <;> split at hk
      · cases hj; cases hk; exact .inl rfl
      · rename_i e1 e2; subst e1; cases hj
        rw [hr] at hrj; cases hrj
        exact .inl (hfam k bk rk hk hrk he.symm).symm
      · rename_i e1 e2; subst e2; cases hk
        rw [hr] at hrk; cases hrk
        exact .inl (hfam j bj rj hj hrj he)
      · exact h.sep j k bj bk rj rk hj hk hrj hrk he
    · intro j k bj bk rj rk hj hk hrj hrk he hrt hsk
      rw [hal] at hj hk
      split at hj <;> split at hk
      · rename_i e1 e2; subst e1; subst e2; rw [hrj] at hrk; cases hrk; exact Nat.le_refl _
      · rename_i e1 e2; cases hj; exact absurd (honly k bk (alive_get hk) (hrt.symm.trans hroot)).symm e2
      · rename_i e1 e2; cases hk; exact absurd (honly j bj (alive_get hj) (hrt.trans hroot)).symm e1
      · exact h.top j k bj bk rj rk hj hk hrj hrk he hrt hsk
    · intro j bj hj hrj; rw [hget] at hj; split at hj
      · rename_i e; subst e; cases hj; exact ⟨hsup, hroot⟩
      · exact h.rosup j bj hj hrj
  · -- a later one: the elder ones are stale
    have hne : b.root ≠ i := hroot
    have eput : m.put i b o = (m.set b.root { rb with dead := true }).set i { b with obj := o, root := i } := by simp [M.put, hroot, hrb]
    have hget : ∀ j, (m.put i b o).get j = if i = j then some { b with obj := o, root := i } else if b.root = j then some { rb with dead := true } else m.get j := by
      intro j; rw [eput, M.get_set]; split
      · rfl
      · rw [M.get_set]
    have nochild : ∀ j bj, m.get j = some bj → bj.root ≠ i := by
      intro j bj hj hje
      obtain ⟨rbj, h1, h2, h3⟩ := h.roots j bj hj
      rw [hje, hg] at h1; cases h1
      exact hne (h2.trans hje)
    have hal : ∀ j bj, (m.put i b o).alive j = some bj → (j = i ∧ bj = { b with obj := o, root := i }) ∨ (j ≠ i ∧ m.alive j = some bj ∧ bj.root ≠ b.root) := by
      intro j bj hj
      have hj1 := alive_get hj
      obtain ⟨rbj, hj2, hj3⟩ := alive_root hj
      rw [hget] at hj1
      split at hj1
      · rename_i e; subst e; cases hj1; exact .inl ⟨rfl, rfl⟩
      · rename_i e
        split at hj1
        · rename_i e2; subst e2; cases hj1
          exfalso
          rw [hget, if_neg (by simpa [hrr] using (Ne.symm hne)), if_pos hrr.symm] at hj2
          cases hj2; cases hj3
        · rename_i e2
          rw [hget, if_neg (fun he => nochild j bj hj1 he.symm)] at hj2
          split at hj2
          · cases hj2; cases hj3
          · rename_i e3
            exact .inr ⟨Ne.symm e, alive_mk hj1 hj2 hj3, Ne.symm e3⟩
    refine ⟨hbel, h.size, ?_, ?_, ?_, ?_, ?_, ?_, ?_, ?_⟩
    · intro j hj; rw [hget] at hj; split at hj
      · cases hj
      · split at hj
        · cases hj
        · exact h.dom j hj
    · intro j bj hj; rw [hget] at hj; split at hj
      · rename_i e; subst e; exact ⟨r, hr⟩
      · split at hj
        · rename_i e2; subst e2; exact h.blk _ rb hrb
        · exact h.blk j bj hj
    · intro j bj rj hj hrj
      rcases hal j bj hj with ⟨rfl, rfl⟩ | ⟨h1, h2, h3⟩
      · rw [hr] at hrj; cases hrj
        unfold Holds at hnew ⊢; exact hnew
      · refine (h.holds j bj rj h2 hrj).of_block (hoth _ fun he => h3 (hfam j bj rj h2 hrj he))
    · intro j bj hj; rw [hget] at hj; split at hj
      · rename_i e; subst e; cases hj
        exact ⟨_, by rw [hget, if_pos rfl], rfl, fun hx => absurd rfl hx⟩
      · rename_i e
        split at hj
        · rename_i e2; subst e2; cases hj
          dsimp only
          refine ⟨{ rb with dead := true }, ?_, rfl, fun hx => absurd hrr hx⟩
          rw [hget, hrr, if_neg (Ne.symm hne), if_pos rfl]
        · obtain ⟨rbj, h1, h2, h3⟩ := h.roots j bj hj
          by_cases e3 : b.root = bj.root
          · rw [← e3, hrb] at h1; cases h1
            refine ⟨{ rb with dead := true }, ?_, by rw [← e3]; exact hrr, ?_⟩
            · rw [hget, if_neg (fun he => nochild j bj hj he.symm), if_pos e3]
            · intro hx; exact h3 (by rw [← e3] at hx ⊢; exact hx)
          · refine ⟨rbj, ?_, h2, h3⟩
            rw [hget, if_neg (fun he => nochild j bj hj he.symm), if_neg e3]; exact h1
    · -- one tip a family
      have wit : ∀ j bj, (m.put i b o).get j = some bj → (j = i ∧ bj.root = i) ∨ (j ≠ i ∧ bj.root ≠ i ∧ ∃ b0, m.get j = some b0 ∧ b0.root = bj.root ∧ b0.sup = bj.sup) := by
        intro j bj hj; rw [hget] at hj; split at hj
        · rename_i e; subst e; cases hj; exact .inl ⟨rfl, rfl⟩
        · rename_i e
          split at hj
          · rename_i e2; subst e2; cases hj
            exact .inr ⟨Ne.symm e, by rw [hrr]; exact hne, rb, hrb, rfl, rfl⟩
          · exact .inr ⟨Ne.symm e, nochild j bj hj, bj, hj, rfl, rfl⟩
      intro j k bj bk hj hk he hsj hsk
      rcases wit j bj hj with ⟨rfl, h1⟩ | ⟨h1, h2, b1, h3, h4, h5⟩ <;> rcases wit k bk hk with ⟨rfl, k1⟩ | ⟨k1, k2, b2, k3, k4, k5⟩
      · rfl
      · exact absurd (he.symm.trans h1) k2
      · exact absurd (he.trans k1) h2
      · exact h.tip j k b1 b2 h3 k3 (by rw [h4, k4]; exact he) (by rw [h5]; exact hsj) (by rw [k5]; exact hsk)
    · intro j k bj bk rj rk hj hk hrj hrk he
      rcases hal j bj hj with ⟨rfl, rfl⟩ | ⟨h1, h2, h3⟩ <;> rcases hal k bk hk with ⟨rfl, rfl⟩ | ⟨k1, k2, k3⟩
      · exact .inl rfl
      · rw [hr] at hrj; cases hrj; exact absurd (hfam k bk rk k2 hrk he.symm) k3
      · rw [hr] at hrk; cases hrk; exact absurd (hfam j bj rj h2 hrj he) h3
      · exact h.sep j k bj bk rj rk h2 k2 hrj hrk he
    · intro j k bj bk rj rk hj hk hrj hrk he hrt hsk
      rcases hal j bj hj with ⟨rfl, rfl⟩ | ⟨h1, h2, h3⟩ <;> rcases hal k bk hk with ⟨rfl, rfl⟩ | ⟨k1, k2, k3⟩
      · rw [hrj] at hrk; cases hrk; exact Nat.le_refl _
      · rw [hr] at hrj; cases hrj; exact absurd (hfam k bk rk k2 hrk he.symm) k3
      · rw [hr] at hrk; cases hrk; exact absurd (hfam j bj rj h2 hrj he) h3
      · exact h.top j k bj bk rj rk h2 k2 hrj hrk he hrt hsk
    · intro j bj hj hrj; rw [hget] at hj; split at hj
      · rename_i e; subst e; cases hj; rw [hro] at hrj; cases hrj
      · split at hj
        · rename_i e2; subst e2; cases hj
          exact h.rosup _ rb hrb hrj
        · exact h.rosup j bj hj hrj

end Go.IM
