/- The ideal machine, part U: what an operation leaves alone; a block more changes nothing. -/
import Derived.Test.YtoejiaciaafbmaaImN
set_option linter.unusedVariables false
set_option linter.unusedSimpArgs false
namespace Go.IM
open Go Go.RowKit

/-- What is seen of a block. -/
def M.look (m : M) (i : Nat) : Option (Obj × Bool) := (m.alive i).map fun b => (b.obj, b.ro)

/-- The first generation of each block is there. -/
def Wf (m : M) : Prop := ∀ i x, m.get i = some x → x.root ≤ i ∧ ∃ rb, m.get x.root = some rb

structure Fr (m m1 : M) : Prop where
  bar : m1.bar = m.bar
  nxt : m.nxt ≤ m1.nxt
  dom : ∀ i, m1.get i = none → m.get i = none
  wf : Wf m → Wf m1
  look : Wf m → m.bar ≤ m.nxt → ∀ i, i < m.bar → m1.look i = m.look i

theorem Fr.refl (m : M) : Fr m m := ⟨rfl, Nat.le_refl _, fun _ h => h, id, fun _ _ _ _ => rfl⟩
theorem Fr.trans {a b c : M} (h : Fr a b) (k : Fr b c) : Fr a c :=
  ⟨k.bar.trans h.bar, Nat.le_trans h.nxt k.nxt, fun i hi => h.dom i (k.dom i hi), fun w => k.wf (h.wf w), fun w hb i hi => by
    rw [k.look (h.wf w) (by rw [h.bar]; exact Nat.le_trans hb h.nxt) i (by rw [h.bar]; exact hi)]
    exact h.look w hb i hi⟩

theorem row_look {m m' : M} {i : Nat} (h : m'.look i = m.look i) : m'.row i = m.row i := by
  unfold M.look at h
  unfold M.row
  cases h1 : m'.alive i with
  | none =>
    rw [h1] at h
    cases h2 : m.alive i with
    | none => rfl
    | some b => rw [h2] at h; cases h
  | some b1 =>
    rw [h1] at h
    cases h2 : m.alive i with
    | none => rw [h2] at h; cases h
    | some b2 =>
      rw [h2] at h
      simp only [Option.map_some, Option.some.injEq, Prod.mk.injEq] at h
      dsimp only
      rw [h.1]

/-! ### One block more -/
variable {m m1 : M} {k : Nat} {b : Blk}

theorem alive_ins {i : Nat} {x : Blk} (hk : m.get k = none) (h : m.alive i = some x) : (m.set k b).alive i = some x := by
  obtain ⟨rb, h1, h2⟩ := alive_root h
  refine alive_mk (rb := rb) ?_ ?_ h2
  · have hg := alive_get h
    rw [M.get_set, if_neg (by intro e; rw [← e, hk] at hg; cases hg)]; exact hg
  · rw [M.get_set, if_neg (by intro e; rw [← e, hk] at h1; cases h1)]; exact h1
theorem row_ins {i : Nat} {p : Array Value × TypeId} (hk : m.get k = none) (h : m.row i = some p) : (m.set k b).row i = some p := by
  obtain ⟨c, e⟩ := p
  obtain ⟨x, fr, h1, h2⟩ := row_some h
  unfold M.row
  rw [alive_ins hk h1]; dsimp only; rw [h2]
theorem cell_ins {i o : Nat} {v : Value} (hk : m.get k = none) (h : m.cell i o = some v) : (m.set k b).cell i o = some v := by
  unfold M.cell at h ⊢
  split at h
  · rename_i c e hr; rw [row_ins hk hr]; exact h
  · cases h
theorem cells_ins {i o n : Nat} {v : Array Value} (hk : m.get k = none) (h : m.cells i o n = some v) : (m.set k b).cells i o n = some v := by
  unfold M.cells at h ⊢
  split at h
  · rename_i c e hr; rw [row_ins hk hr]; exact h
  · cases h

theorem bump_set (m : M) (k : Nat) (b : Blk) : (m.set k b).bump = m.bump.set k b := rfl
theorem mk1_ins (o : Obj) (hn : m.nxt ≠ k) : (m.set k b).mk1 o = (m.mk1 o).set k b := by
  unfold M.mk1
  rw [M.nxt_set, M.set_comm _ _ _ _ _ hn.symm]
  rfl
theorem gen_ins {i : Nat} {x : Blk} (o : Obj) (hi : i ≠ k) (hn : m.nxt ≠ k) : (m.set k b).gen i x o = (m.gen i x o).set k b := by
  unfold M.gen
  rw [M.nxt_set, M.set_comm m k i _ _ hi.symm, M.set_comm _ k m.nxt _ _ hn.symm]
  rfl
theorem put_ins {i : Nat} {x : Blk} (o : Obj) (hk : m.get k = none) (hi : i ≠ k) (hr : x.root ≠ k) (hb : ∃ rb, m.get x.root = some rb) : (m.set k b).put i x o = (m.put i x o).set k b := by
  obtain ⟨rb, hrb⟩ := hb
  unfold M.put
  split
  · rw [M.set_comm _ _ _ _ _ hi.symm]
  · rw [M.get_set, if_neg hr.symm, hrb]
    dsimp only
    rw [M.set_comm m k x.root _ _ hr.symm, M.set_comm _ k i _ _ hi.symm]

theorem get_ne_of {i : Nat} {x : Blk} (hk : m.get k = none) (h : m.get i = some x) : i ≠ k := by
  intro e; subst e; rw [hk] at h; cases h

theorem new_ins {c : Array Value} {e : TypeId} {a : Addr} (hk : m.nxt ≠ k) (h : m.new c e = some (a, m1)) : (m.set k b).new c e = some (a, m1.set k b) := by
  unfold M.new at h ⊢
  rw [M.nxt_set, M.get_set, if_neg hk.symm]
  split at h
  · rename_i hf
    cases h
    rw [mk1_ins _ hk]
  · cases h

theorem look_eq {m m' : M} {i : Nat} (hg : m'.get i = m.get i) (hr : ∀ x, m.get i = some x → ∃ r r', m.get x.root = some r ∧ m'.get x.root = some r' ∧ r'.dead = r.dead) : m'.look i = m.look i := by
  unfold M.look M.alive
  rw [hg]
  cases h : m.get i with
  | none => rfl
  | some x =>
    obtain ⟨r, r', h1, h2, h3⟩ := hr x h
    dsimp only
    rw [h1, h2]
    simp [h3]

theorem mk1_fr (o : Obj) (hf : m.get m.nxt = none) : Fr m (m.mk1 o) := by
  refine ⟨rfl, by simp [M.mk1], fun i hi => ?_, fun w i x hi => ?_, fun w hb i hi => ?_⟩
  · rw [get_mk1] at hi
    split at hi
    · cases hi
    · exact hi
  · rw [get_mk1] at hi
    split at hi
    · rename_i e; cases hi; exact ⟨Nat.le_of_eq e.symm, _, by rw [get_mk1, if_pos rfl]⟩
    · obtain ⟨hle, rb, h1⟩ := w i x hi
      refine ⟨hle, ?_⟩
      rw [get_mk1]
      split
      · exact ⟨_, rfl⟩
      · exact ⟨rb, h1⟩
  · refine look_eq (by rw [get_mk1, if_neg (by omega)]) fun x hx => ?_
    obtain ⟨_, rb, h1⟩ := w i x hx
    refine ⟨rb, rb, h1, ?_, rfl⟩
    rw [get_mk1, if_neg (by intro e; rw [e, hf] at h1; cases h1)]; exact h1

theorem new_fr {c : Array Value} {e : TypeId} {a : Addr} (h : m.new c e = some (a, m1)) : Fr m m1 ∧ m1 = m.mk1 (.cells c e) ∧ m.get m.nxt = none ∧ a = ⟨m.nxt, 0, none⟩ := by
  unfold M.new at h
  split at h
  · rename_i hf
    cases h
    exact ⟨mk1_fr _ hf, rfl, hf, rfl⟩
  · cases h

theorem gen_fr {i : Nat} {x : Blk} (o : Obj) (hf : m.get m.nxt = none) (hi : m.alive i = some x) (hle : x.root ≤ m.nxt) : Fr m (m.gen i x o) := by
  have hgi := alive_get hi
  have hin : i ≠ m.nxt := by intro e; rw [e, hf] at hgi; cases hgi
  have hget : ∀ j, (m.gen i x o).get j = if j = m.nxt then some { obj := o, root := x.root } else if i = j then some { x with sup := true } else m.get j := by
    intro j
    simp only [M.gen, M.get_bump, M.get_set]
    by_cases e : j = m.nxt
    · subst e; simp
    · rw [if_neg e, if_neg (Ne.symm e)]
  obtain ⟨rx, hrx, hdx⟩ := alive_root hi
  have hroot : ∀ j y, m.get j = some y → (∃ rb, m.get y.root = some rb) → ∃ r r', m.get y.root = some r ∧ (m.gen i x o).get y.root = some r' ∧ r'.dead = r.dead := by
    rintro j y hy ⟨rb, hrb⟩
    refine ⟨rb, if i = y.root then { x with sup := true } else rb, hrb, ?_, ?_⟩
    · rw [hget, if_neg (by intro e; rw [e, hf] at hrb; cases hrb)]
      split <;> simp_all
    · split
      · rename_i e; rw [← e, hgi] at hrb; cases hrb; rfl
      · rfl
  refine ⟨rfl, by simp [M.gen], fun j hj => ?_, fun w j y hj => ?_, fun w hb j hj => ?_⟩
  · rw [hget] at hj
    split at hj
    · cases hj
    · split at hj
      · cases hj
      · exact hj
  · rw [hget] at hj
    split at hj
    · rename_i e
      cases hj
      obtain ⟨r, r', _, h2, _⟩ := hroot i x hgi ⟨rx, hrx⟩
      exact ⟨by rw [e]; exact hle, r', h2⟩
    · split at hj
      · rename_i e
        cases hj
        obtain ⟨r, r', _, h2, _⟩ := hroot i x hgi ⟨rx, hrx⟩
        exact ⟨by rw [← e]; exact (w i x hgi).1, r', h2⟩
      · obtain ⟨r, r', _, h2, _⟩ := hroot j y hj (w j y hj).2
        exact ⟨(w j y hj).1, r', h2⟩
  · by_cases e : i = j
    · subst e
      unfold M.look
      obtain ⟨r, r', h1, h2, h3⟩ := hroot i x hgi ⟨rx, hrx⟩
      rw [hrx] at h1; cases h1
      have : (m.gen i x o).alive i = some { x with sup := true } := alive_mk (rb := r') (by rw [hget, if_neg hin, if_pos rfl]) h2 (by rw [h3]; exact hdx)
      rw [this, hi]; rfl
    · exact look_eq (by rw [hget, if_neg (by omega), if_neg e]) fun y hy => hroot j y hy (w j y hy).2

theorem put_fr {i : Nat} {x : Blk} (o : Obj) (hi : m.alive i = some x) (hb1 : m.bar ≤ i) (hb2 : m.bar ≤ x.root) : Fr m (m.put i x o) := by
  have hgi := alive_get hi
  obtain ⟨rx, hrx, hdx⟩ := alive_root hi
  unfold M.put
  split
  · rename_i hroot
    have hget : ∀ j, (m.set i { x with obj := o }).get j = if i = j then some { x with obj := o } else m.get j := fun j => M.get_set _ _ _ _
    have hr : ∀ j y, m.get j = some y → (∃ rb, m.get y.root = some rb) → ∃ r r', m.get y.root = some r ∧ (m.set i { x with obj := o }).get y.root = some r' ∧ r'.dead = r.dead := by
      rintro j y hy ⟨rb, hrb⟩
      refine ⟨rb, if i = y.root then { x with obj := o } else rb, hrb, ?_, ?_⟩
      · rw [hget]; split <;> simp_all
      · split
        · rename_i e; rw [← e, hgi] at hrb; cases hrb; rfl
        · rfl
    refine ⟨rfl, Nat.le_refl _, fun j hj => ?_, fun w j y hj => ?_, fun w hb j hj => ?_⟩
    · rw [hget] at hj; split at hj
      · cases hj
      · exact hj
    · rw [hget] at hj; split at hj
      · rename_i e
        cases hj
        obtain ⟨r, r', _, h2, _⟩ := hr i x hgi ⟨rx, hrx⟩
        exact ⟨by rw [← e]; exact (w i x hgi).1, r', h2⟩
      · obtain ⟨r, r', _, h2, _⟩ := hr j y hj (w j y hj).2
        exact ⟨(w j y hj).1, r', h2⟩
    · exact look_eq (by rw [hget, if_neg (by omega)]) fun y hy => hr j y hy (w j y hy).2
  · rename_i hroot
    rw [hrx]
    dsimp only
    have hget : ∀ j, ((m.set x.root { rx with dead := true }).set i { x with obj := o, root := i }).get j = if i = j then some { x with obj := o, root := i } else if x.root = j then some { rx with dead := true } else m.get j := by
      intro j; rw [M.get_set]; split
      · rfl
      · rw [M.get_set]
    refine ⟨rfl, Nat.le_refl _, fun j hj => ?_, fun w j y hj => ?_, fun w hb j hj => ?_⟩
    · rw [hget] at hj; split at hj
      · cases hj
      · split at hj
        · cases hj
        · exact hj
    · rw [hget] at hj; split at hj
      · rename_i e; cases hj; exact ⟨Nat.le_of_eq e, _, by rw [hget, if_pos rfl]⟩
      · have : y.root ≤ j ∧ ∃ rb, m.get y.root = some rb := by
          split at hj
          · rename_i e; cases hj; rw [← e]; exact w x.root rx hrx
          · exact w j y hj
        obtain ⟨hle, rb, hrb⟩ := this
        refine ⟨hle, ?_⟩
        rw [hget]
        split
        · exact ⟨_, rfl⟩
        · split
          · exact ⟨_, rfl⟩
          · exact ⟨rb, hrb⟩
    · refine look_eq (by rw [hget, if_neg (by omega), if_neg (by omega)]) fun y hy => ?_
      obtain ⟨hle, rb, hrb⟩ := w j y hy
      exact ⟨rb, rb, hrb, by rw [hget, if_neg (by omega), if_neg (by omega)]; exact hrb, rfl⟩

end Go.IM
