/- The ideal machine, part F: reading, writing, making cells, there and here. -/
import Derived.Test.YtoejiaciaafbmaaImE
import Derived.Laws.CopyRow
import Derived.Laws.Append
import Derived.Laws.Entries
import Derived.WalkSmall
namespace Go.IM
open Go Go.RowKit

variable {P : Program} {B : Nat} {w0 : World} {ρ : Ren} {m m' : M} {w : World}

theorem pureSem_run {α : Type} : ∀ (s : Sem α) (a : α), pureSem P s = some a → ∀ w, s.run P w = .ok a w := by
  intro s
  induction s with
  | pure a => intro b h w; simp [pureSem] at h; subst h; rfl
  | program k ih => intro b h w; simp only [pureSem] at h; simp only [Sem.run]; exact ih P b h w
  | mark m k ih => intro b h w; simp only [pureSem] at h; simp only [Sem.run]; exact ih b h w
  | _ => intro b h; simp [pureSem] at h

theorem pureSem_bind {α β : Type} (s : Sem α) (f : α → Sem β) : pureSem P (s >>= f) = (pureSem P s).bind fun a => pureSem P (f a) := by
  show pureSem P (s.bind f) = _
  induction s with
  | pure a => rfl
  | program k ih => simp only [Sem.bind, pureSem]; exact ih P
  | mark m k ih => simp only [Sem.bind, pureSem]; exact ih
  | _ => rfl

theorem add_plain (g o j : Nat) : (⟨g, o, none⟩ : Addr).add j = ⟨g, o + j, none⟩ := Addr.add_lit g o j

theorem row_some {i : Nat} {c : Array Value} {e : TypeId} (h : m.row i = some (c, e)) : ∃ b fr, m.alive i = some b ∧ b.obj = .cells c e fr := by
  unfold M.row at h
  split at h
  · rename_i b hb
    split at h
    · rename_i c' e' fr ho; cases h; exact ⟨b, fr, hb, ho⟩
    · cases h
  · cases h

/-- A row that can be read. -/
theorem Inv.row (h : Inv P B w0 ρ m w) {i : Nat} {c : Array Value} {e : TypeId} (hr : m.row i = some (c, e)) :
    ∃ r, ρ i = some r ∧ r.n = c.size ∧ r.sz = P.cellsOf e ∧ ∀ (k : Nat) (x : Value), c[k]? = some x → ∃ y, w.cell? ⟨r.g, r.base + k, none⟩ = some y ∧ VRel ρ x y := by
  obtain ⟨b, fr, ha, ho⟩ := row_some hr
  obtain ⟨r, h1, h2⟩ := h.re ha
  refine ⟨r, h1, ?_, ?_, fun k x hx => h.cell ha ho h1 hx⟩
  · unfold Holds at h2; rw [ho] at h2; exact h2.1
  · unfold Holds at h2; rw [ho] at h2; exact h2.2.1

theorem Inv.cell_sound (h : Inv P B w0 ρ m w) {i o : Nat} {x : Value} (hc : m.cell i o = some x) : ∃ r y, ρ i = some r ∧ w.cell? ⟨r.g, r.base + o, none⟩ = some y ∧ VRel ρ x y := by
  unfold M.cell at hc
  split at hc
  · rename_i c e hr
    obtain ⟨r, h1, _, _, h2⟩ := h.row hr
    obtain ⟨y, h3, h4⟩ := h2 o x hc
    exact ⟨r, y, h1, h3, h4⟩
  · cases hc

/-- So many cells: what the machine reads. -/
theorem Inv.cells_sound (h : Inv P B w0 ρ m w) {i o n : Nat} {cs : Array Value} (hc : m.cells i o n = some cs) :
    ∃ r cs', ρ i = some r ∧ o + n ≤ r.n ∧ VsRel ρ cs cs' ∧ cs.size = n ∧ (∀ j v, cs'.toList[j]? = some v → w.cell? ((⟨r.g, r.base + o, none⟩ : Addr).add j) = some v) ∧
      (loadCells ⟨r.g, r.base + o, none⟩ n).run P w = .ok cs' w := by
  unfold M.cells at hc
  split at hc
  · rename_i c e hr
    split at hc
    · rename_i hle
      cases hc
      obtain ⟨r, h1, hn, _, h2⟩ := h.row hr
      have hsz : (c.extract o (o + n)).size = n := by simp; omega
      let f : Nat → Value := fun j => (w.cell? ⟨r.g, r.base + o + j, none⟩).getD undef
      have hf : ∀ j, j < n → w.cell? ((⟨r.g, r.base + o, none⟩ : Addr).add j) = some (f j) ∧ ∀ x, (c.extract o (o + n))[j]? = some x → VRel ρ x (f j) := by
        intro j hj
        have hx : c[o + j]? = some c[o + j] := by simp
        obtain ⟨y, h3, h4⟩ := h2 (o + j) _ hx
        rw [add_plain]
        have h3' : w.cell? ⟨r.g, r.base + o + j, none⟩ = some y := by rw [Nat.add_assoc]; exact h3
        have hfj : f j = y := by show (w.cell? ⟨r.g, r.base + o + j, none⟩).getD undef = y; rw [h3']; rfl
        refine ⟨by rw [h3', hfj], fun x hx2 => ?_⟩
        rw [Array.getElem?_extract, if_pos (by omega), hx] at hx2
        cases hx2; rw [hfj]; exact h4
      have hl : ∀ j v, ((Array.range n).map f).toList[j]? = some v → w.cell? ((⟨r.g, r.base + o, none⟩ : Addr).add j) = some v := by
        intro j v hv
        have hj : j < n := by
          have := (List.getElem?_eq_some_iff.1 hv).1
          simpa using this
        rw [(hf j hj).1]
        rw [← hv]
        simp [hj]
      refine ⟨r, (Array.range n).map f, h1, by omega, ⟨by simp; omega, ?_⟩, hsz, hl, ?_⟩
      · intro j x y hx hy
        have hj : j < n := by
          have := (Array.getElem?_eq_some_iff.1 hx).1
          omega
        have : y = f j := by simp [hj] at hy; exact hy.symm
        rw [this]
        exact (hf j hj).2 x hx
      · have := run_loadCells_list (P := P) w ⟨r.g, r.base + o, none⟩ ((Array.range n).map f).toList hl
        rw [Array.toArray_toList, show ((Array.range n).map f).toList.length = n by simp] at this
        exact this
    · cases hc
  · cases hc

/-- A new row of cells. -/
theorem Inv.new_sound (h : Inv P B w0 ρ m w) {c c' : Array Value} {e e' : TypeId} {a : Addr} (hn : m.new c e = some (a, m')) (hsz : c.size ≤ c'.size)
    (hv : ∀ (k : Nat) (x y : Value), c[k]? = some x → c'[k]? = some y → VRel ρ x y) (fr : Nat × Nat) (hfr : fr = (0, 0) ∨ c'.size ≤ fr.1) :
    a = ⟨m.nxt, 0, none⟩ ∧ m' = m.mk1 (.cells c e) ∧ m.get m.nxt = none ∧ ρ.le (ρ.upd m.nxt ⟨w.heap.size, 0, c.size, c'.size, P.cellsOf e⟩) ∧
      Inv P B w0 (ρ.upd m.nxt ⟨w.heap.size, 0, c.size, c'.size, P.cellsOf e⟩) m' (w.alloc (.cells c' e' fr)) := by
  unfold M.new at hn
  split at hn
  · rename_i hf
    cases hn
    have hle := Ren.le_upd ρ m.nxt ⟨w.heap.size, 0, c.size, c'.size, P.cellsOf e⟩ (h.dom _ hf)
    refine ⟨rfl, rfl, hf, hle, h.alloc hf _ _ _ rfl ?_⟩
    unfold Holds
    dsimp only
    refine ⟨rfl, rfl, c', e', fr, heap_alloc_new w _, by simpa using hsz, fun k x hx => ?_, (fun h => by cases h), fun _ => ⟨Nat.le_trans h.size h.below.size, rfl, rfl, hfr⟩⟩
    have hk : k < c'.size := by have := (Array.getElem?_eq_some_iff.1 hx).1; omega
    refine ⟨c'[k], by simp [hk], (hv k x _ hx (by simp [hk])).mono hle⟩
  · cases hn

theorem one_oneCell (v : Value) : one v = v.oneCell' := by cases v <;> rfl

theorem wr_size (c : Array Value) (o : Nat) : ∀ (l : List Value), (wr c o l).size = c.size := by
  intro l
  induction l generalizing c o with
  | nil => rfl
  | cons v l ih => simp [wr, ih]

theorem wr_rel {base : Nat} : ∀ {l l' : List Value} (o : Nat) {c c' : Array Value}, l.length = l'.length → (∀ (k : Nat) (x y : Value), l[k]? = some x → l'[k]? = some y → VRel ρ x y) → base + c.size ≤ c'.size →
    (∀ (k : Nat) (x : Value), c[k]? = some x → ∃ y, c'[base + k]? = some y ∧ VRel ρ x y) →
    ∀ (k : Nat) (x : Value), (wr c o l)[k]? = some x → ∃ y, (wr c' (base + o) l')[base + k]? = some y ∧ VRel ρ x y := by
  intro l
  induction l with
  | nil => intro l' o c c' hl hv hsz hc; cases l' with
    | nil => exact hc
    | cons => simp at hl
  | cons v l ih =>
    intro l' o c c' hl hv hsz hc
    cases l' with
    | nil => simp at hl
    | cons v' l' =>
      simp only [wr]
      rw [Nat.add_assoc]
      refine ih (o + 1) (by simpa using hl) (fun k x y hx hy => hv (k + 1) x y (by simpa using hx) (by simpa using hy)) (by simpa using hsz) ?_
      intro k x hx
      rw [Array.getElem?_setIfInBounds] at hx
      by_cases e : o = k
      · subst e
        rw [if_pos rfl] at hx
        split at hx
        · cases hx
          refine ⟨v', ?_, hv 0 v v' rfl rfl⟩
          rw [Array.getElem?_setIfInBounds, if_pos rfl, if_pos (by omega)]
        · cases hx
      · rw [if_neg e] at hx
        obtain ⟨y, h1, h2⟩ := hc k x hx
        exact ⟨y, by rw [Array.getElem?_setIfInBounds, if_neg (by omega)]; exact h1, h2⟩

theorem run_storeCells (g : Nat) (t : TypeId) (fr : Nat × Nat) (o : Nat) : ∀ (vs : List Value) (i : Nat) (cur : Array Value) (w : World), w.heap[g]? = some (.cells cur t fr) → (fr = (0, 0) ∨ cur.size ≤ fr.1) →
    o + i + vs.length ≤ cur.size → (∀ v ∈ vs, one v = true) → (storeCells ⟨g, o, none⟩ vs i).run P w = .ok () (w.setRow g (wr cur (o + i) vs))
  | [], i, cur, w, hg, _, _, _ => by
    simp only [storeCells, wr]
    rw [setRow_self w g cur t fr hg]
    rfl
  | v :: rest, i, cur, w, hg, hf, hl, h1 => by
    have hi : o + i < cur.size := by simp at hl; omega
    have hcell : w.cell? ⟨g, o + i, none⟩ = some cur[o + i] := by simp [World.cell?, hg, hi]
    have hfro : w.frozen? ⟨g, o + i, none⟩ = false := by
      rcases hf with rfl | hf
      · simp [World.frozen?, hg]
      · obtain ⟨lo, hi'⟩ := fr
        dsimp only at hf
        simp only [World.frozen?, hg]
        simp
        omega
    have hst : (store ((⟨g, o, none⟩ : Addr).add i) v).run P w = .ok () (w.setRow g (cur.setIfInBounds (o + i) v)) := by
      rw [add_plain, run_store P w _ v _ (by rw [← one_oneCell]; exact h1 v (by simp)), hcell]
      simp [hfro, setCell_eq_setRow w g (o + i) cur t fr v hg]
    have ih := run_storeCells g t fr o rest (i + 1) (cur.setIfInBounds (o + i) v) (w.setRow g (cur.setIfInBounds (o + i) v)) (setRow_heap w g cur _ t _ hg) (by simpa using hf) (by simp at hl ⊢; omega) (fun x hx => h1 x (by simp [hx]))
    simp only [storeCells, Sem.run_bind, hst, Result.andThen_ok, ih, setRow_setRow]
    rfl

/-- Cells are written. -/
theorem Inv.store_sound (h : Inv P B w0 ρ m w) {i o : Nat} {vs vs' : List Value} (hs : m.store i o vs = some m') (hl : vs.length = vs'.length)
    (hv : ∀ (k : Nat) (x y : Value), vs[k]? = some x → vs'[k]? = some y → VRel ρ x y) :
    ∃ r w', ρ i = some r ∧ r.base = 0 ∧ (storeCells ⟨r.g, o, none⟩ vs').run P w = .ok () w' ∧ Inv P B w0 ρ m' w' ∧ w'.heap.size = w.heap.size := by
  unfold M.store at hs
  split at hs
  · rename_i b ha
    split at hs
    · rename_i c e fr ho
      split at hs
      · rename_i hc
        obtain ⟨hro, hsup, hle, hone, _, _⟩ := hc
        cases hs
        obtain ⟨r, hr, hh⟩ := h.re ha
        have hh0 := hh
        unfold Holds at hh
        rw [ho] at hh
        obtain ⟨h1, h2, c', e', fr', h3, h4, h5, h6, h7⟩ := hh
        obtain ⟨k1, k2, k3, k4⟩ := h7 hro
        have hone' : ∀ v ∈ vs', one v = true := by
          intro v hv'
          obtain ⟨k, hk, rfl⟩ := List.mem_iff_getElem.1 hv'
          have hk' : k < vs.length := by omega
          have hrel := hv k vs[k] vs'[k] (List.getElem?_eq_getElem hk') (List.getElem?_eq_getElem hk)
          have h1 : one vs[k] = true := by rw [List.all_eq_true] at hone; exact hone _ (List.getElem_mem _)
          revert h1 hrel
          generalize vs[k] = a
          generalize vs'[k] = b
          intro hrel h1
          cases hrel <;> first | rfl | (simp [one] at h1)
        rw [k2, Nat.zero_add] at h4
        have hrun := run_storeCells (P := P) r.g e' fr' o vs' 0 c' w h3 k4 (by omega) hone'
        refine ⟨r, _, hr, k2, hrun, ?_, by simp⟩
        refine h.put ha hro hsup hr _ .(.cells c' e' fr') rfl rfl rfl (by simp) k1 (fun k hk => setRow_other w r.g k _ hk) ?_
        unfold Holds
        dsimp only
        refine ⟨by rw [wr_size]; exact h1, h2, _, e', fr', setRow_heap w r.g c' _ e' fr' h3, by rw [wr_size, wr_size, k2, Nat.zero_add]; exact h4, ?_, (fun hx => by rw [hro] at hx; cases hx), fun _ => ⟨k1, k2, by rw [wr_size]; exact k3, by rw [wr_size]; exact k4⟩⟩
        rw [k2] at h5 ⊢
        have := wr_rel (ρ := ρ) (c := c) (c' := c') (base := 0) o hl hv (by omega) h5
        simpa using this
      · cases hs
    · cases hs
  · cases hs

end Go.IM
