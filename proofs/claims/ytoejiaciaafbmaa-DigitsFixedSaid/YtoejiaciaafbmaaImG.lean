/- The ideal machine, part G: what each operation does, there and here. -/
import Derived.Test.YtoejiaciaafbmaaImF
set_option linter.unusedVariables false
set_option linter.unusedSimpArgs false
namespace Go.IM
open Go Go.RowKit

variable {P : Program} {B : Nat} {w0 : World} {ρ : Ren} {m m' : M} {w : World}

theorem run_typeInfo {t : TypeId} {i : TypeInfo} (h : P.info? t = some i) (w : World) : (typeInfo t).run P w = .ok i w := by simp [typeInfo, h]
theorem run_sizeOf {t : TypeId} {i : TypeInfo} (h : P.info? t = some i) (w : World) : (sizeOf t).run P w = .ok i.size w := by simp [sizeOf, run_typeInfo h]
theorem isAgg_run {t : TypeId} {b : Bool} (h : isAggT P t = some b) (w : World) : (isAgg t).run P w = .ok b w := by
  unfold isAggT at h
  split at h
  · cases h; simp [isAgg, run_underlying ‹P.underlying t = _›]
  · cases h; simp [isAgg, run_underlying ‹P.underlying t = _›]
  · cases h
    rename_i d h1 h2 hd
    simp only [isAgg, Sem.run_bind, run_underlying hd, Result.andThen_ok]
    cases d <;> first | rfl | (exfalso; simp_all)
  · cases h

theorem partOf_sound {t : TypeId} {cs cs' : Array Value} {off : Nat} {v : Value} (hc : VsRel ρ cs cs') (h : partOf P t cs off = some v) : ∃ v', (part t cs' off).run P w = .ok v' w ∧ VRel ρ v v' := by
  unfold partOf at h
  split at h
  · rename_i i ha hi
    cases h
    have hx := hc.extract off (off + i.size)
    exact ⟨_, by simp [part, isAgg_run ha, run_sizeOf hi], .agg hx.1 hx.2⟩
  · rename_i i ha hi
    obtain ⟨y, hy, hv⟩ := hc.get h
    exact ⟨y, by simp [part, isAgg_run ha, hy], hv⟩
  · cases h

theorem load_sound (h : Inv P B w0 ρ m w) {t : TypeId} {a a' v : Value} (ha : VRel ρ a a') (hl : iload P t a m = some v) : ∃ v', (Instr.loadAt t a').run P w = .ok v' w ∧ VRel ρ v v' := by
  unfold iload at hl
  split at hl
  · rename_i i o
    cases ha
    rename_i r hr
    split at hl
    · rename_i ti hag hti
      simp only [Option.map_eq_some_iff] at hl
      obtain ⟨cs, hcs, rfl⟩ := hl
      obtain ⟨r', cs', hr', _, hv, _, _, hrun⟩ := h.cells_sound hcs
      rw [hr] at hr'; cases hr'
      exact ⟨.agg cs', by simp [Instr.loadAt, Instr.sureAddr, loadVar, isAgg_run hag, run_sizeOf hti, hrun], .agg hv.1 hv.2⟩
    · rename_i ti hag hti
      obtain ⟨r', y, hr', hy, hv⟩ := h.cell_sound hl
      rw [hr] at hr'; cases hr'
      exact ⟨y, by simp [Instr.loadAt, Instr.sureAddr, loadVar, isAgg_run hag, hy], hv⟩
    · cases hl
  · cases hl

theorem store_sound (h : Inv P B w0 ρ m w) {t : TypeId} {a a' v v' : Value} (ha : VRel ρ a a') (hv : VRel ρ v v') (hl : istore P t a v m = some m') :
    ∃ w', (Instr.storeAt t a' v').run P w = .ok () w' ∧ Inv P B w0 ρ m' w' := by
  unfold istore at hl
  split at hl
  · rename_i i o ti hti
    cases ha
    rename_i r hr
    split at hl
    · rename_i hsz
      have hc := hv.cells
      obtain ⟨r', w', hr', hb, hrun, hinv, _⟩ := h.store_sound (vs' := v'.cells.toList) hl (by simpa using hc.1) (fun k x y hx hy => hc.2 k x y (by simpa using hx) (by simpa using hy))
      rw [hr] at hr'; cases hr'
      have hne : v'.cells.size = ti.size := by rw [← hc.1]; exact hsz
      refine ⟨w', ?_, hinv⟩
      rw [hb, Nat.zero_add]
      simp [Instr.storeAt, Instr.sureAddr, storeVar, run_sizeOf hti, hne, hrun]
    · cases hl
  · cases hl

theorem run_newRow (e : TypeId) (c : Array Value) (w : World) : (newRow e c).run P w = .ok ⟨w.heap.size, 0, none⟩ (w.alloc (.cells c e)) := by simp [newRow]

theorem zeroOf_run {t : TypeId} {z : Value} (h : zeroOf P t = some z) (w : World) : (zeroValue t).run P w = .ok z w ∧ flat 3 z = true ∧ ∃ i, P.info? t = some i ∧ i.zero = some z := by
  unfold zeroOf at h
  split at h
  · rename_i i hi
    split at h
    · rename_i z' hz
      split at h
      · cases h; exact ⟨by simp [zeroValue, run_typeInfo hi, hz], ‹_›, i, hi, hz⟩
      · cases h
    · cases h
  · cases h

theorem VsRel.refl_cells {z : Value} (h : flat 3 z = true) : VsRel ρ z.cells z.cells := (flat_rel ρ 3 z h).cells

/-- What 'new' with related cells gives. -/
theorem new_rel (h : Inv P B w0 ρ m w) {c c' : Array Value} {e : TypeId} {a : Addr} (hn : m.new c e = some (a, m')) (hv : VsRel ρ c c') :
    ∃ ρ', ρ.le ρ' ∧ Inv P B w0 ρ' m' (w.alloc (.cells c' e)) ∧ a = ⟨m.nxt, 0, none⟩ ∧ ρ' m.nxt = some ⟨w.heap.size, 0, c.size, c'.size, P.cellsOf e⟩ := by
  obtain ⟨h1, _, _, h3, h4⟩ := h.new_sound (e' := e) hn (Nat.le_of_eq hv.1) hv.2 (0, 0) (.inl rfl)
  exact ⟨_, h3, h4, h1, Ren.upd_same _ _ _⟩

theorem ptr0 {ρ' : Ren} {n g N sz k : Nat} (h : ρ' k = some ⟨g, 0, n, N, sz⟩) : VRel ρ' (.pointer (some ⟨k, 0, none⟩)) (.pointer (some ⟨g, 0, none⟩)) := by
  have := VRel.ptr 0 h
  simpa using this

theorem alloc_sound (h : Inv P B w0 ρ m w) {t : TypeId} {z : Value} {a : Addr} (hz : zeroOf P t = some z) (hn : m.new z.cells t = some (a, m')) :
    ∃ v' w' ρ', (Instr.alloc t true (.tuple #[])).run P w = .ok v' w' ∧ ρ.le ρ' ∧ Inv P B w0 ρ' m' w' ∧ VRel ρ' (.pointer (some a)) v' := by
  obtain ⟨hr, hf, _⟩ := zeroOf_run hz w
  obtain ⟨ρ', h1, h2, rfl, h3⟩ := new_rel h hn (VsRel.refl_cells hf)
  exact ⟨_, _, ρ', by simp [Instr.alloc, hr, newVar, run_newRow], h1, h2, ptr0 h3⟩

theorem box_sound (h : Inv P B w0 ρ m w) {t : TypeId} {v v' : Value} {a : Addr} (hv : VRel ρ v v') (hn : m.new v.cells t = some (a, m')) :
    ∃ u w' ρ', (Instr.box t v').run P w = .ok u w' ∧ ρ.le ρ' ∧ Inv P B w0 ρ' m' w' ∧ VRel ρ' (.pointer (some a)) u := by
  obtain ⟨ρ', h1, h2, rfl, h3⟩ := new_rel h hn hv.cells
  exact ⟨_, _, ρ', by simp [Instr.box, newVar, run_newRow], h1, h2, ptr0 h3⟩

/-- Parts, each with its place. -/
def PsRel (ρ : Ren) : List (Nat × Value) → List (Nat × Value) → Prop
  | [], [] => True
  | x :: l, y :: l' => (x.1 = y.1 ∧ VRel ρ x.2 y.2) ∧ PsRel ρ l l'
  | _, _ => False
theorem PsRel.map {α : Type} (f f' : α → Value) (h : ∀ x, VRel ρ (f x) (f' x)) : ∀ (l : List (Nat × α)), PsRel ρ (l.map fun (i, x) => (i, f x)) (l.map fun (i, x) => (i, f' x))
  | [] => trivial
  | (i, x) :: l => ⟨⟨rfl, h x⟩, PsRel.map f f' h l⟩

theorem foldl_set_rel {vs vs' : Array Value} (hv : VsRel ρ vs vs') {cs cs' : Array Value} (hc : VsRel ρ cs cs') (off : Nat) :
    VsRel ρ (vs.zipIdx.foldl (fun cs (c, j) => cs.setIfInBounds (off + j) c) cs) (vs'.zipIdx.foldl (fun cs (c, j) => cs.setIfInBounds (off + j) c) cs') := by
  rw [← Array.foldl_toList, ← Array.foldl_toList]
  simp only [Array.toList_zipIdx]
  have key : ∀ (l l' : List Value) (k : Nat), l.length = l'.length → (∀ (i : Nat) (x y : Value), l[i]? = some x → l'[i]? = some y → VRel ρ x y) → ∀ {cs cs' : Array Value}, VsRel ρ cs cs' →
      VsRel ρ ((l.zipIdx k).foldl (fun cs (c, j) => cs.setIfInBounds (off + j) c) cs) ((l'.zipIdx k).foldl (fun cs (c, j) => cs.setIfInBounds (off + j) c) cs') := by
    intro l
    induction l with
    | nil => intro l' k hl hr cs cs' hc; cases l' with
      | nil => exact hc
      | cons => simp at hl
    | cons x l ih =>
      intro l' k hl hr cs cs' hc
      cases l' with
      | nil => simp at hl
      | cons y l' =>
        simp only [List.zipIdx_cons, List.foldl_cons]
        exact ih l' (k + 1) (by simpa using hl) (fun i a b ha hb => hr (i + 1) a b (by simpa using ha) (by simpa using hb)) (hc.set _ (hr 0 x y rfl rfl))
  exact key _ _ 0 (by simpa using hv.1) (fun i x y hx hy => hv.2 i x y (by simpa using hx) (by simpa using hy)) hc

theorem fill_rel (place : Nat → Option (Nat × Nat)) : ∀ (l l' : List (Nat × Value)) {cs cs' : Array Value} {out : Array Value}, PsRel ρ l l' → VsRel ρ cs cs' → Instr.fill place cs l = some out →
    ∃ out', Instr.fill place cs' l' = some out' ∧ VsRel ρ out out' := by
  intro l
  induction l with
  | nil =>
    intro l' cs cs' out hl hc hf
    cases l' with
    | cons => exact hl.elim
    | nil =>
    simp only [Instr.fill, Option.some.injEq] at hf
    subst hf
    exact ⟨cs', rfl, hc⟩
  | cons x l ih =>
    intro l' cs cs' out hl hc hf
    cases l' with
    | nil => exact hl.elim
    | cons y l' =>
    obtain ⟨hxy, hl⟩ := hl
    obtain ⟨i, v⟩ := x
    obtain ⟨i', v'⟩ := y
    obtain ⟨h1, h2⟩ := hxy
    dsimp only at h1 h2
    subst h1
    have hcv := h2.cells
    simp only [Instr.fill] at hf ⊢
    cases hp : place i with
    | none => rw [hp] at hf; cases hf
    | some p =>
      obtain ⟨off, size⟩ := p
      rw [hp] at hf
      dsimp only at hf ⊢
      rw [← hcv.1, ← hc.1]
      split at hf
      · cases hf
      · rename_i hn
        rw [if_neg hn]
        exact ih l' hl (foldl_set_rel hcv hc off) hf

theorem build_sound {t : TypeId} {l l' : Array (Nat × Value)} {v z : Value} (hl : PsRel ρ l.toList l'.toList) (hz : zeroOf P t = some z) (hb : pureSem P (Instr.build t l) = some v) :
    ∃ v', (Instr.build t l').run P w = .ok v' w ∧ VRel ρ v v' := by
  suffices hs : ∃ v', pureSem P (Instr.build t l') = some v' ∧ VRel ρ v v' by
    obtain ⟨v', h1, h2⟩ := hs
    exact ⟨v', pureSem_run _ _ h1 w, h2⟩
  obtain ⟨_, hf, i, hi, hzi⟩ := zeroOf_run hz w
  have hzp : pureSem P (zeroValue t) = some z := by simp [zeroValue, typeInfo, pureSem_bind, program, pureSem, hi, hzi, pure]
  unfold Instr.build at hb ⊢
  simp only [pureSem_bind, hzp, Option.bind_some] at hb ⊢
  have hc0 : VsRel ρ z.cells z.cells := VsRel.refl_cells hf
  cases hu : pureSem P (underlying t) with
  | none => rw [hu] at hb; cases hb
  | some d =>
    rw [hu] at hb
    simp only [Option.bind_some] at hb ⊢
    cases d with
    | struct fields =>
      dsimp only at hb ⊢
      simp only [pureSem_bind] at hb ⊢
      cases hm : pureSem P (fields.mapM fun f => do pure (f.offset, ← sizeOf f.type)) with
      | none => rw [hm] at hb; cases hb
      | some places =>
        rw [hm] at hb
        simp only [Option.bind_some] at hb ⊢
        cases hfl : Instr.fill (fun x => places[x]?) z.cells l.toList with
        | none => rw [hfl] at hb; simp [stuck, pureSem] at hb
        | some cells =>
          rw [hfl] at hb
          obtain ⟨out, h1, h2⟩ := fill_rel _ _ _ hl hc0 hfl
          rw [h1]
          simp [pureSem, pure] at hb ⊢
          subst hb
          exact .agg h2.1 h2.2
    | array n e =>
      dsimp only at hb ⊢
      simp only [pureSem_bind] at hb ⊢
      cases hm : pureSem P (sizeOf e) with
      | none => rw [hm] at hb; cases hb
      | some size =>
        rw [hm] at hb
        simp only [Option.bind_some] at hb ⊢
        cases hfl : Instr.fill (fun i => some (i * size, size)) z.cells l.toList with
        | none => rw [hfl] at hb; simp [stuck, pureSem] at hb
        | some cells =>
          rw [hfl] at hb
          obtain ⟨out, h1, h2⟩ := fill_rel _ _ _ hl hc0 hfl
          rw [h1]
          simp [pureSem, pure] at hb ⊢
          subst hb
          exact .agg h2.1 h2.2
    | _ => simp [stuck, pureSem] at hb

end Go.IM
