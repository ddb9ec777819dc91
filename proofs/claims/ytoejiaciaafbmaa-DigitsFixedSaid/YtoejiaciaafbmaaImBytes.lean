/- The ideal machine: bytes in the memory. -/
import Derived.Test.YtoejiaciaafbmaaImPath
set_option linter.unusedVariables false
namespace Go.IM
open Go

variable {P : Program} {m : M}

/-- A value that is a slice of these bytes. -/
def IsBytes (m : M) (v : Value) (b : List UInt8) : Prop :=
  (v = .slice none 0 0 ∧ b = []) ∨ ∃ i off cap, v = .slice (some ⟨i, off, none⟩) b.length cap ∧ ∀ (j : Nat) (x : UInt8), b[j]? = some x → m.cell i (off + j) = some (.int .u8 (x.toNat : Int))

def byteV (x : UInt8) : Value := .int .u8 (x.toNat : Int)

theorem wf_byte {n : Int} (h : (Lit.int .u8 n).wf = true) : ∃ x : UInt8, n = (x.toNat : Int) := by
  have h2 : 0 ≤ n ∧ n ≤ 255 := by simpa [Lit.wf, IntKind.min, IntKind.max, IntKind.signed, IntKind.bits] using h
  refine ⟨UInt8.ofNat n.toNat, ?_⟩
  simp [UInt8.toNat_ofNat']
  omega

theorem chunks_bytes {f : Nat} {e : TypeId} (he : P.underlying e = some (.int .u8)) (hc : P.cellsOf e = 1) : ∀ (n : Nat) {cs : List Value}, chunksOK (OkV P m (f + 1)) P.cellsOf (List.replicate n e) cs → ∃ b : List UInt8, b.length = n ∧ cs = b.map byteV := by
  intro n
  induction n with
  | zero => intro cs h; exact ⟨[], rfl, h⟩
  | succ n ih =>
    intro cs h
    obtain ⟨h1, h2⟩ := h
    rw [hc] at h1 h2
    obtain ⟨b, hb, hcs⟩ := ih h2
    unfold OkV at h1
    rw [he] at h1
    obtain ⟨k, hk, hwf⟩ := h1
    obtain ⟨x, rfl⟩ := wf_byte hwf
    refine ⟨x :: b, by simp [hb], ?_⟩
    rw [List.map_cons, ← hcs]
    have := List.take_append_drop 1 cs
    rw [hk] at this
    exact this.symm

/-- A slice of bytes that is handed over. -/
theorem okv_bytes {f : Nat} {t e : TypeId} {v : Value} (hr : RoMem m) (ht : P.underlying t = some (.slice e)) (he : P.underlying e = some (.int .u8)) (hc : P.cellsOf e = 1) (h : OkV P m (f + 2) t [v]) :
    ∃ b : List UInt8, b.length < 2 ^ 63 ∧ ((v = .slice none 0 0 ∧ b = []) ∨ ∃ i cap, v = .slice (some ⟨i, 0, none⟩) b.length cap ∧ b.length ≤ cap ∧ cap < 2 ^ 63 ∧
      ∀ (j : Nat) (x : UInt8), b[j]? = some x → m.cell i (0 + j) = some (byteV x)) := by
  unfold OkV at h
  rw [ht] at h
  rcases h with h | ⟨i, h⟩ | ⟨i, len, cap, c, h1, h2, h3, h4, h5, h6⟩
  · simp only [List.cons.injEq, and_true] at h
    exact ⟨[], by simp, .inl ⟨h, rfl⟩⟩
  · simp only [List.cons.injEq, and_true] at h
    exact ⟨[], by simp, .inr ⟨i, 0, h, Nat.le_refl _, by omega, fun j x hx => by simp at hx⟩⟩
  · simp only [List.cons.injEq, and_true] at h1
    obtain ⟨b, hb, hcs⟩ := chunks_bytes he hc cap h6
    have hmax : maxLen = 2 ^ 63 - 1 := rfl
    have hlen : (b.take len).length = len := by rw [List.length_take]; omega
    refine ⟨b.take len, by rw [hlen]; omega, .inr ⟨i, cap, by rw [hlen]; exact h1, by rw [hlen]; exact h3, by omega, fun j x hx => ?_⟩⟩
    have hrow : m.row i = some (c, e) := by unfold M.row; rw [hr.alive h5]; rfl
    unfold M.cell
    rw [hrow]
    dsimp only
    have hj : j < len := by have := (List.getElem?_eq_some_iff.1 hx).1; omega
    rw [List.getElem?_take, if_pos hj] at hx
    rw [Nat.zero_add, ← Array.getElem?_toList, hcs, List.getElem?_map, hx]
    rfl

/-! ### New blocks -/
theorem alive_mk1_new (o : Obj) : (m.mk1 o).alive m.nxt = some { obj := o, root := m.nxt } :=
  alive_mk (rb := { obj := o, root := m.nxt }) (by rw [get_mk1, if_pos rfl]) (by rw [get_mk1, if_pos rfl]) rfl
theorem alive_mk1_old {o : Obj} {i : Nat} {b : Blk} (hf : m.get m.nxt = none) (h : m.alive i = some b) : (m.mk1 o).alive i = some b := by
  have : m.mk1 o = ((m.set m.nxt { obj := o, root := m.nxt }).bump) := rfl
  have h2 := alive_ins (b := { obj := o, root := m.nxt }) hf h
  exact h2
theorem cell_mk1_old {o : Obj} {i j : Nat} {v : Value} (hf : m.get m.nxt = none) (h : m.cell i j = some v) : (m.mk1 o).cell i j = some v := by
  have := cell_ins (b := { obj := o, root := m.nxt }) hf h
  exact this
theorem cell_mk1_new (c : Array Value) (e : TypeId) (j : Nat) : (m.mk1 (.cells c e)).cell m.nxt j = c[j]? := by
  unfold M.cell M.row
  rw [alive_mk1_new]
theorem IsBytes.mk1 {o : Obj} {v : Value} {b : List UInt8} (hf : m.get m.nxt = none) (h : IsBytes m v b) : IsBytes (m.mk1 o) v b := by
  rcases h with h | ⟨i, off, cap, h1, h2⟩
  · exact .inl h
  · exact .inr ⟨i, off, cap, h1, fun j x hx => cell_mk1_old hf (h2 j x hx)⟩

/-- All that is not drawn yet is free. -/
def Free (m : M) : Prop := ∀ i, m.nxt ≤ i → m.get i = none
theorem RoMem.free (h : RoMem m) : Free m := fun i hi => (h.dense i).2 hi
theorem Free.mk1 (h : Free m) (o : Obj) : Free (m.mk1 o) := by
  intro i hi
  have : (m.mk1 o).nxt = m.nxt + 1 := rfl
  rw [get_mk1, if_neg (by omega)]
  exact h i (by omega)

end Go.IM
