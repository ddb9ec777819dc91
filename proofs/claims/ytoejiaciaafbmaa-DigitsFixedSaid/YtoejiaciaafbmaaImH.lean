/- The ideal machine, part H: slices. -/
import Derived.Test.YtoejiaciaafbmaaImG
namespace Go.IM
open Go Go.RowKit

variable {P : Program} {B : Nat} {w0 : World} {ρ : Ren} {m m' : M} {w : World}

theorem slice_new {ρ' : Ren} {k g n N sz len cap cap' : Nat} (h : ρ' k = some ⟨g, 0, n, N, sz⟩) (hl : len ≤ cap) (hb : cap * sz = n) (h1 : cap ≤ cap') (h2 : cap' * sz ≤ N) :
    VRel ρ' (.slice (some ⟨k, 0, none⟩) len cap) (.slice (some ⟨g, 0, none⟩) len cap') := by
  have := VRel.slice (ρ := ρ') (o := 0) (len := len) (cap := cap) (cap' := cap') h hl (by dsimp only; omega) (.inr ⟨rfl, by dsimp only; omega, h1, by dsimp only; omega⟩)
  simpa using this

theorem fill_size (place : Nat → Option (Nat × Nat)) : ∀ (l : List (Nat × Value)) {cs out : Array Value}, Instr.fill place cs l = some out → out.size = cs.size := by
  intro l
  induction l with
  | nil => intro cs out h; simp [Instr.fill] at h; rw [h]
  | cons x l ih =>
    intro cs out h
    obtain ⟨i, v⟩ := x
    simp only [Instr.fill] at h
    split at h
    · cases h
    · split at h
      · cases h
      · rw [ih h]
        rw [← Array.foldl_toList, Array.toList_zipIdx]
        have : ∀ (l : List (Value × Nat)) (off : Nat) (cs : Array Value), (l.foldl (fun cs (c, j) => cs.setIfInBounds (off + j) c) cs).size = cs.size := by
          intro l
          induction l with
          | nil => intro off cs; rfl
          | cons x l ih => intro off cs; simp only [List.foldl_cons]; rw [ih]; simp
        exact this _ _ _

theorem zeros_rel {z : Array Value} (h : VsRel ρ z z) (n : Nat) : VsRel ρ ((Array.range n).map (z[· % z.size]!)) ((Array.range n).map (z[· % z.size]!)) := by
  refine VsRel.map _ _ _ fun i => ?_
  have e : z[i % z.size]! = z.getD (i % z.size) default := by simp [Array.getElem!_eq_getD]
  rw [e]
  exact h.getD _ (.bool _)

theorem buildSlice_sound (h : Inv P B w0 ρ m w) {t : TypeId} {len : Nat} {l l' : Array (Nat × Value)} {v : Value} (hl : PsRel ρ l.toList l'.toList) (hb : ibuildSlice P t len l.toList m = some (v, m')) :
    ∃ v' w' ρ', (Instr.buildSlice t len l').run P w = .ok v' w' ∧ ρ.le ρ' ∧ Inv P B w0 ρ' m' w' ∧ VRel ρ' v v' := by
  unfold ibuildSlice at hb
  split at hb
  · rename_i e hu
    split at hb
    · rename_i ti z hti hz
      split at hb
      · rename_i hle
        split at hb
        · rename_i cells hf
          split at hb
          · rename_i a m1 hn
            split at hb
            · rename_i hsz
              cases hb
              obtain ⟨hzr, hfl, i, hi, hzi⟩ := zeroOf_run hz w
              rw [hti] at hi; cases hi
              have hzz : VsRel ρ (if len * ti.size = 0 then (#[] : Array Value) else z.cells) (if len * ti.size = 0 then (#[] : Array Value) else z.cells) := by
                split
                · exact VsRel.nil _
                · exact VsRel.refl_cells hfl
              obtain ⟨out, h1, h2⟩ := fill_rel _ _ _ hl (zeros_rel hzz _) hf
              have hsize : cells.size = len * ti.size := by rw [fill_size _ _ hf]; simp
              obtain ⟨ρ', k1, k2, rfl, k3⟩ := new_rel h hn h2
              refine ⟨.slice (some ⟨w.heap.size, 0, none⟩) len len, _, ρ', ?_, k1, k2, ?_⟩
              · have hno : ¬ (len * ti.size > 2 ^ 24) := by omega
                by_cases h0 : len * ti.size = 0
                · simp only [h0, if_true, Array.range_zero', Array.map_empty] at h1
                  simp [Instr.buildSlice, run_underlying hu, run_sizeOf hti, h0, h1, run_newRow, Array.range_zero']
                · simp only [h0, if_false] at h1
                  simp [Instr.buildSlice, run_underlying hu, run_sizeOf hti, h0, hno, hzr, h1, run_newRow]
              · refine slice_new k3 (Nat.le_refl _) ?_ (Nat.le_refl _) ?_
                · rw [hsize, show P.cellsOf e = ti.size by simp [Program.cellsOf, hti]]
                · rw [← h2.1, hsize, show P.cellsOf e = ti.size by simp [Program.cellsOf, hti]]; exact Nat.le_refl _
            · cases hb
          · cases hb
        · cases hb
      · cases hb
    · cases hb
  · cases hb

theorem wrap_i64 {n : Int} (h0 : -9223372036854775808 ≤ n) (h1 : n ≤ 9223372036854775807) : IntKind.i64.wrap n = n := by
  rw [IntKind.wrap_i64]
  omega

theorem makeSlice_sound (h : Inv P B w0 ρ m w) {t : TypeId} {l l' c c' v : Value} (hl : VRel ρ l l') (hc : VRel ρ c c') (hb : imakeSlice P t l c m = some (v, m')) :
    ∃ v' w' ρ', (Instr.makeSlice t l' c').run P w = .ok v' w' ∧ ρ.le ρ' ∧ Inv P B w0 ρ' m' w' ∧ VRel ρ' v v' := by
  unfold imakeSlice at hb
  split at hb
  · rename_i e k1 l k2 c hu
    cases hl; cases hc
    split at hb
    · rename_i ti z hti hz
      split at hb
      · rename_i hcond
        obtain ⟨h0, h1, h2, h3⟩ := hcond
        split at hb
        · rename_i a m1 hn
          cases hb
          obtain ⟨hzr, hfl, i, hi, hzi⟩ := zeroOf_run hz w
          rw [hti] at hi; cases hi
          have hzz : VsRel ρ (if c.toNat * ti.size = 0 then (#[] : Array Value) else z.cells) (if c.toNat * ti.size = 0 then (#[] : Array Value) else z.cells) := by
            split
            · exact VsRel.nil _
            · exact VsRel.refl_cells hfl
          obtain ⟨ρ', j1, j2, rfl, j3⟩ := new_rel h hn (zeros_rel hzz _)
          refine ⟨.slice (some ⟨w.heap.size, 0, none⟩) l.toNat c.toNat, _, ρ', ?_, j1, j2, ?_⟩
          · have w1 : IntKind.i64.wrap l = l := wrap_i64 (by omega) (by omega)
            have w2 : IntKind.i64.wrap c = c := wrap_i64 (by omega) (by omega)
            have n1 : ¬ (c < 0) := by omega
            have n2 : ¬ (l < 0) := by omega
            have n3 : ¬ (c < l) := by omega
            have n4 : ¬ (281474976710656 < (ti.bytes : Int) * c) := by omega
            by_cases h00 : c.toNat * ti.size = 0
            · simp [Instr.makeSlice, run_underlying hu, asInt, asIntOf, run_typeInfo hti, run_sizeOf hti, w1, w2, n1, n2, n3, n4, h00, run_newRow]
            · simp [Instr.makeSlice, run_underlying hu, asInt, asIntOf, run_typeInfo hti, run_sizeOf hti, w1, w2, n1, n2, n3, n4, h00, hzr, run_newRow]
          · have e1 : P.cellsOf e = ti.size := by simp [Program.cellsOf, hti]
            refine slice_new j3 (by omega) ?_ (Nat.le_refl _) ?_
            · simp [e1]
            · simp [e1]
        · cases hb
      · cases hb
    · cases hb
  · cases hb

end Go.IM
