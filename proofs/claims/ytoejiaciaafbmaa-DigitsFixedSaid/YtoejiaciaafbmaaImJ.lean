/- The ideal machine, part J: texts and bytes; append; copy. -/
import Derived.Test.YtoejiaciaafbmaaImI
import Derived.Laws.BytesArg
import Derived.Laws.IdiomStrings
import Derived.Laws.AppendOwn
namespace Go.IM
open Go Go.RowKit

variable {P : Program} {B : Nat} {w0 : World} {ρ : Ren} {m m' : M} {w : World}

theorem bytesOf_nums : ∀ (cs : List Value) (l : List UInt8), bytesOf cs = some l → ∃ xs : List Int, cs = xs.map (Value.int .u8) ∧ l = xs.map fun n => UInt8.ofNat n.toNat := by
  intro cs
  induction cs with
  | nil => intro l h; simp [bytesOf] at h; exact ⟨[], rfl, by simp [h]⟩
  | cons c cs ih =>
    intro l h
    unfold bytesOf at h
    split at h
    · simp at *
    · rename_i n r heq
      simp only [List.cons.injEq] at heq
      obtain ⟨rfl, rfl⟩ := heq
      simp only [Option.map_eq_some_iff] at h
      obtain ⟨l', h1, rfl⟩ := h
      obtain ⟨xs, h2, h3⟩ := ih l' h1
      exact ⟨n :: xs, by simp [h2], by simp [h3]⟩
    · cases h

theorem nums_rel {xs : List Int} {a : Array Value} (h : VsRel ρ (xs.map (Value.int .u8)).toArray a) : a = (xs.map (Value.int .u8)).toArray := by
  refine Array.ext (by rw [← h.1]) fun i h1 h2 => ?_
  have := h.2 i _ _ (Array.getElem?_eq_getElem h2) (Array.getElem?_eq_getElem h1)
  have e : (xs.map (Value.int .u8)).toArray[i] = .int .u8 (xs[i]'(by simpa using h2)) := by simp
  rw [e] at this ⊢
  have key : ∀ y, VRel ρ (.int .u8 (xs[i]'(by simpa using h2))) y → y = .int .u8 (xs[i]'(by simpa using h2)) := fun y hy => by cases hy; rfl
  exact key _ this

theorem stringOf_sound (h : Inv P B w0 ρ m w) {x x' v : Value} (hx : VRel ρ x x') (hs : istringOf x m = some v) : ∃ v', (Conv.bytesToString x').run P w = .ok v' w ∧ VRel ρ v v' := by
  unfold istringOf at hs
  split at hs
  · cases hs; cases hx; exact ⟨.string .empty, by simp [Conv.bytesToString], .string _⟩
  · rename_i i o len cap
    split at hs
    · rename_i cs hcs
      split at hs
      · rename_i l hl
        cases hs
        obtain ⟨xs, h1, rfl⟩ := bytesOf_nums _ _ hl
        obtain ⟨r, cs', hr, hle, hv, hsz, _, hrun⟩ := h.cells_sound hcs
        have e1 : cs = (xs.map (Value.int .u8)).toArray := by rw [← h1]
        subst e1
        have e2 := nums_rel hv
        subst e2
        have e3 : (⟨(xs.map fun n => UInt8.ofNat n.toNat).toArray⟩ : ByteArray) = ⟨ByteArray.empty.data ++ (xs.map fun n => UInt8.ofNat n.toNat).toArray⟩ := by
          have : ByteArray.empty.data = #[] := rfl
          rw [this]; simp
        rcases hx.slice_inv with ⟨r', cap', rfl, hr', _⟩ | ⟨rfl, rfl, a', rfl⟩
        · rw [hr] at hr'; cases hr'
          refine ⟨_, run_bytesToString w _ len cap' xs hrun, ?_⟩
          rw [foldl_push_bytes, ← e3]; exact .string _
        · have : xs = [] := by simpa using hsz
          subst this
          refine ⟨.string .empty, by simp [Conv.bytesToString, loadCells, loadCellsFrom], ?_⟩
          exact .string _
      · cases hs
    · split at hs
      · cases hs
        rename_i h0
        subst h0
        rcases hx.slice_inv with ⟨r', cap', rfl, _⟩ | ⟨_, rfl, a', rfl⟩ <;> exact ⟨.string .empty, by simp [Conv.bytesToString, loadCells, loadCellsFrom], .string _⟩
      · cases hs
  · cases hs

theorem bytesOfStr_sound (h : Inv P B w0 ρ m w) {src dst e : TypeId} {s : ByteArray} {v : Value} (hsr : P.underlying src = some .string) (hd : P.underlying dst = some (.slice e)) (he : P.underlying e = some (.int .u8))
    (he1 : P.cellsOf e = 1) (hb : ibytesOf e s m = some (v, m')) :
    ∃ v' w' ρ', (convert src dst (.string s)).run P w = .ok v' w' ∧ ρ.le ρ' ∧ Inv P B w0 ρ' m' w' ∧ VRel ρ' v v' := by
  unfold ibytesOf at hb
  split at hb
  · rename_i a m1 hn
    cases hb
    have hge : s.size ≤ grownCap w s.size 0 e := grownCap_ge w s.size 0 e
    have hrow : bytesRow s (grownCap w s.size 0 e) = (s.data.map fun (b : UInt8) => Value.int .u8 b.toNat) ++ Array.replicate (grownCap w s.size 0 e - s.size) (.int .u8 0) := rfl
    have hsz : (bytesRow s (grownCap w s.size 0 e)).size = grownCap w s.size 0 e := by
      rw [hrow]; simp; have : s.data.size = s.size := rfl
      omega
    obtain ⟨rfl, _, hf, hle, hinv⟩ := h.drew.new_sound (e' := e) (c' := bytesRow s (grownCap w s.size 0 e)) hn (by rw [hrow]; simp) (by
      intro k x y hx hy
      rw [hrow, Array.getElem?_append] at hy
      have hk := (Array.getElem?_eq_some_iff.1 hx).1
      rw [if_pos hk, hx] at hy
      cases hy
      rw [Array.getElem?_map] at hx
      cases hb : s.data[k]? with
      | none => rw [hb] at hx; cases hx
      | some b => rw [hb] at hx; cases hx; exact .int _ _) ((bytesRow s (grownCap w s.size 0 e)).size, (bytesRow s (grownCap w s.size 0 e)).size + 1) (.inr (Nat.le_refl _))
    refine ⟨_, _, _, run_bytes_of_string w src dst e s hsr hd he, hle, hinv, ?_⟩
    refine slice_new (Ren.upd_same _ _ _) (Nat.le_refl _) ?_ hge ?_
    · rw [he1]; simp
    · rw [he1, hsz]; simp
  · cases hb

/-- The cells that are appended, as the machine finds them. -/
theorem news_sound (h : Inv P B w0 ρ m w) {size : Nat} {x x' : Value} {n : Nat} {cs : Array Value} (hx : VRel ρ x x') (hn : news size x m = some (n, cs)) :
    (Builtin.lenOf x').run P w = .ok n w ∧ ∃ cs', VsRel ρ cs cs' ∧ cs.size = n * size ∧ (Builtin.firstCells size n x').run P w = .ok cs' w ∧ ∀ w', (∀ a, w'.cell? a = w.cell? a) → (Builtin.firstCells size n x').run P w' = .ok cs' w' := by
  unfold news at hn
  split at hn
  · cases hn; cases hx
    exact ⟨by simp [Builtin.lenOf], #[], VsRel.nil _, by simp, by simp [Builtin.firstCells], fun w' _ => by simp [Builtin.firstCells]⟩
  · rename_i i o k cap
    have hlen : (Builtin.lenOf x').run P w = .ok k w := by
      rcases hx.slice_inv with ⟨r', cap', rfl, _⟩ | ⟨rfl, rfl, a', rfl⟩ <;> simp [Builtin.lenOf]
    split at hn
    · rename_i h0
      cases hn
      refine ⟨hlen, #[], VsRel.nil _, by simp [h0], ?_, fun w' _ => ?_⟩ <;> rcases hx.slice_inv with ⟨r', cap', rfl, _⟩ | ⟨rfl, rfl, a', rfl⟩ <;> simp [Builtin.firstCells, h0, loadCells, loadCellsFrom]
    · rename_i h0
      simp only [Option.map_eq_some_iff, Prod.mk.injEq] at hn
      obtain ⟨cs0, hcs, rfl, rfl⟩ := hn
      obtain ⟨r, cs', hr, hle, hv, hsz, hcell, hrun⟩ := h.cells_sound hcs
      refine ⟨hlen, cs', hv, hsz, ?_, fun w' hw' => ?_⟩
      · rcases hx.slice_inv with ⟨r', cap', rfl, hr', _⟩ | ⟨rfl, rfl, a', rfl⟩
        · rw [hr] at hr'; cases hr'; simp [Builtin.firstCells, hrun]
        · simp at h0
      · rcases hx.slice_inv with ⟨r', cap', rfl, hr', _⟩ | ⟨rfl, rfl, a', rfl⟩
        · rw [hr] at hr'; cases hr'
          have := run_loadCells_list (P := P) w' ⟨r.g, r.base + o, none⟩ cs'.toList (fun j v hj => by rw [hw']; exact hcell j v hj)
          rw [Array.toArray_toList, show cs'.toList.length = k * size by rw [Array.length_toList, ← hv.1, hsz]] at this
          simp [Builtin.firstCells, this]
        · simp at h0
  · rename_i s
    split at hn
    · rename_i h1
      cases hn; cases hx; subst h1
      refine ⟨by simp [Builtin.lenOf], _, VsRel.map _ _ _ (fun b => .int .u8 b.toNat), by simp, ?_, fun w' _ => ?_⟩ <;>
        simp [Builtin.firstCells, show s.extract 0 s.size = s by simp]
    · cases hn
  · cases hn

end Go.IM
