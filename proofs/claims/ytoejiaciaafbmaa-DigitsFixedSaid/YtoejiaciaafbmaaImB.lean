/- The ideal machine, part B: how its values and its memory stand to the machine's. -/
import Derived.Test.YtoejiaciaafbmaaImA
import Derived.Below
namespace Go.IM
open Go Go.RowKit

/-- Where an ideal block lies: the real block, the place where it begins there, how many cells it has; how many the real one has; an element's cells. -/
structure RE where
  g : Nat
  base : Nat
  n : Nat
  N : Nat
  sz : Nat

abbrev Ren := Nat → Option RE
def Ren.le (ρ ρ' : Ren) : Prop := ∀ i r, ρ i = some r → ρ' i = some r
theorem Ren.le_refl (ρ : Ren) : ρ.le ρ := fun _ _ h => h
theorem Ren.le_trans {a b c : Ren} (h : a.le b) (k : b.le c) : a.le c := fun i r x => k i r (h i r x)
def Ren.upd (ρ : Ren) (i : Nat) (r : RE) : Ren := fun j => if j = i then some r else ρ j
theorem Ren.upd_same (ρ : Ren) (i : Nat) (r : RE) : ρ.upd i r i = some r := by simp [Ren.upd]
theorem Ren.upd_ne (ρ : Ren) {i j : Nat} (r : RE) (h : j ≠ i) : ρ.upd i r j = ρ j := by simp [Ren.upd, h]
theorem Ren.le_upd (ρ : Ren) (i : Nat) (r : RE) (h : ρ i = none) : ρ.le (ρ.upd i r) := by
  intro j s hj
  by_cases e : j = i
  · subst e; rw [h] at hj; cases hj
  · rw [Ren.upd_ne _ _ e]; exact hj

def stillFn : Fn → Bool
  | .yield _ => false
  | _ => true

inductive VRel (ρ : Ren) : Value → Value → Prop
  | bool (b : Bool) : VRel ρ (.bool b) (.bool b)
  | int (k : IntKind) (n : Int) : VRel ρ (.int k n) (.int k n)
  | float (k : FloatKind) (b : Nat) : VRel ρ (.float k b) (.float k b)
  | complex (k : FloatKind) (a b : Nat) : VRel ρ (.complex k a b) (.complex k a b)
  | string (s : ByteArray) : VRel ρ (.string s) (.string s)
  | nilFunc : VRel ρ .nilFunc .nilFunc
  | nilIface : VRel ρ .nilIface .nilIface
  | ptrNil : VRel ρ (.pointer none) (.pointer none)
  | ptr {i : Nat} {r : RE} (o : Nat) (h : ρ i = some r) : VRel ρ (.pointer (some ⟨i, o, none⟩)) (.pointer (some ⟨r.g, r.base + o, none⟩))
  | sliceNil : VRel ρ (.slice none 0 0) (.slice none 0 0)
  | slice {i : Nat} {r : RE} {o len cap cap' : Nat} (h : ρ i = some r) (hl : len ≤ cap) (hb : o + cap * r.sz ≤ r.n)
      (hc : cap = cap' ∨ (r.base = 0 ∧ o + cap * r.sz = r.n ∧ cap ≤ cap' ∧ o + cap' * r.sz ≤ r.N)) :
      VRel ρ (.slice (some ⟨i, o, none⟩) len cap) (.slice (some ⟨r.g, r.base + o, none⟩) len cap')
  | slice0 (a a' : Addr) : VRel ρ (.slice (some a) 0 0) (.slice (some a') 0 0)
  | mapNil : VRel ρ (.map none) (.map none)
  | map {i : Nat} {r : RE} (h : ρ i = some r) : VRel ρ (.map (some i)) (.map (some r.g))
  | chanNil : VRel ρ (.chan none) (.chan none)
  | func (fn : Fn) (hf : stillFn fn = true) {a a' c c' : Array Value} (ha : a.size = a'.size) (hc : c.size = c'.size)
      (hva : ∀ (i : Nat) (x y : Value), a[i]? = some x → a'[i]? = some y → VRel ρ x y)
      (hvc : ∀ (i : Nat) (x y : Value), c[i]? = some x → c'[i]? = some y → VRel ρ x y) : VRel ρ (.func fn a c) (.func fn a' c')
  | iface (t : TypeId) {v v' : Value} (h : VRel ρ v v') : VRel ρ (.iface t v) (.iface t v')
  | agg {a a' : Array Value} (ha : a.size = a'.size) (hva : ∀ (i : Nat) (x y : Value), a[i]? = some x → a'[i]? = some y → VRel ρ x y) : VRel ρ (.agg a) (.agg a')
  | tuple {a a' : Array Value} (ha : a.size = a'.size) (hva : ∀ (i : Nat) (x y : Value), a[i]? = some x → a'[i]? = some y → VRel ρ x y) : VRel ρ (.tuple a) (.tuple a')

/-- Lists of values, one by one. -/
def VsRel (ρ : Ren) (a a' : Array Value) : Prop := a.size = a'.size ∧ ∀ (i : Nat) (x y : Value), a[i]? = some x → a'[i]? = some y → VRel ρ x y

theorem VRel.mono {ρ ρ' : Ren} (hr : ρ.le ρ') {v v' : Value} (h : VRel ρ v v') : VRel ρ' v v' := by
  induction h with
  | bool => exact .bool _
  | int => exact .int _ _
  | float => exact .float _ _
  | complex => exact .complex _ _ _
  | string => exact .string _
  | nilFunc => exact .nilFunc
  | nilIface => exact .nilIface
  | ptrNil => exact .ptrNil
  | ptr o h => exact .ptr o (hr _ _ h)
  | sliceNil => exact .sliceNil
  | slice h hl hb hc => exact .slice (hr _ _ h) hl hb hc
  | slice0 => exact .slice0 _ _
  | mapNil => exact .mapNil
  | map h => exact .map (hr _ _ h)
  | chanNil => exact .chanNil
  | func fn hf ha hc hva hvc iha ihc => exact .func fn hf ha hc iha ihc
  | iface t h ih => exact .iface t ih
  | agg ha hva ih => exact .agg ha ih
  | tuple ha hva ih => exact .tuple ha ih

theorem VsRel.mono {ρ ρ' : Ren} (hr : ρ.le ρ') {a a' : Array Value} (h : VsRel ρ a a') : VsRel ρ' a a' := ⟨h.1, fun i x y hx hy => (h.2 i x y hx hy).mono hr⟩
theorem VsRel.get {ρ : Ren} {a a' : Array Value} (h : VsRel ρ a a') {i : Nat} {x : Value} (hx : a[i]? = some x) : ∃ y, a'[i]? = some y ∧ VRel ρ x y := by
  have hi : i < a'.size := by rw [← h.1]; exact (Array.getElem?_eq_some_iff.1 hx).1
  exact ⟨a'[i], by simp [hi], h.2 i x _ hx (by simp [hi])⟩
theorem VsRel.getD {ρ : Ren} {a a' : Array Value} (h : VsRel ρ a a') (i : Nat) {d d' : Value} (hd : VRel ρ d d') : VRel ρ (a.getD i d) (a'.getD i d') := by
  by_cases hi : i < a.size
  · have hi' : i < a'.size := by rw [← h.1]; exact hi
    have e1 : a.getD i d = a[i] := by simp [hi]
    have e2 : a'.getD i d' = a'[i] := by simp [hi']
    rw [e1, e2]
    exact h.2 i _ _ (by simp [hi]) (by simp [hi'])
  · have hi' : ¬ i < a'.size := by rw [← h.1]; exact hi
    have e1 : a.getD i d = d := by simp [hi]
    have e2 : a'.getD i d' = d' := by simp [hi']
    rw [e1, e2]; exact hd
theorem VsRel.set {ρ : Ren} {a a' : Array Value} (h : VsRel ρ a a') (i : Nat) {d d' : Value} (hd : VRel ρ d d') : VsRel ρ (a.setIfInBounds i d) (a'.setIfInBounds i d') := by
  refine ⟨by simp [h.1], fun j x y hx hy => ?_⟩
  rw [Array.getElem?_setIfInBounds] at hx hy
  by_cases e : i = j
  · subst e
    rw [if_pos rfl] at hx hy
    rw [h.1] at hx
    by_cases hi : i < a'.size
    · rw [if_pos hi] at hx hy; cases hx; cases hy; exact hd
    · rw [if_neg hi] at hx; cases hx
  · rw [if_neg e] at hx hy; exact h.2 j x y hx hy
theorem VsRel.nil (ρ : Ren) : VsRel ρ #[] #[] := ⟨rfl, fun i x y hx => by simp at hx⟩
theorem VsRel.append {ρ : Ren} {a a' b b' : Array Value} (h : VsRel ρ a a') (k : VsRel ρ b b') : VsRel ρ (a ++ b) (a' ++ b') := by
  refine ⟨by simp [h.1, k.1], fun i x y hx hy => ?_⟩
  rw [Array.getElem?_append] at hx hy
  rw [h.1] at hx
  by_cases hi : i < a'.size
  · rw [if_pos hi] at hx hy; exact h.2 i x y hx hy
  · rw [if_neg hi] at hx hy; exact k.2 _ x y hx hy
theorem VsRel.one {ρ : Ren} {x y : Value} (h : VRel ρ x y) : VsRel ρ #[x] #[y] := by
  refine ⟨rfl, fun i a b ha hb => ?_⟩
  rcases i with _ | i
  · simp at ha hb; subst ha; subst hb; exact h
  · simp at ha
theorem VsRel.replicate (ρ : Ren) (n : Nat) {v v' : Value} (hv : VRel ρ v v') : VsRel ρ (Array.replicate n v) (Array.replicate n v') := by
  refine ⟨by simp, fun i x y hx hy => ?_⟩
  rw [Array.getElem?_replicate] at hx hy
  split at hx
  · rw [if_pos ‹_›] at hy; cases hx; cases hy; exact hv
  · cases hx
theorem VsRel.extract {ρ : Ren} {a a' : Array Value} (h : VsRel ρ a a') (i j : Nat) : VsRel ρ (a.extract i j) (a'.extract i j) := by
  refine ⟨by simp [h.1], fun k x y hx hy => ?_⟩
  rw [Array.getElem?_extract] at hx hy
  rw [h.1] at hx
  split at hx
  · rw [if_pos ‹_›] at hy; exact h.2 _ x y hx hy
  · cases hx
theorem VsRel.map {ρ : Ren} {α : Type} (l : Array α) (f f' : α → Value) (h : ∀ x, VRel ρ (f x) (f' x)) : VsRel ρ (l.map f) (l.map f') := by
  refine ⟨by simp, fun i x y hx hy => ?_⟩
  rw [Array.getElem?_map] at hx hy
  cases hl : l[i]? with
  | none => rw [hl] at hx; cases hx
  | some z => rw [hl] at hx hy; cases hx; cases hy; exact h z
theorem VRel.undef (ρ : Ren) : VRel ρ undef undef := .tuple rfl (fun i x y hx => by simp at hx)

/-- The cells of a value. -/
theorem VRel.cells {ρ : Ren} {v v' : Value} (h : VRel ρ v v') : VsRel ρ v.cells v'.cells := by
  cases h <;> first | exact ⟨‹_›, ‹_›⟩ | (refine VsRel.one ?_; constructor <;> assumption) | (refine VsRel.one ?_; exact .slice ‹_› ‹_› ‹_› ‹_›)

/-- A value without addresses in it (so many levels deep). -/
def flat : Nat → Value → Bool
  | 0, _ => false
  | d + 1, v => match v with
    | .bool _ | .int .. | .float .. | .complex .. | .string _ | .nilFunc | .nilIface | .pointer none | .slice none 0 0 | .map none | .chan none => true
    | .func fn a c => stillFn fn && a.isEmpty && c.isEmpty
    | .iface _ v => flat d v
    | .agg cs => cs.all (flat d)
    | .tuple cs => cs.all (flat d)
    | _ => false

theorem flat_rel (ρ : Ren) : ∀ (d : Nat) (v : Value), flat d v = true → VRel ρ v v := by
  intro d
  induction d with
  | zero => intro v h; simp [flat] at h
  | succ d ih =>
    intro v h
    have key : ∀ cs : Array Value, cs.all (flat d) = true → ∀ (i : Nat) (x y : Value), cs[i]? = some x → cs[i]? = some y → VRel ρ x y := by
      intro cs hc i x y hx hy
      rw [hx] at hy; cases hy
      exact ih x (by rw [Array.all_eq_true'] at hc; exact hc x (Array.mem_of_getElem? hx))
    unfold flat at h
    split at h
    · exact .bool _
    · exact .int _ _
    · exact .float _ _
    · exact .complex _ _ _
    · exact .string _
    · exact .nilFunc
    · exact .nilIface
    · exact .ptrNil
    · exact .sliceNil
    · exact .mapNil
    · exact .chanNil
    · rename_i fn a c
      simp only [Bool.and_eq_true, Array.isEmpty_iff] at h
      obtain ⟨⟨h1, rfl⟩, rfl⟩ := h
      exact .func fn h1 rfl rfl (fun i x y hx => by simp at hx) (fun i x y hx => by simp at hx)
    · exact .iface _ (ih _ h)
    · exact .agg rfl (key _ h)
    · exact .tuple rfl (key _ h)
    · cases h

/-- Of two values that stand so to one another the one without addresses is the other one. -/
theorem flat_eq {ρ : Ren} : ∀ (d : Nat) {v v' : Value}, flat d v = true → VRel ρ v v' → v' = v := by
  intro d
  induction d with
  | zero => intro v v' h; simp [flat] at h
  | succ d ih =>
    intro v v' h hv
    cases hv <;> first | rfl | (simp [flat] at h; done) | skip
    · rename_i a a' c c' ha hc hva hvc
      simp only [flat, Bool.and_eq_true, Array.isEmpty_iff] at h
      obtain ⟨⟨h1, rfl⟩, rfl⟩ := h
      obtain rfl : a' = #[] := Array.eq_empty_of_size_eq_zero (by simpa using ha.symm)
      obtain rfl : c' = #[] := Array.eq_empty_of_size_eq_zero (by simpa using hc.symm)
      rfl
    · rename_i t u u' hu
      rw [ih (by simpa [flat] using h) hu]
    · rename_i a a' ha hva
      simp only [flat] at h
      rw [Array.all_eq_true'] at h
      congr 1
      refine Array.ext ha.symm fun i h1 h2 => ?_
      exact ih (h _ (Array.getElem_mem h2)) (hva i _ _ (by simp [h2]) (by simp [h1]))
    · rename_i a a' ha hva
      simp only [flat] at h
      rw [Array.all_eq_true'] at h
      congr 1
      refine Array.ext ha.symm fun i h1 h2 => ?_
      exact ih (h _ (Array.getElem_mem h2)) (hva i _ _ (by simp [h2]) (by simp [h1]))

/-! ### The memory -/
def EntRel (ρ : Ren) (a a' : Array MapEntry) : Prop :=
  a.size = a'.size ∧ ∀ (i : Nat) (x y : MapEntry), a[i]? = some x → a'[i]? = some y → VRel ρ x.key y.key ∧ VRel ρ x.val y.val ∧ x.born = y.born

/-- What a block that is not stale holds, there and here. -/
def Holds (P : Program) (B : Nat) (ρ : Ren) (b : Blk) (r : RE) (w : World) : Prop :=
  match b.obj with
  | .cells c e _ => r.n = c.size ∧ r.sz = P.cellsOf e ∧ ∃ c' e' fr', w.heap[r.g]? = some (.cells c' e' fr') ∧ r.base + c.size ≤ c'.size ∧
      (∀ (k : Nat) (x : Value), c[k]? = some x → ∃ y, c'[r.base + k]? = some y ∧ VRel ρ x y) ∧
      (b.ro = true → r.g < B ∧ r.N = r.n) ∧
      (b.ro = false → B ≤ r.g ∧ r.base = 0 ∧ r.N = c'.size ∧ (fr' = (0, 0) ∨ c'.size ≤ fr'.1))
  | .map es clock => b.ro = false ∧ B ≤ r.g ∧ ∃ es', w.heap[r.g]? = some (.map es' clock) ∧ EntRel ρ es es'
  | .stringIter s p => b.ro = false ∧ B ≤ r.g ∧ w.heap[r.g]? = some (.stringIter s p)
  | _ => False

structure Inv (P : Program) (B : Nat) (w0 : World) (ρ : Ren) (m : M) (w : World) : Prop where
  below : Below B w0 w
  size : B ≤ w0.heap.size
  dom : ∀ i, m.get i = none → ρ i = none
  blk : ∀ i b, m.get i = some b → ∃ r, ρ i = some r
  holds : ∀ i b r, m.alive i = some b → ρ i = some r → Holds P B ρ b r w
  roots : ∀ i b, m.get i = some b → ∃ rb, m.get b.root = some rb ∧ rb.root = b.root ∧ (b.root ≠ i → rb.sup = true)
  tip : ∀ i j bi bj, m.get i = some bi → m.get j = some bj → bi.root = bj.root → bi.sup = false → bj.sup = false → i = j
  sep : ∀ i j bi bj ri rj, m.alive i = some bi → m.alive j = some bj → ρ i = some ri → ρ j = some rj → ri.g = rj.g → bi.root = bj.root ∨ (bi.ro = true ∧ bj.ro = true)
  top : ∀ i j bi bj ri rj, m.alive i = some bi → m.alive j = some bj → ρ i = some ri → ρ j = some rj → ri.g = rj.g → bi.root = bj.root → bj.sup = false → ri.n ≤ rj.n
  rosup : ∀ i b, m.get i = some b → b.ro = true → b.sup = false ∧ b.root = i

theorem alive_get {m : M} {i : Nat} {b : Blk} (h : m.alive i = some b) : m.get i = some b := by
  unfold M.alive at h
  split at h
  · rename_i b' hb
    split at h
    · split at h
      · cases h
      · cases h; exact hb
    · cases h
  · cases h
theorem alive_root {m : M} {i : Nat} {b : Blk} (h : m.alive i = some b) : ∃ rb, m.get b.root = some rb ∧ rb.dead = false := by
  have hg := alive_get h
  unfold M.alive at h
  rw [hg] at h
  dsimp only at h
  split at h
  · rename_i rb hrb
    split at h
    · cases h
    · rename_i hd; exact ⟨rb, hrb, by simpa using hd⟩
  · cases h
theorem alive_mk {m : M} {i : Nat} {b rb : Blk} (h : m.get i = some b) (hr : m.get b.root = some rb) (hd : rb.dead = false) : m.alive i = some b := by
  unfold M.alive; rw [h]; dsimp only; rw [hr]; simp [hd]

theorem Holds.mono {P : Program} {B : Nat} {ρ ρ' : Ren} (hr : ρ.le ρ') {b : Blk} {r : RE} {w : World} (h : Holds P B ρ b r w) : Holds P B ρ' b r w := by
  unfold Holds at *
  split at h
  · obtain ⟨h1, h2, c', e', fr', h3, h4, h5, h6, h7⟩ := h
    exact ⟨h1, h2, c', e', fr', h3, h4, fun k x hx => let ⟨y, hy, hv⟩ := h5 k x hx; ⟨y, hy, hv.mono hr⟩, h6, h7⟩
  · obtain ⟨h0, h1, es', h2, h3⟩ := h
    exact ⟨h0, h1, es', h2, h3.1, fun i x y hx hy => let ⟨a, b, c⟩ := h3.2 i x y hx hy; ⟨a.mono hr, b.mono hr, c⟩⟩
  · exact h
  · exact h.elim
/-- What is held hangs on the real block alone. -/
theorem Holds.of_block {P : Program} {B : Nat} {ρ : Ren} {b : Blk} {r : RE} {w w' : World} (h : Holds P B ρ b r w) (he : w'.heap[r.g]? = w.heap[r.g]?) : Holds P B ρ b r w' := by
  unfold Holds at *
  split at h <;> simp only [he] at * <;> exact h

end Go.IM
