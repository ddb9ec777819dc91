/- The ideal machine, part A: its memory (a trie of blocks). -/
import Derived.Calls
import Derived.Orders
import Derived.LoopN
import Derived.Defers
import Derived.Recover
import Derived.RowKit3
namespace Go.IM
open Go

/-- A block of the ideal memory: what it holds; the first of its generations; has it been appended to (then it is no tip)? as a first one: are the elder generations stale? may it be read alone? -/
structure Blk where
  obj : Obj
  root : Nat
  sup : Bool := false
  dead : Bool := false
  ro : Bool := false

inductive Tr where
  | leaf
  | node (v : Option Blk) (l r : Tr)

namespace Tr
def get (t : Tr) : Nat → Nat → Option Blk
  | 0, _ => none
  | f + 1, n => match t with
    | .leaf => none
    | .node v l r => if n = 0 then v else if n % 2 = 1 then l.get f (n / 2) else r.get f (n / 2 - 1)
def set (x : Blk) : Nat → Nat → Tr → Tr
  | 0, _, t => t
  | f + 1, n, t =>
    match t with
    | .leaf => if n = 0 then .node (some x) .leaf .leaf else if n % 2 = 1 then .node none (set x f (n / 2) .leaf) .leaf else .node none .leaf (set x f (n / 2 - 1) .leaf)
    | .node v l r => if n = 0 then .node (some x) l r else if n % 2 = 1 then .node v (set x f (n / 2) l) r else .node v l (set x f (n / 2 - 1) r)

theorem get_leaf (f n : Nat) : get .leaf f n = none := by cases f <;> simp [get]

theorem get_fuel (t : Tr) (f n : Nat) (h : n < f) : ∀ g, n < g → get t f n = get t g n := by
  induction f generalizing t n with
  | zero => omega
  | succ f ih =>
    intro g hg
    obtain ⟨g, rfl⟩ : ∃ k, g = k + 1 := ⟨g - 1, by omega⟩
    cases t with
    | leaf => simp [get]
    | node v l r =>
      simp only [get]
      split
      · rfl
      · split
        · exact ih l (n / 2) (by omega) g (by omega)
        · exact ih r (n / 2 - 1) (by omega) g (by omega)

theorem get_set_same (x : Blk) (t : Tr) : ∀ (f n : Nat), n < f → get (set x f n t) f n = some x := by
  intro f
  induction f generalizing t with
  | zero => intro n h; omega
  | succ f ih =>
    intro n h
    cases t with
    | leaf =>
      simp only [set]
      split
      · simp [get, *]
      · split <;> simp only [get, *, if_false, if_true]
        · exact ih _ _ (by omega)
        · exact ih _ _ (by omega)
    | node v l r =>
      simp only [set]
      split
      · simp [get, *]
      · split <;> simp only [get, *, if_false, if_true]
        · exact ih _ _ (by omega)
        · exact ih _ _ (by omega)

theorem get_set_ne (x : Blk) (t : Tr) : ∀ (f n m : Nat), n < f → m < f → n ≠ m → get (set x f n t) f m = get t f m := by
  intro f
  induction f generalizing t with
  | zero => intro n m h; omega
  | succ f ih =>
    intro n m hn hm hne
    cases t with
    | leaf =>
      simp only [set, get]
      split
      · subst n
        simp only [get]
        rw [if_neg (Ne.symm hne)]
        simp [get_leaf]
      · split
        · simp only [get]
          split
          · rfl
          · split
            · rw [ih _ _ _ (by omega) (by omega) (by omega), get_leaf]
            · simp [get_leaf]
        · simp only [get]
          split
          · rfl
          · split
            · simp [get_leaf]
            · rw [ih _ _ _ (by omega) (by omega) (by omega), get_leaf]
    | node v l r =>
      simp only [set, get]
      split
      · subst n
        simp only [get]
        rw [if_neg (Ne.symm hne), if_neg (Ne.symm hne)]
      · split
        · simp only [get]
          split
          · rfl
          · split
            · rw [ih _ _ _ (by omega) (by omega) (by omega)]
            · rfl
        · simp only [get]
          split
          · rfl
          · split
            · rfl
            · rw [ih _ _ _ (by omega) (by omega) (by omega)]

theorem set_comm (x y : Blk) (t : Tr) : ∀ (f n m : Nat), n ≠ m → ∀ g, set x f n (set y g m t) = set y g m (set x f n t) := by
  intro f
  induction f generalizing t with
  | zero => intro n m _ g; simp [set]
  | succ f ih =>
    intro n m hne g
    cases g with
    | zero => simp [set]
    | succ g =>
      by_cases hn : n = 0
      · have hm : m ≠ 0 := by omega
        by_cases h2 : m % 2 = 1 <;> cases t <;> simp [set, hn, hm, h2]
      · by_cases hm : m = 0
        · by_cases h1 : n % 2 = 1 <;> cases t <;> simp [set, hn, hm, h1]
        · by_cases h1 : n % 2 = 1 <;> by_cases h2 : m % 2 = 1 <;> cases t <;> simp [set, hn, hm, h1, h2] <;> exact ih _ _ _ (by omega) _
end Tr

/-- The ideal memory: blocks; the number of the next one; no block below 'bar' may be written. -/
structure M where
  tr : Tr
  nxt : Nat
  bar : Nat := 0

namespace M
def get (m : M) (i : Nat) : Option Blk := m.tr.get (i + 1) i
def set (m : M) (i : Nat) (b : Blk) : M := ⟨m.tr.set b (i + 1) i, m.nxt, m.bar⟩
def bump (m : M) : M := ⟨m.tr, m.nxt + 1, m.bar⟩

theorem get_set_same (m : M) (i : Nat) (b : Blk) : (m.set i b).get i = some b := Tr.get_set_same _ _ _ _ (by omega)
theorem tr_set_fuel (x : Blk) (t : Tr) : ∀ (f g n : Nat), n < f → n < g → Tr.set x f n t = Tr.set x g n t := by
  intro f
  induction f generalizing t with
  | zero => intro g n h; omega
  | succ f ih =>
    intro g n hf hg
    obtain ⟨g, rfl⟩ : ∃ k, g = k + 1 := ⟨g - 1, by omega⟩
    cases t <;> simp only [Tr.set] <;> (split; · rfl) <;> split <;> first | rw [ih _ g _ (by omega) (by omega)]
theorem get_set_ne (m : M) (i j : Nat) (b : Blk) (h : i ≠ j) : (m.set i b).get j = m.get j := by
  show Tr.get (Tr.set b (i + 1) i m.tr) (j + 1) j = Tr.get m.tr (j + 1) j
  rw [tr_set_fuel b m.tr (i + 1) (i + j + 1) i (by omega) (by omega), Tr.get_fuel _ (j + 1) j (by omega) (i + j + 1) (by omega),
    Tr.get_set_ne _ _ _ _ _ (by omega) (by omega) h]
  exact Tr.get_fuel _ _ _ (by omega) _ (by omega)
theorem get_set (m : M) (i j : Nat) (b : Blk) : (m.set i b).get j = if i = j then some b else m.get j := by
  by_cases h : i = j
  · subst h; simp [get_set_same]
  · simp [h, get_set_ne]
theorem set_comm (m : M) (i j : Nat) (b c : Blk) (h : i ≠ j) : (m.set i b).set j c = (m.set j c).set i b := by
  simp only [set]
  rw [Tr.set_comm _ _ _ _ _ _ (Ne.symm h)]
@[simp] theorem nxt_set (m : M) (i : Nat) (b : Blk) : (m.set i b).nxt = m.nxt := rfl
@[simp] theorem bar_set (m : M) (i : Nat) (b : Blk) : (m.set i b).bar = m.bar := rfl
@[simp] theorem bar_bump (m : M) : m.bump.bar = m.bar := rfl
@[simp] theorem nxt_bump (m : M) : m.bump.nxt = m.nxt + 1 := rfl
@[simp] theorem get_bump (m : M) (i : Nat) : m.bump.get i = m.get i := rfl

/-- The block, if what it holds is not stale. -/
def alive (m : M) (i : Nat) : Option Blk :=
  match m.get i with
  | some b => match m.get b.root with
    | some r => if r.dead then none else some b
    | none => none
  | none => none
end M

end Go.IM
