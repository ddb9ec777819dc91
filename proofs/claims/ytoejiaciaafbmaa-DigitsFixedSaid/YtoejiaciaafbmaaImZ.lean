/- The ideal machine, part Z: what a call is handed, opened. -/
import Derived.Test.YtoejiaciaafbmaaImT
import Derived.ProofKit
set_option linter.unusedVariables false
set_option linter.unusedSimpArgs false
namespace Go.IM
open Go Go.RowKit

variable {P : Program} {W : World}

def roBlk (c : Array Value) (e : TypeId) (i : Nat) : Blk := { obj := .cells c e, root := i, sup := false, dead := false, ro := true }
/-- A new block that is read alone. -/
def M.addRo (m : M) (c : Array Value) (e : TypeId) : M := (m.set m.nxt (roBlk c e m.nxt)).bump

/-- A memory of nothing but what was handed over. -/
structure RoMem (m : M) : Prop where
  blk : ∀ i b, m.get i = some b → ∃ c e, b = roBlk c e i
  dense : ∀ i, m.get i = none ↔ m.nxt ≤ i
  bar : m.bar = 0

structure Ini (P : Program) (W : World) (ρ : Ren) (m : M) : Prop where
  inv : Inv P W.heap.size W ρ m W
  ro : RoMem m

theorem RoMem.wf {m : M} (h : RoMem m) : Wf m := by
  intro i x hx
  obtain ⟨c, e, rfl⟩ := h.blk i x hx
  exact ⟨Nat.le_refl _, _, hx⟩
theorem RoMem.alive {m : M} (h : RoMem m) {i : Nat} {b : Blk} (hb : m.get i = some b) : m.alive i = some b := by
  obtain ⟨c, e, rfl⟩ := h.blk i b hb
  exact alive_mk hb hb rfl

theorem Ini.nil : Ini P W (fun _ => none) ⟨.leaf, 0, 0⟩ := by
  have hg : ∀ i, (⟨.leaf, 0, 0⟩ : M).get i = none := fun i => Tr.get_leaf _ _
  refine ⟨⟨Below.refl _ _, Nat.le_refl _, fun _ _ => rfl, fun i b h => ?_, fun i b r h hr => ?_, fun i b h => ?_, fun i j bi bj h => ?_, fun i j bi bj ri rj h _ hr => ?_, fun i j bi bj ri rj h _ hr => ?_, fun i b h => ?_⟩, fun i b h => ?_, fun i => ?_, rfl⟩
  · rw [hg] at h; cases h
  · cases hr
  · rw [hg] at h; cases h
  · rw [hg] at h; cases h
  · cases hr
  · cases hr
  · rw [hg] at h; cases h
  · rw [hg] at h; cases h
  · simp [hg]

theorem get_addRo (m : M) (c : Array Value) (e : TypeId) (i : Nat) : (m.addRo c e).get i = if i = m.nxt then some (roBlk c e m.nxt) else m.get i := by
  unfold M.addRo
  rw [M.get_bump, M.get_set]
  by_cases h : i = m.nxt
  · rw [if_pos h, if_pos h.symm]
  · rw [if_neg h, if_neg (Ne.symm h)]

theorem RoMem.addRo {m : M} (h : RoMem m) (c : Array Value) (e : TypeId) : RoMem (m.addRo c e) := by
  refine ⟨fun i b hb => ?_, fun i => ?_, h.bar⟩
  · rw [get_addRo] at hb
    split at hb
    · rename_i hi; cases hb; exact ⟨c, e, by rw [hi]⟩
    · exact h.blk i b hb
  · rw [get_addRo]
    have : (m.addRo c e).nxt = m.nxt + 1 := rfl
    rw [this]
    split
    · rename_i hi; simp; omega
    · rename_i hi; rw [h.dense]; omega

theorem Ini.add {ρ : Ren} {m : M} (h : Ini P W ρ m) {g base : Nat} {c c' : Array Value} {e e' : TypeId} {fr' : Nat × Nat} (hg : W.heap[g]? = some (.cells c' e' fr')) (hsz : base + c.size ≤ c'.size)
    (hc : ∀ (k : Nat) (x : Value), c[k]? = some x → ∃ y, c'[base + k]? = some y ∧ VRel ρ x y) : Ini P W (ρ.upd m.nxt ⟨g, base, c.size, c.size, P.cellsOf e⟩) (m.addRo c e) ∧ ρ.le (ρ.upd m.nxt ⟨g, base, c.size, c.size, P.cellsOf e⟩) := by
  have hnone : m.get m.nxt = none := (h.ro.dense _).2 (Nat.le_refl _)
  have hle : ρ.le (ρ.upd m.nxt ⟨g, base, c.size, c.size, P.cellsOf e⟩) := Ren.le_upd _ _ _ (h.inv.dom _ hnone)
  have hro := h.ro.addRo c e
  refine ⟨⟨⟨h.inv.below, h.inv.size, fun i hi => ?_, fun i b hb => ?_, fun i b r hb hr => ?_, fun i b hb => ?_, fun i j bi bj hi hj he _ _ => ?_, fun i j bi bj ri rj hi hj _ _ _ => ?_, fun i j bi bj ri rj hi hj h1 h2 _ he _ => ?_, fun i b hb _ => ?_⟩, hro⟩, hle⟩
  · rw [get_addRo] at hi
    split at hi
    · cases hi
    · rename_i hne; rw [Ren.upd_ne _ _ hne]; exact h.inv.dom i hi
  · by_cases hi : i = m.nxt
    · subst hi; exact ⟨_, Ren.upd_same _ _ _⟩
    · rw [get_addRo, if_neg hi] at hb
      rw [Ren.upd_ne _ _ hi]; exact h.inv.blk i b hb
  · have hb' := alive_get hb
    by_cases hi : i = m.nxt
    · subst hi
      rw [get_addRo, if_pos rfl] at hb'
      cases hb'
      rw [Ren.upd_same] at hr; cases hr
      unfold Holds roBlk
      dsimp only
      refine ⟨rfl, rfl, c', e', fr', hg, hsz, fun k x hx => ?_, fun _ => ⟨(Array.getElem?_eq_some_iff.1 hg).1, rfl⟩, fun q => (by cases q)⟩
      obtain ⟨y, h1, h2⟩ := hc k x hx
      exact ⟨y, h1, h2.mono hle⟩
    · rw [get_addRo, if_neg hi] at hb'
      rw [Ren.upd_ne _ _ hi] at hr
      exact (h.inv.holds i b r (h.ro.alive hb') hr).mono hle
  · obtain ⟨c1, e1, rfl⟩ := hro.blk i b hb
    exact ⟨_, hb, rfl, fun q => absurd rfl q⟩
  · obtain ⟨c1, e1, rfl⟩ := hro.blk i bi hi
    obtain ⟨c2, e2, rfl⟩ := hro.blk j bj hj
    exact he
  · obtain ⟨c1, e1, rfl⟩ := hro.blk i bi (alive_get hi)
    obtain ⟨c2, e2, rfl⟩ := hro.blk j bj (alive_get hj)
    exact .inr ⟨rfl, rfl⟩
  · obtain ⟨c1, e1, rfl⟩ := hro.blk i bi (alive_get hi)
    obtain ⟨c2, e2, rfl⟩ := hro.blk j bj (alive_get hj)
    change i = j at he
    subst he
    rw [h1] at h2; cases h2; exact Nat.le_refl _
  · obtain ⟨c1, e1, rfl⟩ := hro.blk i b hb
    exact ⟨rfl, rfl⟩

/-! ### Values, well formed by their types -/
def chunksOK (ok : TypeId → List Value → Prop) (sz : TypeId → Nat) : List TypeId → List Value → Prop
  | [], cs => cs = []
  | t :: ts, cs => ok t (cs.take (sz t)) ∧ chunksOK ok sz ts (cs.drop (sz t))

def OkV (P : Program) (m : M) : Nat → TypeId → List Value → Prop
  | 0, _, _ => False
  | f + 1, t, cs => match P.underlying t with
    | some .bool => ∃ b, cs = [.bool b]
    | some (.int k) => ∃ n, cs = [.int k n] ∧ (Lit.int k n).wf = true
    | some (.float k) => ∃ b, cs = [.float k b]
    | some .string => ∃ s, cs = [.string s] ∧ s.size ≤ maxLen
    | some (.slice e) => cs = [.slice none 0 0] ∨ (∃ i, cs = [.slice (some ⟨i, 0, none⟩) 0 0]) ∨
      ∃ i len cap c, cs = [.slice (some ⟨i, 0, none⟩) len cap] ∧ 0 < cap ∧ len ≤ cap ∧ cap ≤ maxLen ∧ m.get i = some (roBlk c e i) ∧ chunksOK (OkV P m f) P.cellsOf (List.replicate cap e) c.toList
    | some (.struct fs) => chunksOK (OkV P m f) P.cellsOf (fs.toList.map (·.type)) cs
    | some (.array n e) => chunksOK (OkV P m f) P.cellsOf (List.replicate n e) cs
    | _ => False

theorem chunksOK_mono {ok ok' : TypeId → List Value → Prop} {sz : TypeId → Nat} (h : ∀ t cs, ok t cs → ok' t cs) : ∀ {ts : List TypeId} {cs : List Value}, chunksOK ok sz ts cs → chunksOK ok' sz ts cs := by
  intro ts
  induction ts with
  | nil => intro cs hc; exact hc
  | cons t ts ih => intro cs hc; exact ⟨h _ _ hc.1, ih hc.2⟩

def Ext (m m' : M) : Prop := m.nxt ≤ m'.nxt ∧ ∀ i b, m.get i = some b → m'.get i = some b
theorem Ext.refl (m : M) : Ext m m := ⟨Nat.le_refl _, fun _ _ h => h⟩
theorem Ext.trans {a b c : M} (h : Ext a b) (k : Ext b c) : Ext a c := ⟨Nat.le_trans h.1 k.1, fun i x hx => k.2 i x (h.2 i x hx)⟩
theorem RoMem.ext {m : M} (h : RoMem m) (c : Array Value) (e : TypeId) : Ext m (m.addRo c e) := by
  refine ⟨Nat.le_succ _, fun i b hb => ?_⟩
  rw [get_addRo, if_neg]
  · exact hb
  · intro hi
    rw [hi, (h.dense _).2 (Nat.le_refl _)] at hb; cases hb

theorem OkV_ext {m m' : M} (he : Ext m m') : ∀ (f : Nat) {t : TypeId} {cs : List Value}, OkV P m f t cs → OkV P m' f t cs := by
  intro f
  induction f with
  | zero => intro t cs h; exact h
  | succ f ih =>
    intro t cs h
    unfold OkV at h ⊢
    split at h
    · exact h
    · exact h
    · exact h
    · exact h
    · rcases h with h | h | ⟨i, len, cap, c, h1, h2, h3, h4, h5, h6⟩
      · exact .inl h
      · exact .inr (.inl h)
      · exact .inr (.inr ⟨i, len, cap, c, h1, h2, h3, h4, he.2 _ _ h5, chunksOK_mono (fun _ _ => ih) h6⟩)
    · exact chunksOK_mono (fun _ _ => ih) h
    · exact chunksOK_mono (fun _ _ => ih) h
    · cases h

/-- Types of plain values, slices of such, and structs and arrays of these. -/
def tiled (P : Program) : List Field → Nat → Nat → Bool
  | [], off, tot => decide (off = tot)
  | fd :: r, off, tot => decide (fd.offset = off) && tiled P r (off + P.cellsOf fd.type) tot
def pureT (P : Program) : Nat → TypeId → Bool
  | 0, _ => false
  | f + 1, t => match P.underlying t with
    | some .bool | some (.int _) | some (.float _) | some .string => decide (P.cellsOf t = 1)
    | some (.slice e) => decide (P.cellsOf t = 1) && decide (0 < P.cellsOf e) && pureT P f e
    | some (.struct fs) => tiled P fs.toList 0 (P.cellsOf t) && fs.toList.all fun fd => pureT P f fd.type
    | some (.array n e) => decide (P.cellsOf t = n * P.cellsOf e) && pureT P f e
    | _ => false

/-- Lists, one by one. -/
def LRel (ρ : Ren) : List Value → List Value → Prop
  | [], [] => True
  | x :: l, y :: r => VRel ρ x y ∧ LRel ρ l r
  | _, _ => False
theorem LRel.mono {ρ ρ' : Ren} (hr : ρ.le ρ') : ∀ {l l' : List Value}, LRel ρ l l' → LRel ρ' l l'
  | [], [], _ => trivial
  | _ :: _, _ :: _, h => ⟨h.1.mono hr, h.2.mono hr⟩
theorem LRel.append {ρ : Ren} : ∀ {a a' b b' : List Value}, LRel ρ a a' → LRel ρ b b' → LRel ρ (a ++ b) (a' ++ b')
  | [], [], _, _, _, k => k
  | _ :: _, _ :: _, _, _, h, k => ⟨h.1, h.2.append k⟩
theorem LRel.length {ρ : Ren} : ∀ {l l' : List Value}, LRel ρ l l' → l.length = l'.length
  | [], [], _ => rfl
  | _ :: _, _ :: _, h => by simp [h.2.length]
theorem LRel.get {ρ : Ren} : ∀ {l l' : List Value}, LRel ρ l l' → ∀ (k : Nat) (x : Value), l[k]? = some x → ∃ y, l'[k]? = some y ∧ VRel ρ x y
  | [], [], _, k, x, h => by simp at h
  | _ :: _, b :: _, h, 0, x, hx => ⟨b, rfl, by simp at hx; subst hx; exact h.1⟩
  | _ :: _, _ :: _, h, k + 1, x, hx => by
    obtain ⟨y, h1, h2⟩ := h.2.get k x (by simpa using hx)
    exact ⟨y, by simpa using h1, h2⟩
theorem LRel.vs {ρ : Ren} {l l' : List Value} (h : LRel ρ l l') : VsRel ρ l.toArray l'.toArray := by
  refine ⟨by simp [h.length], fun i x y hx hy => ?_⟩
  obtain ⟨z, h1, h2⟩ := h.get i x (by simpa using hx)
  simp at hy
  rw [h1] at hy; cases hy; exact h2

theorem mapM_mem {α β : Type} {f : α → Option β} : ∀ {l : List α} {r : List β}, l.mapM f = some r → ∀ x ∈ l, ∃ y, f x = some y := by
  intro l
  induction l with
  | nil => intro r _ x hx; cases hx
  | cons a l ih =>
    intro r h x hx
    rw [List.mapM_cons] at h
    cases ha : f a with
    | none => rw [ha] at h; cases h
    | some b =>
      rw [ha] at h
      cases hl : l.mapM f with
      | none => rw [hl] at h; cases h
      | some r2 =>
        rcases List.mem_cons.1 hx with rfl | hx
        · exact ⟨b, ha⟩
        · exact ih hl x hx

theorem flatMap_tiles (cs : List Value) (sz : Nat) : ∀ n : Nat, (List.range n).flatMap (fun i => (cs.drop (i * sz)).take sz) = cs.take (n * sz) := by
  intro n
  induction n with
  | zero => simp
  | succ n ih =>
    rw [List.range_succ, List.flatMap_append, ih]
    simp only [List.flatMap_cons, List.flatMap_nil, List.append_nil]
    rw [Nat.succ_mul, List.take_add]

theorem flatMap_tiled (cs : List Value) {tot : Nat} : ∀ (fs : List Field) (off : Nat), tiled P fs off tot = true → fs.flatMap (fun fd => (cs.drop fd.offset).take (P.cellsOf fd.type)) = (cs.drop off).take (tot - off) ∧ off ≤ tot ∧ ∀ fd ∈ fs, fd.offset + P.cellsOf fd.type ≤ tot := by
  intro fs
  induction fs with
  | nil =>
    intro off h
    simp only [tiled, decide_eq_true_eq] at h
    subst h
    simp
  | cons fd fs ih =>
    intro off h
    simp only [tiled, Bool.and_eq_true, decide_eq_true_eq] at h
    obtain ⟨rfl, h⟩ := h
    obtain ⟨h1, h2, h3⟩ := ih _ h
    refine ⟨?_, by omega, fun x hx => ?_⟩
    · rw [List.flatMap_cons, h1]
      have e : tot - fd.offset = P.cellsOf fd.type + (tot - (fd.offset + P.cellsOf fd.type)) := by omega
      rw [e, List.take_add, List.drop_drop]
    · rcases List.mem_cons.1 hx with rfl | hx
      · exact h2
      · exact h3 x hx

/-- What is opened. -/
def Opens (P : Program) (W : World) (f : Nat) (t : TypeId) (cs : List Value) : Prop :=
  ∀ (ρ : Ren) (m : M), Ini P W ρ m → ∃ ρ' m' cs0, ρ.le ρ' ∧ Ext m m' ∧ Ini P W ρ' m' ∧ LRel ρ' cs0 cs ∧ OkV P m' f t cs0

theorem opens_chunks {f : Nat} : ∀ (l : List (TypeId × List Value)), (∀ p ∈ l, p.2.length = P.cellsOf p.1 ∧ Opens P W f p.1 p.2) → ∀ (ρ : Ren) (m : M), Ini P W ρ m →
    ∃ ρ' m' cs0, ρ.le ρ' ∧ Ext m m' ∧ Ini P W ρ' m' ∧ LRel ρ' cs0 (l.flatMap (·.2)) ∧ chunksOK (OkV P m' f) P.cellsOf (l.map (·.1)) cs0 := by
  intro l
  induction l with
  | nil => intro _ ρ m h; exact ⟨ρ, m, [], Ren.le_refl _, Ext.refl _, h, trivial, rfl⟩
  | cons p l ih =>
    intro hl ρ m h
    obtain ⟨hlen, hop⟩ := hl p (by simp)
    obtain ⟨ρ1, m1, c1, a1, a2, a3, a4, a5⟩ := hop ρ m h
    obtain ⟨ρ2, m2, c2, b1, b2, b3, b4, b5⟩ := ih (fun q hq => hl q (by simp [hq])) ρ1 m1 a3
    have hc1 : c1.length = P.cellsOf p.1 := by rw [a4.length, hlen]
    refine ⟨ρ2, m2, c1 ++ c2, Ren.le_trans a1 b1, a2.trans b2, b3, ?_, ?_, ?_⟩
    · rw [List.flatMap_cons]; exact (a4.mono b1).append b4
    · rw [← hc1, List.take_left]; exact OkV_ext b2 f a5
    · rw [← hc1, List.drop_left]; exact b5

theorem cells?_some {a : Addr} {n : Nat} {l : List Value} (hn : 0 < n) (h : W.cells? 0 a n = some l) : ∃ c e fr, W.heap[a.block]? = some (.cells c e fr) ∧ a.spot = none ∧ a.off + n ≤ c.size ∧ l = (c.toList.drop a.off).take n := by
  unfold World.cells? at h
  rw [if_pos (Nat.zero_le _)] at h
  obtain ⟨v0, h0⟩ := mapM_mem h 0 (by simp [hn])
  have e0 : a.add 0 = a := rfl
  rw [e0] at h0
  unfold World.cell? at h0
  split at h0
  · rename_i c e fr hb
    split at h0
    · cases h0
    · rename_i hs
      have hspot : a.spot = none := by
        cases hq : a.spot with
        | none => rfl
        | some => rw [hq] at hs; simp at hs
      have hcell : ∀ i, W.cell? (a.add i) = c[a.off + i]? := by
        intro i
        unfold World.cell? Addr.add
        by_cases hi : i = 0
        · subst hi; rw [if_pos rfl, hb]; dsimp only; rw [hspot]; simp
        · rw [if_neg hi]; dsimp only; rw [hb]; simp
      have hf : (fun i => W.cell? (a.add i)) = fun i => c[a.off + i]? := by funext i; exact hcell i
      rw [hf] at h
      have hfit : a.off + n ≤ c.size := by
        obtain ⟨y, hy⟩ := mapM_mem h (n - 1) (by simp; omega)
        have := (Array.getElem?_eq_some_iff.1 hy).1
        omega
      refine ⟨c, e, fr, hb, hspot, hfit, ?_⟩
      -- the list
      have key : ∀ k, k ≤ n → (List.range k).mapM (fun i => c[a.off + i]?) = some ((c.toList.drop a.off).take k) := by
        intro k
        induction k with
        | zero => intro _; rfl
        | succ k ih =>
          intro hk
          rw [List.range_succ, List.mapM_append, ih (by omega)]
          have hlt : a.off + k < c.size := by omega
          have hx : c[a.off + k]? = some c[a.off + k] := by simp [hlt]
          simp only [List.mapM_cons, List.mapM_nil, hx]
          have : (c.toList.drop a.off).take (k + 1) = (c.toList.drop a.off).take k ++ [c[a.off + k]] := by
            rw [List.take_add_one]
            congr 1
            rw [List.getElem?_drop]
            simp [hlt]
          rw [this]
          rfl
      rw [key n (Nat.le_refl _)] at h
      exact (Option.some.inj h).symm
  · cases h0

end Go.IM
