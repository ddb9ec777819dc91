/- The ideal machine: bytes that are appended to. -/
import Derived.Test.YtoejiaciaafbmaaImBytes
set_option linter.unusedVariables false
set_option linter.unusedSimpArgs false
namespace Go.IM
open Go

variable {P : Program} {m m' m'' : M} {t e : TypeId}

/-- A type of slices of bytes. -/
structure ByteT (P : Program) (t e : TypeId) : Prop where
  sl : P.underlying t = some (.slice e)
  u8 : P.underlying e = some (.int .u8)
  cells : P.cellsOf e = 1
  info : ∃ ti z, P.info? e = some ti ∧ ti.size = 1 ∧ ti.bytes = 1 ∧ zeroOf P e = some z ∧ z.cells.size = 1

/-- What stays as it is. -/
structure Keep (m m' : M) : Prop where
  row : ∀ i p, m.row i = some p → m'.row i = some p
  nxt : m.nxt ≤ m'.nxt
  bar : m'.bar = m.bar
  free : Free m'
theorem Keep.cell (h : Keep m m') (i j : Nat) (v : Value) (hv : m.cell i j = some v) : m'.cell i j = some v := by
  unfold M.cell at hv ⊢
  split at hv
  · rename_i c e hr; rw [h.row _ _ hr]; exact hv
  · cases hv
theorem Keep.refl (h : Free m) : Keep m m := ⟨fun _ _ h => h, Nat.le_refl _, rfl, h⟩
theorem Keep.trans (h : Keep m m') (k : Keep m' m'') : Keep m m'' := ⟨fun i p q => k.row i p (h.row i p q), Nat.le_trans h.nxt k.nxt, k.bar.trans h.bar, k.free⟩
theorem Keep.mk1 (h : Free m) (o : Obj) : Keep m (m.mk1 o) := ⟨fun _ _ q => row_ins (b := { obj := o, root := m.nxt }) (h _ (Nat.le_refl _)) q, Nat.le_succ _, rfl, h.mk1 o⟩
theorem IsBytes.keep {v : Value} {b : List UInt8} (h : IsBytes m v b) (k : Keep m m') : IsBytes m' v b := by
  rcases h with h | ⟨i, off, cap, h1, h2⟩
  · exact .inl h
  · exact .inr ⟨i, off, cap, h1, fun j x hx => k.cell _ _ _ (h2 j x hx)⟩

/-- Bytes that may be appended to: the tip of their generations. -/
def Buf (P : Program) (m : M) (v : Value) (b : List UInt8) : Prop :=
  (v = .slice none 0 0 ∧ b = []) ∨ ∃ i x c e fr, v = .slice (some ⟨i, 0, none⟩) b.length b.length ∧ b ≠ [] ∧ m.alive i = some x ∧ x.obj = .cells c e fr ∧ c.toList = b.map byteV ∧ P.cellsOf e = 1 ∧ x.ro = false ∧ x.sup = false ∧ x.root ≤ m.nxt

theorem row_of {i : Nat} {x : Blk} {c : Array Value} {e : TypeId} {fr : Nat × Nat} (h : m.alive i = some x) (ho : x.obj = .cells c e fr) : m.row i = some (c, e) := by
  unfold M.row; rw [h]; dsimp only; rw [ho]
theorem Buf.bytes {v : Value} {b : List UInt8} (h : Buf P m v b) : IsBytes m v b := by
  rcases h with h | ⟨i, x, c, e, fr, h1, _, h3, h4, h5, _⟩
  · exact .inl h
  · refine .inr ⟨i, 0, b.length, h1, fun j y hy => ?_⟩
    unfold M.cell
    rw [row_of h3 h4]
    dsimp only
    rw [Nat.zero_add, ← Array.getElem?_toList, h5, List.getElem?_map, hy]
    rfl

/-- So many cells, byte by byte. -/
theorem cells_bytes {i off : Nat} {b : List UInt8} (hb : b ≠ []) (h : ∀ (j : Nat) (x : UInt8), b[j]? = some x → m.cell i (off + j) = some (byteV x)) : ∃ c, m.cells i off b.length = some c ∧ c.toList = b.map byteV := by
  have hpos : 0 < b.length := List.length_pos_iff.2 hb
  have h0 := h 0 b[0] (by simp [hpos])
  unfold M.cell at h0
  split at h0
  · rename_i c e hr
    have hc : ∀ (j : Nat) (x : UInt8), b[j]? = some x → c[off + j]? = some (byteV x) := by
      intro j x hx
      have := h j x hx
      unfold M.cell at this
      rw [hr] at this
      exact this
    have hfit : off + b.length ≤ c.size := by
      have := hc (b.length - 1) b[b.length - 1] (by simp [hpos])
      have := (Array.getElem?_eq_some_iff.1 this).1
      omega
    refine ⟨c.extract off (off + b.length), by unfold M.cells; rw [hr]; dsimp only; rw [if_pos hfit], ?_⟩
    apply List.ext_getElem?
    intro j
    rw [Array.getElem?_toList, Array.getElem?_extract, List.getElem?_map]
    by_cases hj : j < b.length
    · have hx : b[j]? = some b[j] := by simp [hj]
      rw [if_pos (by omega), hc j _ hx, hx]
      rfl
    · rw [if_neg (by omega), List.getElem?_eq_none (by omega)]
      rfl
  · cases h0

theorem news_bytes {x : Value} {q : List UInt8} (h : IsBytes m x q) : ∃ c, news 1 x m = some (q.length, c) ∧ c.toList = q.map byteV := by
  rcases h with ⟨rfl, rfl⟩ | ⟨i, off, cap, rfl, h⟩
  · exact ⟨#[], rfl, rfl⟩
  · by_cases hq : q = []
    · subst hq
      exact ⟨#[], rfl, rfl⟩
    · obtain ⟨c, h1, h2⟩ := cells_bytes hq h
      refine ⟨c, ?_, h2⟩
      have hpos : 0 < q.length := List.length_pos_iff.2 hq
      unfold news
      dsimp only
      rw [if_neg (by omega), Nat.mul_one, h1]
      rfl

theorem alive_gen {i j : Nat} {x y : Blk} (o : Obj) (hf : m.get m.nxt = none) (hi : m.alive i = some x) (hj : m.alive j = some y) : ∃ y', (m.gen i x o).alive j = some y' ∧ y'.obj = y.obj := by
  have hgi := alive_get hi
  have hget : ∀ k, (m.gen i x o).get k = if k = m.nxt then some { obj := o, root := x.root } else if i = k then some { x with sup := true } else m.get k := by
    intro k
    simp only [M.gen, M.get_bump, M.get_set]
    by_cases e : k = m.nxt
    · subst e; simp
    · rw [if_neg e, if_neg (Ne.symm e)]
  have hne : ∀ {k : Nat} {z : Blk}, m.get k = some z → k ≠ m.nxt := by intro k z hz e; rw [e, hf] at hz; cases hz
  obtain ⟨rb, hrb, hd⟩ := alive_root hj
  have hgj := alive_get hj
  have hr : ∃ r', (m.gen i x o).get y.root = some r' ∧ r'.dead = false := by
    rw [hget, if_neg (hne hrb)]
    split
    · rename_i e; rw [← e, hgi] at hrb; cases hrb; exact ⟨_, rfl, hd⟩
    · exact ⟨rb, hrb, hd⟩
  obtain ⟨r', h1, h2⟩ := hr
  by_cases hij : i = j
  · subst hij
    rw [hgi] at hgj; cases hgj
    exact ⟨{ x with sup := true }, alive_mk (rb := r') (by rw [hget, if_neg (hne hgi), if_pos rfl]) h1 h2, rfl⟩
  · exact ⟨y, alive_mk (rb := r') (by rw [hget, if_neg (hne hgj), if_neg hij]; exact hgj) h1 h2, rfl⟩
theorem alive_gen_new {i : Nat} {x : Blk} (o : Obj) (hf : m.get m.nxt = none) (hi : m.alive i = some x) : (m.gen i x o).alive m.nxt = some { obj := o, root := x.root } := by
  obtain ⟨rb, hrb, hd⟩ := alive_root hi
  have hgi := alive_get hi
  have hget : ∀ k, (m.gen i x o).get k = if k = m.nxt then some { obj := o, root := x.root } else if i = k then some { x with sup := true } else m.get k := by
    intro k
    simp only [M.gen, M.get_bump, M.get_set]
    by_cases e : k = m.nxt
    · subst e; simp
    · rw [if_neg e, if_neg (Ne.symm e)]
  have hne : x.root ≠ m.nxt := by intro e; rw [e, hf] at hrb; cases hrb
  by_cases e : i = x.root
  · rw [← e, hgi] at hrb
    cases hrb
    exact alive_mk (rb := { x with sup := true }) (by rw [hget, if_pos rfl]) (by show (m.gen i x o).get x.root = _; rw [hget, if_neg hne, if_pos e]) hd
  · exact alive_mk (rb := rb) (by rw [hget, if_pos rfl]) (by show (m.gen i x o).get x.root = _; rw [hget, if_neg hne, if_neg e]; exact hrb) hd

theorem Keep.gen {i : Nat} {x : Blk} (o : Obj) (h : Free m) (hi : m.alive i = some x) : Keep m (m.gen i x o) := by
  have hf := h _ (Nat.le_refl _)
  refine ⟨fun k p hv => ?_, Nat.le_succ _, rfl, fun k hk => ?_⟩
  · unfold M.row at hv ⊢
    cases hal : m.alive k with
    | none => rw [hal] at hv; cases hv
    | some y =>
      rw [hal] at hv
      obtain ⟨y', h1, h2⟩ := alive_gen o hf hi hal
      rw [h1]
      dsimp only at hv ⊢
      rw [h2]; exact hv
  · have hn : (m.gen i x o).nxt = m.nxt + 1 := rfl
    rw [hn] at hk
    have hik : i ≠ k := by intro e; have := alive_get hi; rw [e, h k (by omega)] at this; cases this
    simp only [M.gen, M.get_bump, M.get_set]
    rw [if_neg (by omega), if_neg hik]
    exact h k (by omega)

/-- APPEND: bytes behind bytes. -/
theorem buf_append {v x : Value} {b q : List UInt8} (T : ByteT P t e) (hF : Free m) (hB : Buf P m v b) (hX : IsBytes m x q) (hlen : b.length + q.length < 2 ^ 40) :
    ∃ v' m', iappend P t (some t) v x m = some (v', m') ∧ Buf P m' v' (b ++ q) ∧ Keep m m' := by
  obtain ⟨ti, z, hti, hsz, hby, hz, hzs⟩ := T.info
  obtain ⟨c, hc, hcl⟩ := news_bytes hX
  have hcs : c.size = q.length := by rw [← Array.length_toList, hcl, List.length_map]
  have hone : c.all one = true := by
    rw [Array.all_eq_true']
    intro y hy
    have : y ∈ c.toList := by simpa using hy
    rw [hcl, List.mem_map] at this
    obtain ⟨u, _, rfl⟩ := this
    rfl
  have key : ∀ base len cap, v = .slice base len cap → iappend P t (some t) v x m = iappendCore P e ti base len cap x m := by
    intro base len cap hv
    unfold iappend
    rw [T.sl, hv]
    dsimp only
    rw [hti, hz]
    dsimp only
    rw [if_neg (by omega)]
    simp only [Option.bind_some, T.sl]
  by_cases hq : q = []
  · subst hq
    have hcore : ∀ base len cap, len ≤ cap → iappendCore P e ti base len cap x m = some (.slice base len cap, m) := by
      intro base len cap hl
      unfold iappendCore
      rw [hsz, hc]
      dsimp only
      rw [if_pos (show ([] : List UInt8).length = 0 from rfl), if_pos hl]
    refine ⟨v, m, ?_, by rw [List.append_nil]; exact hB, Keep.refl hF⟩
    rcases hB with ⟨rfl, rfl⟩ | ⟨i, y, c1, e1, fr, rfl, _⟩
    · rw [key _ _ _ rfl, hcore _ _ _ (Nat.le_refl _)]
    · rw [key _ _ _ rfl, hcore _ _ _ (Nat.le_refl _)]
  · have hqp : 0 < q.length := List.length_pos_iff.2 hq
    have hf := hF _ (Nat.le_refl _)
    rcases hB with ⟨rfl, rfl⟩ | ⟨i, y, c1, e1, fr, rfl, hb, hal, hob, hcl1, hce, hro, hsup, hroot⟩
    · refine ⟨.slice (some ⟨m.nxt, 0, none⟩) q.length q.length, m.mk1 (.cells c e), ?_, ?_, Keep.mk1 hF _⟩
      · rw [key _ _ _ rfl]
        unfold iappendCore
        rw [hsz, hc]
        dsimp only
        rw [if_neg (by omega), if_neg (by rw [hby, hone]; simp at hlen ⊢; omega), if_pos ⟨rfl, rfl⟩]
        unfold M.new
        rw [hf]
      · exact .inr ⟨m.nxt, _, c, e, (0, 0), rfl, by simpa using hq, alive_mk1_new _, rfl, by simpa using hcl, T.cells, rfl, rfl, Nat.le_succ _⟩
    · have hc1s : c1.size = b.length := by rw [← Array.length_toList, hcl1, List.length_map]
      refine ⟨.slice (some ⟨m.nxt, 0, none⟩) (b.length + q.length) (b.length + q.length), m.gen i y (.cells (c1 ++ c) e1 fr), ?_, ?_, Keep.gen _ hF hal⟩
      · rw [key _ _ _ rfl]
        unfold iappendCore
        rw [hsz, hc]
        dsimp only
        rw [if_neg (by omega), if_neg (by rw [hby, hone]; simp; omega), hal]
        dsimp only
        rw [hob]
        dsimp only
        rw [if_neg (by omega), if_neg (by omega), if_neg (by rw [hro]; simp; omega), if_pos ⟨rfl, rfl, hsup, by omega, hroot⟩, hf]
      · exact .inr ⟨m.nxt, _, c1 ++ c, e1, fr, by rw [List.length_append], by simp [hb], alive_gen_new _ hf hal, rfl, by rw [Array.toList_append, hcl1, hcl, List.map_append], hce, rfl, rfl, Nat.le_trans hroot (Nat.le_succ _)⟩

/-! ### Bytes as a string -/
theorem bytesOf_map : ∀ (b : List UInt8), bytesOf (b.map byteV) = some b := by
  intro b
  induction b with
  | nil => rfl
  | cons x b ih =>
    simp only [List.map_cons, byteV, bytesOf] at ih ⊢
    rw [ih]
    simp
theorem string_bytes {v : Value} {b : List UInt8} (h : IsBytes m v b) : istringOf v m = some (.string ⟨b.toArray⟩) := by
  rcases h with ⟨rfl, rfl⟩ | ⟨i, off, cap, rfl, h⟩
  · rfl
  · by_cases hb : b = []
    · subst hb
      unfold istringOf
      dsimp only
      cases hq : m.cells i off [].length with
      | none => rfl
      | some cs =>
        have : cs = #[] := by
          unfold M.cells at hq
          split at hq
          · split at hq
            · cases hq; simp; omega
            · cases hq
          · cases hq
        subst this
        rfl
    · obtain ⟨c, h1, h2⟩ := cells_bytes hb h
      unfold istringOf
      dsimp only
      rw [h1]
      dsimp only
      rw [h2, bytesOf_map]

/-- A slice of bytes that may be cut: its row is there. -/
def CutB (P : Program) (m : M) (v : Value) (b : List UInt8) : Prop :=
  (v = .slice none 0 0 ∧ b = []) ∨ ∃ i off cap, v = .slice (some ⟨i, off, none⟩) b.length cap ∧ b.length ≤ cap ∧ (cap = 0 ∨ ∃ c e, m.row i = some (c, e) ∧ P.cellsOf e = 1) ∧
    ∀ (j : Nat) (x : UInt8), b[j]? = some x → m.cell i (off + j) = some (.int .u8 (x.toNat : Int))
theorem CutB.bytes {v : Value} {b : List UInt8} (h : CutB P m v b) : IsBytes m v b := by
  rcases h with h | ⟨i, off, cap, h1, _, _, h2⟩
  · exact .inl h
  · exact .inr ⟨i, off, cap, h1, h2⟩
theorem CutB.keep {v : Value} {b : List UInt8} (h : CutB P m v b) (k : Keep m m') : CutB P m' v b := by
  rcases h with h | ⟨i, off, cap, h1, h2, h3, h4⟩
  · exact .inl h
  · refine .inr ⟨i, off, cap, h1, h2, ?_, fun j x hx => k.cell _ _ _ (h4 j x hx)⟩
    rcases h3 with h3 | ⟨c, e, h3, h5⟩
    · exact .inl h3
    · exact .inr ⟨c, e, k.row _ _ h3, h5⟩
theorem Buf.cut {v : Value} {b : List UInt8} (h : Buf P m v b) : CutB P m v b := by
  have hb := h.bytes
  rcases h with h | ⟨i, x, c, e, fr, h1, h2, h3, h4, h5, h6, _⟩
  · exact .inl h
  · rcases hb with ⟨h0, _⟩ | ⟨i', off', cap', h7, h8⟩
    · rw [h1] at h0; cases h0
    · rw [h1] at h7
      simp only [Value.slice.injEq, Option.some.injEq, Addr.mk.injEq] at h7
      obtain ⟨⟨rfl, rfl, _⟩, _, rfl⟩ := h7
      exact .inr ⟨i, 0, b.length, h1, Nat.le_refl _, .inr ⟨c, e, row_of h3 h4, h6⟩, h8⟩

/-- From a place on. -/
theorem slice_from {v : Value} {b : List UInt8} (T : ByteT P t e) (h : CutB P m v b) {k : IntKind} (l : Nat) (hl : l ≤ b.length) : ∃ v', islice P t v (some (.int k (l : Nat))) none none m = some v' ∧ CutB P m v' (b.drop l) := by
  obtain ⟨ti, z, hti, hsz, _⟩ := T.info
  rcases h with ⟨rfl, rfl⟩ | ⟨i, off, cap, rfl, h2, h3, h4⟩
  · have : l = 0 := by simpa using hl
    subst this
    refine ⟨.slice none 0 0, ?_, .inl ⟨rfl, rfl⟩⟩
    unfold islice
    rw [T.sl]
    simp [hti, boundD, boundOf]
  · by_cases hc : cap = 0
    · subst hc
      have hb : b = [] := List.eq_nil_of_length_eq_zero (by omega)
      subst hb
      have : l = 0 := by simpa using hl
      subst this
      refine ⟨.slice (some ⟨i, off, none⟩) 0 0, ?_, .inr ⟨i, off, 0, rfl, Nat.le_refl _, .inl rfl, fun j x hx => by simp at hx⟩⟩
      unfold islice
      rw [T.sl]
      simp [hti, boundD, boundOf]
    · obtain ⟨c, e', hr, he'⟩ := h3.resolve_left hc
      refine ⟨.slice (some ⟨i, off + l, none⟩) (b.length - l) (cap - l), ?_, .inr ⟨i, off + l, cap - l, by rw [List.length_drop], by rw [List.length_drop]; omega, .inr ⟨c, e', hr, he'⟩, fun j x hx => ?_⟩⟩
      · unfold islice
        rw [T.sl]
        have h1 : (l : Int) ≤ (b.length : Int) := by omega
        have h5 : ¬ cap = 0 := hc
        simp [hti, boundD, boundOf, h1, h2, hl, h5, hr, he', hsz]
      · rw [List.getElem?_drop] at hx
        rw [Nat.add_assoc]
        exact h4 _ _ hx

end Go.IM
