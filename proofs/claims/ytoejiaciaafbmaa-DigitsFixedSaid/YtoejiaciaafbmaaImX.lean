/- The ideal machine, part X: operations that may be swapped. -/
import Derived.Test.YtoejiaciaafbmaaImW
set_option linter.unusedVariables false
set_option linter.unusedSimpArgs false
namespace Go.IM
open Go Go.RowKit

variable {P : Program} {ev ev' : Operand → Value} {o : Oper}

/-! ### What an operation is looked at by -/
theorem pairs_congr {ps : Array (Nat × Operand)} (hp : ∀ x ∈ ps.map (·.2), ev x = ev' x) : (ps.map fun (i, x) => (i, ev x)) = (ps.map fun (i, x) => (i, ev' x)) :=
  Array.map_congr_left fun p hm => by
    obtain ⟨i, x⟩ := p
    simp only [hp x (Array.mem_map.2 ⟨(i, x), hm, rfl⟩)]

theorem iflat_congr {m : M} (hs : ∀ cs b, o.op ≠ .select cs b) (h : ∀ x ∈ o.op.operands, ev x = ev' x) : iflat P ev o m = iflat P ev' o m := by
  unfold iflat opFlat
  rw [execOp_congr o hs h]
  have : (o.op.operands.all fun x => flat 4 (ev x)) = (o.op.operands.all fun x => flat 4 (ev' x)) := by
    rw [Bool.eq_iff_iff, Array.all_eq_true', Array.all_eq_true']
    exact ⟨fun q x hx => by rw [← h x hx]; exact q x hx, fun q x hx => by rw [h x hx]; exact q x hx⟩
  rw [this]

theorem icall_congr {m : M} {c : Call} (hop : o.op = .call c) (h : ∀ x ∈ o.op.operands, ev x = ev' x) : icall P ev o c m = icall P ev' o c m := by
  have hf := iflat_congr (P := P) (m := m) (o := o) (by rw [hop]; intro cs b; simp) h
  rw [hop] at h
  simp only [Op.operands, Call.operands] at h
  unfold icall
  rw [hf]
  cases hc : c.callee with
  | value f =>
    rw [hc] at h
    dsimp only at h ⊢
    rw [h f (by simp), Array.map_congr_left (f := ev) (g := ev') (xs := c.args) fun x hx => h x (by simp [hx])]
  | invoke r n => rfl
  | builtin b =>
    rw [hc] at h
    have h0 : ∀ i : Nat, (c.args[i]?).map ev = (c.args[i]?).map ev' := by
      intro i
      cases hi : c.args[i]? with
      | none => rfl
      | some x => simp only [Option.map_some]; rw [h x (by simp [Array.mem_of_getElem? hi])]
    cases b <;> simp only [h0]

theorem idefer_congr {m : M} {c : Call} (hop : o.op = .defer c) (h : ∀ x ∈ o.op.operands, ev x = ev' x) : idefer ev c m = idefer ev' c m := by
  rw [hop] at h
  simp only [Op.operands, Call.operands] at h
  unfold idefer
  cases hc : c.callee with
  | value f =>
    rw [hc] at h
    dsimp only at h ⊢
    rw [h f (by simp), Array.map_congr_left (f := ev) (g := ev') (xs := c.args) fun x hx => h x (by simp [hx])]
  | _ => rfl

theorem iop_congr {m : M} (h : ∀ x ∈ o.op.operands, ev x = ev' x) : iop P ev o m = iop P ev' o m := by
  have hf : (∀ cs b, o.op ≠ .select cs b) → iflat P ev o m = iflat P ev' o m := fun hs => iflat_congr hs h
  unfold iop
  cases hop : o.op
  case call c => exact icall_congr hop h
  case defer c => exact idefer_congr hop h
  all_goals rw [hop] at h hf
  all_goals simp only [Op.operands] at h
  all_goals try rw [hf (by intro cs b; simp)]
  all_goals dsimp only
  case build t ps => rw [pairs_congr fun x hx => h x (by simpa using hx)]
  case buildSlice t n ps => rw [pairs_congr fun x hx => h x (by simpa using hx)]
  case makeFunc fn first captured =>
    rw [Array.map_congr_left (f := ev) (g := ev') (xs := first) fun x hx => h x (by simp [hx]), Array.map_congr_left (f := ev) (g := ev') (xs := captured) fun x hx => h x (by simp [hx])]
  case slice t x lo hi mx => cases lo <;> cases hi <;> cases mx <;> simp_all
  case binOp op t x y u =>
    have h1 := h x (by simp); have h2 := h y (by simp)
    cases op <;> simp only [h1, h2]
  case convert s d x =>
    have h1 := h x (by simp)
    unfold iconvert
    rw [h1, hf (by intro cs b; simp)]
  all_goals (first | rfl | (simp_all; done))

theorem touch_congr (h : ∀ x ∈ o.op.operands, ev x = ev' x) : touch ev o = touch ev' o := by
  unfold touch
  cases hop : o.op <;> rw [hop] at h <;> simp only [Op.operands] at h
  case load t a => dsimp only; rw [h a (by simp)]
  case slice t x lo hi mx => dsimp only; rw [h x (by simp)]
  case convert s d x => dsimp only; rw [h x (by simp)]

theorem opD_congr {C : CallF} {n0 β k : Nat} {fl wd : Bool} {t : Tr} (h : ∀ x ∈ o.op.operands, ev x = ev' x) : opD P C n0 β fl wd o ev k t = opD P C n0 β fl wd o ev' k t := by
  unfold opD touchOK
  rw [touch_congr h, iop_congr h]

/-! ### The kinds -/
theorem flat_any {m : M} {r : Res} (h : iflat P ev o m = some r) : ∃ v, r = .val v m ∧ ∀ m2, iflat P ev o m2 = some (.val v m2) := flat_good h

theorem any_val {f : M → Option Value} {m : M} {r : Res} (h : (f m).map (fun v => Res.val v m) = some r) (hf : ∀ m2, f m2 = f m) : ∃ v, r = .val v m ∧ ∀ m2, (f m2).map (fun v => Res.val v m2) = some (.val v m2) := by
  simp only [Option.map_eq_some_iff] at h
  obtain ⟨v, h1, rfl⟩ := h
  exact ⟨v, rfl, fun m2 => by rw [hf, h1]; rfl⟩

theorem iop_p {m : M} {r : Res} (hk : kindOf P o = .p) (h : iop P ev o m = some r) : ∃ v, r = .val v m ∧ ∀ m2, iop P ev o m2 = some (.val v m2) := by
  unfold kindOf at hk
  unfold iop at h ⊢
  cases hop : o.op <;> rw [hop] at hk h <;> dsimp only at hk h ⊢ <;> first | (cases hk; done) | skip
  case move x => cases h; exact ⟨_, rfl, fun _ => rfl⟩
  case assign x => cases h; exact ⟨_, rfl, fun _ => rfl⟩
  case pick c a b =>
    split at h
    · cases h; exact ⟨_, rfl, fun _ => rfl⟩
    · cases h
  case build t ps =>
    simp only [Option.bind_eq_some_iff] at h
    obtain ⟨v, hb, h⟩ := h
    split at h
    · cases h; exact ⟨_, rfl, fun _ => by rw [hb]; rfl⟩
    · cases h
  case nilCheck x =>
    split at h
    · cases h
    · cases h
    · cases h
    · cases h
    · cases h; exact ⟨_, rfl, fun _ => rfl⟩
  case binOp op t x y u =>
    cases op <;> dsimp only at h ⊢
    case eql =>
      split at h
      · cases h; exact ⟨_, rfl, fun _ => rfl⟩
      · exact flat_any h
    case neq =>
      split at h
      · cases h; exact ⟨_, rfl, fun _ => rfl⟩
      · exact flat_any h
    all_goals exact flat_any h
  case unOp => exact flat_any h
  case convert s d x =>
    unfold iconvert at h ⊢
    split at h
    · exfalso; simp [*] at hk
    · exfalso; simp [*] at hk
    · exfalso; simp [*] at hk
    · exact flat_any h
  case makeInterface t x =>
    split at h
    · cases h
    · cases h
    · cases h; exact ⟨_, rfl, fun _ => rfl⟩
  case makeFunc =>
    split at h
    · rename_i q; cases h; exact ⟨_, rfl, fun _ => by rw [if_pos q]⟩
    · cases h
  case fieldAddr => exact any_val (f := fun _ => ifieldAddr P _ _ _) h fun _ => rfl
  case field => exact any_val (f := fun _ => ifield P _ _ _) h fun _ => rfl
  case indexAddr => exact any_val (f := fun _ => iindexAddr P _ _ _) h fun _ => rfl
  case index => exact any_val (f := fun _ => iindex P _ _ _) h fun _ => rfl
  case typeAssert x t t2 ok =>
    split at h
    · cases h
    · split at h
      · rename_i q; cases h; exact ⟨_, rfl, fun _ => by rw [if_pos q]⟩
      · rename_i q; split at h
        · rename_i q2
          simp only [Option.map_eq_some_iff] at h
          obtain ⟨z, hz, rfl⟩ := h
          exact ⟨_, rfl, fun _ => by rw [if_neg q, if_pos q2, hz]; rfl⟩
        · cases h
    · split at h
      · rename_i q2
        simp only [Option.map_eq_some_iff] at h
        obtain ⟨z, hz, rfl⟩ := h
        exact ⟨_, rfl, fun _ => by rw [if_pos q2, hz]; rfl⟩
      · cases h
    · cases h
  case extract x ix =>
    split at h
    · simp only [Option.map_eq_some_iff] at h
      obtain ⟨z, hz, rfl⟩ := h
      exact ⟨_, rfl, fun _ => by rw [hz]; rfl⟩
    · cases h
  case call c =>
    unfold icall at h ⊢
    split at hk
    · rename_i hc
      simp only [hc] at h ⊢
      split at h
      · cases h; exact ⟨_, rfl, fun _ => rfl⟩
      · exact flat_any h
    · cases hk

theorem alive_look {m m2 : M} {i : Nat} {b : Blk} (hl : m2.look i = m.look i) (h : m.alive i = some b) : ∃ b2, m2.alive i = some b2 ∧ b2.obj = b.obj ∧ b2.ro = b.ro := by
  unfold M.look at hl
  rw [h] at hl
  cases h2 : m2.alive i with
  | none => rw [h2] at hl; cases hl
  | some b2 =>
    rw [h2] at hl
    simp only [Option.map_some, Option.some.injEq, Prod.mk.injEq] at hl
    exact ⟨b2, rfl, hl.1, hl.2⟩

theorem islice_row {m m2 : M} {t : TypeId} {x v : Value} {lo hi mx : Option Value} (hrow : ∀ q n c, x = .slice (some q) n c → m2.row q.block = m.row q.block) (h : islice P t x lo hi mx m = some v) : islice P t x lo hi mx m2 = some v := by
  unfold islice at h ⊢
  split at h
  · rename_i a len cap h1
    split at h
    · rename_i h2 h3
      split at h
      · cases h
      · rename_i h4
        rw [if_neg h4]
        split at h
        · rename_i h5
          split at h
          · rename_i h6
            split at h
            · rename_i h7
              rw [if_pos h7]
              split at h
              · exact h
              · have := hrow _ _ _ rfl
                dsimp only at this
                split at h
                · rename_i hc0; rw [if_pos hc0]; exact h
                · rename_i hc0
                  rw [if_neg hc0]
                  split at h
                  · rename_i hr
                    rw [this, hr]
                    exact h
                  · cases h
              · cases h
            · cases h
          · cases h
        · cases h
    · cases h
  · cases h

theorem iop_l {m : M} {r : Res} (hk : kindOf P o = .l) (h : iop P ev o m = some r) : ∃ v, r = .val v m ∧ ∀ m2, (∀ i, touch ev o = some i → m2.look i = m.look i) → iop P ev o m2 = some (.val v m2) := by
  unfold kindOf at hk
  unfold iop touch at *
  cases hop : o.op <;> rw [hop] at hk h <;> dsimp only at hk h ⊢ <;> first | (cases hk; done) | skip
  case load t a =>
    simp only [Option.map_eq_some_iff] at h
    obtain ⟨v, h1, rfl⟩ := h
    refine ⟨v, rfl, fun m2 hl => ?_⟩
    have : iload P t (ev a) m2 = some v := by
      unfold iload at h1 ⊢
      split at h1
      · rename_i i off ha
        rw [ha] at hl
        have hr := row_look (hl i rfl)
        split at h1
        · unfold M.cells at h1 ⊢; rw [hr]; exact h1
        · unfold M.cell at h1 ⊢; rw [hr]; exact h1
        · cases h1
      · cases h1
    rw [this]; rfl
  case slice t x lo hi mx =>
    split at h
    · rename_i v hv
      cases h
      refine ⟨v, rfl, fun m2 hl => ?_⟩
      have : islice P t (ev x) (lo.map ev) (hi.map ev) (mx.map ev) m2 = some v := by
        refine islice_row (fun q n c hx => ?_) hv
        rw [hx] at hl
        exact row_look (hl q.block rfl)
      rw [this]
    · rename_i hv
      have hfl := h
      obtain ⟨v, rfl, h2⟩ := flat_any h
      refine ⟨v, rfl, fun m2 hl => ?_⟩
      unfold iflat at hfl
      split at hfl
      · rename_i hq
        unfold opFlat at hq
        rw [Array.all_eq_true'] at hq
        rw [islice_flat m _ (hq _ (by rw [hop]; simp [Op.operands])), hv]
        exact h2 m2
      · cases hfl
  case convert s d x =>
    unfold iconvert at h ⊢
    split at h
    · exfalso; simp [*] at hk
    · split at h
      · rename_i h1
        simp only [Option.map_eq_some_iff] at h
        obtain ⟨v, hv, rfl⟩ := h
        refine ⟨v, rfl, fun m2 hl => ?_⟩
        have : istringOf (ev x) m2 = some v := by
          unfold istringOf at hv ⊢
          split at hv
          · exact hv
          · rename_i i off n c hx
            rw [hx] at hl
            have hr := row_look (hl i rfl)
            unfold M.cells at hv ⊢; rw [hr]; exact hv
          · cases hv
        simp only [h1, this, Option.map_some]
      · cases h
    · rename_i a n c hs hd hx
      rw [hx]
      split at h
      · rename_i bb h1 h2 h3
        split at h
        · rename_i c1 e1 fr ho
          split at h
          · cases h
          · rename_i h5
            cases h
            refine ⟨_, rfl, fun m2 hl => ?_⟩
            obtain ⟨b2, g1, g2, g3⟩ := alive_look (hl _ rfl) h3
            simp only [h1, h2, g1, g2, ho, g3]
            rw [if_neg h5]
        · cases h
      · cases h
    · obtain ⟨v, rfl, h2⟩ := flat_any h
      exact ⟨v, rfl, fun m2 _ => h2 m2⟩
  case call c =>
    split at hk <;> cases hk

/-- A block is drawn: or nothing is done. -/
def Draws (P : Program) (ev : Operand → Value) (o : Oper) (m : M) (r : Res) : Prop :=
  (∃ v, r = .val v m ∧ ∀ m2, iop P ev o m2 = some (.val v m2)) ∨
  (∃ v obj, r = .val v (m.mk1 obj) ∧ m.get m.nxt = none ∧ ∀ m2 : M, m2.nxt = m.nxt → m2.get m.nxt = none → iop P ev o m2 = some (.val v (m2.mk1 obj)))

theorem new_draws {m m1 : M} {c : Array Value} {e : TypeId} {a : Addr} (h : m.new c e = some (a, m1)) : m1 = m.mk1 (.cells c e) ∧ m.get m.nxt = none ∧ ∀ m2 : M, m2.nxt = m.nxt → m2.get m.nxt = none → m2.new c e = some (a, m2.mk1 (.cells c e)) := by
  obtain ⟨_, h1, h2, h3⟩ := new_fr h
  refine ⟨h1, h2, fun m2 hn hg => ?_⟩
  unfold M.new
  rw [hn, hg, h3]

theorem iop_a {m : M} {r : Res} (hk : kindOf P o = .a) (h : iop P ev o m = some r) : Draws P ev o m r := by
  unfold kindOf at hk
  unfold Draws
  unfold iop at *
  cases hop : o.op <;> rw [hop] at hk h <;> dsimp only at hk h ⊢ <;> first | (cases hk; done) | skip
  case alloc t =>
    split at h
    · rename_i z hz
      simp only [Option.map_eq_some_iff] at h
      obtain ⟨⟨a, m1⟩, hn, rfl⟩ := h
      obtain ⟨rfl, h2, h3⟩ := new_draws hn
      exact .inr ⟨_, _, rfl, h2, fun m2 k1 k2 => by rw [h3 m2 k1 k2]; rfl⟩
    · cases h
  case box t x =>
    simp only [Option.map_eq_some_iff] at h
    obtain ⟨⟨a, m1⟩, hn, rfl⟩ := h
    obtain ⟨rfl, h2, h3⟩ := new_draws hn
    exact .inr ⟨_, _, rfl, h2, fun m2 k1 k2 => by rw [h3 m2 k1 k2]; rfl⟩
  case buildSlice t n ps =>
    simp only [Option.map_eq_some_iff] at h
    obtain ⟨⟨a, m1⟩, hb, rfl⟩ := h
    unfold ibuildSlice at hb ⊢
    split at hb
    · split at hb
      · split at hb
        · rename_i g1
          split at hb
          · rename_i g2
            split at hb
            · rename_i a m2 hn
              split at hb
              · rename_i g3
                cases hb
                obtain ⟨rfl, h2, h3⟩ := new_draws hn
                refine .inr ⟨_, _, rfl, h2, fun m2 k1 k2 => ?_⟩
                rw [if_pos g1, h3 m2 k1 k2]
                dsimp only
                rw [if_pos g3]; rfl
              · cases hb
            · cases hb
          · cases hb
        · cases hb
      · cases hb
    · cases hb
  case makeSlice t l c =>
    simp only [Option.map_eq_some_iff] at h
    obtain ⟨⟨a, m1⟩, hb, rfl⟩ := h
    unfold imakeSlice at hb ⊢
    split at hb
    · split at hb
      · split at hb
        · rename_i g1
          split at hb
          · rename_i a m2 hn
            cases hb
            obtain ⟨rfl, h2, h3⟩ := new_draws hn
            refine .inr ⟨_, _, rfl, h2, fun m2 k1 k2 => ?_⟩
            rw [if_pos g1, h3 m2 k1 k2]; rfl
          · cases hb
        · cases hb
      · cases hb
    · cases hb
  case convert s d x =>
    unfold iconvert at h ⊢
    split at h
    · split at h
      · rename_i g1
        split at h
        · rename_i g2
          simp only [Option.map_eq_some_iff] at h
          obtain ⟨⟨v, m1⟩, hb, rfl⟩ := h
          unfold ibytesOf at hb
          split at hb
          · rename_i hn
            cases hb
            obtain ⟨rfl, h2, h3⟩ := new_draws hn
            refine .inr ⟨_, _, rfl, h2, fun m2 k1 k2 => ?_⟩
            simp only [g1]
            rw [if_pos g2]
            unfold ibytesOf
            rw [h3 m2 k1 k2]; rfl
          · cases hb
        · cases h
      · cases h
    · exfalso; simp [*] at hk
    · exfalso; simp [*] at hk
    · obtain ⟨v, rfl, h2⟩ := flat_any h
      exact .inl ⟨v, rfl, h2⟩
  case call c =>
    split at hk <;> cases hk

/-! ### One step in a region whose order is drawn -/
variable {C : CallF} {n0 β : Nat} {fl wd : Bool}

/-- What is seen of a block. -/
def lookT (t : Tr) (i : Nat) : Option (Obj × Bool) := (⟨t, 0, 0⟩ : M).look i

theorem opD_p {k e : Nat} {t t' : Tr} {v : Value} (hk : wd = true → kindOf P o = .p) (h : opD P C n0 β fl wd o ev k t = some (v, t', e)) :
    t' = t ∧ e = k ∧ ∀ t2 k2, opD P C n0 β fl wd o ev k2 t2 = some (v, t2, k2) := by
  unfold opD at h ⊢
  split at h
  · rename_i hw
    split at h
    · rename_i hok
      cases hi : iop P ev o ⟨t, k, if fl then k else β⟩ with
      | none => rw [hi] at h; cases h
      | some r =>
        obtain ⟨v2, rfl, h2⟩ := iop_p (hk hw) hi
        rw [hi] at h
        cases h
        exact ⟨rfl, rfl, fun t2 k2 => by rw [if_pos hw, if_pos hok, h2]⟩
    · cases h
  · rename_i hw
    cases h
    exact ⟨rfl, rfl, fun t2 k2 => by rw [if_neg hw]⟩

theorem opD_l {k e : Nat} {t t' : Tr} {v : Value} (hk : kindOf P o = .l) (h : opD P C n0 β fl wd o ev k t = some (v, t', e)) :
    t' = t ∧ e = k ∧ ∀ t2 k2, (∀ i, (fl = true → i < n0) → touch ev o = some i → lookT t2 i = lookT t i) → opD P C n0 β fl wd o ev k2 t2 = some (v, t2, k2) := by
  unfold opD at h ⊢
  split at h
  · rename_i hw
    split at h
    · rename_i hok
      cases hi : iop P ev o ⟨t, k, if fl then k else β⟩ with
      | none => rw [hi] at h; cases h
      | some r =>
        obtain ⟨v2, rfl, h2⟩ := iop_l hk hi
        rw [hi] at h
        cases h
        refine ⟨rfl, rfl, fun t2 k2 hl => ?_⟩
        rw [if_pos hw, if_pos hok, h2 ⟨t2, k2, _⟩ fun i hti => ?_]
        refine hl i (fun hfl => ?_) hti
        simp only [Bool.and_eq_true, Bool.or_eq_true, Bool.not_eq_true', hfl, Bool.true_eq_false, false_or] at hok
        have := hok.2
        unfold touchOK at this
        rw [hti] at this
        simpa using this
    · cases h
  · rename_i hw
    cases h
    exact ⟨rfl, rfl, fun t2 k2 _ => by rw [if_neg hw]⟩

theorem opD_a {k e : Nat} {t t' : Tr} {v : Value} (hk : kindOf P o = .a) (h : opD P C n0 β fl wd o ev k t = some (v, t', e)) :
    (t' = t ∧ e = k ∧ ∀ t2 k2, opD P C n0 β fl wd o ev k2 t2 = some (v, t2, k2)) ∨
    (∃ b, t' = t.put k b ∧ e = k + 1 ∧ t.get (k + 1) k = none ∧ ∀ t2 : Tr, t2.get (k + 1) k = none → opD P C n0 β fl wd o ev k t2 = some (v, t2.put k b, k + 1)) := by
  unfold opD at h ⊢
  split at h
  · rename_i hw
    split at h
    · rename_i hok
      cases hi : iop P ev o ⟨t, k, if fl then k else β⟩ with
      | none => rw [hi] at h; cases h
      | some r =>
        rw [hi] at h
        rcases iop_a hk hi with ⟨v2, rfl, h2⟩ | ⟨v2, obj, rfl, h1, h2⟩
        · cases h
          exact .inl ⟨rfl, rfl, fun t2 k2 => by rw [if_pos hw, if_pos hok, h2]⟩
        · cases h
          refine .inr ⟨{ obj, root := k }, rfl, rfl, h1, fun t2 hg => ?_⟩
          rw [if_pos hw, if_pos hok, h2 ⟨t2, k, _⟩ rfl hg]
          rfl
    · cases h
  · rename_i hw
    cases h
    exact .inl ⟨rfl, rfl, fun t2 k2 => by rw [if_neg hw]⟩

theorem lookT_put {t : Tr} {k i : Nat} {b : Blk} (hw : Wf ⟨t, 0, 0⟩) (hi : i < k) : lookT (t.put k b) i = lookT t i := by
  refine look_eq (m := ⟨t, 0, 0⟩) (m' := ⟨t.put k b, 0, 0⟩) ?_ fun y hy => ?_
  · change ((⟨t, 0, 0⟩ : M).set k b).get i = _
    rw [M.get_set, if_neg (by omega)]
  · obtain ⟨hle, rb, hrb⟩ := hw i y hy
    refine ⟨rb, rb, hrb, ?_, rfl⟩
    change ((⟨t, 0, 0⟩ : M).set k b).get y.root = _
    rw [M.get_set, if_neg (by omega)]; exact hrb

theorem Fr.lookT {t t' : Tr} {k e γ i : Nat} (h : Fr ⟨t, k, γ⟩ ⟨t', e, γ⟩) (hw : Wf ⟨t, 0, 0⟩) (hk : γ ≤ k) (hi : i < γ) : lookT t' i = lookT t i := h.look hw hk i hi

theorem opD_swap (hC : CGood C) {ox oy : Oper} {evx evy : Operand → Value} {wx wy flx fly : Bool} {limx limy kx ky ex ey : Nat} {t t1 t2 : Tr} {vx vy : Value}
    (hx : opD P C limx β flx wx ox evx kx t = some (vx, t1, ex)) (hy : opD P C limy β fly wy oy evy ky t1 = some (vy, t2, ey)) (hwf : Wf ⟨t, 0, 0⟩) (hle : ex ≤ ky)
    (hlx : kindOf P ox = .l → limx ≤ kx) (hly : flagK (kindOf P oy) (kindOf P ox) = true → kindOf P oy = .l → limy ≤ kx)
    (hkinds : kindsOK (kindOf P ox) (kindOf P oy) = true) (hflx : flagK (kindOf P ox) (kindOf P oy) = true → flx = true) (hfly : flagK (kindOf P oy) (kindOf P ox) = true → fly = true) :
    ∃ t1', opD P C limy β fly wy oy evy ky t = some (vy, t1', ey) ∧ opD P C limx β flx wx ox evx kx t1' = some (vx, t2, ex) := by
  have gx := opD_good hC hx
  have gy := opD_good hC hy
  have hn2 : kx ≤ ky := by have : kx ≤ ex := gx.1.nxt; omega
  cases hky : kindOf P oy with
  | p =>
    obtain ⟨rfl, rfl, h⟩ := opD_p (fun _ => hky) hy
    exact ⟨t, h _ _, hx⟩
  | a =>
    rcases opD_a hky hy with ⟨rfl, rfl, h⟩ | ⟨b, rfl, rfl, hg, h⟩
    · exact ⟨t, h _ _, hx⟩
    · exact ⟨t.put ky b, h t (gx.1.dom ky hg), gx.2 ky b hg hle⟩
  | l =>
    obtain ⟨rfl, rfl, h⟩ := opD_l hky hy
    refine ⟨t, h t _ fun i hi hti => ?_, hx⟩
    cases hkx : kindOf P ox with
    | p => obtain ⟨rfl, _⟩ := opD_p (fun _ => hkx) hx; rfl
    | l => obtain ⟨rfl, _⟩ := opD_l hkx hx; rfl
    | a =>
      have hin := hi (hfly (by rw [hky, hkx]; rfl))
      have hl := hly (by rw [hky, hkx]; rfl) hky
      rcases opD_a hkx hx with ⟨rfl, rfl, _⟩ | ⟨b, rfl, rfl, hg, _⟩
      · rfl
      · exact (lookT_put hwf (by omega)).symm
    | x =>
      have hin := hi (hfly (by rw [hky, hkx]; rfl))
      have hl := hly (by rw [hky, hkx]; rfl) hky
      have hf := hflx (by rw [hky, hkx]; rfl)
      subst hf
      exact (gx.1.lookT hwf (by simp) (by simp; omega)).symm
  | x =>
    rw [hky] at hkinds hflx hfly
    cases hkx : kindOf P ox with
    | p =>
      obtain ⟨rfl, rfl, h⟩ := opD_p (fun _ => hkx) hx
      exact ⟨t2, hy, h _ _⟩
    | l =>
      obtain ⟨rfl, rfl, h⟩ := opD_l hkx hx
      refine ⟨t2, hy, h _ _ fun i hi hti => ?_⟩
      have hin := hi (hflx (by rw [hkx]; rfl))
      have hl := hlx hkx
      have hf := hfly (by rw [hkx]; rfl)
      subst hf
      exact gy.1.lookT hwf (by simp) (by simp; omega)
    | a => rw [hkx] at hkinds; cases hkinds
    | x => rw [hkx] at hkinds; cases hkinds

/-! ### Steps in some order, each with the numbers it would have in the text's -/
section seq
variable {ops : Array Oper} {fls : Nat → Bool} {st en lim : Nat → Nat}

def stepS (P : Program) (C : CallF) (ops : Array Oper) (β : Nat) (fls : Nat → Bool) (lim st en : Nat → Nat) (i : Nat) (a : Act) (t : Tr) : Option (Act × Tr) :=
  match ops[i]? with
  | none => none
  | some o => match opD P C (lim i) β (fls i) (Region.wanted o (yielded ops a.tmps)) o a.eval (st i) t with
    | some (v, t1, e) => if e = en i then some (a.put o.dst v, t1) else none
    | none => none
def seqS (P : Program) (C : CallF) (ops : Array Oper) (β : Nat) (fls : Nat → Bool) (lim st en : Nat → Nat) : List Nat → Act → Tr → Option (Act × Tr)
  | [], a, t => some (a, t)
  | i :: l, a, t => match stepS P C ops β fls lim st en i a t with
    | some (a1, t1) => seqS P C ops β fls lim st en l a1 t1
    | none => none

theorem stepS_some {i : Nat} {a a1 : Act} {t t1 : Tr} (h : stepS P C ops β fls lim st en i a t = some (a1, t1)) :
    ∃ o v, ops[i]? = some o ∧ opD P C (lim i) β (fls i) (Region.wanted o (yielded ops a.tmps)) o a.eval (st i) t = some (v, t1, en i) ∧ a1 = a.put o.dst v := by
  unfold stepS at h
  split at h
  · cases h
  · rename_i o ho
    split at h
    · rename_i v t2 e hd
      split at h
      · rename_i he
        cases h
        exact ⟨o, v, ho, by rw [hd, he], rfl⟩
      · cases h
    · cases h
theorem stepS_mk {i : Nat} {a : Act} {t t1 : Tr} {o : Oper} {v : Value} (ho : ops[i]? = some o) (h : opD P C (lim i) β (fls i) (Region.wanted o (yielded ops a.tmps)) o a.eval (st i) t = some (v, t1, en i)) :
    stepS P C ops β fls lim st en i a t = some (a.put o.dst v, t1) := by
  unfold stepS
  rw [ho]; dsimp only; rw [h]; dsimp only; rw [if_pos rfl]

/-- May the second one come before the first? -/
structure Sw (P : Program) (ops : Array Oper) (fls : Nat → Bool) (lim st en : Nat → Nat) (i j : Nat) : Prop where
  op : ∀ x y, ops[i]? = some x → ops[j]? = some y → x.apart ops y = true ∧ kindsOK (kindOf P x) (kindOf P y) = true ∧ (flagK (kindOf P x) (kindOf P y) = true → fls i = true) ∧ (flagK (kindOf P y) (kindOf P x) = true → fls j = true)
  le : en i ≤ st j
  limx : ∀ x, ops[i]? = some x → kindOf P x = .l → lim i ≤ st i
  limy : ∀ x y, ops[i]? = some x → ops[j]? = some y → flagK (kindOf P y) (kindOf P x) = true → kindOf P y = .l → lim j ≤ st i

theorem eval_put (o : Oper) (a : Act) (dst : Option Tmp) (v : Value) (h : ∀ d, dst = some d → d ∉ o.looksAt ops) : ∀ x ∈ o.op.operands, (a.put dst v).eval x = a.eval x :=
  fun x hx => Act.eval_put fun d hd hxd => h d hd (by
    subst hxd
    exact List.mem_append_left _ (List.mem_filterMap.2 ⟨.tmp d, by simpa using hx, rfl⟩))

theorem stepS_swap (hC : CGood C) {i j : Nat} (hs : Sw P ops fls lim st en i j) {a a1 a2 : Act} {t t1 t2 : Tr} (hwf : Wf ⟨t, 0, 0⟩)
    (h1 : stepS P C ops β fls lim st en i a t = some (a1, t1)) (h2 : stepS P C ops β fls lim st en j a1 t1 = some (a2, t2)) :
    ∃ a1' t1', stepS P C ops β fls lim st en j a t = some (a1', t1') ∧ stepS P C ops β fls lim st en i a1' t1' = some (a2, t2) := by
  obtain ⟨x, vx, hx, dx, rfl⟩ := stepS_some h1
  obtain ⟨y, vy, hy, dy, rfl⟩ := stepS_some h2
  obtain ⟨hap, hk, f1, f2⟩ := hs.op x y hx hy
  obtain ⟨p1, p2, p3⟩ := Oper.apart_spec hap
  rw [wanted_put y a x.dst vx p1, opD_congr (eval_put y a x.dst vx p1)] at dy
  obtain ⟨t1', e1, e2⟩ := opD_swap hC dx dy hwf hs.le (hs.limx x hx) (hs.limy x y hx hy) hk f1 f2
  refine ⟨a.put y.dst vy, t1', stepS_mk hy e1, ?_⟩
  rw [Act.put_comm a vx vy p2]
  refine stepS_mk hx ?_
  rw [wanted_put x a y.dst vy p3, opD_congr (eval_put x a y.dst vy p3)]
  exact e2

theorem stepS_wf (hC : CGood C) {i : Nat} {a a1 : Act} {t t1 : Tr} (hwf : Wf ⟨t, 0, 0⟩) (h : stepS P C ops β fls lim st en i a t = some (a1, t1)) : Wf ⟨t1, 0, 0⟩ := by
  obtain ⟨x, vx, hx, dx, rfl⟩ := stepS_some h
  exact (opD_good hC dx).1.wf hwf

theorem seqS_front (hC : CGood C) {j : Nat} {r : Act × Tr} : ∀ (l1 l2 : List Nat) {a : Act} {t : Tr}, Wf ⟨t, 0, 0⟩ → (∀ i ∈ l1, Sw P ops fls lim st en i j) → seqS P C ops β fls lim st en (l1 ++ j :: l2) a t = some r →
    seqS P C ops β fls lim st en (j :: (l1 ++ l2)) a t = some r := by
  intro l1
  induction l1 with
  | nil => intro l2 a t _ _ h; exact h
  | cons i l1 ih =>
    intro l2 a t hwf hs h
    simp only [List.cons_append, seqS] at h
    split at h
    · rename_i a1 t1 h1
      have h2 := ih l2 (stepS_wf hC hwf h1) (fun k hk => hs k (by simp [hk])) h
      simp only [seqS] at h2
      split at h2
      · rename_i a2 t2 h3
        obtain ⟨a1', t1', g1, g2⟩ := stepS_swap hC (hs i (by simp)) hwf h1 h3
        simp only [List.cons_append, seqS, g1, g2]
        exact h2
      · cases h2
    · cases h

/-- The text's own order. -/
theorem seqS_of_runD (hC : CGood C) {ff : Nat → Option Nat} (hff : ∀ i j, ff i = some j → j < i) : ∀ (l : List Nat) {ss : Nat → Nat} {a a1 : Act} {k k1 : Nat} {t t1 : Tr}, l.Pairwise (· < ·) → runD P C ops β fls ff l ss a k t = some (a1, k1, t1) →
    ∃ lim st en : Nat → Nat, seqS P C ops β fls lim st en l a t = some (a1, t1) ∧ (∀ i ∈ l, k ≤ st i) ∧ (∀ i ∈ l, st i ≤ en i) ∧ (∀ i ∈ l, ∀ j ∈ l, i < j → en i ≤ st j) ∧
      (∀ i ∈ l, ∀ j, ff i = some j → (j ∈ l → lim i = st j) ∧ (j ∉ l → lim i = ss j)) ∧ (∀ i ∈ l, ff i = none → lim i = st i) := by
  intro l
  induction l with
  | nil =>
    intro ss a a1 k k1 t t1 _ h
    simp only [runD, Option.some.injEq, Prod.mk.injEq] at h
    obtain ⟨rfl, rfl, rfl⟩ := h
    exact ⟨fun _ => 0, fun _ => 0, fun _ => 0, rfl, fun i hi => (by cases hi), fun i hi => (by cases hi), fun i hi => (by cases hi), fun i hi => (by cases hi), fun i hi => (by cases hi)⟩
  | cons i l ih =>
    intro ss a a1 k k1 t t1 hp h
    simp only [runD] at h
    split at h
    · cases h
    · rename_i o ho
      split at h
      · rename_i v t2 k2 hd
        obtain ⟨hlt, hp2⟩ := List.pairwise_cons.1 hp
        obtain ⟨lim, st, en, h1, h2, h3, h4, h5, h6⟩ := ih hp2 h
        have hk : k ≤ k2 := (opD_good hC hd).1.nxt
        have hil : i ∉ l := fun hq => by have := hlt i hq; omega
        refine ⟨fun j => if j = i then limOf ff ss i k else lim j, fun j => if j = i then k else st j, fun j => if j = i then k2 else en j, ?_, ?_, ?_, ?_, ?_, ?_⟩
        · simp only [seqS]
          have hstep : stepS P C ops β fls (fun j => if j = i then limOf ff ss i k else lim j) (fun j => if j = i then k else st j) (fun j => if j = i then k2 else en j) i a t = some (a.put o.dst v, t2) :=
            stepS_mk ho (by simpa using hd)
          rw [hstep]
          dsimp only
          rw [← h1]
          have : ∀ (l' : List Nat) (a : Act) (t : Tr), (∀ j ∈ l', j ≠ i) → seqS P C ops β fls (fun j => if j = i then limOf ff ss i k else lim j) (fun j => if j = i then k else st j) (fun j => if j = i then k2 else en j) l' a t = seqS P C ops β fls lim st en l' a t := by
            intro l'
            induction l' with
            | nil => intro a t _; rfl
            | cons j l' ih2 =>
              intro a t hj
              have hne := hj j (by simp)
              have e1 : stepS P C ops β fls (fun j => if j = i then limOf ff ss i k else lim j) (fun j => if j = i then k else st j) (fun j => if j = i then k2 else en j) j a t = stepS P C ops β fls lim st en j a t := by
                unfold stepS; simp only [if_neg hne]
              simp only [seqS, e1]
              split
              · exact ih2 _ _ fun q hq => hj q (by simp [hq])
              · rfl
          exact this l _ _ fun j hj => by have := hlt j hj; omega
        · intro j hj
          dsimp only
          split
          · exact Nat.le_refl _
          · rename_i hne
            exact Nat.le_trans hk (h2 j (by simpa [hne] using hj))
        · intro j hj
          dsimp only
          split
          · exact hk
          · rename_i hne
            exact h3 j (by simpa [hne] using hj)
        · intro p hp' q hq hpq
          dsimp only
          by_cases e1 : p = i
          · rw [if_pos e1, if_neg (by omega)]
            exact h2 q ((List.mem_cons.1 hq).resolve_left (by omega))
          · have hpl : p ∈ l := by simpa [e1] using hp'
            have := hlt p hpl
            rw [if_neg e1, if_neg (by omega)]
            exact h4 p hpl q ((List.mem_cons.1 hq).resolve_left (by omega)) hpq
        · intro p hp' j hj
          have hjp := hff p j hj
          dsimp only
          by_cases e1 : p = i
          · subst e1
            rw [if_pos rfl]
            unfold limOf
            rw [hj]
            refine ⟨fun hjm => ?_, fun _ => rfl⟩
            rcases List.mem_cons.1 hjm with h | h
            · omega
            · have := hlt j h; omega
          · have hpl : p ∈ l := by simpa [e1] using hp'
            rw [if_neg e1]
            obtain ⟨q1, q2⟩ := h5 p hpl j hj
            by_cases e2 : j = i
            · subst e2
              refine ⟨fun _ => ?_, fun hn => absurd (by simp) hn⟩
              rw [if_pos rfl, q2 hil]
              simp [setN]
            · refine ⟨fun hjm => ?_, fun hn => ?_⟩
              · rw [if_neg e2]
                exact q1 (by simpa [e2] using hjm)
              · rw [q2 (fun hq => hn (by simp [hq]))]
                unfold setN
                have : Nat.beq j i = false := by
                  cases hb : Nat.beq j i with
                  | false => rfl
                  | true => exact absurd (Nat.eq_of_beq_eq_true hb) e2
                rw [this]; rfl
        · intro p hp' hj
          dsimp only
          by_cases e1 : p = i
          · subst e1
            rw [if_pos rfl, if_pos rfl]
            unfold limOf
            rw [hj]
          · rw [if_neg e1, if_neg e1]
            exact h6 p (by simpa [e1] using hp') hj
      · cases h
end seq

end Go.IM
