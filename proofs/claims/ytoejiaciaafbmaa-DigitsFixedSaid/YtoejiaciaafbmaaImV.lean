/- The ideal machine, part V: what every operation leaves alone. -/
import Derived.Test.YtoejiaciaafbmaaImU
set_option linter.unusedVariables false
set_option linter.unusedSimpArgs false
namespace Go.IM
open Go Go.RowKit

variable {P : Program} {m m1 : M} {k : Nat} {b : Blk}

def Res.mem : Res → M
  | .val _ m | .skip m | .dfr _ m | .call _ _ m | .pnc _ m => m
def Res.ins (k : Nat) (b : Blk) : Res → Res
  | .val v m => .val v (m.set k b)
  | .skip m => .skip (m.set k b)
  | .dfr d m => .dfr d (m.set k b)
  | .call f a m => .call f a (m.set k b)
  | .pnc v m => .pnc v (m.set k b)

theorem iload_ins {t : TypeId} {a v : Value} (hk : m.get k = none) (h : iload P t a m = some v) : iload P t a (m.set k b) = some v := by
  unfold iload at h ⊢
  split at h
  · split at h
    · simp only [Option.map_eq_some_iff] at h ⊢
      obtain ⟨cs, hc, rfl⟩ := h
      exact ⟨cs, cells_ins hk hc, rfl⟩
    · exact cell_ins hk h
    · cases h
  · cases h

theorem store_good {i o : Nat} {vs : List Value} (h : m.store i o vs = some m1) : Fr m m1 ∧ (m.get k = none → (m.set k b).store i o vs = some (m1.set k b)) := by
  unfold M.store at h ⊢
  split at h
  · rename_i x hx
    split at h
    · rename_i c e fr ho
      split at h
      · rename_i hc
        cases h
        obtain ⟨h1, h2, h3, h4, h5, h6⟩ := hc
        refine ⟨put_fr _ hx h5 h6, fun hk => ?_⟩
        rw [alive_ins hk hx]
        dsimp only
        rw [ho]
        dsimp only
        rw [if_pos ⟨h1, h2, h3, h4, h5, h6⟩]
        obtain ⟨rb, hrb, _⟩ := alive_root hx
        rw [put_ins _ hk (get_ne_of hk (alive_get hx)) (get_ne_of hk hrb) ⟨rb, hrb⟩]
      · cases h
    · cases h
  · cases h

theorem istore_good {t : TypeId} {a v : Value} (h : istore P t a v m = some m1) : Fr m m1 ∧ (m.get k = none → istore P t a v (m.set k b) = some (m1.set k b)) := by
  unfold istore at h ⊢
  split at h
  · rename_i h1
    split at h
    · rename_i h2
      obtain ⟨h3, h4⟩ := store_good (k := k) (b := b) h
      refine ⟨h3, fun hk => ?_⟩
      rw [if_pos h2]
      exact h4 hk
    · cases h
  · cases h

theorem islice_ins {t : TypeId} {x v : Value} {lo hi mx : Option Value} (hk : m.get k = none) (h : islice P t x lo hi mx m = some v) : islice P t x lo hi mx (m.set k b) = some v := by
  unfold islice at h ⊢
  split at h
  · rename_i h1
    split at h
    · rename_i h2 h3
      split at h
      · cases h
      · rename_i h4
        rw [if_neg h4]
        split at h
        · rename_i h5
          split at h
          · rename_i h6
            split at h
            · rename_i h7
              rw [if_pos h7]
              split at h
              · exact h
              · split at h
                · rename_i hc0; rw [if_pos hc0]; exact h
                · rename_i hc0
                  rw [if_neg hc0]
                  split at h
                  · rename_i hr
                    rw [row_ins hk hr]
                    exact h
                  · cases h
              · cases h
            · cases h
          · cases h
        · cases h
    · cases h
  · cases h

theorem islice_flat {t : TypeId} {x : Value} {lo hi mx : Option Value} (m m2 : M) (hx : flat 4 x = true) : islice P t x lo hi mx m2 = islice P t x lo hi mx m := by
  unfold islice
  split
  · rename_i a n c h1
    cases a with
    | none => rfl
    | some => simp [flat] at hx
  · rfl

theorem istringOf_ins {x v : Value} (hk : m.get k = none) (h : istringOf x m = some v) : istringOf x (m.set k b) = some v := by
  unfold istringOf at h ⊢
  split at h
  · exact h
  · rename_i i o len cap
    split at h
    · rename_i cs hcs
      rw [cells_ins hk hcs]; exact h
    · split at h
      · rename_i hc h0
        cases h
        subst h0
        cases hq : (m.set k b).cells i o 0 with
        | none => simp
        | some cs =>
          have : cs = #[] := by
            unfold M.cells at hq
            split at hq
            · split at hq
              · cases hq; simp; omega
              · cases hq
            · cases hq
          subst this
          rfl
      · cases h
  · cases h

theorem news_ins {size n : Nat} {x : Value} {cs : Array Value} (hk : m.get k = none) (h : news size x m = some (n, cs)) : news size x (m.set k b) = some (n, cs) := by
  unfold news at h ⊢
  split at h
  · exact h
  · split at h
    · rename_i h0; simp only [if_pos h0]; exact h
    · rename_i h0
      simp only [if_neg h0]
      simp only [Option.map_eq_some_iff] at h ⊢
      obtain ⟨c, hc, he⟩ := h
      exact ⟨c, cells_ins hk hc, he⟩
  · exact h
  · cases h

theorem mk1_ne {o : Obj} (h : (m.mk1 o).nxt ≤ k) : m.nxt ≠ k := by
  have : (m.mk1 o).nxt = m.nxt + 1 := rfl
  omega

theorem append_good {e : TypeId} {ti : TypeInfo} {base : Option Addr} {len cap : Nat} {x v : Value} (h : iappendCore P e ti base len cap x m = some (v, m1)) :
    Fr m m1 ∧ (m1.get k = none → m1.nxt ≤ k → iappendCore P e ti base len cap x (m.set k b) = some (v, m1.set k b)) := by
  unfold iappendCore at h ⊢
  split at h
  · rename_i n cs hn
    have hni : m.get k = none → news ti.size x (m.set k b) = some (n, cs) := fun hk => news_ins hk hn
    split at h
    · rename_i h0
      split at h
      · rename_i hl
        cases h
        exact ⟨Fr.refl _, fun hk _ => by rw [hni hk]; dsimp only; rw [if_pos h0, if_pos hl]⟩
      · cases h
    · rename_i h0
      split at h
      · cases h
      · rename_i hb
        cases base with
        | none =>
          dsimp only at h
          split at h
          · rename_i hc
            split at h
            · rename_i a m2 hnew
              cases h
              obtain ⟨f1, rfl, f2, rfl⟩ := new_fr hnew
              refine ⟨f1, fun hk hle => ?_⟩
              have hk0 := f1.dom k hk
              rw [hni hk0]; dsimp only
              rw [if_neg h0, if_neg hb, if_pos hc, new_ins (mk1_ne hle) hnew]
            · cases h
          · cases h
        | some aa =>
          obtain ⟨i, o, sp⟩ := aa
          cases sp with
          | some => cases h
          | none =>
            dsimp only at h
            split at h
            · rename_i bb hal
              split at h
              · rename_i c e' fr ho
                split at h
                · cases h
                · rename_i hce
                  split at h
                  · rename_i hroom
                    simp only [Option.map_eq_some_iff, Prod.mk.injEq] at h
                    obtain ⟨m2, hst, rfl, rfl⟩ := h
                    obtain ⟨f1, f2⟩ := store_good (k := k) (b := b) hst
                    refine ⟨f1, fun hk _ => ?_⟩
                    have hk0 := f1.dom k hk
                    rw [hni hk0]; dsimp only
                    rw [if_neg h0, if_neg hb, alive_ins hk0 hal]
                    dsimp only
                    rw [ho]
                    dsimp only
                    rw [if_neg hce, if_pos hroom, f2 hk0]
                    rfl
                  · rename_i hroom
                    split at h
                    · rename_i hcap
                      split at h
                      · rename_i hfit
                        split at h
                        · rename_i a m2 hnew
                          cases h
                          obtain ⟨f1, rfl, f2, rfl⟩ := new_fr hnew
                          refine ⟨f1, fun hk hle => ?_⟩
                          have hk0 := f1.dom k hk
                          rw [hni hk0]; dsimp only
                          rw [if_neg h0, if_neg hb, alive_ins hk0 hal]
                          dsimp only
                          rw [ho]
                          dsimp only
                          rw [if_neg hce, if_neg hroom, if_pos hcap, if_pos hfit, new_ins (mk1_ne hle) hnew]
                        · cases h
                      · cases h
                    · rename_i hcap
                      split at h
                      · rename_i hg
                        split at h
                        · rename_i hf
                          cases h
                          obtain ⟨g1, g2, g3, g4, g5⟩ := hg
                          have f1 := gen_fr (.cells (c ++ cs) e' fr) hf hal g5
                          refine ⟨f1, fun hk hle => ?_⟩
                          have hk0 := f1.dom k hk
                          have hnk : m.nxt ≠ k := by
                            have : (m.gen i bb (.cells (c ++ cs) e' fr)).nxt = m.nxt + 1 := rfl
                            omega
                          rw [hni hk0]; dsimp only
                          rw [if_neg h0, if_neg hb, alive_ins hk0 hal]
                          dsimp only
                          rw [ho]
                          dsimp only
                          rw [if_neg hce, if_neg hroom, if_neg hcap, if_pos ⟨g1, g2, g3, g4, g5⟩]
                          have hgn : (m.set k b).get (m.set k b).nxt = none := by rw [M.nxt_set, M.get_set, if_neg hnk.symm]; exact hf
                          rw [hgn]
                          dsimp only
                          rw [M.nxt_set, gen_ins _ (get_ne_of hk0 (alive_get hal)) hnk]
                        · cases h
                      · cases h
              · cases h
            · cases h
  · cases h

theorem iappend_good {t : TypeId} {xt : Option TypeId} {s x v : Value} (h : iappend P t xt s x m = some (v, m1)) :
    Fr m m1 ∧ (m1.get k = none → m1.nxt ≤ k → iappend P t xt s x (m.set k b) = some (v, m1.set k b)) := by
  unfold iappend at h ⊢
  split at h
  · rename_i h1
    split at h
    · rename_i ti z h2 h3
      split at h
      · cases h
      · rename_i h4
        rw [if_neg h4]
        split at h
        · rename_i h5
          obtain ⟨f1, f2⟩ := append_good (k := k) (b := b) h
          exact ⟨f1, fun hk hle => f2 hk hle⟩
        · rename_i h5
          obtain ⟨f1, f2⟩ := append_good (k := k) (b := b) h
          exact ⟨f1, fun hk hle => f2 hk hle⟩
        · cases h
    · cases h
  · cases h

theorem copyCells_ins {size n : Nat} {x : Value} {cs : Array Value} (hk : m.get k = none) (h : copyCells size n m x = some cs) : copyCells size n (m.set k b) x = some cs := by
  unfold copyCells at h ⊢
  split at h
  · exact h
  · split at h
    · rename_i h0; simp only [if_pos h0]; exact h
    · rename_i h0; simp only [if_neg h0]; exact cells_ins hk h
  · exact h
  · cases h

theorem icopy_good {t : TypeId} {s x v : Value} (h : icopy P t s x m = some (v, m1)) : Fr m m1 ∧ (m1.get k = none → icopy P t s x (m.set k b) = some (v, m1.set k b)) := by
  unfold icopy at h ⊢
  split at h
  · rename_i h1
    split at h
    · rename_i ti n h2 h3
      split at h
      · rename_i cs hcs
        split at h
        · rename_i h0
          cases h
          exact ⟨Fr.refl _, fun hk => by rw [copyCells_ins hk hcs]; dsimp only; rw [if_pos h0]⟩
        · rename_i h0
          split at h
          · rename_i i o
            simp only [Option.map_eq_some_iff, Prod.mk.injEq] at h
            obtain ⟨m2, hst, rfl, rfl⟩ := h
            obtain ⟨f1, f2⟩ := store_good (k := k) (b := b) hst
            refine ⟨f1, fun hk => ?_⟩
            have hk0 := f1.dom k hk
            rw [copyCells_ins hk0 hcs]
            dsimp only
            rw [if_neg h0, f2 hk0]
            rfl
          · cases h
      · cases h
    · cases h
  · cases h

theorem flat_good {ev : Operand → Value} {o : Oper} {r : Res} (h : iflat P ev o m = some r) : ∃ v, r = .val v m ∧ ∀ m2, iflat P ev o m2 = some (.val v m2) := by
  unfold iflat at h ⊢
  split at h
  · rename_i h1
    split at h
    · rename_i v h2
      split at h
      · rename_i h3
        cases h
        exact ⟨v, rfl, fun m2 => by rw [if_pos h1, if_pos h3]⟩
      · cases h
    · cases h
  · cases h

/-- What is asked of an operation's outcome. -/
def Good (m : M) (f : M → Option Res) (r : Res) (k : Nat) (b : Blk) : Prop := Fr m r.mem ∧ (r.mem.get k = none → r.mem.nxt ≤ k → f (m.set k b) = some (r.ins k b))

theorem Good.same {f : M → Option Res} {v : Value} (h : m.get k = none → f (m.set k b) = some (.val v (m.set k b))) : Good m f (.val v m) k b :=
  ⟨Fr.refl _, fun hk _ => h hk⟩
theorem Good.flat {ev : Operand → Value} {o : Oper} {r : Res} (h : iflat P ev o m = some r) : Good m (iflat P ev o) r k b := by
  obtain ⟨v, rfl, h2⟩ := flat_good h
  exact ⟨Fr.refl _, fun _ _ => h2 _⟩

theorem Good.of_eq {f g : M → Option Res} {r : Res} (hfg : ∀ m, f m = g m) (h : Good m g r k b) : Good m f r k b := ⟨h.1, fun hk hl => by rw [hfg]; exact h.2 hk hl⟩
/-- A value and a memory. -/
theorem Good.map {f : M → Option (Value × M)} {r : Res} (h : (f m).map (fun (v, m') => Res.val v m') = some r)
    (hf : ∀ v m1, f m = some (v, m1) → Fr m m1 ∧ (m1.get k = none → m1.nxt ≤ k → f (m.set k b) = some (v, m1.set k b))) : Good m (fun m => (f m).map fun (v, m') => Res.val v m') r k b := by
  simp only [Option.map_eq_some_iff] at h
  obtain ⟨⟨v, m1⟩, h1, rfl⟩ := h
  obtain ⟨f1, f2⟩ := hf v m1 h1
  exact ⟨f1, fun hk hl => by dsimp only; rw [f2 hk hl]; rfl⟩
/-- A value. -/
theorem Good.mapv {f : M → Option Value} {r : Res} (h : (f m).map (fun v => Res.val v m) = some r) (hf : ∀ v, f m = some v → m.get k = none → f (m.set k b) = some v) :
    Good m (fun m => (f m).map fun v => Res.val v m) r k b := by
  simp only [Option.map_eq_some_iff] at h
  obtain ⟨v, h1, rfl⟩ := h
  exact ⟨Fr.refl _, fun hk _ => by dsimp only; rw [hf v h1 hk]; rfl⟩
theorem Good.const {f : M → Option Res} {v : Value} (h : ∀ m2, f m2 = some (.val v m2)) {r : Res} (hr : f m = some r) : Good m f r k b := by
  rw [h] at hr; cases hr
  exact ⟨Fr.refl _, fun _ _ => h _⟩

theorem icall_good {ev : Operand → Value} {o : Oper} {c : Call} {r : Res} (h : icall P ev o c m = some r) : Good m (icall P ev o c) r k b := by
  unfold icall at h ⊢
  split at h
  · split at h
    · split at h
      · rename_i h1 _ _ _ _ h2 _ _ h3
        split at h
        · rename_i h4
          cases h
          exact ⟨Fr.refl _, fun _ _ => by dsimp only; rw [if_pos h4]; rfl⟩
        · rename_i h4
          have := Good.flat (k := k) (b := b) h
          refine ⟨this.1, fun hk hl => ?_⟩
          dsimp only
          rw [if_neg h4]
          exact this.2 hk hl
      · cases h
    · cases h
  · split at h
    · rename_i h1 h2
      cases h
      exact ⟨Fr.refl _, fun _ _ => by simp only [h1, h2]; rfl⟩
    · rename_i h1
      have := Good.flat (k := k) (b := b) h
      refine ⟨this.1, fun hk hl => ?_⟩
      dsimp only
      exact this.2 hk hl
  · split at h
    · rename_i h1 h2 h3
      split at h
      · rename_i h4
        refine Good.of_eq (g := fun m => (iappend P _ _ _ _ m).map fun (v, m') => Res.val v m') (fun m => ?_) (Good.map h fun v m1 ha => iappend_good ha)
        simp only [h1, h2, h3]
        rw [if_pos h4]
      · cases h
    · cases h
  · split at h
    · rename_i h1 h2 h3
      split at h
      · rename_i h4
        refine Good.of_eq (g := fun m => (icopy P _ _ _ m).map fun (v, m') => Res.val v m') (fun m => ?_) (Good.map h fun v m1 ha => let ⟨a, b⟩ := icopy_good ha; ⟨a, fun hk _ => b hk⟩)
        simp only [h1, h2, h3]
        rw [if_pos h4]
      · cases h
    · cases h
  · cases h
  · cases h
  · exact Good.flat h
  · cases h

theorem iconvert_good {ev : Operand → Value} {o : Oper} {src dst : TypeId} {x : Value} {r : Res} (h : iconvert P ev o src dst x m = some r) : Good m (iconvert P ev o src dst x) r k b := by
  unfold iconvert at h ⊢
  split at h
  · split at h
    · rename_i h1
      split at h
      · rename_i h2
        refine Good.of_eq (g := fun m => (ibytesOf _ _ m).map fun (v, m') => Res.val v m') (fun m => ?_) (Good.map h fun v m1 ha => ?_)
        · simp only [h1]; rw [if_pos h2]
        · unfold ibytesOf at ha
          split at ha
          · rename_i hn
            cases ha
            obtain ⟨f1, rfl, f2, rfl⟩ := new_fr hn
            refine ⟨f1, fun hk hl => ?_⟩
            unfold ibytesOf
            rw [new_ins (mk1_ne hl) hn]
          · cases ha
      · cases h
    · cases h
  · split at h
    · rename_i h1
      refine Good.of_eq (g := fun m => (istringOf _ m).map fun v => Res.val v m) (fun m => ?_) (Good.mapv h fun v ha hk => istringOf_ins hk ha)
      simp only [h1]
    · cases h
  · split at h
    · rename_i h1 h2 h3
      split at h
      · rename_i h4
        split at h
        · cases h
        · rename_i h5
          cases h
          refine ⟨Fr.refl _, fun hk _ => ?_⟩
          have hal := alive_ins (b := b) (show m.get k = none from hk) h3
          simp only [h1, h2, Res.mem, hal, h4]
          rw [if_neg h5]; rfl
      · cases h
    · cases h
  · exact Good.flat h

theorem iop_binOp {ev : Operand → Value} {o : Oper} {op : BinOp} {t u : TypeId} {x y : Operand} (ho : o.op = .binOp op t x y u) (h1 : ¬ op = .eql) (h2 : ¬ op = .neq) : iop P ev o m = iflat P ev o m := by
  unfold iop
  rw [ho]
  cases op <;> first | rfl | (exact absurd rfl h1) | (exact absurd rfl h2)

theorem iop_good {ev : Operand → Value} {o : Oper} {r : Res} (h : iop P ev o m = some r) : Good m (iop P ev o) r k b := by
  have eq : ∀ m, iop P ev o m = iop P ev o m := fun _ => rfl
  unfold iop at h
  split at h
  all_goals rename_i ho
  all_goals first | refine Good.of_eq (fun m => by unfold iop; rw [ho]) ?_ | (exact absurd h (by simp))
  · exact Good.const (fun _ => rfl) h
  · exact Good.const (fun _ => rfl) h
  · dsimp only
    split at h
    · exact Good.const (fun _ => rfl) h
    · cases h
  · dsimp only
    split at h
    · rename_i z hz
      simp only [Option.map_eq_some_iff] at h
      obtain ⟨⟨a, m1⟩, hn, rfl⟩ := h
      obtain ⟨f1, rfl, f2, rfl⟩ := new_fr hn
      exact ⟨f1, fun hk hl => by dsimp only; rw [new_ins (mk1_ne hl) hn]; rfl⟩
    · cases h
  · simp only [Option.map_eq_some_iff] at h
    obtain ⟨⟨a, m1⟩, hn, rfl⟩ := h
    obtain ⟨f1, rfl, f2, rfl⟩ := new_fr hn
    exact ⟨f1, fun hk hl => by dsimp only; rw [new_ins (mk1_ne hl) hn]; rfl⟩
  · simp only [Option.bind_eq_some_iff] at h
    obtain ⟨v, hb, h⟩ := h
    dsimp only
    split at h
    · rename_i z hz
      cases h
      exact ⟨Fr.refl _, fun _ _ => by simp only [hb]; rfl⟩
    · cases h
  · refine Good.map h fun v m1 hb => ?_
    unfold ibuildSlice at hb ⊢
    split at hb
    · split at hb
      · split at hb
        · rename_i h1
          split at hb
          · rename_i h2
            split at hb
            · rename_i a m2 hn
              split at hb
              · rename_i h3
                cases hb
                obtain ⟨f1, rfl, f2, rfl⟩ := new_fr hn
                refine ⟨f1, fun hk hl => ?_⟩
                rw [if_pos h1]
                rw [new_ins (mk1_ne hl) hn]
                dsimp only
                rw [if_pos h3]
              · cases hb
            · cases hb
          · cases hb
        · cases hb
      · cases hb
    · cases hb
  · exact Good.mapv h fun v hv hk => iload_ins hk hv
  · simp only [Option.map_eq_some_iff] at h
    obtain ⟨m1, hs, rfl⟩ := h
    obtain ⟨f1, f2⟩ := istore_good (k := k) (b := b) hs
    exact ⟨f1, fun hk _ => by dsimp only; rw [f2 (f1.dom k hk)]; rfl⟩
  · split at h
    · cases h
    · cases h
    · cases h
    · cases h
    · rename_i n1 n2 n3 n4
      cases h
      exact ⟨Fr.refl _, fun _ _ => by simp only [Res.ins]⟩
  · dsimp only
    split at h
    · exact Good.const (fun _ => rfl) h
    · exact Good.flat h
  · dsimp only
    split at h
    · exact Good.const (fun _ => rfl) h
    · exact Good.flat h
  · exact iconvert_good h
  · dsimp only
    split at h
    · cases h
    · cases h
    · rename_i d h1 h2
      cases h
      exact ⟨Fr.refl _, fun _ _ => by simp only [Res.ins]⟩
  · dsimp only
    split at h
    · rename_i h1; cases h; exact ⟨Fr.refl _, fun _ _ => by dsimp only; rw [if_pos h1]; rfl⟩
    · cases h
  · refine Good.map h fun v m1 hb => ?_
    unfold imakeSlice at hb ⊢
    split at hb
    · split at hb
      · split at hb
        · rename_i h1
          split at hb
          · rename_i a m2 hn
            cases hb
            obtain ⟨f1, rfl, f2, rfl⟩ := new_fr hn
            refine ⟨f1, fun hk hl => ?_⟩
            rw [if_pos h1, new_ins (mk1_ne hl) hn]
          · cases hb
        · cases hb
      · cases hb
    · cases hb
  · dsimp only
    split at h
    · rename_i v hv
      cases h
      exact ⟨Fr.refl _, fun hk _ => by dsimp only; rw [islice_ins (show m.get k = none from hk) hv]; rfl⟩
    · rename_i hv
      have hfl := h
      have := Good.flat (k := k) (b := b) h
      refine ⟨this.1, fun hk hl => ?_⟩
      unfold iflat at hfl
      split at hfl
      · rename_i hop
        unfold opFlat at hop
        rw [Array.all_eq_true'] at hop
        dsimp only
        rw [islice_flat m _ (hop _ (by rw [ho]; simp [Op.operands])), hv]
        exact this.2 hk hl
      · cases hfl
  · exact Good.mapv (f := fun _ => ifieldAddr P _ _ _) h fun v hv _ => hv
  · exact Good.mapv (f := fun _ => ifield P _ _ _) h fun v hv _ => hv
  · exact Good.mapv (f := fun _ => iindexAddr P _ _ _) h fun v hv _ => hv
  · exact Good.mapv (f := fun _ => iindex P _ _ _) h fun v hv _ => hv
  · dsimp only
    split at h
    · cases h
    · rename_i h1 h2 h3
      split at h
      · rename_i h4; cases h; exact ⟨Fr.refl _, fun _ _ => by dsimp only; rw [if_pos h4]; rfl⟩
      · rename_i h4
        split at h
        · rename_i h5
          simp only [Option.map_eq_some_iff] at h
          obtain ⟨z, hz, rfl⟩ := h
          exact ⟨Fr.refl _, fun _ _ => by dsimp only; rw [if_neg h4, if_pos h5, hz]; rfl⟩
        · cases h
    · rename_i h1 h2 h3
      split at h
      · rename_i h5
        simp only [Option.map_eq_some_iff] at h
        obtain ⟨z, hz, rfl⟩ := h
        exact ⟨Fr.refl _, fun _ _ => by dsimp only; rw [if_pos h5, hz]; rfl⟩
      · cases h
    · cases h
  · dsimp only
    split at h
    · rename_i vs h1
      simp only [Option.map_eq_some_iff] at h
      obtain ⟨v, hv, rfl⟩ := h
      exact ⟨Fr.refl _, fun _ _ => by dsimp only; rw [hv]; rfl⟩
    · cases h
  · exact icall_good h
  · dsimp only
    unfold idefer at h ⊢
    split at h
    · split at h
      · cases h; exact ⟨Fr.refl _, fun _ _ => rfl⟩
      · cases h
    · cases h
  · dsimp only
    split at h
    · cases h; exact ⟨Fr.refl _, fun _ _ => rfl⟩
    · cases h
  · rename_i h1 h2
    exact Good.of_eq (g := iflat P ev o) (fun m => by have := iop_binOp (P := P) (m := m) (ev := ev) ho (by assumption) (by assumption); unfold iop at this; rw [ho] at this; exact this) (Good.flat h)
  · exact Good.of_eq (g := iflat P ev o) (fun m => rfl) (Good.flat h)

end Go.IM
