/- An ideal machine, and a machine of values: part 5 of 5. Lemmas alone; no conditions. -/
import Derived.Test.YtnbacinpmfjpnaaImM4
set_option linter.unusedVariables false
set_option linter.unusedSimpArgs false
set_option linter.constructorNameAsVariable false
namespace Go.IM.V
open Go Go.IM
variable {P : Program} {m m1 m2 : M} {S0 : Nat → Prop} {env env1 env2 : Env} {a a1 : Act} {vs vs1 : VS} {X Y : Cx} {ρ : Type} {C LO : Tab} {e : Out}
theorem OT.mat_some : ∀ {o : OT} {out : Out} {acc : Nat → Sl} {vs : VS} {g : List Nat} {y : o.E}, o.mat out acc vs g = some y → (o.out y).1 = out ∧ (∃ q, (o.out y).2.1.mat acc vs g = some ((o.out y).2.2, q)) ∧ out ≠ .normal ∧ (out = .ret → ∀ n, o.keys n = true → (o.out y).2.1.sl.map (·.1) = List.range n) := by
  intro o
  induction o with
  | ret t =>
    intro out acc vs g y h
    cases out with
    | ret =>
      simp only [OT.mat, Option.map_eq_some_iff] at h
      obtain ⟨⟨z, q⟩, h1, rfl⟩ := h
      exact ⟨rfl, ⟨q, h1⟩, by simp, fun _ n hn => by show t.sl.map (·.1) = _; simpa [OT.keys] using hn⟩
    | _ => simp [OT.mat] at h
  | exit id t =>
    intro out acc vs g y h
    cases out with
    | exit id' =>
      simp only [OT.mat] at h
      cases hb : Nat.beq id id' with
      | false => rw [hb] at h; cases h
      | true =>
        rw [hb] at h
        simp only [cond_true, Option.map_eq_some_iff] at h
        obtain ⟨⟨z, q⟩, h1, rfl⟩ := h
        have := Nat.eq_of_beq_eq_true hb
        subst this
        exact ⟨rfl, ⟨q, h1⟩, by simp, fun h => by cases h⟩
    | _ => simp [OT.mat] at h
  | pnc tid k t =>
    intro out acc vs g y h
    cases out with
    | pnc v =>
      cases v <;> first | (simp [OT.mat] at h; done) | skip
      rename_i tid' w
      cases w <;> first | (simp [OT.mat] at h; done) | skip
      rename_i b
      simp only [OT.mat] at h
      split at h
      · rename_i k' n hl
        split at h
        · rename_i hc
          obtain ⟨rfl, rfl⟩ := hc
          simp only [Option.map_eq_some_iff] at h
          obtain ⟨⟨z, q⟩, h1, rfl⟩ := h
          refine ⟨?_, ⟨q, h1⟩, by simp, fun h => by cases h⟩
          show Out.pnc (.iface tid (.agg #[.int k n])) = _
          have : b = #[.int k n] := by apply Array.ext'; exact hl
          rw [this]
        · cases h
      · cases h
    | _ => simp [OT.mat] at h
  | two a b iha ihb =>
    intro out acc vs g y h
    simp only [OT.mat] at h
    split at h
    · rename_i x hx
      cases h
      obtain ⟨h1, h2, h3, h4⟩ := iha hx
      exact ⟨h1, h2, h3, fun hr n hn => h4 hr n (by simp only [OT.keys, Bool.and_eq_true] at hn; exact hn.1)⟩
    · simp only [Option.map_eq_some_iff] at h
      obtain ⟨x, hx, rfl⟩ := h
      obtain ⟨h1, h2, h3, h4⟩ := ihb hx
      exact ⟨h1, h2, h3, fun hr n hn => h4 hr n (by simp only [OT.keys, Bool.and_eq_true] at hn; exact hn.2)⟩
theorem Ended.of_mat {Xs : Cx} (hs : Stp Xs (vs1.cx S0 env1 m1)) (hT : RelT P (vs1.cx S0 env1 m1) vs1.bx) {n : Nat} (hn : Xs.nb = n) {t : Tm} {acc : Nat → Sl} {av : Nat → Value} (hacc : ∀ p ∈ t.sl, repV P (vs1.cx S0 env1 m1) (acc p.1) (av p.1)) {x : t.E} {q : GH} (hm : t.mat acc vs1 (iota n) = some (x, q)) :
    Ended P Xs S0 (env1.sub q True) m1 t x ∧ repSlots P (t.cx x S0 (env1.sub q True) m1) av (slI id id t.sl x.1) := by
  obtain ⟨g1, g2, g3, g4, g5, g6, g7, g8, g9, g10⟩ := mat_sound (X := vs1.cx S0 env1 m1) hT rfl rfl hacc hm (p := True) (fun _ => trivial) (S0 := S0) (fun i w => .inl w) 0
  obtain ⟨f1, f2, f3, f4⟩ := mat_facts (p := True) (S0 := S0) (env := env1) (m := m1) (vs := vs1) (x := undef) g3 g7 g5
  have hjj : ∀ j, j < Xs.nb → q.g[j]? = some j := fun j hj => g6 j j (by unfold iota; rw [List.getElem?_range (by rw [← hn]; exact hj)])
  refine ⟨⟨hs.fr, g1, fun j hj => ?_, fun i w => ?_, fun i w => ?_, fun j hj w => ?_, fun j L hj w => ?_, fun i w => ⟨trivial, hs.le.φ i w⟩⟩, g2⟩
  · rw [hn] at hj
    have hq : q.g[j]? = some j := g6 j j (by unfold iota; rw [List.getElem?_range hj])
    refine ⟨by rw [← g3]; exact lt_of_get hq, fun _ => ?_⟩
    have : (env1.sub q True).β j = env1.β j := by show (match q.g[j]? with | some j => _ | none => _) = _; rw [hq]
    rw [this]
    exact hs.le.β j (by rw [hn]; exact hj)
  · rcases f4 i w with ⟨k, j, h1, h3, h2⟩ | ⟨_, h1⟩
    · exact hs.wb i (.inl ⟨j, (g8 k j h1).1, show hasOf vs1.bx j = true by rw [← (g8 k j h1).2.1]; exact h3, h2⟩)
    · exact hs.wb i (.inr h1)
  · obtain ⟨k, j, h1, h2⟩ := f2 i w
    obtain ⟨b, h3, h4⟩ := f3 k j h1
    exact hs.wl i ⟨j, b, h3, h4, h2⟩
  · refine hs.le.has j hj ?_
    show hasOf vs1.bx j = true
    rw [← (g8 j j (hjj j hj)).2.1]; exact w
  · refine hs.le.len j L hj ?_
    show lenOf vs1.bx j = some L
    rw [← (g8 j j (hjj j hj)).2.2]; exact w
theorem reb_get {o : OT} {g : List Nat} : ∀ {n : Nat}, reb o g n = true → ∀ j < n, g[j]? = some j ∨ gAt j o = true := by
  intro n
  induction n with
  | zero => intro _ j hj; omega
  | succ n ih =>
    intro h j hj
    simp only [reb, Bool.and_eq_true, Bool.or_eq_true] at h
    by_cases hjn : j = n
    · subst hjn
      rcases h.1 with q | q
      · left
        split at q
        · rename_i j' hj'
          rw [hj', Nat.eq_of_beq_eq_true q]
        · cases q
      · exact .inr q
    · exact ih h.2 j (by omega)
theorem gAt_out : ∀ {o : OT} (y : o.E) {k : Nat}, gAt k o = true → (o.out y).2.1.bx[k]? = some [.g]
  | .ret t, y, k, h | .exit _ t, y, k, h => by
    simp only [gAt] at h
    split at h
    · rename_i hq; exact hq
    · cases h
  | .pnc _ _ t, y, k, h => by
    simp only [gAt] at h
    split at h
    · rename_i hq; exact hq
    · cases h
  | .two a b, .inl y, k, h => by
    simp only [gAt, Bool.and_eq_true] at h
    exact gAt_out (o := a) y h.1
  | .two a b, .inr y, k, h => by
    simp only [gAt, Bool.and_eq_true] at h
    exact gAt_out (o := b) y h.2
theorem bxI_g : ∀ {l : List (List Pt)} {x : BxE l} {k : Nat}, l[k]? = some [.g] → (bxI id id l x)[k]? = some [.g] := by
  intro l
  induction l with
  | nil => intro x k h; cases h
  | cons p l ih =>
    intro x k h
    cases k with
    | zero =>
      simp only [List.getElem?_cons_zero, Option.some.injEq] at h
      subst h
      rfl
    | succ k => exact ih (by simpa using h)
theorem g_inst {t : Tm} {y : t.E} {k : Nat} (h : t.bx[k]? = some [.g]) : hasOf (t.inst 0 y).bx k = false ∧ lenOf (t.inst 0 y).bx k = none := by
  have : (t.inst 0 y).bx[k]? = some [.g] := by
    show (bxI id id t.bx y.2.1)[k]? = some [.g]
    exact bxI_g h
  exact ⟨by rw [hasOf_get this]; rfl, by unfold lenOf; rw [this]; rfl⟩
theorem rehome_sound {o : OT} : ∀ {n : Nat} {env : Env} {vs vs1 : VS}, Rel P S0 env m a vs → rehome o n vs = vs1 → ∃ env1, Rel P S0 env1 m a vs1 ∧ Stp (vs.cx S0 env m) (vs1.cx S0 env1 m) := by
  intro n
  induction n with
  | zero => intro env vs vs1 h hp; cases hp; exact ⟨env, h, Stp.refl h.T.free⟩
  | succ n ih =>
    intro env vs vs1 h hp
    simp only [rehome] at hp
    split at hp
    · rename_i own e xs hb
      cases hg : gAt n o with
      | false => rw [hg] at hp; exact ih h hp
      | true =>
        rw [hg] at hp
        obtain ⟨env1, k1, k2⟩ := h.move hb
        obtain ⟨env2, g1, g2⟩ := ih k1 hp
        exact ⟨env2, g1, k2.trans h.T.free g2⟩
    · exact ih h hp
theorem Ended.rebind {Xs : Cx} (hs : Stp Xs (vs1.cx S0 env1 m1)) (hT : RelT P (vs1.cx S0 env1 m1) vs1.bx) (hf : Free Xs.m) {n : Nat} (hn : Xs.nb = n) {t : Tm} (ht : t.bx.length = n) {acc : Nat → Sl} {av : Nat → Value} (hacc : ∀ p ∈ t.sl, repV P (vs1.cx S0 env1 m1) (acc p.1) (av p.1)) {x : t.E} {q : GH} (hm : t.mat acc vs1 [] = some (x, q)) :
    RelT P (t.cx x S0 (env1.sub q True) m1) (t.inst 0 x).bx ∧ repSlots P (t.cx x S0 (env1.sub q True) m1) av (slI id id t.sl x.1) ∧ (∀ i, Wb (t.cx x S0 (env1.sub q True) m1) i → Wb Xs i ∨ Xs.m.nxt ≤ i) ∧
    ∀ {t2 : Tm} {y : t2.E} {env2 : Env} {m2 : M}, (∀ j < n, q.g[j]? = some j ∨ (hasOf (t2.inst 0 y).bx j = false ∧ lenOf (t2.inst 0 y).bx j = none)) → Ended P (t.cx x S0 (env1.sub q True) m1) S0 env2 m2 t2 y → Ended P Xs S0 env2 m2 t2 y := by
  obtain ⟨g1, g2, g3, g4, g5, g6, g7, g8, g9, g10⟩ := mat_sound (X := vs1.cx S0 env1 m1) hT rfl rfl hacc hm (p := True) (fun _ => trivial) (S0 := S0) (fun i w => .inl w) 0
  obtain ⟨f1, f2, f3, f4⟩ := mat_facts (p := True) (S0 := S0) (env := env1) (m := m1) (vs := vs1) (x := undef) g3 g7 g5
  have hwb : ∀ i, Wb (t.cx x S0 (env1.sub q True) m1) i → Wb Xs i ∨ Xs.m.nxt ≤ i := fun i w => by
    rcases f4 i w with ⟨k, j, h1, h3, h2⟩ | ⟨_, h1⟩
    · exact hs.wb i (.inl ⟨j, (g8 k j h1).1, show hasOf vs1.bx j = true by rw [← (g8 k j h1).2.1]; exact h3, h2⟩)
    · exact hs.wb i (.inr h1)
  have hwl : ∀ i, Wl (t.cx x S0 (env1.sub q True) m1) i → Wl Xs i ∨ Wb Xs i ∨ Xs.m.nxt ≤ i := fun i w => by
    obtain ⟨k, j, h1, h2⟩ := f2 i w
    obtain ⟨b, h3, h4⟩ := f3 k j h1
    exact hs.wl i ⟨j, b, h3, h4, h2⟩
  have hnb : (t.cx x S0 (env1.sub q True) m1).nb = n := by rw [← ht]; exact bxI_len
  refine ⟨g1, g2, hwb, fun {t2 y env2 m2} hg k2 => ?_⟩
  refine ⟨hs.fr.trans hf k2.fr hwb hwl, k2.T, fun j hj => ?_, fun i w => ?_, fun i w => ?_, fun j hj w => ?_, fun j L hj w => ?_, fun i w => k2.φ i ⟨trivial, hs.le.φ i w⟩⟩
  · obtain ⟨h1, h2⟩ := k2.β j (by rw [hnb, ← hn]; exact hj)
    refine ⟨h1, fun w => ?_⟩
    rcases hg j (by rw [← hn]; exact hj) with hq | hq
    · rw [h2 w]
      have : (env1.sub q True).β j = env1.β j := by show (match q.g[j]? with | some j => _ | none => _) = _; rw [hq]
      show (env1.sub q True).β j = _
      rw [this]
      exact hs.le.β j hj
    · have w' : hasOf (t2.inst 0 y).bx j = true := w
      rw [hq.1] at w'; cases w'
  · rcases k2.wb i w with w | w
    · exact hwb i w
    · exact .inr (Nat.le_trans hs.fr.nxt w)
  · rcases k2.wl i w with w | w | w
    · exact hwl i w
    · rcases hwb i w with w | w
      · exact .inr (.inl w)
      · exact .inr (.inr w)
    · exact .inr (.inr (Nat.le_trans hs.fr.nxt w))
  · rcases hg j (by rw [← hn]; exact hj) with hq | hq
    · refine hs.le.has j hj ?_
      show hasOf vs1.bx j = true
      rw [← (g8 j j hq).2.1]
      exact k2.has j (by rw [hnb, ← hn]; exact hj) w
    · have w' : hasOf (t2.inst 0 y).bx j = true := w
      rw [hq.1] at w'; cases w'
  · rcases hg j (by rw [← hn]; exact hj) with hq | hq
    · refine hs.le.len j L hj ?_
      show lenOf vs1.bx j = some L
      rw [← (g8 j j hq).2.2]
      exact k2.len j L (by rw [hnb, ← hn]; exact hj) w
    · have w' : lenOf (t2.inst 0 y).bx j = some L := w
      rw [hq.2] at w'; cases w'
theorem accL_rep {av : Nat → Value} : ∀ {l : List (Nat × S1)}, repSlots P X av l → ∀ i, repV P X (accL l i) (av i) := by
  intro l
  induction l with
  | nil => intro _ i; trivial
  | cons p l ih =>
    intro h i
    obtain ⟨k, s⟩ := p
    simp only [accL]
    cases hb : Nat.beq i k with
    | true => have := Nat.eq_of_beq_eq_true hb; subst this; exact h.1
    | false => exact ih h.2 i
theorem loop_ok (hC : TabOK P C) {N : Nat} {b : Code} (hL : ∀ b' ∈ loopsOf b, ∀ con, lookC LO (headReg b') = some con → con.LOK P N b') (ins : Tm) (out : OT) : Con.LOK P N b ⟨ins, out, loopF (vround P C LO N b ins out)⟩ := by
  intro x y hF S0 env m a hN hT hB hsl
  obtain ⟨n, hn⟩ := loopF_some hF
  clear hF
  obtain ⟨tm, D⟩ := a
  have key : ∀ (n : Nat) (x : ins.E) (y : out.E), iter (vround P C LO N b ins out) n x = some y → ∀ (env : Env) (m : M) (tm : Array Value), N ≤ tm.size → RelT P (ins.cx x S0 env m) (ins.inst 0 x).bx → Bars (ins.cx x S0 env m) → repSlots P (ins.cx x S0 env m) (fun i => tm.getD i undef) (slI id id ins.sl x.1) →
      ∃ tm1 m1 env1, Ev.To P (.loop b) ⟨tm, D⟩ m (out.out y).1 ⟨tm1, D⟩ m1 ∧ Ended P (ins.cx x S0 env m) S0 env1 m1 (out.out y).2.1 (out.out y).2.2 ∧ (out.out y).1 ≠ .normal ∧
        repSlots P ((out.out y).2.1.cx (out.out y).2.2 S0 env1 m1) (fun i => tm1.getD i undef) (slI id id (out.out y).2.1.sl (out.out y).2.2.1) := by
    intro n
    induction n with
    | zero => intro x y h; cases h
    | succ n ih =>
      intro x y h env m tm hN hT hB hsl
      simp only [iter, Option.bind_eq_some_iff] at h
      obtain ⟨z, hz, h⟩ := h
      have hRel : Rel P S0 env m ⟨tm, []⟩ (ins.inst N x) := ⟨hT, hN, fun i => accL_rep hsl i, trivial⟩
      obtain ⟨e, tm1, ds1, m1, env1, vs1, g1, g2, g3, g4, g5⟩ := vrun_sound hC D 100 hL hz hRel hB hN
      split at g5
      · cases g5
      · rename_i hdf
        have hds : ds1 = [] := by
          have := g2.df
          rw [hdf] at this
          cases ds1 with
          | nil => rfl
          | cons => exact this.elim
        subst hds
        have hnb : (ins.cx x S0 env m).nb = ins.bx.length := bxI_len
        split at g5
        · split at g5
          · rename_i yy hm
            obtain ⟨x', q⟩ := yy
            cases g5
            simp only [Sum.elim_inl] at h
            obtain ⟨hE, hs2⟩ := Ended.of_mat g3 g2.T hnb (av := fun i => tm1.getD i undef) (fun p _ => g2.sl p.1) hm
            have hB1 : Bars (ins.cx x' S0 (env1.sub q True) m1) := by
              intro i w
              show m1.bar ≤ i
              rw [hE.fr.bar]
              rcases hE.wb i w with w | w
              · exact hB i w
              · exact Nat.le_trans hT.bar w
            obtain ⟨tm2, m2, env2, k1, k2, k3, k4⟩ := ih x' y h (env1.sub q True) m1 tm1 (by rw [g4]; exact hN) hE.T hB1 hs2
            refine ⟨tm2, m2, env2, To.loop g1 k1, ?_, k3, k4⟩
            have hnb' : (ins.cx x' S0 (env1.sub q True) m1).nb = ins.bx.length := bxI_len
            refine ⟨hE.fr.trans hT.free k2.fr hE.wb hE.wl, k2.T, fun j hj => ?_, fun i w => ?_, fun i w => ?_, fun j hj w => hE.has j hj (k2.has j (by rw [hnb', ← hnb]; exact hj) w), fun j L hj w => hE.len j L hj (k2.len j L (by rw [hnb', ← hnb]; exact hj) w), fun i w => k2.φ i (hE.φ i w)⟩
            · obtain ⟨h1, h2⟩ := k2.β j (by rw [hnb', ← hnb]; exact hj)
              exact ⟨h1, fun w => (h2 w).trans ((hE.β j hj).2 (k2.has j (by rw [hnb', ← hnb]; exact hj) w))⟩
            · rcases k2.wb i w with w | w
              · exact hE.wb i w
              · exact .inr (Nat.le_trans hE.fr.nxt w)
            · rcases k2.wl i w with w | w | w
              · exact hE.wl i w
              · rcases hE.wb i w with w | w
                · exact .inr (.inl w)
                · exact .inr (.inr w)
              · exact .inr (.inr (Nat.le_trans hE.fr.nxt w))
          · skip
            simp only [Option.bind_eq_some_iff] at g5
            obtain ⟨⟨x', q⟩, hm, hz'⟩ := g5
            cases hre : reb out q.g ins.bx.length with
            | false => rw [hre] at hz'; cases hz'
            | true =>
            rw [hre] at hz'
            simp only [cond_true, Option.some.injEq] at hz'
            subst hz'
            simp only [Sum.elim_inl] at h
            obtain ⟨hT2, hs2, hwb, hfin⟩ := Ended.rebind g3 g2.T hT.free hnb rfl (av := fun i => tm1.getD i undef) (fun p _ => g2.sl p.1) hm
            have hB1 : Bars (ins.cx x' S0 (env1.sub q True) m1) := by
              intro i w
              show m1.bar ≤ i
              rw [show m1.bar = m.bar from g3.fr.bar]
              rcases hwb i w with w | w
              · exact hB i w
              · exact Nat.le_trans hT.bar w
            obtain ⟨tm2, m2, env2, k1, k2, k3, k4⟩ := ih x' y h (env1.sub q True) m1 tm1 (by rw [g4]; exact hN) hT2 hB1 hs2
            refine ⟨tm2, m2, env2, To.loop g1 k1, hfin (fun j hj => ?_) k2, k3, k4⟩
            rcases reb_get hre j hj with w | w
            · exact .inl w
            · exact .inr (g_inst (gAt_out y w))
        · rename_i hne
          obtain ⟨env3, r1, r2⟩ := rehome_sound (o := out) (n := ins.bx.length) g2 rfl
          generalize rehome out ins.bx.length vs1 = vs3 at *
          simp only [Option.map_eq_some_iff] at g5
          obtain ⟨y', hm, hz'⟩ := g5
          subst hz'
          simp only [Sum.elim_inr, Option.some.injEq] at h
          subst h
          obtain ⟨h1, ⟨q, hq⟩, h3, _⟩ := OT.mat_some hm
          obtain ⟨hE, hs2⟩ := Ended.of_mat (g3.trans hT.free r2) r1.T hnb (av := fun i => tm1.getD i undef) (fun p _ => r1.sl p.1) hq
          exact ⟨tm1, m1, env3.sub q True, by rw [h1]; exact To.loop_out g1 h3, hE, by rw [h1]; exact h3, hs2⟩
  obtain ⟨tm1, m1, env1, k1, k2, k3, k4⟩ := key n x y hn env m tm hN hT hB hsl
  exact ⟨⟨tm1, D⟩, m1, env1, k1, k2, k3, rfl, k4⟩
theorem frame_get (fn : Func) (args : Array Value) (i : Nat) : (frame fn args).tmps.getD i undef = args.getD i undef := by
  show (args ++ Array.replicate (fn.ntmps - args.size) undef).getD i undef = _
  rw [Array.getD_eq_getD_getElem?, Array.getD_eq_getD_getElem?, Array.getElem?_append]
  split
  · rfl
  · rename_i h
    rw [Array.getElem?_eq_none (show args.size ≤ i by omega), Array.getElem?_replicate]
    split <;> rfl
theorem frame_size (fn : Func) (args : Array Value) : fn.ntmps ≤ (frame fn args).tmps.size := by
  show _ ≤ (args ++ Array.replicate (fn.ntmps - args.size) undef).size
  rw [Array.size_append, Array.size_replicate]; omega
theorem vresL_sound (h : Rel P S0 env m a vs) : ∀ {l : List ResultVar} {ss : List S1}, vresL P vs l = some ss → ss.length = l.length ∧ ∃ ws, iresultsL P a.tmps m l = some ws ∧ repSs P (vs.cx S0 env m) ss ws := by
  intro l
  induction l with
  | nil => intro ss hv; cases hv; exact ⟨rfl, [], rfl, trivial⟩
  | cons r l ih =>
    intro ss hv
    simp only [vresL] at hv
    split at hv
    · rename_i s ss' h1 h2
      cases hv
      obtain ⟨h3, ws, h4, h5⟩ := ih h2
      have : ∃ w, iresult P a.tmps m r = some w ∧ repS P (vs.cx S0 env m) s w := by
        cases r with
        | tmp t =>
          simp only [vres1] at h1
          split at h1
          · rename_i s' hs
            cases h1
            have := h.sl t
            rw [hs] at this
            exact ⟨_, rfl, this⟩
          · cases h1
        | cell t ty =>
          simp only [vres1] at h1
          split at h1
          · rename_i s' vs' hl
            cases h1
            obtain ⟨_, _, v, h6, h7⟩ := vload_sound h (h.sl t) hl
            exact ⟨v, h6, h7⟩
          · cases h1
      obtain ⟨w, h6, h7⟩ := this
      exact ⟨by simp [h3], w :: ws, by simp only [iresultsL]; rw [h6, h4], h7, h5⟩
    · cases hv
theorem slots_list {av : Nat → Value} {ws : List Value} : ∀ {l : List (Nat × Pt)} {x : SlE l} {n : Nat}, (∀ i, i < l.length → (l[i]?).map (·.1) = some (n + i)) → n + l.length = ws.length → (∀ i, av i = ws[i]?.getD undef) → repSlots P X av (slI id id l x) → repSs P X ((slI id id l x).map (·.2)) (ws.drop n) := by
  intro l
  induction l with
  | nil =>
    intro x n h1 h2 h3 h4
    rw [List.drop_eq_nil_of_le (by simp at h2; omega)]
    trivial
  | cons p l ih =>
    intro x n h1 h2 h3 h4
    have hk : p.1 = n := by have := h1 0 (by simp); simpa using this
    have hnl : n < ws.length := by simp only [List.length_cons] at h2; omega
    rw [List.drop_eq_getElem_cons hnl]
    refine ⟨?_, ih (n := n + 1) (fun i hi => ?_) (by simp only [List.length_cons] at h2; omega) h3 h4.2⟩
    · have := h4.1
      rw [hk, h3 n] at this
      simpa [hnl] using this
    · have := h1 (i + 1) (by simp; omega)
      simp only [List.getElem?_cons_succ] at this
      rw [this]; congr 1; omega
theorem vleave_sound (hC : TabOK P C) (fn : Func) (tm : Array Value) {K : DM → VS → Option ρ} {r : ρ} : ∀ (l : List (FuncId × List S1)) {ds : List Deferred} {u : DM} {env : Env} {m : M} {vs : VS}, vleave P C l u vs K = some r → vs.df = [] → dfrOK P (vs.cx S0 env m) l ds → Rel P S0 env m ⟨tm, []⟩ vs → Bars (vs.cx S0 env m) →
    ∃ u' m1 env1 vs1, (∃ n0, ∀ n, n0 ≤ n → leave P (E P n) fn tm ds u m = leave P (E P n) fn tm [] u' m1) ∧ Rel P S0 env1 m1 ⟨tm, []⟩ vs1 ∧ Stp (vs.cx S0 env m) (vs1.cx S0 env1 m1) ∧ K u' vs1 = some r := by
  intro l
  induction l with
  | nil =>
    intro ds u env m vs hv hdf hd h hb
    cases ds with
    | nil => exact ⟨u, m, env, vs, ⟨0, fun _ _ => rfl⟩, h, Stp.refl h.T.free, hv⟩
    | cons => exact hd.elim
  | cons p l ih =>
    intro ds u env m vs hv hdf hd h hb
    obtain ⟨k, args⟩ := p
    cases ds with
    | nil => exact hd.elim
    | cons d ds =>
      obtain ⟨htar, hargs, hd⟩ := hd
      simp only [vleave] at hv
      split at hv
      case h_2 => cases hv
      rename_i fn2 hfn
      split at hv
      case h_2 => cases hv
      rename_i c hc
      split at hv
      case isTrue => cases hv
      rename_i hname
      have hframe : Rel P S0 env m (frame fn2 d.args) { N := fn2.ntmps, sl := accS args, bf := vs.bf, bx := vs.bx, df := [] } := by
        refine ⟨h.T, frame_size fn2 d.args, fun i => ?_, trivial⟩
        rw [frame_get]
        have := accS_rep (P := P) (X := vs.cx S0 env m) hargs i
        show repV P (vs.cx S0 env m) (accS args i) _
        simpa using this
      have run : ∀ (c1 : Code) (a1 : Act) (vs1 : VS) (u1 : DM), Rel P S0 env m a1 vs1 → a1.defers = [] → vs1.cx S0 env m = vs.cx S0 env m →
          (∀ n, (match (match recHead c with
            | some (d', rest) => (E P n rest ((frame fn2 (d.args ++ #[])).put (some d') (recoverI u).1) m, (recoverI u).2)
            | none => (E P n c (frame fn2 (d.args ++ #[])) m, u)) with | (x, y) => x) = E P n c1 a1 m) → (∀ n, (match recHead c with
            | some (d', rest) => (E P n rest ((frame fn2 (d.args ++ #[])).put (some d') (recoverI u).1) m, (recoverI u).2)
            | none => (E P n c (frame fn2 (d.args ++ #[])) m, u)).2 = u1) →
          (vrun P C [] 100 c1 vs1 fun out vs2 => match out with
            | .normal | .ret => match vs2.df with
              | [] => match vresL P vs2 fn2.results.toList with
                | some _ => vleave P C l (settleD u1) { vs2 with N := vs.N, sl := vs.sl, df := [] } K
                | none => none
              | _ => none
            | _ => none) = some r → ∃ u' m1 env1 vs1, (∃ n0, ∀ n, n0 ≤ n → leave P (E P n) fn tm (d :: ds) u m = leave P (E P n) fn tm [] u' m1) ∧ Rel P S0 env1 m1 ⟨tm, []⟩ vs1 ∧ Stp (vs.cx S0 env m) (vs1.cx S0 env1 m1) ∧ K u' vs1 = some r := by
        intro c1 a1 vs1 u1 hR hdef hcx hE1 hE2 hv
        obtain ⟨tm1, df1⟩ := a1
        obtain rfl : df1 = [] := hdef
        obtain ⟨e, tm2, ds2, m2, env2, vs2, ⟨n1, g1⟩, g2, g3, g4, g5⟩ := vrun_sound (LO := []) (N := 0) hC [] 100 (fun b hb con hcon => by cases hcon) hv hR (by rw [hcx]; exact hb) (Nat.zero_le _)
        rw [hcx] at g3
        have fin : (match vs2.df with
              | [] => match vresL P vs2 fn2.results.toList with
                | some _ => vleave P C l (settleD u1) { vs2 with N := vs.N, sl := vs.sl, df := [] } K
                | none => none
              | _ => none) = some r → (e = .normal ∨ e = .ret) → ∃ u' m1 env1 vs1, (∃ n0, ∀ n, n0 ≤ n → leave P (E P n) fn tm (d :: ds) u m = leave P (E P n) fn tm [] u' m1) ∧ Rel P S0 env1 m1 ⟨tm, []⟩ vs1 ∧ Stp (vs.cx S0 env m) (vs1.cx S0 env1 m1) ∧ K u' vs1 = some r := fun g5 he => by
          split at g5
          case h_2 => cases g5
          rename_i hdf2
          have hds : ds2 = [] := by
            have := g2.df
            rw [hdf2] at this
            cases ds2 with
            | nil => rfl
            | cons => exact this.elim
          subst hds
          split at g5
          case h_2 => cases g5
          rename_i ss hss
          obtain ⟨_, ws, hws, _⟩ := vresL_sound g2 hss
          have hR2 : Rel P S0 env2 m2 ⟨tm, []⟩ { vs2 with N := vs.N, sl := vs.sl, df := [] } := ⟨g2.T, h.size, fun i => (h.sl i).le g3.le, trivial⟩
          obtain ⟨u', m3, env3, vs3, ⟨n2, k1⟩, k2, k3, k4⟩ := ih g5 rfl (hd.le g3.le) hR2 (g3.bars h.T.bar hb)
          refine ⟨u', m3, env3, vs3, ⟨n1 + n2, fun n hn => ?_⟩, k2, g3.trans h.T.free k3, k4⟩
          have hcall : callD P (E P n) k (d.args ++ #[]) u m = some (settleD u1, m2) := by
            have g1n := g1 n (by omega)
            simp only [List.append_nil] at g1n
            rw [← hE1 n] at g1n
            have hE2n := hE2 n
            unfold callD
            rw [hfn]; dsimp only; rw [hc]; dsimp only
            rw [if_neg hname]
            have hres : ∃ v, iresults P fn2 tm2 m2 = some v := by unfold iresults; rw [hws]; split <;> first | exact ⟨_, rfl⟩ | simp_all
            obtain ⟨v, hv2⟩ := hres
            cases hrh : recHead c with
            | none =>
              rw [hrh] at g1n hE2n
              dsimp only at g1n hE2n ⊢
              subst hE2n
              rw [g1n]
              rcases he with rfl | rfl <;> (dsimp only; rw [hv2])
            | some q =>
              obtain ⟨d', rest⟩ := q
              rw [hrh] at g1n hE2n
              dsimp only at g1n hE2n ⊢
              subst hE2n
              rw [g1n]
              rcases he with rfl | rfl <;> (dsimp only; rw [hv2])
          show leave P (E P n) fn tm (d :: ds) u m = _
          simp only [leave]
          rw [htar]
          dsimp only
          rw [hcall]
          exact k1 n (by omega)
        cases e with
        | normal => exact fin g5 (.inl rfl)
        | ret => exact fin g5 (.inr rfl)
        | exit id => cases g5
        | pnc v => cases g5
      have hap : d.args ++ #[] = d.args := by simp
      cases hrh : recHead c with
      | none =>
        rw [hrh] at hv
        dsimp only at hv
        obtain ⟨_, hv⟩ := cond_some hv
        exact run c (frame fn2 d.args) _ u hframe rfl rfl (fun n => by rw [hrh, hap]) (fun n => by rw [hrh]) hv
      | some q =>
        obtain ⟨d', rest⟩ := q
        rw [hrh] at hv
        dsimp only at hv
        obtain ⟨hN, hv⟩ := cond_some hv
        simp only [Bool.and_eq_true] at hN
        have hput := hframe.put (d := some d') (x := ofV (recoverI u).1) (v := (recoverI u).1) hN.2 (ofV_rep _)
        exact run rest ((frame fn2 d.args).put (some d') (recoverI u).1) _ (recoverI u).2 hput rfl rfl (fun n => by rw [hrh, hap]) (fun n => by rw [hrh]) hv
theorem fn_ok (hC : TabOK P C) {k : FuncId} {fn : Func} {c : Code} (hf : P.funcs[k]? = some fn) (hb : fn.body = some c) (hL : ∀ b' ∈ loopsOf c, ∀ con, lookC LO (headReg b') = some con → con.LOK P fn.ntmps b') (ins : Tm) (out : OT) : Con.OK P k ⟨ins, out, vfn P C LO fn c ins out⟩ := by
  intro x y hF S0 env m args hT hB hsl
  have hRel : Rel P S0 env m (frame fn args) (ins.inst fn.ntmps x) := ⟨hT, frame_size fn args, fun i => by rw [frame_get]; exact accL_rep hsl i, trivial⟩
  obtain ⟨e, tm1, ds1, m1, env1, vs1, ⟨n1, g1⟩, g2, g3, g4, g5⟩ := vrun_sound (tm := (frame fn args).tmps) (ds := []) hC [] 100 hL hF hRel hB (frame_size fn args)
  rw [List.append_nil] at g1
  have hnb : (ins.cx x S0 env m).nb = ins.bx.length := bxI_len
  have lv : ∀ (u : DM), vleave P C vs1.df u { vs1 with df := [] } (fun u vs => vleafE P fn ins.bx.length out u vs) = some y → (∀ n, n1 ≤ n → callF P (E P n) k args m = leave P (E P n) fn tm1 ds1 u m1) →
      ∃ c1 m1 env1, Cal P k args m c1 m1 ∧ Ended P (ins.cx x S0 env m) S0 env1 m1 (out.out y).2.1 (out.out y).2.2 ∧ EndsC P ((out.out y).2.1.cx (out.out y).2.2 S0 env1 m1) (out.out y).1 (slI id id (out.out y).2.1.sl (out.out y).2.2.1) c1 := by
    intro u g5 hcall
    have hR0 : Rel P S0 env1 m1 ⟨tm1, []⟩ { vs1 with df := [] } := ⟨g2.T, g2.size, g2.sl, trivial⟩
    obtain ⟨u', m2, env2, vs2, ⟨n2, k1⟩, k2, k3, k4⟩ := vleave_sound hC fn tm1 vs1.df g5 rfl g2.df hR0 (g3.bars hT.bar hB)
    have hst : Stp (ins.cx x S0 env m) (vs2.cx S0 env2 m2) := g3.trans hT.free k3
    have hcal : ∀ co m3, leave P (E P (n1 + n2)) fn tm1 [] u' m2 = some (co, m3) → (∀ n, leave P (E P n) fn tm1 [] u' m2 = some (co, m3)) → Cal P k args m co m3 := fun co m3 _ hall => ⟨n1 + n2, fun n hn => by rw [hcall n (by omega), k1 n (by omega)]; exact hall n⟩
    unfold vleafE at k4
    split at k4
    · obtain ⟨env2', r1, r2⟩ := rehome_sound (o := out) (n := ins.bx.length) k2 rfl
      have hst := hst.trans hT.free r2
      clear r2
      generalize rehome out ins.bx.length vs2 = vs3 at *
      obtain ⟨hkeys, k4⟩ := cond_some k4
      simp only [Option.bind_eq_some_iff] at k4
      obtain ⟨l, hl, hm⟩ := k4
      obtain ⟨hlen, ws, hws, hrep0⟩ := vresL_sound r1 hl
      have hwl : ws.length = fn.results.size := by
        have h5 : ∀ {l : List S1} {ws : List Value}, repSs P (vs3.cx S0 env2' m2) l ws → l.length = ws.length := by
          intro l
          induction l with
          | nil => intro ws h; cases ws with
            | nil => rfl
            | cons => exact h.elim
          | cons c l ih => intro ws h; cases ws with
            | nil => exact h.elim
            | cons w ws => simp [ih h.2]
        rw [← h5 hrep0, hlen]; simp
      split at hm
      case h_2 => cases hm
      rename_i rt hrt
      obtain ⟨env3, g2', g3', hrep⟩ := prep_sound (pl := rt.sl) (bf := rt.bf) r1 hrep0 rfl
      have hst := hst.trans hT.free g3'
      clear g3'
      obtain ⟨h1, ⟨q, hq⟩, _, h4⟩ := OT.mat_some hm
      have h4 := h4 rfl _ hkeys
      obtain ⟨hE, hs2⟩ := Ended.of_mat hst g2'.T hnb (av := fun i => ws.toArray.getD i undef) (fun p _ => accS_rep hrep p.1) hq
      have hsll : (out.out y).2.1.sl.length = ws.length := by rw [hwl, ← List.length_map (f := (·.1)), h4, List.length_range]
      have hss := slots_list (ws := ws) (n := 0) (l := (out.out y).2.1.sl) (x := (out.out y).2.2.1) (fun i hi => by
        rw [← List.getElem?_map, h4, List.getElem?_range (by rw [← hwl, ← hsll]; exact hi), Nat.zero_add]) (by rw [hsll]; omega) (fun i => by rw [Array.getD_eq_getD_getElem?]; simp) hs2
      rw [List.drop_zero] at hss
      have hres : ∃ v, iresults P fn tm1 m2 = some v ∧ repV P ((out.out y).2.1.cx (out.out y).2.2 S0 (env3.sub q True) m2) (resSl (slI id id (out.out y).2.1.sl (out.out y).2.2.1)) v := by
        unfold iresults
        rw [hws]
        have hsl2 : (slI id id (out.out y).2.1.sl (out.out y).2.2.1).length = ws.length := by
          rw [← hsll]
          have : ∀ {l : List (Nat × Pt)} {x : SlE l}, (slI id id l x).length = l.length := by
            intro l
            induction l with
            | nil => intro x; rfl
            | cons p l ih => intro x; show (_ :: _).length = _; simp [ih]
          exact this
        generalize slI id id (out.out y).2.1.sl (out.out y).2.2.1 = L at hss hsl2
        cases L with
        | nil => cases ws with
          | nil => exact ⟨_, rfl, #[], rfl, trivial⟩
          | cons => simp at hsl2
        | cons p L =>
          cases ws with
          | nil => simp at hsl2
          | cons w ws =>
            cases L with
            | nil => cases ws with
              | nil => exact ⟨w, rfl, hss.1⟩
              | cons => simp at hsl2
            | cons p2 L => cases ws with
              | nil => simp at hsl2
              | cons w2 ws => exact ⟨_, rfl, _, rfl, hss⟩
      obtain ⟨v, hv1, hv2⟩ := hres
      have hlv : ∀ n, leave P (E P n) fn tm1 [] .ret m2 = some (.ret v, m2) := fun n => by simp only [leave, hv1, Option.map_some]
      refine ⟨.ret v, m2, env3.sub q True, hcal _ _ (hlv _) hlv, hE, ?_⟩
      rw [h1]
      exact ⟨v, rfl, hv2⟩
    · rename_i v
      obtain ⟨h1, ⟨q, hq⟩, _, _⟩ := OT.mat_some k4
      obtain ⟨hE, hs2⟩ := Ended.of_mat hst k2.T hnb (acc := fun _ => .v .x) (av := fun _ => undef) (fun p _ => trivial) hq
      have hlv : ∀ n, leave P (E P n) fn tm1 [] (.pan v false) m2 = some (.pnc v, m2) := fun n => rfl
      refine ⟨.pnc v, m2, env2.sub q True, hcal _ _ (hlv _) hlv, hE, ?_⟩
      rw [h1]
      rfl
    · cases k4
  unfold vleaf at g5
  have hfr : (frame fn args) = ⟨(frame fn args).tmps, []⟩ := rfl
  cases e with
  | exit id => cases g5
  | pnc v =>
    refine lv (.pan v false) g5 (fun n hn => ?_)
    unfold callF
    rw [hf]; dsimp only; rw [hb]; dsimp only
    rw [hfr, g1 n hn]
    simp
  | normal =>
    refine lv .ret g5 (fun n hn => ?_)
    unfold callF
    rw [hf]; dsimp only; rw [hb]; dsimp only
    rw [hfr, g1 n hn]
    simp
  | ret =>
    refine lv .ret g5 (fun n hn => ?_)
    unfold callF
    rw [hf]; dsimp only; rw [hb]; dsimp only
    rw [hfr, g1 n hn]
    simp
def LoopsOK (P : Program) (N : Nat) : List Code → Tab → Prop
  | [], _ => True
  | b :: l, LO => (match lookC LO (headReg b) with | some con => con.LOK P N b | none => True) ∧ LoopsOK P N l LO
theorem loops_of {N : Nat} {c : Code} {l : List Code} (h : loopsOf c = l) (h2 : LoopsOK P N l LO) : ∀ b ∈ loopsOf c, ∀ con, lookC LO (headReg b) = some con → con.LOK P N b := by
  rw [h]
  clear h
  induction l with
  | nil => intro b hb; cases hb
  | cons b l ih =>
    intro b' hb con hc
    rcases List.mem_cons.1 hb with rfl | hb
    · have := h2.1
      rw [hc] at this; exact this
    · exact ih h2.2 b' hb con hc
theorem Con.OK.congr {k : FuncId} {ins : Tm} {out : OT} {F G : ins.E → Option out.E} (h : Con.OK P k ⟨ins, out, F⟩) (hG : ∀ x, G x = F x) : Con.OK P k ⟨ins, out, G⟩ := by
  have : G = F := funext hG
  rw [this]; exact h
theorem Con.LOK.congr {N : Nat} {b : Code} {ins : Tm} {out : OT} {F G : ins.E → Option out.E} (h : Con.LOK P N b ⟨ins, out, F⟩) (hG : ∀ x, G x = F x) : Con.LOK P N b ⟨ins, out, G⟩ := by
  have : G = F := funext hG
  rw [this]; exact h
end Go.IM.V
namespace Go.IM.V
open Go Go.IM
variable {P : Program} {m : M} {L : Nat}
def okL (L : Nat) : (t : Ty) → t.El → Prop
  | .i k, n => (Lit.int k n).wf = true
  | .f k, n => (Lit.float k n).wf = true
  | .s, x => x.size ≤ maxLen
  | .l e, xs => xs.length ≤ L ∧ ∀ x ∈ xs, okL L e x
  | .p t1 t2, x => okL L t1 x.1 ∧ okL L t2 x.2
  | _, _ => True
theorem chunks_prod {ok : TypeId → List Value → Prop} {sz : TypeId → Nat} {S : Nat → Prop} : ∀ {ts : List TypeId} {l : List (Option Ty)} {tys : List Ty} {cs : List Value}, chunksOK ok sz ts cs → l.length = ts.length → optL l = some tys →
    (∀ (i : Nat) t ty, ts[i]? = some t → l[i]? = some (some ty) → ∀ cs, ok t cs → ∃ x : ty.El, repE P S m ty x cs ∧ okL L ty x) → ∃ x : (prodT tys).El, repE P S m (prodT tys) x cs ∧ okL L (prodT tys) x := by
  intro ts
  induction ts with
  | nil =>
    intro l tys cs hc hl ho hk
    cases l with
    | nil => cases ho; exact ⟨(), hc, trivial⟩
    | cons => simp at hl
  | cons t ts ih =>
    intro l tys cs hc hl ho hk
    cases l with
    | nil => simp at hl
    | cons o l =>
      cases o with
      | none => cases ho
      | some ty =>
        simp only [optL, Option.map_eq_some_iff] at ho
        obtain ⟨tys', h1, rfl⟩ := ho
        obtain ⟨x, h2, h3⟩ := hk 0 t ty rfl rfl _ hc.1
        obtain ⟨y, h4, h5⟩ := ih hc.2 (by simpa using hl) h1 (fun i t ty a b => hk (i + 1) t ty (by simpa using a) (by simpa using b))
        exact ⟨(x, y), ⟨_, _, (List.take_append_drop _ _).symm, h2, h4⟩, h3, h5⟩
theorem chunks_list {ok : TypeId → List Value → Prop} {sz : TypeId → Nat} {S : Nat → Prop} {e : TypeId} {ty : Ty} (he : sz e = ty.n) (hok : ∀ cs, ok e cs → ∃ x : ty.El, repE P S m ty x cs ∧ okL L ty x) : ∀ {n : Nat} {cs : List Value}, chunksOK ok sz (List.replicate n e) cs →
    ∃ xs : List ty.El, xs.length = n ∧ cs.length = n * ty.n ∧ (∀ x ∈ xs, okL L ty x) ∧ ∀ (k : Nat) (x : ty.El), xs[k]? = some x → repE P S m ty x ((cs.drop (k * ty.n)).take ty.n) := by
  intro n
  induction n with
  | zero => intro cs h; cases h; exact ⟨[], rfl, by simp, fun x hx => by simp at hx, fun k x hx => by simp at hx⟩
  | succ n ih =>
    intro cs h
    obtain ⟨h1, h2⟩ := h
    obtain ⟨x, h3, h4⟩ := hok _ h1
    obtain ⟨xs, h5, h6, h7, h8⟩ := ih h2
    rw [he] at h3 h6 h8
    have hl := repE_len h3
    rw [List.length_take] at hl
    rw [List.length_drop] at h6
    refine ⟨x :: xs, by simp [h5], by rw [Nat.add_mul, Nat.one_mul]; omega, fun y hy => ?_, fun k y hy => ?_⟩
    · rcases List.mem_cons.1 hy with rfl | hy
      · exact h4
      · exact h7 y hy
    · cases k with
      | zero => cases hy; rw [Nat.zero_mul, List.drop_zero]; exact h3
      | succ k =>
        have := h8 k y (by simpa using hy)
        rw [List.drop_drop] at this
        rw [Nat.add_mul, Nat.one_mul, Nat.add_comm]
        exact this
def env0 : Env := ⟨fun _ => none, fun _ => 0, fun _ => False⟩
def cx0 (m : M) : Cx := ⟨fun _ => False, m, env0, 0, [], fun _ => false, fun _ => none, fun _ => False⟩
theorem roMem_roots {m : M} (h : RoMem m) : Roots m := by
  intro i b hb
  obtain ⟨c, e, rfl⟩ := h.blk i b hb
  exact ⟨_, hb, rfl⟩
theorem roMem_uniq {m : M} (h : RoMem m) : Uniq m := ⟨fun i j b c hb hc hr _ _ => by
  obtain ⟨_, _, rfl⟩ := h.blk i b hb
  obtain ⟨_, _, rfl⟩ := h.blk j c hc
  exact hr, fun i b hb => by
  obtain ⟨_, _, rfl⟩ := h.blk i b hb
  exact Nat.le_refl _⟩
theorem okV_rep (hr : RoMem m) : ∀ (f : Nat) {n : Nat} {t : TypeId} {ty : Ty} {cs : List Value}, OkV P m L f t cs → tyOf P n t = some ty → ∃ x : ty.El, repE P (fun _ => False) m ty x cs ∧ okL L ty x := by
  intro f
  induction f with
  | zero => intro n t ty cs h; exact h.elim
  | succ f ih =>
    intro n t ty cs h ht
    cases n with
    | zero => cases ht
    | succ n =>
      unfold OkV at h
      unfold tyOf at ht
      split at h
      · rename_i hu; rw [hu] at ht; cases ht; obtain ⟨b, rfl⟩ := h; exact ⟨b, rfl, trivial⟩
      · rename_i k hu; rw [hu] at ht; cases ht; obtain ⟨b, rfl, hw⟩ := h; exact ⟨b, rfl, hw⟩
      · rename_i k hu; rw [hu] at ht; cases ht; obtain ⟨b, rfl, hw⟩ := h; exact ⟨b, rfl, hw⟩
      · rename_i hu; rw [hu] at ht; cases ht; obtain ⟨b, rfl, hw⟩ := h; exact ⟨b, rfl, hw⟩
      · rename_i e hu
        rw [hu] at ht
        simp only [Option.bind_eq_some_iff] at ht
        obtain ⟨te, h1, h2⟩ := ht
        split at h2
        · rename_i hc
          cases h2
          rcases h with rfl | ⟨i, rfl⟩ | ⟨i, len, cap, c, rfl, hc1, hc2, hc3, hc4, hc5⟩
          · exact ⟨([] : List te.El), ⟨_, rfl, .inl ⟨rfl, rfl⟩⟩, by simp, fun x hx => by simp at hx⟩
          · exact ⟨([] : List te.El), ⟨_, rfl, .inr ⟨i, 0, none, 0, rfl, Nat.le_refl _, .inl rfl⟩⟩, by simp, fun x hx => by simp at hx⟩
          · obtain ⟨xs, g1, g2, g3, g4⟩ := chunks_list (S := fun _ => False) hc.1 (fun cs hcs => ih hcs h1) hc5
            rw [Array.length_toList] at g2
            have hrow : m.row i = some (c, e) := by unfold M.row; rw [hr.alive hc4]; rfl
            have hlen : (xs.take len).length = len := by rw [List.length_take]; omega
            refine ⟨xs.take len, ⟨_, rfl, .inr ⟨i, 0, none, cap, by rw [hlen], by rw [hlen]; exact hc2, .inr ⟨c, e, hrow, fun w => w, hc.1, ?_, fun k x hx => ?_⟩⟩⟩, by rw [hlen]; omega, fun x hx => g3 x (List.mem_of_mem_take hx)⟩
            · rw [hlen, g2, Nat.zero_add]; exact Nat.mul_le_mul_right _ hc2
            · rw [List.getElem?_take] at hx
              split at hx
              · have := g4 k x hx
                rw [Nat.zero_add, ext_list, show k * te.n + te.n - k * te.n = te.n by omega]
                exact this
              · cases hx
        · cases h2
      · rename_i fs hu
        rw [hu] at ht
        simp only [Option.map_eq_some_iff] at ht
        obtain ⟨tys, h1, rfl⟩ := ht
        refine chunks_prod h (by simp) h1 (fun i t ty a b cs hcs => ?_)
        rw [List.getElem?_map] at a b
        cases hq : fs.toList[i]? with
        | none => rw [hq] at a; cases a
        | some fd =>
          rw [hq] at a b
          simp only [Option.map_some, Option.some.injEq] at a b
          subst a
          exact ih hcs b
      · rename_i k e hu
        rw [hu] at ht
        simp only [Option.map_eq_some_iff] at ht
        obtain ⟨te, h1, rfl⟩ := ht
        have hol : ∀ k, optL (List.replicate k (some te)) = some (List.replicate k te) := by
          intro k
          induction k with
          | zero => rfl
          | succ k ih => simp only [List.replicate_succ, optL]; rw [ih]; rfl
        refine chunks_prod h (l := List.replicate k (some te)) (by simp) (hol k) (fun i t ty a b cs hcs => ?_)
        rw [List.getElem?_replicate] at a b
        split at a
        · rename_i hi
          rw [if_pos hi] at b
          cases a; cases b
          exact ih hcs h1
        · cases a
      · exact h.elim
theorem okA_rep (hr : RoMem m) {f n : Nat} {t : TypeId} {ty : Ty} {v : Value} (h : OkA P m L f t v) (ht : tyOf P n t = some ty) : ∃ x : ty.El, repS P (cx0 m) (s1Of ty x) v ∧ okL L ty x := by
  have hag : (∃ fs, P.underlying t = some (.struct fs)) ∨ (∃ k e, P.underlying t = some (.array k e)) → ty.ag = true := by
    intro hu
    cases n with
    | zero => cases ht
    | succ n =>
      unfold tyOf at ht
      have hp : ∀ l : List Ty, (prodT l).ag = true := by intro l; cases l <;> rfl
      rcases hu with ⟨fs, hu⟩ | ⟨k, e, hu⟩ <;> rw [hu] at ht <;> simp only [Option.map_eq_some_iff] at ht
      · obtain ⟨_, _, rfl⟩ := ht; exact hp _
      · obtain ⟨_, _, rfl⟩ := ht; exact hp _
  have hnag : ty.ag = true → (∃ fs, P.underlying t = some (.struct fs)) ∨ (∃ k e, P.underlying t = some (.array k e)) := by
    intro hq
    cases n with
    | zero => cases ht
    | succ n =>
      unfold tyOf at ht
      split at ht
      · cases ht; cases hq
      · cases ht; cases hq
      · cases ht; cases hq
      · cases ht; cases hq
      · simp only [Option.bind_eq_some_iff] at ht
        obtain ⟨te, _, h2⟩ := ht
        split at h2
        · cases h2; cases hq
        · cases h2
      · rename_i fs hu; exact .inl ⟨fs, hu⟩
      · rename_i k e hu; exact .inr ⟨k, e, hu⟩
      · cases ht
  unfold OkA at h
  split at h
  · rename_i fs hu
    obtain ⟨cs, rfl, h1⟩ := h
    obtain ⟨x, h2, h3⟩ := okV_rep hr f h1 ht
    exact ⟨x, s1Of_rep (X := cx0 m) h2 (fun _ => ⟨cs, rfl⟩) (fun q => by rw [hag (.inl ⟨fs, hu⟩)] at q; cases q), h3⟩
  · rename_i k e hu
    obtain ⟨cs, rfl, h1⟩ := h
    obtain ⟨x, h2, h3⟩ := okV_rep hr f h1 ht
    exact ⟨x, s1Of_rep (X := cx0 m) h2 (fun _ => ⟨cs, rfl⟩) (fun q => by rw [hag (.inr ⟨k, e, hu⟩)] at q; cases q), h3⟩
  · rename_i hu1 hu2
    obtain ⟨x, h2, h3⟩ := okV_rep hr f h ht
    have hone := repE_one h2 v (by simp)
    have hc : v.cells = #[v] := by cases v <;> first | rfl | cases hone
    refine ⟨x, s1Of_rep (X := cx0 m) (by rw [hc]; exact h2) (fun q => ?_) (fun _ => hone), h3⟩
    rcases hnag q with ⟨fs, hu⟩ | ⟨k, e, hu⟩
    · exact absurd hu (hu1 fs)
    · exact absurd hu (hu2 k e)
def argP : Nat → List Ty → List (Nat × Pt)
  | _, [] => []
  | k, t :: l => (k, .v t) :: argP (k + 1) l
def lawTm (tys : List Ty) : Tm := { sl := argP 0 tys }
def lawOut : OT := .ret { sl := [(0, .v .b)] }
def okArgsL (L : Nat) : (k : Nat) → (l : List Ty) → SlE (argP k l) → Prop
  | _, [], _ => True
  | k, t :: l, x => okL L t x.1 ∧ okArgsL L (k + 1) l x.2
theorem args_rep (hr : RoMem m) {f n : Nat} : ∀ {ts : List TypeId} {vs : List Value} {tys : List Ty} {pre : List Value} {k : Nat}, k = pre.length → OkArgs P m L f ts vs → optL (ts.map (tyOf P n)) = some tys →
    ∃ x : SlE (argP k tys), repSlots P (cx0 m) (fun i => (pre ++ vs).toArray.getD i undef) (slI id id (argP k tys) x) ∧ okArgsL L k tys x := by
  intro ts
  induction ts with
  | nil => intro vs tys pre k hk h ho; cases ho; exact ⟨(), trivial, trivial⟩
  | cons t ts ih =>
    intro vs tys pre k hk h ho
    cases vs with
    | nil => exact h.elim
    | cons v vs =>
      simp only [List.map_cons] at ho
      cases ht : tyOf P n t with
      | none => rw [ht] at ho; cases ho
      | some ty =>
        rw [ht] at ho
        simp only [optL, Option.map_eq_some_iff] at ho
        obtain ⟨tys', h1, rfl⟩ := ho
        obtain ⟨x, h2, h3⟩ := okA_rep hr h.1 ht
        obtain ⟨y, h4, h5⟩ := ih (pre := pre ++ [v]) (k := k + 1) (by simp [hk]) h.2 h1
        simp only [List.append_assoc, List.cons_append, List.nil_append] at h4
        refine ⟨(x, y), ⟨?_, h4⟩, h3, h5⟩
        have : (pre ++ v :: vs).toArray.getD k undef = v := by
          rw [Array.getD_eq_getD_getElem?, hk]; simp
        show repS P _ (s1Of ty x) ((pre ++ v :: vs).toArray.getD k undef)
        rw [this]
        exact h2
theorem law_ofL {k : FuncId} {fn : Func} {depth n : Nat} {tys : List Ty} (ht : optL (fn.params.toList.map (tyOf P n)) = some tys) {F : (lawTm tys).E → Option lawOut.E} (hok : Con.OK P k ⟨lawTm tys, lawOut, F⟩)
    (law : ∀ x : SlE (argP 0 tys), okArgsL L 0 tys x → F (x, (), ()) = some ((true, ()), (), ())) : LawL P L k fn depth := by
  intro m vs hr hargs
  obtain ⟨x, h1, h2⟩ := args_rep hr (pre := []) rfl hargs ht
  have hSf : ∀ i, ¬ ((lawTm tys).inst 0 (x, (), ())).S (fun _ => False) env0 i := by
    intro i w
    rcases w with w | ⟨j, hj, _⟩ | w
    · exact w
    · exact absurd hj (Nat.not_lt_zero _)
    · exact w
  have hle : CxLe (cx0 m) ((lawTm tys).cx (x, (), ()) (fun _ => False) env0 m) :=
    ⟨fun i r hr hn => ⟨hr, hSf i⟩, Nat.le_refl _, fun _ _ => rfl, fun j b hb => by simp [cx0] at hb, fun j hj => absurd hj (Nat.not_lt_zero _), fun j L hj => absurd hj (Nat.not_lt_zero _), fun i w => w, fun i w => w, Nat.le_refl _, fun _ _ q => q⟩
  have hsl : ∀ {l : List (Nat × S1)} {av : Nat → Value}, repSlots P (cx0 m) av l → repSlots P ((lawTm tys).cx (x, (), ()) (fun _ => False) env0 m) av l := by
    intro l av
    induction l with
    | nil => intro _; trivial
    | cons p l ih => intro h; exact ⟨h.1.le hle, ih h.2⟩
  obtain ⟨c, m1, env1, hcal, hend, hret⟩ := hok (x, (), ()) _ (law x h2) (fun _ => False) env0 m vs.toArray
    ⟨hr.free, by show m.bar ≤ m.nxt; rw [hr.bar]; exact Nat.zero_le _, rfl, rfl, rfl, fun j hj => absurd hj (Nat.not_lt_zero _), fun i w => absurd w (hSf i), fun j b hb => (by cases hb), fun j j' b b' i h1 => (by cases h1), fun j cs hcs => (by cases hcs), fun j j' hj => absurd hj (Nat.not_lt_zero _), fun i w => w.elim, fun j hj => absurd hj (Nat.not_lt_zero _), roMem_roots hr, roMem_uniq hr⟩ (by
    intro i w
    rcases w with ⟨j, hj, _⟩ | w
    · exact absurd hj (Nat.not_lt_zero _)
    · exact w.elim) (hsl h1)
  obtain ⟨v, rfl, hv⟩ := hret
  have hv' : v = .bool true := hv.1
  subst hv'
  obtain ⟨n, hn⟩ := hcal
  exact ⟨n, m1, hn n (Nat.le_refl _)⟩
theorem law_of {k : FuncId} {fn : Func} {depth n : Nat} {tys : List Ty} (ht : optL (fn.params.toList.map (tyOf P n)) = some tys) {F : (lawTm tys).E → Option lawOut.E} (hok : Con.OK P k ⟨lawTm tys, lawOut, F⟩)
    (law : ∀ x : SlE (argP 0 tys), okArgsL maxLen 0 tys x → F (x, (), ()) = some ((true, ()), (), ())) : Law P k fn depth := law_ofL ht hok law
end Go.IM.V
namespace Go.IM.V
open Go Go.IM
abbrev r1 {α : Type} (x : α) : (α × Unit) × Unit × Unit := ((x, ()), (), ())
abbrev ro {α : Type} (x : α) : (Unit × Unit) × Unit × (α × Unit) := (((), ()), (), (x, ()))
section
variable {ρ : Type}
theorem cif {p : Prop} [Decidable p] (a b : ρ) : (bif decide p then a else b) = if p then a else b := by by_cases h : p <;> simp [h]
end
theorem w64 {n : Int} (h0 : -9223372036854775808 ≤ n) (h1 : n ≤ 9223372036854775807) : IntKind.wrap .i64 n = n := wrap_i64 h0 h1
end Go.IM.V