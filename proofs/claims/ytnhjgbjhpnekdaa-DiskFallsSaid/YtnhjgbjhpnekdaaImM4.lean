/- An ideal machine, and a machine of values: part 4 of 5. Lemmas alone; no conditions. -/
import Derived.Test.YtnhjgbjhpnekdaaImM3
set_option linter.unusedVariables false
set_option linter.unusedSimpArgs false
set_option linter.constructorNameAsVariable false
namespace Go.IM.V
open Go Go.IM
variable {P : Program} {m m1 : M} {S0 : Nat → Prop} {env : Env} {a : Act} {vs : VS} {X : Cx}
theorem ext_list (c : Array Value) (i j : Nat) : (c.extract i j).toList = (c.toList.drop i).take (j - i) := by
  apply List.ext_getElem?
  intro k
  rw [Array.getElem?_toList, Array.getElem?_extract, List.getElem?_take, List.getElem?_drop, Array.getElem?_toList]
  by_cases h : k < j - i
  · rw [if_pos h]
    by_cases h2 : k < min j c.size - i
    · rw [if_pos h2]
    · rw [if_neg h2]
      have : c.size ≤ i + k := by omega
      rw [Array.getElem?_eq_none this]
  · rw [if_neg (by omega), if_neg h]
theorem cutCells_load {t : TypeId} {cs : List Cl} {off o i : Nat} {c : Array Value} {e : TypeId} {y : Sl} (hy : cutCells P t cs off = some y) (hrow : X.m.row i = some (c, e)) (hfit : o + cs.length ≤ c.size) (hr : repCs P X cs (c.extract o (o + cs.length)).toList) :
    ∃ v, iload P t (.pointer (some ⟨i, o + off, none⟩)) X.m = some v ∧ repV P X y v := by
  unfold cutCells at hy
  unfold iload
  dsimp only
  split at hy
  · rename_i ti h1 h2
    rw [h1, h2]
    dsimp only
    split at hy
    · rename_i hle
      cases hy
      unfold M.cells
      rw [hrow]
      dsimp only
      rw [if_pos (by omega)]
      refine ⟨_, rfl, _, rfl, ?_⟩
      have := repCs_take (repCs_drop hr off) ti.size
      rw [ext_list] at this ⊢
      rw [show o + off + ti.size - (o + off) = ti.size by omega]
      rw [show o + cs.length - o = cs.length by omega] at this
      rw [List.drop_take, List.drop_drop, List.take_take, Nat.min_eq_left (by omega)] at this
      exact this
    · cases hy
  · rename_i ti h1 h2
    rw [h1, h2]
    dsimp only
    split at hy
    · rename_i cl hcl
      cases hy
      obtain ⟨u, h3, h4⟩ := repCs_get hr hcl
      have hlt := lt_of_get hcl
      unfold M.cell
      rw [hrow]
      dsimp only
      refine ⟨u, ?_, h4⟩
      rw [Array.getElem?_toList, Array.getElem?_extract, if_pos (by omega)] at h3
      exact h3
    · cases hy
  · cases hy
theorem cutCells_part {t : TypeId} {cs : List Cl} {off : Nat} {c : Array Value} {y : Sl} (hy : cutCells P t cs off = some y) (hr : repCs P X cs c.toList) : ∃ v, partOf P t c off = some v ∧ repV P X y v := by
  unfold cutCells at hy
  unfold partOf
  split at hy
  · rename_i ti h1 h2
    rw [h1, h2]
    dsimp only
    split at hy
    · rename_i hle
      cases hy
      refine ⟨_, rfl, _, rfl, ?_⟩
      have := repCs_take (repCs_drop hr off) ti.size
      rw [ext_list, show off + ti.size - off = ti.size by omega]
      exact this
    · cases hy
  · rename_i ti h1 h2
    rw [h1, h2]
    dsimp only
    split at hy
    · rename_i cl hcl
      cases hy
      obtain ⟨u, h3, h4⟩ := repCs_get hr hcl
      exact ⟨u, by rw [← Array.getElem?_toList]; exact h3, h4⟩
    · cases hy
  · cases hy
theorem box_row {bx : List (List Cl)} (hT : RelT P X bx) {j : Nat} {cs : List Cl} (hj : bx[j]? = some cs) (hnr : isRun cs = false) : ∃ c e, X.m.row (X.env.β j) = some (c, e) ∧ repCs P X cs c.toList := by
  obtain ⟨k, c, e, fr, h1, h2, _, _, _, h3⟩ := (hT.bx j cs hj).cel hnr
  exact ⟨c, e, row_of h1 h2, h3⟩
theorem box_has (h : Rel P S0 env m a vs) {j : Nat} {cs : List Cl} (hj : vs.bx[j]? = some cs) (hh : has1 cs = true) : (vs.cx S0 env m).has j = true := (hasOf_get hj).trans hh
theorem vload_sound (h : Rel P S0 env m a vs) {t : TypeId} {x : Sl} {w : Value} (hx : repV P (vs.cx S0 env m) x w) {g : Option Bool} {y : Sl} {vs1 : VS} (hv : vload P t x vs = some (g, y, vs1)) :
    g = none ∧ vs1 = vs ∧ ∃ v, iload P t w m = some v ∧ repV P (vs.cx S0 env m) y v := by
  unfold vload at hv
  split at hv
  · rename_i j off
    split at hv
    · rename_i cs hj
      cases hnr : isRun cs with
      | true => rw [hnr] at hv; cases hv
      | false =>
      rw [hnr] at hv
      simp only [cond_false, Option.map_eq_some_iff] at hv
      obtain ⟨y', h1, h2⟩ := hv
      cases h2
      obtain ⟨c, e, hrow, hr⟩ := box_row h.T hj hnr
      obtain ⟨_, i, rfl, _, hib⟩ := hx
      obtain rfl := hib (box_has h hj (has1_cel hnr))
      have hl : cs.length = c.size := (repCs_len hr).trans Array.length_toList
      obtain ⟨v, h3, h4⟩ := cutCells_load (X := vs.cx S0 env m) (o := 0) (c := c) h1 hrow (by omega) (by rw [hl, Nat.zero_add]; simpa using hr)
      rw [Nat.zero_add] at h3
      exact ⟨rfl, rfl, v, h3, h4⟩
    · cases hv
  · rename_i ty d off
    simp only [Option.map_eq_some_iff] at hv
    obtain ⟨y', h1, h2⟩ := hv
    cases h2
    obtain ⟨i, o, c, e', rfl, hrow, hS, hfit, hr⟩ := hx
    have hexp := exp_rep hr
    have hl := repCs_len hexp
    have hl2 := repE_len hr
    obtain ⟨v, h3, h4⟩ := cutCells_load (X := vs.cx S0 env m) (o := o) (c := c) h1 hrow (by omega) (by rw [hl, hl2]; exact hexp)
    exact ⟨rfl, rfl, v, h3, h4⟩
  · cases hv
theorem castL_eq {a b : Ty} {xs : List a.El} {ys : List b.El} (h : castL a b xs = some ys) : ∃ e : a = b, e ▸ xs = ys := by
  unfold castL at h
  split at h
  · rename_i e; cases h; exact ⟨e, rfl⟩
  · cases h
theorem vloadA_sound (h : Rel P S0 env m a vs) {t : TypeId} {x : Sl} {w : Value} (hx : repV P (vs.cx S0 env m) x w) {g : Option Bool} {y : Sl} {vs1 : VS} (hv : vloadA P t x vs = some (g, y, vs1)) (hg : Holds' g) :
    vs1 = vs ∧ ∃ v, iload P t w m = some v ∧ repV P (vs.cx S0 env m) y v := by
  unfold vloadA at hv
  split at hv
  · rename_i e j i off
    unfold vloadQ at hv
    split at hv
    · rename_i xs mk hrun
      obtain ⟨own, hj, _⟩ := runAny_some hrun
      simp only [Option.map_eq_some_iff] at hv
      obtain ⟨y', h1, h2⟩ := hv
      cases h2
      have hlt : i.toNat < xs.length := decide_eq (hg _ rfl)
      have hne : xs ≠ [] := fun q => by rw [q] at hlt; simp at hlt
      obtain ⟨_, kb, rfl, _, hib⟩ := hx
      obtain rfl := hib (box_has h hj (has1_runC hne))
      obtain ⟨n0, hrr⟩ := runAny_row h.T hj
      obtain ⟨c, eo, hrow, hels⟩ := hrr hne
      have hget : xs[i.toNat]? = some (xs.getD i.toNat e.dflt) := by
        rw [List.getD_eq_getElem?_getD, List.getElem?_eq_getElem hlt]; rfl
      have hr := hels.2 _ _ hget
      have hexp := exp_rep hr
      have hl := repCs_len hexp
      have hl2 := repE_len hr
      have hfit : i.toNat * e.n + e.n ≤ c.size := by
        rw [hels.1, ← Nat.succ_mul]; exact Nat.mul_le_mul_right _ hlt
      obtain ⟨v, h3, h4⟩ := cutCells_load (X := vs.cx S0 env m) (o := i.toNat * e.n) (c := c) h1 hrow (by omega) (by rw [hl, hl2]; exact hexp)
      exact ⟨rfl, v, h3, h4⟩
    · cases hv
  · obtain ⟨_, h1, h2⟩ := vload_sound h hx hv
    exact ⟨h1, h2⟩
theorem arrTy_some {t : TypeId} {len : Nat} {e : TypeId} {ty : Ty} (h : arrTy P t = some (len, e, ty)) : P.underlying t = some (.array len e) ∧ 0 < ty.n ∧ ∃ ti, P.info? e = some ti ∧ ti.size = ty.n := by
  unfold arrTy at h
  split at h
  · rename_i n e' hu
    split at h
    · rename_i ty' ti h1 h2
      split at h
      · rename_i hc
        cases h
        exact ⟨hu, hc.2, ti, h2, hc.1⟩
      · cases h
    · cases h
  · cases h
theorem vindexAddr_sound (h : Rel P S0 env m a vs) {t : TypeId} {x ix : Sl} {w wi : Value} (hx : repV P (vs.cx S0 env m) x w) (hix : repV P (vs.cx S0 env m) ix wi) {g : Option Bool} {y : Sl} {vs1 : VS} (hv : vindexAddr P t x ix vs = some (g, y, vs1)) (hg : Holds' g) :
    vs1 = vs ∧ ∃ v, iindexAddr P t w wi = some v ∧ repV P (vs.cx S0 env m) y v := by
  unfold vindexAddr at hv
  split at hv
  · rename_i e0 j
    split at hv
    · rename_i e ty xs k h1 hrun h3
      obtain ⟨hu, hn, hce, ti, hti, hsz, hby⟩ := elTy_some h1
      split at hv
      · rename_i he
        subst he
        cases hv
        have hgt := decide_eq (hg _ rfl)
        obtain ⟨kd, rfl⟩ := intC_eq h3 hix
        obtain ⟨own, hj⟩ := runAt_some hrun
        obtain ⟨k1, k2⟩ := run_val (e' := e0) h.T hj hx
        have hne : xs ≠ [] := fun q => by rw [q] at hgt; simp at hgt; omega
        have hwv := k2 hne
        refine ⟨rfl, .pointer (some ⟨env.β j, 0 + k.toNat * ti.size, none⟩), ?_, lt_of_get hj, env.β j, by rw [hsz, Nat.zero_add]; rfl, h.T.slt _ (h.T.inS j (lt_of_get hj) ((hasOf_get hj).trans (has1_run hne))), fun _ => rfl⟩
        rw [hwv]
        unfold iindexAddr
        rw [hu]
        dsimp only
        rw [hti]
        dsimp only
        rw [if_pos (by omega)]
        rfl
      · cases hv
    · cases hv
  · rename_i e0 j o n cp
    split at hv
    · rename_i e ty k h1 h3
      obtain ⟨hu, hn, hce, ti, hti, hsz, hby⟩ := elTy_some h1
      split at hv
      · rename_i he
        subst he
        split at hv
        · rename_i n0 hn0
          cases hv
          have hgt := decide_eq (hg _ rfl)
          obtain ⟨kd, rfl⟩ := intC_eq h3 hix
          obtain ⟨hjl, _, hw⟩ := hx
          obtain ⟨g1, _, g3⟩ := hw n0 hn0
          obtain ⟨sp, cap, rfl, k1, k2, _⟩ := g3 (by omega)
          obtain ⟨cs, hcs⟩ : ∃ cs, vs.bx[j]? = some cs := ⟨vs.bx[j]'hjl, List.getElem?_eq_getElem hjl⟩
          have hcl : len1 cs = some n0 := by rw [← lenOf_get hcs]; exact hn0
          have hhas : has1 cs = true := by
            unfold len1 at hcl
            split at hcl
            · rename_i q1 q2 xs q3
              cases hcl
              exact has1_run (fun q => by rw [q] at g1; simp at g1; omega)
            · cases hcl
          refine ⟨rfl, .pointer (some ⟨env.β j, o * e0.n + k.toNat * ti.size, none⟩), ?_, hjl, env.β j, ?_, h.T.slt _ (h.T.inS j hjl ((hasOf_get hcs).trans hhas)), fun _ => rfl⟩
          · unfold iindexAddr
            rw [hu]
            dsimp only
            rw [hti]
            dsimp only
            rw [if_pos (by omega)]
            rfl
          · rw [hsz, ← Nat.add_mul, show ((o : Int) + k).toNat = o + k.toNat by omega]; rfl
        · cases hv
      · cases hv
    · cases hv
  · rename_i j
    split at hv
    · rename_i len e ty k e0 xs h1 h3 hj
      obtain ⟨hu, hn, ti, hti, hsz⟩ := arrTy_some h1
      split at hv
      · rename_i he
        subst he
        cases hv
        have hgt := decide_eq (hg _ rfl)
        obtain ⟨kd, rfl⟩ := intC_eq h3 hix
        obtain ⟨hjl, kb, rfl, hkl, hib⟩ := hx
        refine ⟨rfl, .pointer (some ⟨kb, 0 + k.toNat * ti.size, none⟩), ?_, hjl, kb, by rw [hsz, Nat.zero_add]; rfl, hkl, hib⟩
        unfold iindexAddr
        rw [hu]
        dsimp only
        rw [hti]
        dsimp only
        rw [if_pos hgt]
      · cases hv
    · cases hv
  · rename_i e0 j n
    split at hv
    · rename_i e ty k h1 h3
      obtain ⟨hu, hn, hce, ti, hti, hsz, hby⟩ := elTy_some h1
      split at hv
      · rename_i he
        obtain ⟨rfl, hn1, hhas⟩ := he
        cases hv
        have hgt := decide_eq (hg _ rfl)
        obtain ⟨kd, rfl⟩ := intC_eq h3 hix
        obtain ⟨hjl, _, hw⟩ := hx
        have hwv := (hw hhas).1
        refine ⟨rfl, .pointer (some ⟨env.β j, 0 + (Int.ofNat k).toNat * ti.size, none⟩), ?_, hjl, env.β j, by rw [hsz, hn1]; simp, h.T.slt _ (h.T.inS j hjl hhas), fun _ => rfl⟩
        rw [hwv]
        unfold iindexAddr
        rw [hu]
        dsimp only
        rw [hti]
        dsimp only
        rw [if_pos (show (0 : Int) ≤ Int.ofNat k ∧ Int.ofNat k < ((n : Nat) : Int) from ⟨Int.natCast_nonneg k, Int.ofNat_lt.2 hgt⟩)]
        rfl
      · cases hv
    · cases hv
  split at hv
  · rename_i e ty e0 xs k h1 h2 h3
    obtain ⟨hu, hn, hce, ti, hti, hsz, hby⟩ := elTy_some h1
    split at hv
    · rename_i he
      subst he
      cases hv
      have hgt := decide_eq (hg _ rfl)
      have hr := lstOf_rep h.T (e := e0) h2 hx
      obtain ⟨kd, rfl⟩ := intC_eq h3 hix
      refine ⟨rfl, ?_⟩
      obtain ⟨q, rfl⟩ : ∃ q : Nat, k = (q : Int) := ⟨k.toNat, by omega⟩
      have hq : q < xs.length := by omega
      have hget : xs[q]? = some (xs.getD q e0.dflt) := by
        rw [List.getD_eq_getElem?_getD, List.getElem?_eq_getElem hq]; rfl
      rcases hr with ⟨rfl, rfl⟩ | ⟨i, o, sp, cap, rfl, hcap, hr⟩
      · simp at hq
      · rcases hr with hr | ⟨c, e', h4, h5, h6, h7, h8⟩
        · omega
        · refine ⟨.pointer (some ⟨i, o + q * ti.size, none⟩), ?_, i, o + q * e0.n, c, e', ?_, h4, h5, ?_, ?_⟩
          · unfold iindexAddr
            rw [hu]
            dsimp only
            rw [hti]
            dsimp only
            rw [if_pos (by omega)]
            simp
          · rw [hsz]; rfl
          · have : (q + 1) * e0.n ≤ xs.length * e0.n := Nat.mul_le_mul_right _ hq
            rw [Nat.add_mul, Nat.one_mul] at this
            omega
          · rw [Int.toNat_natCast]
            exact h8 q _ hget
    · cases hv
  · cases hv
theorem vfield_sound {s : TypeId} {x : Sl} {w : Value} (hx : repV P (vs.cx S0 env m) x w) {f : Nat} {g : Option Bool} {y : Sl} {vs1 : VS} (hv : vfield P s x f vs = some (g, y, vs1)) :
    vs1 = vs ∧ ∃ v, ifield P s w f = some v ∧ repV P (vs.cx S0 env m) y v := by
  unfold vfield at hv
  split at hv
  · rename_i fields cs hu
    split at hv
    · rename_i fd hfd
      simp only [Option.map_eq_some_iff] at hv
      obtain ⟨y', h1, h2⟩ := hv
      cases h2
      obtain ⟨b, rfl, hr⟩ := hx
      obtain ⟨v, h3, h4⟩ := cutCells_part h1 hr
      refine ⟨rfl, v, ?_, h4⟩
      unfold ifield
      rw [hu]
      dsimp only
      rw [hfd]
      exact h3
    · cases hv
  · cases hv
theorem vfieldAddr_sound {s : TypeId} {x : Sl} {w : Value} (hx : repV P (vs.cx S0 env m) x w) {f : Nat} {g : Option Bool} {y : Sl} {vs1 : VS} (hv : vfieldAddr P s x f vs = some (g, y, vs1)) :
    vs1 = vs ∧ ∃ v, ifieldAddr P s w f = some v ∧ repV P (vs.cx S0 env m) y v := by
  unfold vfieldAddr at hv
  split at hv
  · rename_i fields hu
    split at hv
    · rename_i fd hfd
      split at hv
      · rename_i ti hti
        split at hv
        · cases hv
        · rename_i hz
          split at hv
          · cases hv
            obtain ⟨hj, kb, rfl, hkl, hib⟩ := hx
            refine ⟨rfl, _, ?_, hj, kb, rfl, hkl, hib⟩
            unfold ifieldAddr
            rw [hu]
            dsimp only
            rw [hfd]
            dsimp only
            rw [hti]
            dsimp only
            rw [if_neg hz]
          · cases hv
            obtain ⟨i, o, c, e', rfl, h1, h2, h3, h4⟩ := hx
            refine ⟨rfl, _, ?_, i, o, c, e', rfl, h1, h2, h3, h4⟩
            unfold ifieldAddr
            rw [hu]
            dsimp only
            rw [hfd]
            dsimp only
            rw [hti]
            dsimp only
            rw [if_neg hz, Nat.add_assoc]
          · cases hv
            obtain ⟨hj, kb, rfl, hkl, hib⟩ := hx
            refine ⟨rfl, _, ?_, hj, kb, rfl, hkl, hib⟩
            unfold ifieldAddr
            rw [hu]
            dsimp only
            rw [hfd]
            dsimp only
            rw [hti]
            dsimp only
            rw [if_neg hz, Nat.add_assoc]
          · cases hv
      · cases hv
    · cases hv
  · cases hv
theorem wr_size : ∀ (vs : List Value) (c : Array Value) (o : Nat), (wr c o vs).size = c.size := by
  intro vs
  induction vs with
  | nil => intro c o; rfl
  | cons v r ih => intro c o; simp only [wr]; rw [ih]; simp
theorem wr_get : ∀ (vs : List Value) (c : Array Value) (o k : Nat), o + vs.length ≤ c.size → (wr c o vs)[k]? = if k < o then c[k]? else if k < o + vs.length then vs[k - o]? else c[k]? := by
  intro vs
  induction vs with
  | nil => intro c o k _; simp only [wr]; split <;> first | rfl | (rw [if_neg (by simp; omega)])
  | cons v r ih =>
    intro c o k h
    simp only [wr, List.length_cons] at h ⊢
    rw [ih _ _ _ (by simp; omega), Array.getElem?_setIfInBounds]
    by_cases h1 : k < o
    · rw [if_pos (by omega), if_pos h1, if_neg (by omega)]
    · rw [if_neg h1]
      by_cases h2 : k = o
      · subst h2
        rw [if_pos (by omega), if_pos rfl, if_pos (by omega), if_pos (by omega)]
        simp
      · rw [if_neg (by omega)]
        by_cases h3 : k < o + (r.length + 1)
        · rw [if_pos (by omega), if_pos (by omega)]
          rw [show k - o = (k - (o + 1)) + 1 by omega, List.getElem?_cons_succ]
        · rw [if_neg (by omega), if_neg (by omega), if_neg (by omega)]
theorem lay_rep {cs ns : List Cl} {c : Array Value} {ws : List Value} {off : Nat} (hr : repCs P X cs c.toList) (hn : repCs P X ns ws) (hfit : off + ns.length ≤ cs.length) : repCs P X (lay cs off ns) (wr c off ws).toList := by
  have hl : cs.length = c.size := (repCs_len hr).trans Array.length_toList
  have hnl := repCs_len hn
  have : (wr c off ws).toList = c.toList.take off ++ ws ++ c.toList.drop (off + ns.length) := by
    apply List.ext_getElem?
    intro k
    rw [Array.getElem?_toList, wr_get _ _ _ _ (by omega)]
    have htl : (c.toList.take off).length = off := by rw [List.length_take, Array.length_toList]; omega
    by_cases h1 : k < off
    · rw [if_pos h1, List.getElem?_append_left (by rw [List.length_append, htl]; omega), List.getElem?_append_left (by omega), List.getElem?_take, if_pos h1, Array.getElem?_toList]
    · rw [if_neg h1]
      by_cases h2 : k < off + ws.length
      · rw [if_pos h2, List.getElem?_append_left (by rw [List.length_append, htl]; omega), List.getElem?_append_right (by omega), htl]
      · rw [if_neg h2, List.getElem?_append_right (by rw [List.length_append, htl]; omega), List.getElem?_drop, Array.getElem?_toList, List.length_append, htl]
        congr 1; omega
  rw [this]
  exact repCs_append (repCs_append (repCs_take hr off) hn) (repCs_drop hr _)
theorem cellsOf_rep {s : S1} {ns : List Cl} {w : Value} (h : V.cellsOf s = some ns) (hr : repS P X s w) (hk : ns.all known = true) : repCs P X ns w.cells.toList ∧ w.cells.all one = true := by
  cases s with
  | x => cases h
  | s c =>
    cases h
    simp only [List.all_cons, List.all_nil, Bool.and_true] at hk
    have hone := known_one hk hr
    have : w.cells = #[w] := by cases w <;> first | rfl | cases hone
    rw [this]
    exact ⟨⟨hr, trivial⟩, by simp [hone]⟩
  | a cs =>
    cases h
    obtain ⟨b, rfl, h2⟩ := hr
    refine ⟨h2, ?_⟩
    have : ∀ {cs : List Cl} {l : List Value}, repCs P X cs l → cs.all known = true → ∀ v ∈ l, one v = true := by
      intro cs
      induction cs with
      | nil => intro l h _ v hv; cases l with
        | nil => cases hv
        | cons => exact h.elim
      | cons c cs ih =>
        intro l h hk v hv
        simp only [List.all_cons, Bool.and_eq_true] at hk
        cases l with
        | nil => exact h.elim
        | cons w l =>
          rcases List.mem_cons.1 hv with rfl | hv
          · exact known_one hk.1 h.1
          · exact ih h.2 hk.2 v hv
    rw [Array.all_eq_true']
    intro v hv
    have hv' : v ∈ b := hv
    exact this h2 hk v (by simpa using hv')
theorem vstore_sound (h : Rel P S0 env m a vs) (hbar : ∀ i, Wb (vs.cx S0 env m) i → m.bar ≤ i) {t : TypeId} {x y : Sl} {w wy : Value} (hx : repV P (vs.cx S0 env m) x w) (hy : repV P (vs.cx S0 env m) y wy) {g : Option Bool} {z : Sl} {vs1 : VS} (hv : vstore P t x y vs = some (g, z, vs1)) :
    g = none ∧ z = undefS ∧ ∃ m1, istore P t w wy m = some m1 ∧ Rel P S0 env m1 a vs1 ∧ Stp (vs.cx S0 env m) (vs1.cx S0 env m1) := by
  unfold vstore at hv
  split at hv
  · rename_i j off ti s hti
    split at hv
    · rename_i cs ns hj hns
      split at hv
      · rename_i hc
        cases hv
        obtain ⟨hnr, hc⟩ := hc
        obtain ⟨_, kb, rfl, _, hib⟩ := hx
        have hhas := box_has h hj (has1_cel hnr)
        obtain rfl := hib hhas
        obtain ⟨hrep, hone⟩ := cellsOf_rep hns hy hc.2.2
        obtain ⟨k, c, e, fr, h1, h2, h3, h4, h5, h7⟩ := (h.T.bx j cs hj).cel hnr
        have hl : cs.length = c.size := (repCs_len h7).trans Array.length_toList
        have hnl : ns.length = wy.cells.size := (repCs_len hrep).trans Array.length_toList
        have hal : m.alive (env.β j) = some k := h1
        obtain ⟨hR, hS⟩ := h.store (c2 := wr c off wy.cells.toList) hj hnr hal h2 (lay_rep h7 hrep hc.2.1)
        refine ⟨rfl, rfl, _, ?_, hR, hS⟩
        unfold istore
        rw [hti]
        dsimp only
        rw [if_pos (by rw [← hnl]; exact hc.1)]
        unfold M.store
        rw [show (vs.cx S0 env m).env.β j = env.β j from rfl, hal]
        dsimp only
        rw [h2]
        dsimp only
        have h5' : k.root = env.β j := h5
        rw [if_pos ⟨h3, h4, by rw [Array.length_toList]; omega, by rw [← Array.all_toList] at hone; exact hone, hbar _ (.inl ⟨j, lt_of_get hj, hhas, rfl⟩), by rw [h5']; exact hbar _ (.inl ⟨j, lt_of_get hj, hhas, rfl⟩)⟩]
        unfold M.put
        rw [if_pos h5']
      · cases hv
    · cases hv
  · cases hv
theorem wr_ext_same {c : Array Value} {b off n : Nat} {ws : List Value} (h1 : off + ws.length ≤ n) (h2 : b + n ≤ c.size) : (wr c (b + off) ws).extract b (b + n) = wr (c.extract b (b + n)) off ws := by
  apply Array.ext'
  apply List.ext_getElem?
  intro k
  have hs : (c.extract b (b + n)).size = n := by rw [Array.size_extract]; omega
  rw [Array.getElem?_toList, Array.getElem?_toList, Array.getElem?_extract, wr_get _ c _ _ (by omega), wr_size]
  by_cases hk : k < n
  · rw [if_pos (by omega), wr_get _ _ _ _ (by omega)]
    by_cases q1 : k < off
    · rw [if_pos (by omega), if_pos q1, Array.getElem?_extract, if_pos (by omega)]
    · rw [if_neg (by omega), if_neg q1]
      by_cases q2 : k < off + ws.length
      · rw [if_pos (by omega), if_pos q2]; congr 1; omega
      · rw [if_neg (by omega), if_neg q2, Array.getElem?_extract, if_pos (by omega)]
  · rw [if_neg (by omega)]
    exact (Array.getElem?_eq_none (by rw [wr_size]; omega)).symm
theorem wr_ext_other {c : Array Value} {o b n : Nat} {ws : List Value} (h1 : o + ws.length ≤ c.size) (h2 : b + n ≤ o ∨ o + ws.length ≤ b) : (wr c o ws).extract b (b + n) = c.extract b (b + n) := by
  apply Array.ext'
  apply List.ext_getElem?
  intro k
  rw [Array.getElem?_toList, Array.getElem?_toList, Array.getElem?_extract, Array.getElem?_extract, wr_size, wr_get _ _ _ _ h1]
  split
  · rename_i q
    rcases h2 with h2 | h2
    · rw [if_pos (by omega)]
    · by_cases q1 : b + k < o
      · rw [if_pos q1]
      · rw [if_neg q1, if_neg (by omega)]
  · rfl
theorem vstoreA_sound (h : Rel P S0 env m a vs) (hbar : ∀ i, Wb (vs.cx S0 env m) i → m.bar ≤ i) {t : TypeId} {x y : Sl} {w wy : Value} (hx : repV P (vs.cx S0 env m) x w) (hy : repV P (vs.cx S0 env m) y wy) {g : Option Bool} {z : Sl} {vs1 : VS} (hv : vstoreA P t x y vs = some (g, z, vs1)) (hg : Holds' g) :
    z = undefS ∧ ∃ m1, istore P t w wy m = some m1 ∧ Rel P S0 env m1 a vs1 ∧ Stp (vs.cx S0 env m) (vs1.cx S0 env m1) := by
  unfold vstoreA at hv
  split at hv
  · rename_i e j i off
    unfold vstoreQ at hv
    split at hv
    · rename_i xs mk ti s hrun hti
      split at hv
      · rename_i ns hns
        obtain ⟨o, hj, rfl⟩ := runAny_some hrun
        split at hv
        · rename_i hcond
          obtain ⟨hc1, hc2, hc3⟩ := hcond
          simp only [Option.map_eq_some_iff] at hv
          obtain ⟨y', hrd, h2⟩ := hv
          cases h2
          have hlt : i.toNat < xs.length := decide_eq (hg _ rfl)
          have hne : xs ≠ [] := fun q => by rw [q] at hlt; simp at hlt
          obtain ⟨_, kb, rfl, _, hib⟩ := hx
          have hhas := box_has h hj (has1_runC hne)
          obtain rfl := hib hhas
          obtain ⟨hrep, hone⟩ := cellsOf_rep hns hy hc3
          have hnl : ns.length = wy.cells.size := (repCs_len hrep).trans Array.length_toList
          obtain ⟨hpos, hR⟩ := (h.T.bx j _ hj).run
          obtain ⟨k, c, eo, fr, g1, g2, g3, g4, g5, g6, g7, g8, ⟨rb, g9, g10⟩, g11⟩ := hR hne
          have hal : m.alive (env.β j) = some k := g1
          have hget : xs[i.toNat]? = some (xs.getD i.toNat e.dflt) := by
            rw [List.getD_eq_getElem?_getD, List.getElem?_eq_getElem hlt]; rfl
          have hr := g8 _ _ hget
          have hfit : i.toNat * e.n + e.n ≤ c.size := by
            rw [g7, ← Nat.succ_mul]; exact Nat.mul_le_mul_right _ hlt
          have hwl : wy.cells.toList.length = ns.length := by rw [Array.length_toList, hnl]
          have hexp : repCs P (vs.cx S0 env m) (exp e (xs.getD i.toNat e.dflt)) (c.extract (i.toNat * e.n) (i.toNat * e.n + e.n)).toList := exp_rep hr
          have hel : (exp e (xs.getD i.toNat e.dflt)).length = e.n := (repCs_len hexp).trans (repE_len hr)
          have hlay := lay_rep (off := off) hexp hrep (by rw [hel]; exact hc2)
          have hnewE : repE P (vs.S S0 env) m e y' (wr (c.extract (i.toNat * e.n) (i.toNat * e.n + e.n)) off wy.cells.toList).toList := rdAll_rep h.T hrd hlay
          have hels2 : Els P (vs.S S0 env) m e (xs.set i.toNat y') (wr c (i.toNat * e.n + off) wy.cells.toList) := by
            refine ⟨by rw [wr_size, List.length_set]; exact g7, fun q x hq => ?_⟩
            rw [List.getElem?_set] at hq
            by_cases e1 : i.toNat = q
            · rw [if_pos e1, if_pos hlt] at hq
              cases hq
              subst e1
              rw [wr_ext_same (by rw [hwl]; exact hc2) hfit]
              exact hnewE
            · rw [if_neg e1] at hq
              have hql : q < xs.length := lt_of_get hq
              rw [wr_ext_other (by rw [hwl]; omega) (by
                rw [hwl]
                rcases Nat.lt_or_ge q i.toNat with q1 | q1
                · left
                  have : (q + 1) * e.n ≤ i.toNat * e.n := Nat.mul_le_mul_right _ q1
                  rw [Nat.add_mul, Nat.one_mul] at this
                  omega
                · right
                  have : (i.toNat + 1) * e.n ≤ q * e.n := Nat.mul_le_mul_right _ (by omega)
                  rw [Nat.add_mul, Nat.one_mul] at this
                  omega)]
              exact g8 q x hq
          obtain ⟨hR2, hS2⟩ := h.storeRun hj hne (ys := xs.set i.toNat y') (by rw [List.length_set]) hal g2 hels2
          refine ⟨rfl, _, ?_, hR2, hS2⟩
          have hbr : m.bar ≤ k.root := by
            rcases g11 _ rb g9 g10 with q | ⟨q, _⟩
            · rw [q]; exact hbar _ (.inl ⟨j, lt_of_get hj, hhas, rfl⟩)
            · exact hbar _ (.inr q)
          unfold istore
          rw [hti]
          dsimp only
          rw [if_pos (by rw [← hnl]; exact hc1)]
          unfold M.store
          rw [show (vs.cx S0 env m).env.β j = env.β j from rfl, hal]
          dsimp only
          rw [g2]
          dsimp only
          rw [if_pos ⟨g3, g4, by rw [hwl]; omega, by rw [← Array.all_toList] at hone; exact hone, hbar _ (.inl ⟨j, lt_of_get hj, hhas, rfl⟩), hbr⟩]
        · cases hv
      · cases hv
    · cases hv
  · obtain ⟨_, h1, h2⟩ := vstore_sound h hbar hx hy hv
    exact ⟨h1, h2⟩
theorem okc_rep {l : List Value} (h : ∀ v ∈ l, okc v = true) : repCs P X (l.map .c) l := by
  induction l with
  | nil => trivial
  | cons v l ih => exact ⟨⟨rfl, h v (by simp)⟩, ih fun w hw => h w (by simp [hw])⟩
theorem elsOf_sound {bx : List (List Cl)} (hT : RelT P X bx) {ty : Ty} : ∀ {n : Nat} {cs : List Cl} {ws : List Value} {xs : List ty.El}, elsOf X.bf ty cs n = some xs → repCs P X cs ws → ws.length = n * ty.n →
    xs.length = n ∧ ∀ (q : Nat) (x : ty.El), xs[q]? = some x → repE P X.S X.m ty x ((ws.drop (q * ty.n)).take ty.n) := by
  intro n
  induction n with
  | zero => intro cs ws xs h hr hl; cases h; exact ⟨rfl, fun q x hq => by simp at hq⟩
  | succ n ih =>
    intro cs ws xs h hr hl
    simp only [elsOf, Option.bind_eq_some_iff, Option.map_eq_some_iff] at h
    obtain ⟨y, h1, zs, h2, rfl⟩ := h
    obtain ⟨k1, k2⟩ := ih h2 (repCs_drop hr ty.n) (by rw [List.length_drop, hl, Nat.succ_mul]; omega)
    refine ⟨by simp [k1], fun q x hq => ?_⟩
    cases q with
    | zero =>
      cases hq
      rw [Nat.zero_mul, List.drop_zero]
      exact rdAll_rep hT h1 (repCs_take hr ty.n)
    | succ q =>
      have := k2 q x (by simpa using hq)
      rw [List.drop_drop] at this
      rw [show (q + 1) * ty.n = ty.n + q * ty.n by rw [Nat.succ_mul]; omega]
      exact this
theorem valloc_sound (h : Rel P S0 env m a vs) {t : TypeId} {hot : Bool} {g : Option Bool} {x : Sl} {vs1 : VS} (hv : valloc P t hot vs = some (g, x, vs1)) :
    ∃ z v m1 env1, zeroOf P t = some z ∧ (m.new z.cells t).map (fun (p : Addr × M) => Res.val (.pointer (some p.1)) p.2) = some (.val v m1) ∧ Rel P S0 env1 m1 a vs1 ∧ Stp (vs.cx S0 env m) (vs1.cx S0 env1 m1) ∧ repV P (vs1.cx S0 env1 m1) x v := by
  unfold valloc at hv
  split at hv
  · rename_i z hz
    split at hv
    · rename_i hone
      have hf := h.T.free m.nxt (Nat.le_refl _)
      have hf' : m.get m.nxt = none := hf
      have hnew : m.new z.cells t = some (⟨m.nxt, 0, none⟩, m.mk1 (.cells z.cells t)) := by unfold M.new; rw [hf']
      have hall : ∀ v ∈ z.cells.toList, okc v = true := by
        rw [Array.all_eq_true'] at hone
        exact fun v hv => hone v (by simpa using hv)
      cases hot with
      | false =>
        simp only [cond_false, Option.some.injEq, Prod.mk.injEq] at hv
        obtain ⟨rfl, hv⟩ := hv
        obtain ⟨h1, h2, h3⟩ := h.newBox hnew (okc_rep hall)
        have e1 : x = (newBox vs (z.cells.toList.map .c)).1 := by rw [hv]
        have e2 : vs1 = (newBox vs (z.cells.toList.map .c)).2 := by rw [hv]
        subst e1; subst e2
        exact ⟨z, _, _, _, hz, by rw [hnew]; rfl, h1, h2, h3⟩
      | true =>
        simp only [cond_true] at hv
        split at hv
        · rename_i n e ty ha
          split at hv
          · rename_i hc
            obtain ⟨hc1, hc2, hc3⟩ := hc
            simp only [Option.map_eq_some_iff, Prod.mk.injEq] at hv
            obtain ⟨xs, hxs, rfl, hv⟩ := hv
            obtain ⟨k1, k2⟩ := elsOf_sound h.T (ty := ty) hxs (okc_rep hall) (by rw [Array.length_toList]; exact hc1)
            have hels : Els P (vs.S S0 env) m ty xs z.cells := by
              refine ⟨by rw [k1]; exact hc1, fun q x hq => ?_⟩
              have := k2 q x hq
              rw [ext_list, show q * ty.n + ty.n - q * ty.n = ty.n by omega]
              exact this
            have hne : xs ≠ [] := fun q => by rw [q] at k1; simp at k1; omega
            obtain ⟨h1, h2⟩ := h.newRunG (arr := true) hc2 (fun q => by cases q) hnew hels hne
            have e1 : x = (newBox vs [.ra ty xs]).1 := by rw [hv]
            have e2 : vs1 = (newBox vs [.ra ty xs]).2 := by rw [hv]
            subst e1; subst e2
            refine ⟨z, _, _, _, hz, by rw [hnew]; rfl, h1, h2, ?_, m.nxt, rfl, Nat.lt_succ_self _, fun _ => ?_⟩
            · show vs.bx.length < (vs.bx ++ [_]).length; simp
            · exact (setβ_new env _ _).symm
          · cases hv
        · cases hv
    · cases hv
  · cases hv
theorem vbox_sound (h : Rel P S0 env m a vs) {t : TypeId} {hot : Bool} {y : Sl} {w : Value} (hy : repV P (vs.cx S0 env m) y w) {g : Option Bool} {x : Sl} {vs1 : VS} (hv : vbox P t hot y vs = some (g, x, vs1)) :
    ∃ v m1 env1, (m.new w.cells t).map (fun (p : Addr × M) => Res.val (.pointer (some p.1)) p.2) = some (.val v m1) ∧ Rel P S0 env1 m1 a vs1 ∧ Stp (vs.cx S0 env m) (vs1.cx S0 env1 m1) ∧ repV P (vs1.cx S0 env1 m1) x v := by
  unfold vbox at hv
  split at hv
  · rename_i s
    split at hv
    · rename_i cs hcs
      split at hv
      · rename_i hk
        have hf := h.T.free m.nxt (Nat.le_refl _)
        have hf' : m.get m.nxt = none := hf
        have hnew : m.new w.cells t = some (⟨m.nxt, 0, none⟩, m.mk1 (.cells w.cells t)) := by unfold M.new; rw [hf']
        have hrc := (cellsOf_rep hcs hy hk).1
        cases hot with
        | false =>
          simp only [cond_false, Option.some.injEq, Prod.mk.injEq] at hv
          obtain ⟨rfl, hv⟩ := hv
          obtain ⟨h1, h2, h3⟩ := h.newBox hnew hrc
          have e1 : x = (newBox vs cs).1 := by rw [hv]
          have e2 : vs1 = (newBox vs cs).2 := by rw [hv]
          subst e1; subst e2
          exact ⟨_, _, _, by rw [hnew]; rfl, h1, h2, h3⟩
        | true =>
          simp only [cond_true] at hv
          split at hv
          · rename_i n e ty ha
            split at hv
            · rename_i hc
              obtain ⟨hc1, hc2, hc3⟩ := hc
              simp only [Option.map_eq_some_iff, Prod.mk.injEq] at hv
              obtain ⟨xs, hxs, rfl, hv⟩ := hv
              have hwl : w.cells.size = n * ty.n := by rw [← Array.length_toList, ← repCs_len hrc]; exact hc1
              obtain ⟨k1, k2⟩ := elsOf_sound h.T (ty := ty) hxs hrc (by rw [Array.length_toList]; exact hwl)
              have hels : Els P (vs.S S0 env) m ty xs w.cells := by
                refine ⟨by rw [k1]; exact hwl, fun q x hq => ?_⟩
                have := k2 q x hq
                rw [ext_list, show q * ty.n + ty.n - q * ty.n = ty.n by omega]
                exact this
              have hne : xs ≠ [] := fun q => by rw [q] at k1; simp at k1; omega
              obtain ⟨h1, h2⟩ := h.newRunG (arr := true) hc2 (fun q => by cases q) hnew hels hne
              have e1 : x = (newBox vs [.ra ty xs]).1 := by rw [hv]
              have e2 : vs1 = (newBox vs [.ra ty xs]).2 := by rw [hv]
              subst e1; subst e2
              refine ⟨_, _, _, by rw [hnew]; rfl, h1, h2, ?_, m.nxt, rfl, Nat.lt_succ_self _, fun _ => ?_⟩
              · show vs.bx.length < (vs.bx ++ [_]).length; simp
              · exact (setβ_new env _ _).symm
            · cases hv
          · cases hv
      · cases hv
    · cases hv
  · cases hv
end Go.IM.V
namespace Go.IM.V
open Go Go.IM
variable {P : Program} {m m1 : M} {S0 : Nat → Prop} {env : Env} {a : Act} {vs : VS} {X : Cx}
theorem zip_wr : ∀ (l : List Value) (c : Array Value) (off s : Nat), (l.zipIdx s).foldl (fun (cs : Array Value) (p : Value × Nat) => cs.setIfInBounds (off + p.2) p.1) c = wr c (off + s) l := by
  intro l
  induction l with
  | nil => intro c off s; rfl
  | cons v l ih => intro c off s; simp only [List.zipIdx_cons, List.foldl_cons, wr]; rw [ih]; rfl
theorem zip_wr' (v : Array Value) (c : Array Value) (off : Nat) : v.zipIdx.foldl (fun (cs : Array Value) (p : Value × Nat) => cs.setIfInBounds (off + p.2) p.1) c = wr c off v.toList := by
  rw [← Array.foldl_toList, Array.toList_zipIdx]
  exact zip_wr v.toList c off 0
theorem fill_sound {n : Nat} : ∀ (l : List (Nat × Value)) (c : Array Value) (k : Nat), (∀ (j : Nat) p, l[j]? = some p → p.1 = k + j ∧ p.2.cells.size = n) → (k + l.length) * n ≤ c.size →
    ∃ c', Instr.fill (fun i => some (i * n, n)) c l = some c' ∧ c'.size = c.size ∧ (∀ q, q < k * n → c'[q]? = c[q]?) ∧ ∀ (j : Nat) p, l[j]? = some p → (c'.extract ((k + j) * n) ((k + j) * n + n)).toList = p.2.cells.toList := by
  intro l
  induction l with
  | nil => intro c k h1 h2; exact ⟨c, rfl, rfl, fun _ _ => rfl, fun j p hp => by simp at hp⟩
  | cons p l ih =>
    intro c k h1 h2
    obtain ⟨hp1, hp2⟩ := h1 0 p rfl
    obtain ⟨i, v⟩ := p
    simp only [Nat.add_zero] at hp1 hp2
    subst hp1
    have hfit : i * n + n ≤ c.size := by
      have : (i + 1) * n ≤ (i + (l.length + 1)) * n := Nat.mul_le_mul_right _ (by omega)
      rw [Nat.add_mul, Nat.one_mul] at this
      simp only [List.length_cons] at h2
      omega
    obtain ⟨c', g1, g2, g3, g4⟩ := ih (wr c (i * n) v.cells.toList) (i + 1) (fun j p hp => by
      have := h1 (j + 1) p (by simpa using hp)
      exact ⟨by omega, this.2⟩) (by rw [wr_size]; simp only [List.length_cons] at h2; rw [show i + 1 + l.length = i + (l.length + 1) by omega]; exact h2)
    refine ⟨c', ?_, by rw [g2, wr_size], fun q hq => ?_, fun j p hp => ?_⟩
    · unfold Instr.fill
      dsimp only
      rw [if_neg (by simp; omega)]
      rw [zip_wr']
      exact g1
    · rw [g3 q (by rw [Nat.add_mul]; omega), wr_get _ _ _ _ (by rw [Array.length_toList]; omega), if_pos hq]
    · cases j with
      | zero =>
        cases hp
        dsimp only at hp2 ⊢
        rw [Nat.add_zero]
        apply List.ext_getElem?
        intro q
        rw [Array.getElem?_toList, Array.getElem?_extract]
        by_cases hq : q < n
        · rw [if_pos (by rw [g2, wr_size]; omega), g3 _ (by rw [Nat.add_mul]; omega), wr_get _ _ _ _ (by rw [Array.length_toList]; omega), if_neg (by omega), if_pos (by rw [Array.length_toList]; omega)]
          congr 1; omega
        · rw [if_neg (by omega), List.getElem?_eq_none (by rw [Array.length_toList]; omega)]
      | succ j =>
        have := g4 j p (by simpa using hp)
        rw [show i + (j + 1) = i + 1 + j by omega]
        exact this
theorem partsL_sound (h : Rel P S0 env m a vs) {ty : Ty} : ∀ {l : List (Nat × Operand)} {k : Nat} {ys : List ty.El}, partsL vs.bf ty vs.ev k l = some ys →
    ys.length = l.length ∧ ∀ (j : Nat) p, l[j]? = some p → p.1 = k + j ∧ ∃ y, ys[j]? = some y ∧ repE P (vs.S S0 env) m ty y (a.eval p.2).cells.toList := by
  intro l
  induction l with
  | nil => intro k ys hy; cases hy; exact ⟨rfl, fun j p hp => by simp at hp⟩
  | cons p l ih =>
    intro k ys hy
    obtain ⟨i, x⟩ := p
    simp only [partsL] at hy
    split at hy
    · rename_i hik
      split at hy
      · rename_i y ys' h1 h2
        cases hy
        obtain ⟨g1, g2⟩ := ih h2
        refine ⟨by simp [g1], fun j p hp => ?_⟩
        cases j with
        | zero =>
          cases hp
          refine ⟨by simp [hik], y, rfl, ?_⟩
          have hx := ev_rep h x
          cases hs : vs.ev x with
          | t l => rw [hs] at h1; cases h1
          | v s =>
            rw [hs] at h1 hx
            exact (rdS_rep h.T h1 hx).1
        | succ j =>
          obtain ⟨g3, y', g4, g5⟩ := g2 j p (by simpa using hp)
          exact ⟨by omega, y', by simpa using g4, g5⟩
      · cases hy
    · cases hy
theorem vbuildSlice_sound (h : Rel P S0 env m a vs) {t : TypeId} {hot : Bool} {len : Nat} {parts : Array (Nat × Operand)} {g : Option Bool} {x : Sl} {vs1 : VS} (hv : vbuildSlice P t hot len parts.toList vs = some (g, x, vs1)) :
    ∃ v m1 env1, ibuildSlice P t len (parts.map fun (p : Nat × Operand) => (p.1, a.eval p.2)).toList m = some (v, m1) ∧ Rel P S0 env1 m1 a vs1 ∧ Stp (vs.cx S0 env m) (vs1.cx S0 env1 m1) ∧ repV P (vs1.cx S0 env1 m1) x v := by
  unfold vbuildSlice at hv
  split at hv
  · rename_i e ty hel
    obtain ⟨hu, hn, hce, ti, hti, hsz, hby⟩ := elTy_some hel
    split at hv
    · rename_i ys z hys hz
      split at hv
      · rename_i hc
        simp only [Option.some.injEq, Prod.mk.injEq] at hv
        obtain ⟨rfl, hv⟩ := hv
        obtain ⟨h1, h2⟩ := partsL_sound h hys
        obtain ⟨c', g1, g2, g3, g4⟩ := fill_sound (n := ty.n) (parts.map fun (p : Nat × Operand) => (p.1, a.eval p.2)).toList
          ((Array.range (len * ti.size)).map ((if len * ti.size = 0 then #[] else z.cells)[· % (if len * ti.size = 0 then (#[] : Array Value) else z.cells).size]!)) 0 (fun j p hp => by
            rw [Array.getElem?_toList, Array.getElem?_map] at hp
            simp only [Option.map_eq_some_iff] at hp
            obtain ⟨q, hq, rfl⟩ := hp
            obtain ⟨h3, y, h4, h5⟩ := h2 j q (by rw [Array.getElem?_toList]; exact hq)
            exact ⟨h3, by have := repE_len h5; rw [Array.length_toList] at this; exact this⟩) (by simp [hsz]; rw [← hc.1]; simp)
        have hels : Els P (vs.S S0 env) m ty ys c' := by
          refine ⟨by rw [g2, h1, hc.1]; simp [hsz], fun q y hq => ?_⟩
          have hql : q < parts.toList.length := by rw [← h1]; exact lt_of_get hq
          have hp : parts.toList[q]? = some parts.toList[q] := by simp [hql]
          obtain ⟨h3, y', h4, h5⟩ := h2 q _ hp
          rw [hq] at h4; cases h4
          have := g4 q (parts.toList[q].1, a.eval parts.toList[q].2) (by rw [Array.getElem?_toList, Array.getElem?_map, ← Array.getElem?_toList, hp]; rfl)
          rw [Nat.zero_add] at this
          rw [this]; exact h5
        have hf' : m.get m.nxt = none := h.T.free m.nxt (Nat.le_refl _)
        have hnew : m.new c' e = some (⟨m.nxt, 0, none⟩, m.mk1 (.cells c' e)) := by unfold M.new; rw [hf']
        obtain ⟨_, env1, k1, k2, k3⟩ := h.newB (hot := hot) hn hce hnew hels (fun q q2 => by
          have := hc.2.2
          rw [q, q2] at this
          cases this)
        have e1 : x = (newB hot vs ty ys).1 := by rw [hv]
        have e2 : vs1 = (newB hot vs ty ys).2 := by rw [hv]
        subst e1; subst e2
        refine ⟨_, _, _, ?_, k1, k2, k3⟩
        unfold ibuildSlice
        rw [hu]
        dsimp only
        rw [hti, hz]
        dsimp only
        rw [if_pos (by rw [hsz]; exact hc.2.1)]
        rw [hsz] at g1 ⊢
        rw [g1]
        dsimp only
        rw [hnew]
        dsimp only
        rw [if_pos (by rw [g2]; simp [hsz]), h1, hc.1]
      · cases hv
    · cases hv
  · cases hv
theorem vmakeSlice_sound (h : Rel P S0 env m a vs) {t : TypeId} {hot : Bool} {l c : Sl} {wl wc : Value} (hl : repV P (vs.cx S0 env m) l wl) (hcc : repV P (vs.cx S0 env m) c wc) {g : Option Bool} {x : Sl} {vs1 : VS} (hv : vmakeSlice P t hot l c vs = some (g, x, vs1)) (hg : Holds' g) :
    ∃ v m1 env1, imakeSlice P t wl wc m = some (v, m1) ∧ Rel P S0 env1 m1 a vs1 ∧ Stp (vs.cx S0 env m) (vs1.cx S0 env1 m1) ∧ repV P (vs1.cx S0 env1 m1) x v := by
  unfold vmakeSlice at hv
  split at hv
  · rename_i e ty l c hel hl1 hc1
    obtain ⟨hu, hn, hce, ti, hti, hsz, hby⟩ := elTy_some hel
    obtain ⟨k1, rfl⟩ := intC_eq hl1 hl
    obtain ⟨k2, rfl⟩ := intC_eq hc1 hcc
    split at hv
    · rename_i z hz
      split at hv
      · rename_i y hy
        split at hv
        · rename_i hone
          simp only [Option.some.injEq, Prod.mk.injEq] at hv
          obtain ⟨rfl, hv⟩ := hv
          have hgt := hg _ rfl
          rw [Bool.and_eq_true] at hgt
          obtain ⟨hgt1, hgt2⟩ := hgt
          obtain ⟨h0, rfl, hlim⟩ := decide_eq hgt1
          obtain ⟨n, rfl⟩ : ∃ n : Nat, l = (n : Int) := ⟨l.toNat, by omega⟩
          have hzr : repE P (vs.S S0 env) m ty y z.cells.toList := by
            refine rdAll_rep h.T hy ?_
            rw [Array.all_eq_true'] at hone
            have : ∀ l : List Value, (∀ v ∈ l, okc v = true) → repCs P (vs.cx S0 env m) (l.map .c) l := by
              intro l
              induction l with
              | nil => intro _; trivial
              | cons v l ih => intro h; exact ⟨⟨rfl, h v (by simp)⟩, ih fun w hw => h w (by simp [hw])⟩
            exact this _ fun v hv => hone v (by simpa using hv)
          have hzn : z.cells.size = ty.n := by have := repE_len hzr; rw [Array.length_toList] at this; exact this
          rw [Int.toNat_natCast] at hv
          have hels : Els P (vs.S S0 env) m ty (List.replicate n y) ((Array.range (n * ti.size)).map ((if n * ti.size = 0 then #[] else z.cells)[· % (if n * ti.size = 0 then (#[] : Array Value) else z.cells).size]!)) := by
            refine ⟨by simp [hsz], fun q x hq => ?_⟩
            have hqn : q < n := by have := lt_of_get hq; simpa using this
            have hx : x = y := by
              rw [List.getElem?_replicate, if_pos hqn] at hq
              cases hq; rfl
            subst hx
            have hpos : ¬ n * ti.size = 0 := by
              intro h0
              rcases Nat.mul_eq_zero.1 h0 with h0 | h0 <;> omega
            rw [if_neg hpos]
            have : (((Array.range (n * ti.size)).map fun i => z.cells[i % z.cells.size]!).extract (q * ty.n) (q * ty.n + ty.n)).toList = z.cells.toList := by
              apply List.ext_getElem?
              intro r
              rw [Array.getElem?_toList, Array.getElem?_extract, Array.getElem?_toList]
              have hmul : q * ty.n + ty.n ≤ n * ty.n := by
                have : (q + 1) * ty.n ≤ n * ty.n := Nat.mul_le_mul_right _ hqn
                rw [Nat.add_mul, Nat.one_mul] at this; exact this
              by_cases hr : r < ty.n
              · rw [if_pos (by simp [hsz]; omega), Array.getElem?_map, Array.getElem?_range, if_pos (by rw [hsz]; omega)]
                simp only [Option.map_some]
                rw [hzn, Nat.mul_comm q, Nat.mul_add_mod, Nat.mod_eq_of_lt hr]
                rw [getElem!_pos z.cells r (by omega), Array.getElem?_eq_getElem (by omega)]
              · rw [if_neg (by omega), Array.getElem?_eq_none (by omega)]
            rw [this]; exact hzr
          have hf' : m.get m.nxt = none := h.T.free m.nxt (Nat.le_refl _)
          generalize hcells : ((Array.range (n * ti.size)).map ((if n * ti.size = 0 then #[] else z.cells)[· % (if n * ti.size = 0 then (#[] : Array Value) else z.cells).size]!)) = cells at hels
          have hnew : m.new cells e = some (⟨m.nxt, 0, none⟩, m.mk1 (.cells cells e)) := by unfold M.new; rw [hf']
          obtain ⟨_, env1, r1, r2, r3⟩ := h.newB (hot := hot) hn hce hnew hels (fun q q2 => by
            rw [q] at hgt2
            have h5 : 0 < ((n : Nat) : Int) := by simpa using hgt2
            have := congrArg List.length q2
            simp at this
            omega)
          have e1 : x = (newB hot vs ty (List.replicate n y)).1 := by rw [hv]
          have e2 : vs1 = (newB hot vs ty (List.replicate n y)).2 := by rw [hv]
          subst e1; subst e2
          rw [List.length_replicate] at r3
          refine ⟨_, _, _, ?_, r1, r2, r3⟩
          unfold imakeSlice
          rw [hu]
          dsimp only
          rw [hti, hz]
          dsimp only
          have hlim' : n < 1099511627776 := by unfold lim at hlim; omega
          have hb2 : ti.bytes * n ≤ 128 * 1099511627776 := Nat.mul_le_mul hby (by omega)
          rw [if_pos ⟨by omega, Int.le_refl _, by omega, by have : ((ti.bytes : Int) * (n : Int)) = ((ti.bytes * n : Nat) : Int) := by simp
                                                            rw [this]; omega⟩]
          rw [Int.toNat_natCast, hcells, hnew]
        · cases hv
      · cases hv
    · cases hv
  · cases hv
theorem vstat_sound (h : Rel P S0 env m a vs) {t : TypeId} {l c : Sl} {wl wc : Value} (hl : repV P (vs.cx S0 env m) l wl) (hcc : repV P (vs.cx S0 env m) c wc) {x : Sl} {vs1 : VS} (hv : vstat P t l c vs = some (x, vs1)) :
    ∃ v m1 env1, imakeSlice P t wl wc m = some (v, m1) ∧ Rel P S0 env1 m1 a vs1 ∧ Stp (vs.cx S0 env m) (vs1.cx S0 env1 m1) ∧ repV P (vs1.cx S0 env1 m1) x v := by
  unfold vstat at hv
  split at hv
  · rename_i e ty n c hel hl1 hc1
    obtain ⟨hu, hn, hce, ti, hti, hsz, hby⟩ := elTy_some hel
    obtain ⟨k1, rfl⟩ := intC_eq hl1 hl
    obtain ⟨k2, rfl⟩ := intC_eq hc1 hcc
    split at hv
    · rename_i z hz
      split at hv
      · rename_i v hzv
        split at hv
        · rename_i hcond
          obtain ⟨hok, hn1, rfl, hlim⟩ := hcond
          cases hv
          have hf' : m.get m.nxt = none := h.T.free m.nxt (Nat.le_refl _)
          have hzs : z.cells.size = 1 := by rw [← Array.length_toList, hzv]; rfl
          have hz0 : z.cells = #[v] := by apply Array.ext'; rw [hzv]
          have hsz1 : ti.size = 1 := by omega
          have hcl : ((Array.range ((n + 1) * ti.size)).map ((if (n + 1) * ti.size = 0 then #[] else z.cells)[· % (if (n + 1) * ti.size = 0 then (#[] : Array Value) else z.cells).size]!)).toList = List.replicate (n + 1) v := by
            rw [hsz1, Nat.mul_one, if_neg (by omega), hz0]
            apply List.ext_getElem?
            intro i
            rw [Array.getElem?_toList, Array.getElem?_map, Array.getElem?_range, List.getElem?_replicate]
            by_cases hi : i < n + 1
            · rw [if_pos hi, if_pos hi]; simp [Nat.mod_one]
            · rw [if_neg hi, if_neg hi]; rfl
          generalize hcells : ((Array.range ((n + 1) * ti.size)).map ((if (n + 1) * ti.size = 0 then #[] else z.cells)[· % (if (n + 1) * ti.size = 0 then (#[] : Array Value) else z.cells).size]!)) = cells at hcl
          have hnew : m.new cells e = some (⟨m.nxt, 0, none⟩, m.mk1 (.cells cells e)) := by unfold M.new; rw [hf']
          have hrep : repCs P (vs.cx S0 env m) (List.replicate (n + 1) (.c v)) cells.toList := by
            rw [hcl]
            generalize n + 1 = k
            induction k with
            | zero => trivial
            | succ k ih => exact ⟨⟨rfl, hok⟩, ih⟩
          obtain ⟨r1, r2, r3⟩ := h.newBox (cs := List.replicate (n + 1) (.c v)) hnew hrep
          refine ⟨.slice (some ⟨m.nxt, 0, none⟩) (n + 1) (n + 1), _, _, ?_, r1, r2, ?_⟩
          · unfold imakeSlice
            rw [hu]
            dsimp only
            rw [hti, hz]
            dsimp only
            have hb2 : ti.bytes * (n + 1) ≤ 128 * 64 := Nat.mul_le_mul hby hlim
            have hof : (Int.ofNat (n + 1)) = ((n + 1 : Nat) : Int) := rfl
            rw [hof, if_pos ⟨by omega, Int.le_refl _, by omega, by have : ((ti.bytes : Int) * ((n + 1 : Nat) : Int)) = ((ti.bytes * (n + 1) : Nat) : Int) := by simp
                                                                   rw [this]; omega⟩]
            rw [Int.toNat_natCast, hcells, hnew]
          · obtain ⟨q1, kb, q2, q3, q4⟩ := r3
            cases q2
            refine ⟨q1, ⟨rfl, .inr q3⟩, fun hh => ?_⟩
            have q5 := q4 hh
            show Value.slice (some ⟨m.nxt, 0, none⟩) (n + 1) (n + 1) = .slice (some ⟨(env.setβ vs.bx.length m.nxt).β vs.bx.length, 0, none⟩) (n + 1) (n + 1) ∧ ∃ eo, (m.mk1 (.cells cells e)).typ ((env.setβ vs.bx.length m.nxt).β vs.bx.length) = some eo ∧ _
            rw [setβ_new]
            refine ⟨rfl, e, ?_, hce⟩
            unfold M.typ
            rw [get_mk1, if_pos rfl]; rfl
        · cases hv
      · cases hv
    · cases hv
  · cases hv
theorem news_rep {S1 S : Nat → Prop} {ty : Ty} {ys : List ty.El} {w : Value} (hr : repL P S1 m ty.n (repE P S m ty) ys w) : ∃ c, news ty.n w m = some (ys.length, c) ∧ Els P S m ty ys c := by
  by_cases hy : ys = []
  · subst hy
    refine ⟨#[], ?_, Els.nil⟩
    rcases hr with ⟨rfl, _⟩ | ⟨i, o, sp, cap, rfl, _⟩
    · rfl
    · simp [news]
  · rcases hr with ⟨_, h⟩ | ⟨i, o, sp, cap, rfl, hcap, hr⟩
    · exact absurd h hy
    · have := repL_Els (i := i) (o := o) (len := ys.length) (cap := cap) hy (.inr ⟨i, o, sp, cap, rfl, hcap, hr⟩)
      obtain ⟨_, _, c, e, h1, h2, h3, h4, h5⟩ := this
      refine ⟨_, ?_, h5⟩
      unfold news
      dsimp only
      have hpos : 0 < ys.length := List.length_pos_iff.2 hy
      by_cases hz : ys.length * ty.n = 0
      · rw [if_pos hz]
        have h6 : (c.extract o (o + ys.length * ty.n)).size = 0 := by rw [h5.1]; exact hz
        rw [Array.eq_empty_of_size_eq_zero h6]
      · rw [if_neg hz, h4]
        rfl
theorem newsL_rep (h : Rel P S0 env m a vs) {ty : Ty} {x : Sl} {ys : List ty.El} {w : Value} (hx : newsL vs ty x = some ys) (hr : repV P (vs.cx S0 env m) x w) : ∃ c, news ty.n w m = some (ys.length, c) ∧ Els P (vs.S S0 env) m ty ys c := by
  unfold newsL at hx
  split at hx
  · rename_i s
    obtain ⟨rfl, rfl⟩ := castL_some hx
    obtain ⟨rfl, _⟩ := hr
    refine ⟨s.data.map fun (b : UInt8) => .int .u8 b.toNat, ?_, by simp [bytesL, Ty.n], fun q y hq => ?_⟩
    · unfold news
      simp only [Ty.n, if_true, bytesL, List.length_map]
      rfl
    · simp only [bytesL, List.getElem?_map, Option.map_eq_some_iff] at hq
      obtain ⟨b, hb, rfl⟩ := hq
      show _ = [Value.int .u8 _]
      simp only [Ty.n, Nat.mul_one]
      apply List.ext_getElem?
      intro k
      rw [Array.getElem?_toList, Array.getElem?_extract]
      have hql := lt_of_get hb
      rw [Array.length_toList] at hql
      have hsz : s.size = s.data.size := rfl
      cases k with
      | zero =>
        rw [if_pos (by simp; omega), Array.getElem?_map, Nat.add_zero]
        rw [Array.getElem?_toList] at hb
        rw [hb]; rfl
      | succ k => rw [if_neg (by omega)]; simp
  · rename_i c hc
    exact news_rep (peekL_rep h.T hx hr)
  · cases hx
theorem gen_get {i : Nat} {x : Blk} (o : Obj) (k : Nat) : (m.gen i x o).get k = if k = m.nxt then some { obj := o, root := x.root } else if i = k then some { x with sup := true } else m.get k := by
  simp only [M.gen, M.get_bump, M.get_set]
  by_cases e : k = m.nxt
  · subst e; simp
  · rw [if_neg e, if_neg (Ne.symm e)]
theorem vappend_sound (h : Rel P S0 env m a vs) {t : TypeId} {hot : Bool} {xt : Option TypeId} {s x : Sl} {ws wx : Value} (hs : repV P (vs.cx S0 env m) s ws) (hx : repV P (vs.cx S0 env m) x wx) {g : Option Bool} {y : Sl} {vs1 : VS} (hg : Holds' g) : vappend P t hot xt s x vs = some (g, y, vs1) →
    ∃ v m1 env1, iappend P t xt ws wx m = some (v, m1) ∧ Rel P S0 env1 m1 a vs1 ∧ Stp (vs.cx S0 env m) (vs1.cx S0 env1 m1) ∧ repV P (vs1.cx S0 env1 m1) y v := by
  have main : ∀ {e : TypeId} {ty : Ty}, elTy P t = some (e, ty) → ((∃ q, xt.bind P.underlying = some (.slice q)) ∨ xt.bind P.underlying = some .string) →
      vappendC P e ty hot s x vs = some (g, y, vs1) → ∃ v m1 env1, iappend P t xt ws wx m = some (v, m1) ∧ Rel P S0 env1 m1 a vs1 ∧ Stp (vs.cx S0 env m) (vs1.cx S0 env1 m1) ∧ repV P (vs1.cx S0 env1 m1) y v := by
    intro e ty hel hxt hv
    obtain ⟨hu, hn, hce, ti, hti, hsz, hby⟩ := elTy_some hel
    unfold vappendC at hv
    split at hv
    · rename_i ys z hys hz
      split at hv
      · rename_i hzn
        obtain ⟨cs, hnews, hels⟩ := newsL_rep h hys hx
        have hone := hels.all_one hn
        have hf' : m.get m.nxt = none := h.T.free m.nxt (Nat.le_refl _)
        have hcs0 : ys = [] → cs = #[] := fun hy => Array.eq_empty_of_size_eq_zero (by rw [hels.1, hy]; simp)
        have core : ∀ {base len cap r}, ws = .slice base len cap → iappendCore P e ti base len cap wx m = some r → iappend P t xt ws wx m = some r := by
          intro base len cap r hw hr
          unfold iappend
          rw [hu, hw]
          dsimp only
          rw [hti, hz]
          dsimp only
          rw [if_neg (by omega)]
          rcases hxt with ⟨q, hq⟩ | hq <;> rw [hq] <;> exact hr
        have empty : ∀ {base len cap}, len ≤ cap → ys = [] → iappendCore P e ti base len cap wx m = some (.slice base len cap, m) := by
          intro base len cap hl hy
          unfold iappendCore
          rw [hsz, hnews]
          dsimp only
          rw [if_pos (by rw [hy]; rfl), if_pos hl]
        have big : ∀ {len : Nat}, len + ys.length < lim → ¬ ((len + ys.length) * ti.bytes > 140737488355328 ∨ len + ys.length > 9223372036854775807 ∨ cs.all one = false) := by
          intro len hl
          unfold lim at hl
          have : (len + ys.length) * ti.bytes ≤ 1099511627776 * 128 := Nat.mul_le_mul (by omega) hby
          rw [hone]
          simp; omega
        have newOf : ∀ c : Array Value, m.new c e = some (⟨m.nxt, 0, none⟩, m.mk1 (.cells c e)) := fun c => by unfold M.new; rw [hf']
        have onNil : ys ≠ [] → ys.length < lim → capE ws → iappend P t xt ws wx m = some (.slice (some ⟨m.nxt, 0, none⟩) ys.length ys.length, m.mk1 (.cells cs e)) := by
          intro hy hlim hcE
          have hpos : 0 < ys.length := List.length_pos_iff.2 hy
          rcases hcE with q | ⟨i, o, q⟩
          · refine core q ?_
            unfold iappendCore
            rw [hsz, hnews]
            dsimp only
            rw [if_neg (by omega), if_neg (big (by omega)), if_pos ⟨rfl, rfl⟩, newOf]
          · refine core q ?_
            unfold iappendCore
            rw [hsz, hnews]
            dsimp only
            rw [if_neg (by omega), if_neg (big (by omega)), if_neg (by omega), if_pos rfl, newOf]
        have emptyE : capE ws → ys = [] → iappend P t xt ws wx m = some (ws, m) := by
          intro hcE hy
          rcases hcE with q | ⟨i, o, q⟩
          · rw [core q (empty (Nat.le_refl _) hy), q]
          · rw [core q (empty (Nat.le_refl _) hy), q]
        have onCap : ∀ {xs : List ty.El} {i o n : Nat} {S1 : Nat → Prop}, ys ≠ [] → n + ys.length < lim → ws = .slice (some ⟨i, o, some 0⟩) n n → repL P S1 m ty.n (repE P (vs.S S0 env) m ty) xs ws →
            ∃ c, Els P (vs.S S0 env) m ty (xs ++ ys) c ∧ iappend P t xt ws wx m = some (.slice (some ⟨m.nxt, 0, none⟩) (xs ++ ys).length (xs ++ ys).length, m.mk1 (.cells c e)) := by
          intro xs i o n S1 hy hlim hw hrep
          have hpos : 0 < ys.length := List.length_pos_iff.2 hy
          by_cases hxs : xs = []
          · subst hxs
            have hn0 : n = 0 := by
              rw [hw] at hrep
              rcases hrep with ⟨q, _⟩ | ⟨i', o', sp', cap', q, _⟩
              · cases q
              · cases q; rfl
            subst hn0
            exact ⟨cs, hels, onNil hy (by omega) (.inr ⟨i, o, hw⟩)⟩
          · rw [hw] at hrep
            obtain ⟨hnl, _, c, e', h4, _, h6, h7, h8⟩ := repL_Els hxs hrep
            have hpx : 0 < xs.length := List.length_pos_iff.2 hxs
            refine ⟨_, h8.append hels, core hw ?_⟩
            unfold iappendCore
            rw [hsz, hnews]
            dsimp only
            rw [if_neg (by omega), if_neg (big hlim), if_neg (by omega), if_neg (by omega), h4, hnl, h7]
            dsimp only
            rw [if_pos h6, newOf, List.length_append]
        revert hs
        split at hv
        · rename_i v
          intro hs
          obtain ⟨rfl, _⟩ := hs
          cases hnil : nilSl ws with
          | false => rw [hnil] at hv; cases hv
          | true =>
            rw [hnil] at hv
            simp only [cond_true, Option.some.injEq, Prod.mk.injEq] at hv
            obtain ⟨rfl, hv⟩ := hv
            have hlim := decide_eq (hg _ rfl)
            have hws := nilSl_eq hnil
            have e1 : y = (newB hot vs ty ys).1 := by rw [hv]
            have e2 : vs1 = (newB hot vs ty ys).2 := by rw [hv]
            subst e1; subst e2
            by_cases hy : ys = []
            · obtain ⟨env1, k1, k2, k3⟩ := h.newBE (hot := hot) (ty := ty) (v := ws) hn (.inl hws)
              have hem := emptyE (.inl hws) hy
              subst hy
              exact ⟨_, _, _, hem, k1, k2, k3⟩
            · obtain ⟨_, env1, k1, k2, k3⟩ := h.newB (hot := hot) hn hce (newOf cs) hels (fun _ => hy)
              exact ⟨_, _, _, onNil hy hlim (.inl hws), k1, k2, k3⟩
        · rename_i j
          intro hs
          split at hv
          · rename_i b hb
            split at hv
            · rename_i xs hxs
              obtain ⟨hbe, rfl⟩ := castL_some hxs
              obtain ⟨be, bxs, blive, bcap⟩ := b
              dsimp only at hbe hv
              subst hbe
              dsimp only at hv
              cases hlv : blive with
              | false => rw [hlv] at hv; cases hv
              | true =>
                subst hlv
                simp only [cond_true, Option.some.injEq, Prod.mk.injEq] at hv
                obtain ⟨rfl, hv⟩ := hv
                have hlim := decide_eq (hg _ rfl)
                have e1 : y = (newBufC bcap { vs with bf := freeze vs.bf j } be (bxs ++ ys)).1 := by rw [hv]
                have e2 : vs1 = (newBufC bcap { vs with bf := freeze vs.bf j } be (bxs ++ ys)).2 := by rw [hv]
                subst e1; subst e2
                obtain ⟨b', hb1, hws⟩ := hs
                have hb1' : vs.bf[j]? = some b' := hb1
                rw [hb] at hb1'; cases hb1'
                have hB := h.T.bf j _ hb
                have hB2 := hB.2
                rw [show (vs.cx S0 env m).env.τ j = env.τ j from rfl] at hB2 hws
                by_cases hy : ys = []
                · subst hy
                  have hv0 : ∃ base len cap, ws = .slice base len cap ∧ len ≤ cap := by
                    unfold bufW at hws
                    split at hws
                    · rcases hws.1 with q | ⟨i, o, n, q⟩
                      · exact ⟨_, _, _, q, Nat.le_refl _⟩
                      · exact ⟨_, _, _, q, Nat.le_refl _⟩
                    · exact ⟨_, _, _, hws, Nat.le_refl _⟩
                  obtain ⟨base, len, cap, hw, hlc⟩ := hv0
                  have hem := core hw (empty hlc rfl)
                  rw [← hw] at hem
                  have happ : bxs ++ ([] : List be.El) = bxs := List.append_nil _
                  rw [happ]
                  obtain ⟨k1, k2, k3⟩ := h.useBuf (m1 := m) hb rfl (ty := be) (xs := bxs) (t := env.τ j) (Fr2.refl h.T.free) (fun i hi => .inl hi) (by
                    refine ⟨hn, ?_⟩
                    show (match (env.setτ vs.bf.length (env.τ j)).τ vs.bf.length with | none => _ | some i => _)
                    rw [setτ_new]
                    exact hB2) (v := ws) hws
                  exact ⟨_, _, _, hem, k1, k2, k3⟩
                · have hpos : 0 < ys.length := List.length_pos_iff.2 hy
                  cases hτ : env.τ j with
                  | none =>
                    rw [hτ] at hws
                    obtain ⟨hcap, hrep⟩ := hws
                    have fin : ∀ {c : Array Value}, Els P (vs.S S0 env) m be (bxs ++ ys) c → iappend P t xt ws wx m = some (.slice (some ⟨m.nxt, 0, none⟩) (bxs ++ ys).length (bxs ++ ys).length, m.mk1 (.cells c e)) →
                        ∃ v m1 env1, iappend P t xt ws wx m = some (v, m1) ∧ Rel P S0 env1 m1 a (newBufC bcap { vs with bf := freeze vs.bf j } be (bxs ++ ys)).2 ∧ Stp (vs.cx S0 env m) ((newBufC bcap { vs with bf := freeze vs.bf j } be (bxs ++ ys)).2.cx S0 env1 m1) ∧ repV P ((newBufC bcap { vs with bf := freeze vs.bf j } be (bxs ++ ys)).2.cx S0 env1 m1) (newBufC bcap { vs with bf := freeze vs.bf j } be (bxs ++ ys)).1 v := by
                      intro c hc hi
                      have hmono : Mono (vs.S S0 env) m (vs.S S0 env) (m.mk1 (.cells c e)) := (fr2_mk1 h.T.free (.cells c e)).mono_row h.T.free (fun _ w => w.elim) (fun i w => .inl w)
                      obtain ⟨k1, k2, k3⟩ := h.useBuf (m1 := m.mk1 (.cells c e)) hb rfl (ty := be) (xs := bxs ++ ys) (t := some m.nxt) ((fr2_mk1 h.T.free _).mono (fun _ w => w) (fun _ w => w.elim)) (fun i hi => by cases hi; exact .inr (Nat.le_refl _)) (by
                        refine ⟨hn, ?_⟩
                        show (match (env.setτ vs.bf.length (some m.nxt)).τ vs.bf.length with | none => _ | some i => _)
                        rw [setτ_new]
                        refine ⟨fun w => absurd (h.T.slt _ w) (Nat.lt_irrefl _), _, c, e, (0, 0), alive_mk1_new _, rfl, hce, rfl, hc.1, (hc.mono hmono).2, fun _ => ⟨rfl, Nat.le_succ _⟩⟩) (v := .slice (some ⟨m.nxt, 0, none⟩) (bxs ++ ys).length (bxs ++ ys).length) rfl
                      exact ⟨_, _, _, hi, k1, k2, k3⟩
                    rcases hcap with q | ⟨i, o, n, q⟩
                    · have hb0 : bxs = [] := by
                        rw [q] at hrep
                        rcases hrep with ⟨_, h1⟩ | ⟨_, _, _, _, h1, _⟩
                        · exact h1
                        · cases h1
                      subst hb0
                      simp only [List.length_nil] at hlim
                      exact fin hels (onNil hy (by omega) (.inl q))
                    · have hnl : n = bxs.length := by
                        rw [q] at hrep
                        rcases hrep with ⟨h1, _⟩ | ⟨_, _, _, _, h1, _⟩
                        · cases h1
                        · cases h1; rfl
                      obtain ⟨c, h1, h2⟩ := onCap hy (by rw [hnl]; exact hlim) q hrep
                      exact fin h1 h2
                  | some i =>
                    rw [hτ] at hB2 hws
                    have hws' : ws = .slice (some ⟨i, 0, none⟩) bxs.length bxs.length := hws
                    obtain ⟨hS, k, c, e', fr, h3, h4, h5, h6, h7, h8, h9⟩ := hB2
                    obtain ⟨h10, h11⟩ := h9 rfl
                    have h3' : m.alive i = some k := h3
                    have hels0 : Els P (vs.S S0 env) m be bxs c := ⟨h7, h8⟩
                    have hfr := fr2_gen (.cells (c ++ cs) e' fr) h.T.free h3' h10
                    have hmono : Mono (vs.S S0 env) m (vs.S S0 env) (m.gen i k (.cells (c ++ cs) e' fr)) := hfr.mono_row h.T.free (fun _ w => w.elim) (fun i w => .inl w)
                    have hels2 := (hels0.append hels).mono hmono
                    obtain ⟨k1, k2, k3⟩ := h.useBuf (m1 := m.gen i k (.cells (c ++ cs) e' fr)) hb rfl (ty := be) (xs := bxs ++ ys) (t := some m.nxt) (hfr.mono (fun _ w => w) (fun q w => .inl (by rw [w]; exact hτ))) (fun i hi => by cases hi; exact .inr (Nat.le_refl _)) (by
                      refine ⟨hn, ?_⟩
                      show (match (env.setτ vs.bf.length (some m.nxt)).τ vs.bf.length with | none => _ | some i => _)
                      rw [setτ_new]
                      refine ⟨fun w => absurd (h.T.slt _ w) (Nat.lt_irrefl _), _, c ++ cs, e', fr, alive_gen_new _ hf' h3', rfl, h5, rfl, hels2.1, hels2.2, fun _ => ⟨rfl, ?_⟩⟩
                      exact Nat.le_trans h11 (Nat.le_succ _)) (v := .slice (some ⟨m.nxt, 0, none⟩) (bxs.length + ys.length) (bxs.length + ys.length)) (by show _ = _; rw [List.length_append])
                    refine ⟨_, _, _, core hws' ?_, k1, k2, k3⟩
                    unfold iappendCore
                    rw [hsz, hnews]
                    dsimp only
                    rw [if_neg (by omega), if_neg (big hlim), h3']
                    dsimp only
                    rw [h4]
                    dsimp only
                    have hcs : c.size = bxs.length * ti.size := by rw [h7, hsz]
                    rw [← hsz]
                    rw [if_neg (by rw [h5, hsz]; simp), if_neg (by omega), if_neg (by rw [h6, hcs]; simp), if_pos ⟨rfl, rfl, h10, hcs, h11⟩, hf']
            · cases hv
          · cases hv
        · rename_i e0 xs
          intro hs
          split at hv
          · rename_i he
            subst he
            simp only [Option.some.injEq, Prod.mk.injEq] at hv
            obtain ⟨rfl, hv⟩ := hv
            obtain ⟨hle, hlim⟩ := decide_eq (hg _ rfl)
            obtain ⟨hcE, hor⟩ := hs
            have e1 : y = (newB hot vs e0 ys).1 := by rw [hv]
            have e2 : vs1 = (newB hot vs e0 ys).2 := by rw [hv]
            subst e1; subst e2
            by_cases hy : ys = []
            · obtain ⟨env1, k1, k2, k3⟩ := h.newBE (hot := hot) (ty := e0) (v := ws) hn hcE
              have hem := emptyE hcE hy
              subst hy
              exact ⟨_, _, _, hem, k1, k2, k3⟩
            · obtain ⟨_, env1, k1, k2, k3⟩ := h.newB (hot := hot) hn hce (newOf cs) hels (fun _ => hy)
              exact ⟨_, _, _, onNil hy hlim hcE, k1, k2, k3⟩
          · cases hv
        · rename_i e0 j
          intro hs
          split at hv
          · rename_i own e1 xs0 hj0
            split at hv
            · rename_i xs hc
              obtain ⟨hc1, hc2⟩ := castL_eq hc
              subst hc1
              subst hc2
              split at hv
              · rename_i he
                subst he
                simp only [Option.some.injEq, Prod.mk.injEq] at hv
                obtain ⟨rfl, hv⟩ := hv
                have hlim := decide_eq (hg _ rfl)
                have hj : vs.bx[j]? = some [.r own e0 xs0] := hj0
                have e1 : y = (newRunO own { vs with bx := setL vs.bx j [.g] } e0 (xs0 ++ ys)).1 := by rw [hv]
                have e2 : vs1 = (newRunO own { vs with bx := setL vs.bx j [.g] } e0 (xs0 ++ ys)).2 := by rw [hv]
                subst e1; subst e2
                obtain ⟨g1, g2⟩ := run_val (e' := e0) h.T hj hs
                have hbox := h.T.bx j _ hj
                obtain ⟨⟨hpos, hR⟩, hown⟩ := hbox
                have hjl : j < vs.bx.length := lt_of_get hj
                by_cases hxs : xs0 = []
                · subst hxs
                  have hcE := g1 rfl
                  by_cases hy : ys = []
                  · have hem := emptyE hcE hy
                    subst hy
                    obtain ⟨k1, k2, k3⟩ := h.moveRun (own' := own) (ys := []) (m1 := m) (i := 0) (p := fun _ => False) hj (Fr2.refl h.T.free) (fun q w => w.elim) (fun w => absurd rfl w) ⟨⟨hn, fun w => absurd rfl w⟩, fun _ w => absurd rfl w⟩ (v := ws) ⟨fun _ => hcE, fun w => absurd rfl w⟩
                    exact ⟨_, _, _, hem, k1, k2, k3⟩
                  · have hlim' : ys.length < lim := by simpa using hlim
                    have hfr := fr2_mk1 h.T.free (.cells cs e)
                    have hnew : RunOK P ((V.newRunO own { vs with bx := setL vs.bx j [.g] } e0 ys).2.cx S0 ((env.setβ vs.bx.length m.nxt).addφ (fun _ => False)) (m.mk1 (.cells cs e))) vs.bx.length false e0 ys := by
                      refine ⟨hn, fun _ => ?_⟩
                      have hβ : ((env.setβ vs.bx.length m.nxt).addφ (fun _ => False)).β vs.bx.length = m.nxt := setβ_new _ _ _
                      show ∃ k c' eo fr, (m.mk1 _).alive (((env.setβ vs.bx.length m.nxt).addφ (fun _ => False)).β vs.bx.length) = some k ∧ _
                      rw [hβ]
                      refine ⟨_, cs, e, (0, 0), alive_mk1_new _, rfl, rfl, rfl, ⟨Nat.le_succ _, fun q => by cases q⟩, fun _ => hce, hels.1, ?_, ⟨_, by show (m.mk1 _).get m.nxt = _; rw [get_mk1, if_pos rfl], rfl⟩, fun q b hb hr => ?_⟩
                      · refine (hels.mono (S' := (V.newRunO own { vs with bx := setL vs.bx j [.g] } e0 ys).2.S S0 ((env.setβ vs.bx.length m.nxt).addφ (fun _ => False))) (m' := m.mk1 (.cells cs e)) (hfr.mono_row h.T.free (fun _ w => w.elim) (fun q w => ?_))).2
                        rcases w with w | ⟨t, h1, h3, h2⟩ | w
                        · exact .inl (.inl w)
                        · have h1' : t < (setL vs.bx j [Cl.g] ++ [[Cl.r own e0 ys]]).length := h1
                          simp only [List.length_append, setL_length, List.length_cons, List.length_nil] at h1'
                          have h3' : hasOf (setL vs.bx j [.g] ++ [[.r own e0 ys]]) t = true := h3
                          rw [hasOf_app, setL_length, hasOf_setL hj] at h3'
                          have h2' : (env.setβ vs.bx.length m.nxt).β t = q := h2
                          by_cases e3 : t = vs.bx.length
                          · subst e3; rw [setβ_new] at h2'; exact .inr (by show m.nxt ≤ q; omega)
                          · rw [if_neg e3] at h3'
                            rw [setβ_old _ _ e3] at h2'
                            split at h3'
                            · cases h3'
                            · exact .inl (.inr (.inl ⟨t, by omega, h3', h2'⟩))
                        · exact .inl (.inr (.inr (w.elim id False.elim)))
                      · have hb' : (m.mk1 (.cells cs e)).get q = some b := hb
                        rw [get_mk1] at hb'
                        split at hb'
                        · rename_i e3; left; rw [e3]; exact hβ.symm
                        · have := h.T.rts.lt h.T.free hb'
                          have hr' : b.root = m.nxt := hr
                          have this' : b.root < m.nxt := this
                          omega
                    have hi := onNil hy hlim' hcE
                    obtain ⟨k1, k2, k3⟩ := h.moveRun (own' := own) (ys := ys) (m1 := m.mk1 (.cells cs e)) (i := m.nxt) (p := fun _ => False) hj (hfr.mono (fun _ w => w.elim) (fun _ w => w.elim)) (fun q w => w.elim) (fun _ => ⟨Nat.lt_succ_self _, .inr (Nat.le_refl _)⟩) ⟨hnew, fun _ _ w => by
                      have w' : S0 ((env.setβ vs.bx.length m.nxt).β vs.bx.length) := w
                      rw [setβ_new] at w'
                      exact absurd (h.T.slt m.nxt (.inl w')) (Nat.lt_irrefl _)⟩ (v := .slice (some ⟨m.nxt, 0, none⟩) ys.length ys.length) ⟨fun w => absurd w hy, fun _ => rfl⟩
                    exact ⟨_, _, _, hi, k1, k2, k3⟩
                · have hws := g2 hxs
                  obtain ⟨k, c, eo, fr, h3, h4, h5, h6, h7, h8, h9, h10, ⟨rb, h11, h12⟩, h13⟩ := hR hxs
                  have hce2 := h8 rfl
                  have h3' : m.alive (env.β j) = some k := h3
                  have hβS : vs.S S0 env (env.β j) := h.T.inS j hjl ((hasOf_get hj).trans (has1_run hxs))
                  by_cases hy : ys = []
                  · subst hy
                    have happ : xs0 ++ ([] : List e0.El) = xs0 := List.append_nil _
                    rw [happ]
                    have hem := core hws (empty (Nat.le_refl _) rfl)
                    rw [← show ws = _ from hws] at hem
                    have hsub : ∀ q, (V.newRunO own { vs with bx := setL vs.bx j [.g] } e0 xs0).2.S S0 ((env.setβ vs.bx.length (env.β j)).addφ (fun _ => False)) q → vs.S S0 env q := by
                      intro q w
                      rcases w with w | ⟨t, h1, h3, h2⟩ | w
                      · exact .inl w
                      · have h1' : t < (setL vs.bx j [Cl.g] ++ [[Cl.r own e0 xs0]]).length := h1
                        simp only [List.length_append, setL_length, List.length_cons, List.length_nil] at h1'
                        have h3' : hasOf (setL vs.bx j [.g] ++ [[.r own e0 xs0]]) t = true := h3
                        rw [hasOf_app, setL_length, hasOf_setL hj] at h3'
                        have h2' : (env.setβ vs.bx.length (env.β j)).β t = q := h2
                        by_cases e3 : t = vs.bx.length
                        · subst e3; rw [setβ_new] at h2'; rw [← h2']; exact hβS
                        · rw [if_neg e3] at h3'
                          rw [setβ_old _ _ e3] at h2'
                          split at h3'
                          · cases h3'
                          · exact .inr (.inl ⟨t, by omega, h3', h2'⟩)
                      · exact .inr (.inr (w.elim id False.elim))
                    have hβn : ((env.setβ vs.bx.length (env.β j)).addφ (fun _ => False)).β vs.bx.length = env.β j := setβ_new _ _ _
                    have hnew : RunOK P ((V.newRunO own { vs with bx := setL vs.bx j [.g] } e0 xs0).2.cx S0 ((env.setβ vs.bx.length (env.β j)).addφ (fun _ => False)) m) vs.bx.length false e0 xs0 :=
                      RunOK.le (X := vs.cx S0 env m) (Y := (V.newRunO own { vs with bx := setL vs.bx j [.g] } e0 xs0).2.cx S0 ((env.setβ vs.bx.length (env.β j)).addφ (fun _ => False)) m) (Wb := fun _ => False) (Wl := fun _ => False) h.T.free h.T.rts (Fr2.refl h.T.free) (fun q r hr hS => ⟨hr, fun w => hS (hsub q w)⟩) (fun q w => .inl w) (fun _ => hβn) ⟨hpos, hR⟩ (fun _ w => w) (fun _ w => w)
                    obtain ⟨k1, k2, k3⟩ := h.moveRun (own' := own) (ys := xs0) (m1 := m) (i := env.β j) (p := fun _ => False) hj (Fr2.refl h.T.free) (fun q w => w.elim) (fun _ => ⟨h.T.slt _ hβS, .inl ⟨hxs, rfl, fun w => w⟩⟩) ⟨hnew, fun o1 o2 w => hown o1 o2 (by
                      have w' : S0 ((env.setβ vs.bx.length (env.β j)).β vs.bx.length) := w
                      rw [setβ_new] at w'
                      exact w')⟩ (v := ws) ⟨fun w => absurd w hxs, fun _ => hws⟩
                    exact ⟨_, _, _, hem, k1, k2, k3⟩
                  · have hpos2 : 0 < ys.length := List.length_pos_iff.2 hy
                    have hne : xs0 ++ ys ≠ [] := fun w => hxs (List.append_eq_nil_iff.1 w).1
                    have hels0 : Els P (vs.S S0 env) m e0 xs0 c := ⟨h9, h10⟩
                    have hfr := fr2_gen (.cells (c ++ cs) eo fr) h.T.free h3' h6
                    have hi : iappend P t xt ws wx m = some (.slice (some ⟨m.nxt, 0, none⟩) (xs0 ++ ys).length (xs0 ++ ys).length, m.gen (env.β j) k (.cells (c ++ cs) eo fr)) := by
                      refine core hws ?_
                      unfold iappendCore
                      rw [hsz, hnews]
                      dsimp only
                      rw [if_neg (by omega), if_neg (big hlim), show (vs.cx S0 env m).env.β j = env.β j from rfl, h3']
                      dsimp only
                      rw [h4]
                      dsimp only
                      have hcs : c.size = xs0.length * ti.size := by rw [h9, hsz]
                      rw [← hsz]
                      rw [if_neg (by rw [hce2, hsz]; simp), if_neg (by omega), if_neg (by rw [h5, hcs]; simp), if_pos ⟨rfl, rfl, h6, hcs, h7.1⟩, hf', List.length_append]
                    generalize hen : (env.setβ vs.bx.length m.nxt).addφ (fun q => q = env.β j) = env2
                    have hβn : env2.β vs.bx.length = m.nxt := by rw [← hen]; exact setβ_new _ _ _
                    have hφ2 : ∀ q, env2.φ q ↔ env.φ q ∨ q = env.β j := fun q => by rw [← hen]; exact Iff.rfl
                    have hβo : ∀ t, t ≠ vs.bx.length → env2.β t = env.β t := fun t ht => by rw [← hen]; exact setβ_old _ _ ht
                    have hsub : ∀ q, (V.newRunO own { vs with bx := setL vs.bx j [.g] } e0 (xs0 ++ ys)).2.S S0 env2 q → vs.S S0 env q ∨ m.nxt ≤ q := by
                      intro q w
                      rcases w with w | ⟨t, h1, h3, h2⟩ | w
                      · exact .inl (.inl w)
                      · have h1' : t < (setL vs.bx j [Cl.g] ++ [[Cl.r own e0 (xs0 ++ ys)]]).length := h1
                        simp only [List.length_append, setL_length, List.length_cons, List.length_nil] at h1'
                        have h3' : hasOf (setL vs.bx j [.g] ++ [[.r own e0 (xs0 ++ ys)]]) t = true := h3
                        rw [hasOf_app, setL_length, hasOf_setL hj] at h3'
                        by_cases e3 : t = vs.bx.length
                        · subst e3; rw [hβn] at h2; exact .inr (by show m.nxt ≤ q; omega)
                        · rw [if_neg e3] at h3'
                          rw [hβo t e3] at h2
                          split at h3'
                          · cases h3'
                          · exact .inl (.inr (.inl ⟨t, by omega, h3', h2⟩))
                      · rcases (hφ2 q).1 w with w | w
                        · exact .inl (.inr (.inr w))
                        · exact .inl (by rw [w]; exact hβS)
                    have hmono : Mono (vs.S S0 env) m ((V.newRunO own { vs with bx := setL vs.bx j [.g] } e0 (xs0 ++ ys)).2.S S0 env2) (m.gen (env.β j) k (.cells (c ++ cs) eo fr)) := hfr.mono_row h.T.free (fun _ w => w.elim) hsub
                    have hels2 := (hels0.append hels).mono hmono
                    have hnew : RunOK P ((V.newRunO own { vs with bx := setL vs.bx j [.g] } e0 (xs0 ++ ys)).2.cx S0 env2 (m.gen (env.β j) k (.cells (c ++ cs) eo fr))) vs.bx.length false e0 (xs0 ++ ys) := by
                      refine ⟨hn, fun _ => ?_⟩
                      show ∃ k' c' eo' fr', (m.gen (env.β j) k (.cells (c ++ cs) eo fr)).alive (env2.β vs.bx.length) = some k' ∧ _
                      rw [hβn]
                      have hkr : k.root ≠ m.nxt := by have : k.root < m.nxt := h.T.rts.lt h.T.free (alive_get h3'); omega
                      refine ⟨_, c ++ cs, eo, fr, alive_gen_new _ hf' h3', rfl, rfl, rfl, ⟨Nat.le_trans h7.1 (Nat.le_succ _), fun q => by cases q⟩, fun _ => hce2, hels2.1, hels2.2, ?_, fun q b hb hr => ?_⟩
                      · show ∃ rb, (m.gen (env.β j) k (.cells (c ++ cs) eo fr)).get k.root = some rb ∧ rb.root = k.root
                        rw [gen_get, if_neg hkr]
                        split
                        · rename_i e3
                          have h11' : m.get k.root = some rb := h11
                          rw [← e3, alive_get h3'] at h11'
                          cases h11'
                          exact ⟨_, rfl, rfl⟩
                        · exact ⟨rb, h11, h12⟩
                      · have hb' : (m.gen (env.β j) k (.cells (c ++ cs) eo fr)).get q = some b := hb
                        rw [gen_get] at hb'
                        split at hb'
                        · rename_i e3; left; rw [e3]; exact hβn.symm
                        · split at hb'
                          · rename_i e3; cases hb'; exact .inr ⟨(hφ2 q).2 (.inr e3.symm), rfl⟩
                          · rename_i e3
                            rcases h13 q b hb' hr with w | ⟨w, w2⟩
                            · exact absurd w.symm e3
                            · exact .inr ⟨(hφ2 q).2 (.inl w), w2⟩
                    subst hen
                    obtain ⟨k1, k2, k3⟩ := h.moveRun (own' := own) (ys := xs0 ++ ys) (i := m.nxt) (p := fun q => q = env.β j) hj (hfr.mono (fun _ w => w.elim) (fun q w => .inr ⟨hxs, w⟩)) (fun q w => ⟨hxs, w⟩) (fun _ => ⟨Nat.lt_succ_self _, .inr (Nat.le_refl _)⟩) ⟨hnew, fun _ _ w => by
                      have w' : S0 ((env.setβ vs.bx.length m.nxt).β vs.bx.length) := w
                      rw [setβ_new] at w'
                      exact absurd (h.T.slt m.nxt (.inl w')) (Nat.lt_irrefl _)⟩ (v := .slice (some ⟨m.nxt, 0, none⟩) (xs0 ++ ys).length (xs0 ++ ys).length) ⟨fun w => absurd w hne, fun _ => rfl⟩
                    exact ⟨_, _, _, hi, k1, k2, k3⟩
              · cases hv
            · cases hv
          · cases hv
        · rename_i e0 j o n
          intro hs
          split at hv
          · rename_i he
            subst he
            simp only [Option.map_eq_some_iff] at hv
            obtain ⟨xs, hrun, hv⟩ := hv
            simp only [Prod.mk.injEq] at hv
            obtain ⟨rfl, hv⟩ := hv
            obtain ⟨hpos, hlim⟩ := decide_eq (hg _ rfl)
            have hy : ys ≠ [] := List.length_pos_iff.1 hpos
            have e1 : y = (newB hot vs e0 ((xs.drop o).take n ++ ys)).1 := by rw [hv]
            have e2 : vs1 = (newB hot vs e0 ((xs.drop o).take n ++ ys)).2 := by rw [hv]
            subst e1; subst e2
            have hrep := peekL_rep (c := .w e0 j o n true) (e := e0) (xs := (xs.drop o).take n) h.T (by unfold peekL; dsimp only; rw [if_pos rfl, hrun]; rfl) hs
            obtain ⟨own, hj⟩ := runAt_some hrun
            have hL : (vs.cx S0 env m).len j = some xs.length := lenOf_get hj
            obtain ⟨_, _, hw⟩ := hs
            obtain ⟨q1, q2, q3⟩ := hw _ hL
            have hne : (xs.drop o).take n ++ ys ≠ [] := fun w => hy (List.append_eq_nil_iff.1 w).2
            by_cases hx0 : xs.length = 0
            · have hcE := q2 hx0
              have hxe : (xs.drop o).take n = [] := by
                rw [List.eq_nil_of_length_eq_zero hx0]; simp
              rw [hxe, List.nil_append] at hne ⊢
              obtain ⟨_, env1, k1, k2, k3⟩ := h.newB (hot := hot) hn hce (newOf cs) hels (fun _ => hne)
              exact ⟨_, _, _, onNil hy (by omega) hcE, k1, k2, k3⟩
            · obtain ⟨sp, cap, hwv, c1, c2, c3⟩ := q3 (by omega)
              obtain ⟨rfl, rfl⟩ := c3 rfl
              obtain ⟨c, h1, h2⟩ := onCap hy hlim hwv hrep
              obtain ⟨_, env1, k1, k2, k3⟩ := h.newB (hot := hot) hn hce (newOf c) h1 (fun _ => hne)
              exact ⟨_, _, _, h2, k1, k2, k3⟩
          · cases hv
        · intro _; cases hv
      · cases hv
    · cases hv
  intro hv
  unfold vappend at hv
  split at hv
  · rename_i e ty q h1 h2
    exact main h1 (.inl ⟨q, h2⟩) hv
  · rename_i e ty h1 h2
    exact main h1 (.inr h2) hv
  · cases hv
end Go.IM.V
namespace Go.IM.V
open Go Go.IM
variable {P : Program} {m m1 : M} {S0 : Nat → Prop} {env : Env} {a : Act} {vs : VS} {X : Cx}
theorem Els_int {S : Nat → Prop} {k : IntKind} {xs : List Int} {c : Array Value} (h : Els P S m (.i k) xs c) : c.toList = xs.map (Value.int k ·) := by
  have hs : c.size = xs.length := by rw [h.1]; simp [Ty.n]
  apply List.ext_getElem?
  intro q
  rw [Array.getElem?_toList, List.getElem?_map]
  by_cases hq : q < xs.length
  · have := h.2 q xs[q] (by simp [hq])
    simp only [Ty.n, Nat.mul_one] at this
    have h2 : (c.extract q (q + 1)).toList[0]? = some (Value.int k xs[q]) := by
      have h3 : (c.extract q (q + 1)).toList = [Value.int k xs[q]] := this
      rw [h3]; rfl
    rw [Array.getElem?_toList, Array.getElem?_extract, if_pos (by omega)] at h2
    rw [Nat.add_zero] at h2
    rw [h2]; simp [hq]
  · rw [Array.getElem?_eq_none (by omega), List.getElem?_eq_none (by omega)]; rfl
theorem bytesOf_ints : ∀ (xs : List Int), bytesOf (xs.map (Value.int .u8 ·)) = some (xs.map fun n => UInt8.ofNat n.toNat) := by
  intro xs
  induction xs with
  | nil => rfl
  | cons x xs ih => simp only [List.map_cons, bytesOf]; rw [ih]; rfl
theorem unV_rep' {s : Sl} {w : Value} (h : repV P X s w) : repS P X (unV s) w := by
  cases s with
  | v s => exact h
  | t l => trivial
theorem istring_rep {S1 S : Nat → Prop} {xs : List Int} {w : Value} (h : repL P S1 m (Ty.i .u8).n (repE P S m (.i .u8)) xs w) : istringOf w m = some (.string (strL xs)) := by
  by_cases hx : xs = []
  · subst hx
    rcases h with ⟨rfl, _⟩ | ⟨i, o, sp, cap, rfl, _⟩
    · rfl
    · unfold istringOf
      simp only [List.length_nil]
      cases hq : m.cells i o 0 with
      | none => rfl
      | some cs =>
        have : cs = #[] := by
          unfold M.cells at hq
          split at hq
          · split at hq
            · cases hq; simp; omega
            · cases hq
          · cases hq
        subst this
        rfl
  · rcases h with ⟨_, h⟩ | ⟨i, o, sp, cap, rfl, hr⟩
    · exact absurd h hx
    · obtain ⟨_, _, c, e, h1, h2, h3, h4, h5⟩ := repL_Els (ty := .i .u8) hx (.inr ⟨i, o, sp, cap, rfl, hr⟩)
      simp only [Ty.n, Nat.mul_one] at h4 h5
      unfold istringOf
      dsimp only
      rw [h4]
      dsimp only
      rw [Els_int h5, bytesOf_ints]
      rfl
theorem vconvert_sound (h : Rel P S0 env m a vs) {o : Oper} {src dst : TypeId} {hot : Bool} {x : Sl} {w : Value} (hx : repV P (vs.cx S0 env m) x w) {g : Option Bool} {y : Sl} {vs1 : VS} (hv : vconvert P src dst hot x vs = some (g, y, vs1)) (hg : ∀ b, g = some b → b = true) :
    ∃ v m1 env1, iconvert P a.eval o src dst w m = some (.val v m1) ∧ Rel P S0 env1 m1 a vs1 ∧ Stp (vs.cx S0 env m) (vs1.cx S0 env1 m1) ∧ repV P (vs1.cx S0 env1 m1) y v := by
  unfold vconvert at hv
  split at hv
  · rename_i e s hs hd
    split at hv
    · rename_i hu
      split at hv
      · rename_i hc
        simp only [Option.some.injEq, Prod.mk.injEq] at hv
        obtain ⟨hgv, hv⟩ := hv
        obtain ⟨rfl, _⟩ := hx
        have hf' : m.get m.nxt = none := h.T.free m.nxt (Nat.le_refl _)
        have hnew : m.new (s.data.map fun (b : UInt8) => .int .u8 b.toNat) e = some (⟨m.nxt, 0, none⟩, m.mk1 (.cells (s.data.map fun (b : UInt8) => .int .u8 b.toNat) e)) := by unfold M.new; rw [hf']
        have hels : Els P (vs.S S0 env) m (.i .u8) (bytesL s) (s.data.map fun (b : UInt8) => .int .u8 b.toNat) := by
          obtain ⟨c, h1, h2⟩ := newsL_rep (P := P) h (ty := .i .u8) (x := .v (.s (.c (.string s)))) (ys := bytesL s) (w := .string s) (by simp [newsL, castL]) ⟨rfl, rfl⟩
          simp only [news, Ty.n, if_true, Option.some.injEq, Prod.mk.injEq] at h1
          rw [h1.2]; exact h2
        have hl : (bytesL s).length = s.size := by simp [bytesL]
        obtain ⟨_, env1, k1, k2, k3⟩ := h.newB (hot := hot) (ty := .i .u8) (by decide) (by rw [hc]; rfl) hnew hels (fun q q2 => by
          rw [q] at hgv
          have h9 := hg _ hgv.symm
          have h10 : 0 < s.size := by simpa using h9
          rw [q2] at hl
          simp at hl
          omega)
        have e1 : y = (newB hot vs (.i .u8) (bytesL s)).1 := by rw [hv]
        have e2 : vs1 = (newB hot vs (.i .u8) (bytesL s)).2 := by rw [hv]
        subst e1; subst e2
        rw [hl] at k3
        refine ⟨_, _, _, ?_, k1, k2, k3⟩
        unfold iconvert
        rw [hs, hd]
        dsimp only
        rw [hu]
        dsimp only
        rw [if_pos hc]
        unfold ibytesOf
        rw [hnew]
        rfl
      · cases hv
    · cases hv
  · rename_i e c hs hd
    split at hv
    · rename_i xs hu hxs
      split at hv
      · rename_i hc
        cases hv
        have hr := peekL_rep h.T hxs hx
        refine ⟨.string (strL xs), m, env, ?_, h, Stp.refl h.T.free, ⟨rfl, rfl⟩⟩
        have hi := istring_rep hr
        have hi' : istringOf w m = some (.string (strL xs)) := hi
        unfold iconvert
        rw [hs, hd]
        cases w <;> first | (simp [istringOf] at hi'; done) | skip
        all_goals dsimp only; rw [hu]; dsimp only; rw [hi']; rfl
      · cases hv
    · cases hv
  · rename_i e0 e j hs hd
    split at hv
    · rename_i n hu hn
      split at hv
      · rename_i hsd
        subst hsd
        cases hv
        have hxx := hx
        obtain ⟨b, hb, hw⟩ := hx
        refine ⟨_, m, env, ?_, h, Stp.refl h.T.free, hxx⟩
        have hb' : vs.bf[j]? = some b := hb
        unfold liveAt at hn
        rw [hb'] at hn
        dsimp only at hn
        cases hl : (b.live && !b.cap) with
        | false => rw [hl] at hn; cases hn
        | true =>
          have hcap : b.cap = false := by
            simp only [Bool.and_eq_true, Bool.not_eq_true'] at hl
            exact hl.2
          rw [hl] at hn
          cases hn
          have h0 := decide_eq (hg _ rfl)
          have hbf := (h.T.bf j b hb).2
          cases hτ : env.τ j with
          | none =>
            have h7 : (vs.cx S0 env m).env.τ j = none := hτ
            rw [h7] at hbf
            have : b.xs = [] := hbf hcap
            rw [this] at h0; simp at h0
          | some i =>
            have h7 : (vs.cx S0 env m).env.τ j = some i := hτ
            rw [h7] at hbf
            obtain ⟨_, k, c, e1, fr, h3, h4, _, h5, _⟩ := hbf
            have h3 : m.alive i = some k := h3
            have he : e0 = e := by rw [hs] at hd; cases hd; rfl
            subst he
            rw [h7] at hw
            have hv7 : w = .slice (some ⟨i, 0, none⟩) b.xs.length b.xs.length := hw
            rw [hv7]
            unfold iconvert
            rw [hs]
            dsimp only
            rw [hu, h3, beq_self_eq_true]
            dsimp only
            rw [h4]
            dsimp only
            rw [if_neg (by rw [h5]; simp; intro q; rw [q] at h0; exact absurd h0 (by simp))]
      · cases hv
    · cases hv
  · cases hv
theorem vlen_sound (h : Rel P S0 env m a vs) {t : Option TypeId} {x : Sl} {w : Value} (hx : repV P (vs.cx S0 env m) x w) {g : Option Bool} {y : Sl} {vs1 : VS} (hv : vlen P t x vs = some (g, y, vs1)) :
    vs1 = vs ∧ ∃ e b n c, t.bind P.underlying = some (.slice e) ∧ w = .slice b n c ∧ y = .v (.s (.c (.int .i64 (n : Nat)))) := by
  unfold vlen at hv
  split at hv
  · rename_i e hu
    split at hv
    · rename_i v
      cases hn : nilSl v with
      | false => rw [hn] at hv; cases hv
      | true =>
        rw [hn] at hv
        cases hv
        obtain ⟨rfl, _⟩ := hx
        exact ⟨rfl, e, none, 0, 0, hu, nilSl_eq hn, rfl⟩
    · simp only [Option.map_eq_some_iff] at hv
      obtain ⟨n, hn, hv⟩ := hv
      cases hv
      obtain ⟨_, _, hw⟩ := hx
      obtain ⟨h1, h2⟩ := hw n hn
      refine ⟨rfl, e, ?_⟩
      by_cases h0 : n = 0
      · subst h0
        rcases h1 rfl with q | ⟨i, o, q⟩
        · exact ⟨_, _, _, hu, q, rfl⟩
        · exact ⟨_, _, _, hu, q, rfl⟩
      · exact ⟨_, _, _, hu, h2 (by omega), rfl⟩
    · rename_i e' j o n cp
      simp only [Option.map_eq_some_iff] at hv
      obtain ⟨L, hn, hv⟩ := hv
      cases hv
      obtain ⟨_, _, hw⟩ := hx
      obtain ⟨h1, h2, h3⟩ := hw L hn
      refine ⟨rfl, e, ?_⟩
      by_cases h0 : L = 0
      · have : n = 0 := by omega
        subst this
        rcases h2 h0 with q | ⟨i, o, q⟩
        · exact ⟨_, _, _, hu, q, rfl⟩
        · exact ⟨_, _, _, hu, q, rfl⟩
      · obtain ⟨sp, cap, q, _⟩ := h3 (by omega)
        exact ⟨_, _, _, hu, q, rfl⟩
    · rename_i e' j n
      cases hh : hasOf vs.bx j with
      | false => rw [hh] at hv; cases hv
      | true =>
        rw [hh] at hv
        cases hv
        exact ⟨rfl, e, _, _, _, hu, (hx.2.2 hh).1, rfl⟩
    · split at hv
      · rename_i e0 xs hl
        cases hv
        rcases lstOf_rep h.T (e := e0) hl hx with ⟨rfl, rfl⟩ | ⟨i, o, sp, cap, rfl, _⟩
        · exact ⟨rfl, e, none, 0, 0, hu, rfl, rfl⟩
        · exact ⟨rfl, e, _, _, _, hu, rfl, rfl⟩
      · cases hv
  · cases hv
theorem isNilP_rep {x : Sl} {b : Bool} {w : Value} (h : isNilP x = some b) (hx : repV P X x w) : (b = true ∧ w = .pointer none) ∨ (b = false ∧ ∃ q, w = .pointer (some q)) := by
  unfold isNilP at h
  split at h
  · cases h; exact .inl ⟨rfl, hx.1⟩
  · cases h; obtain ⟨_, i, hw, _⟩ := hx; exact .inr ⟨rfl, _, hw⟩
  · cases h
theorem veqP_sound {t : TypeId} {x y : Sl} {w u : Value} {b : Bool} (hx : repV P X x w) (hy : repV P X y u) (h : veqP P t x y = some b) : ieqNil P t w u = some b := by
  unfold veqP at h
  split at h
  · rename_i q hu
    split at h
    · rename_i b' h1 h2
      cases h
      rcases isNilP_rep h1 hx with ⟨_, rfl⟩ | ⟨h3, _⟩
      · rcases isNilP_rep h2 hy with ⟨rfl, rfl⟩ | ⟨rfl, q, rfl⟩
        · unfold ieqNil; rw [hu]; rfl
        · unfold ieqNil; rw [hu]; rfl
      · cases h3
    · rename_i b' h1 h2
      cases h
      rcases isNilP_rep h2 hy with ⟨_, rfl⟩ | ⟨h3, _⟩
      · rcases isNilP_rep h1 hx with ⟨rfl, rfl⟩ | ⟨rfl, q, rfl⟩
        · unfold ieqNil; rw [hu]; rfl
        · unfold ieqNil; rw [hu]
      · cases h3
    · cases h
  · cases h
theorem pure_equal2 {t : TypeId} {k1 k2 : IntKind} {a1 a2 b1 b2 : Int} (h : eq2OK P t k1 k2 = true) :
    pureSem P (Op.equal t (.agg #[.int k1 a1, .int k2 a2]) (.agg #[.int k1 b1, .int k2 b2])) = some ((a1 == b1) && (a2 == b2)) := by
  unfold eq2OK at h
  split at h
  · rename_i f g hu
    split at h
    · rename_i j1 j2 hf hg
      simp only [Bool.and_eq_true, bne_iff_ne, ne_eq, Bool.not_eq_true'] at h
      obtain ⟨⟨⟨⟨⟨h1, h2⟩, h3⟩, h4⟩, h5⟩, h6⟩ := h
      have h3 := Nat.eq_of_beq_eq_true h3
      have h4 := Nat.eq_of_beq_eq_true h4
      have hE : ∀ (d : Nat) (t : TypeId) (k j : IntKind) (a b : Int), P.underlying t = some (.int j) → pureSem P (Op.equalIn (d + 1) t (.int k a) (.int k b)) = some (a == b) := by
        intro d t k j a b ht
        unfold Op.equalIn
        simp [pureSem_bind, underlying, program, pureSem, ht, pure]
      have hP : ∀ (t : TypeId) (j : IntKind) (cs : Array Value) (o : Nat) (v : Value), P.underlying t = some (.int j) → cs[o]? = some v → pureSem P (part t cs o) = some v := by
        intro t j cs o v ht hv
        unfold part isAgg
        simp [pureSem_bind, underlying, program, pureSem, ht, pure, hv]
      unfold Op.equal
      show pureSem P (Op.equalIn (9999 + 1) _ _ _) = _
      unfold Op.equalIn
      simp only [pureSem_bind, underlying, program, pureSem, hu, pure, Option.bind_some, h5]
      rw [show (9999 : Nat) = 9998 + 1 from rfl]
      simp [pureSem_bind, pureSem, pure, h1, h2, h3, h4, hP _ _ _ _ _ hf, hP _ _ _ _ _ hg, hE _ _ _ _ _ _ hf, hE _ _ _ _ _ _ hg]
      have hE' : ∀ (a b : Int), pureSem P (Op.equalIn 9999 g.type (.int k2 a) (.int k2 b)) = some (a == b) := fun a b => hE 9998 _ _ _ _ _ hg
      have hP' : ∀ (v w : Value), pureSem P (part g.type #[v, w] 1) = some w := fun v w => hP _ _ _ _ _ hg rfl
      by_cases e1 : a1 = b1
      · by_cases e2 : a2 = b2
        · simp [e1, e2, pureSem_bind, pureSem, hP', hE']
        · simp [e1, e2, pureSem_bind, pureSem, hP', hE']
      · simp [e1, pureSem]
    · cases h
  · cases h
theorem iop_eq2 {ev : Operand → Value} {o : Oper} {m : M} {t : TypeId} {x y : Operand} {ps} {k1 k2 : IntKind} {a1 a2 b1 b2 : Int} (h : eq2OK P t k1 k2 = true)
    (hx : ev x = .agg #[.int k1 a1, .int k2 a2]) (hy : ev y = .agg #[.int k1 b1, .int k2 b2]) :
    (o.op = .binOp .eql t x y ps → iop P ev o m = some (.val (.bool ((a1 == b1) && (a2 == b2))) m)) ∧
    (o.op = .binOp .neq t x y ps → iop P ev o m = some (.val (.bool (!((a1 == b1) && (a2 == b2)))) m)) := by
  have hg : P.eqGuardType P.depth t = false := by
    unfold eq2OK at h
    split at h
    · split at h
      · simp only [Bool.and_eq_true, Bool.not_eq_true'] at h; exact h.2
      · cases h
    · cases h
  have hn : ieqNil P t (ev x) (ev y) = none := by
    rw [hx, hy]; unfold ieqNil
    cases P.underlying t with
    | none => rfl
    | some q => cases q <;> rfl
  have he := pure_equal2 h (a1 := a1) (a2 := a2) (b1 := b1) (b2 := b2)
  constructor
  · intro ho
    have hf : opFlat ev o = true := by unfold opFlat; rw [ho]; simp [Op.operands, hx, hy, flat, one]
    unfold iop
    rw [ho]
    dsimp only
    rw [hn]
    dsimp only
    unfold iflat
    rw [if_pos hf]
    have : pureSem P (execOp ev o) = some (.value (.bool ((a1 == b1) && (a2 == b2)))) := by
      unfold execOp
      rw [ho]
      simp [pureSem_bind, hx, hy, eqGuard, binOp, program, pureSem, pure, hg, he]
    rw [this]
    rfl
  · intro ho
    have hf : opFlat ev o = true := by unfold opFlat; rw [ho]; simp [Op.operands, hx, hy, flat, one]
    unfold iop
    rw [ho]
    dsimp only
    rw [hn]
    dsimp only
    unfold iflat
    rw [if_pos hf]
    have : pureSem P (execOp ev o) = some (.value (.bool (!((a1 == b1) && (a2 == b2))))) := by
      unfold execOp
      rw [ho]
      simp [pureSem_bind, hx, hy, eqGuard, binOp, program, pureSem, pure, hg, he]
    rw [this]
    rfl
theorem iop_add {ev : Operand → Value} {o : Oper} {m : M} {t : TypeId} {x y : Operand} {ps} {a b : ByteArray} (ho : o.op = .binOp .add t x y ps) (hx : ev x = .string a) (hy : ev y = .string b) (h : a.size + b.size ≤ 9223372036854775807) :
    iop P ev o m = some (.val (.string (a ++ b)) m) := by
  unfold iop
  rw [ho]
  dsimp only
  unfold iflat opFlat
  rw [ho]
  have : ¬ (((a.size + b.size : Nat) : Int) > IntKind.i64.max) := by show ¬ (((a.size + b.size : Nat) : Int) > 9223372036854775807); omega
  simp [Op.operands, hx, hy, flat, one, execOp, ho, binOp, Op.stringOp, eqGuard]
  rw [if_neg (by simpa using this)]
  rfl
theorem iop_quo {ev : Operand → Value} {o : Oper} {m : M} {t : TypeId} {x y : Operand} {ps} {k : IntKind} {a b : Int} (ho : o.op = .binOp .quo t x y ps) (hx : ev x = .int k a) (hy : ev y = .int k b) (h : b ≠ 0) :
    iop P ev o m = some (.val (.int k (k.wrap (a.tdiv b))) m) := by
  unfold iop
  rw [ho]
  dsimp only
  unfold iflat opFlat
  rw [ho]
  simp [Op.operands, hx, hy, flat, one, execOp, ho, binOp, Op.intDiv, eqGuard, h]
  rfl
theorem iop_fquo {ev : Operand → Value} {o : Oper} {m : M} {t : TypeId} {x y : Operand} {ps} {k : FloatKind} {a b r : Nat} (ho : o.op = .binOp .quo t x y ps) (hx : ev x = .float k a) (hy : ev y = .float k b) (h : k.format.div a b = some r) :
    iop P ev o m = some (.val (.float k r) m) := by
  unfold iop
  rw [ho]
  dsimp only
  unfold iflat opFlat
  rw [ho]
  simp [Op.operands, hx, hy, flat, one, execOp, ho, binOp, Op.floatArith, eqGuard, h]
  rfl
theorem iop_rem {ev : Operand → Value} {o : Oper} {m : M} {t : TypeId} {x y : Operand} {ps} {k : IntKind} {a b : Int} (ho : o.op = .binOp .rem t x y ps) (hx : ev x = .int k a) (hy : ev y = .int k b) (h : b ≠ 0) :
    iop P ev o m = some (.val (.int k (a.tmod b)) m) := by
  unfold iop
  rw [ho]
  dsimp only
  unfold iflat opFlat
  rw [ho]
  simp [Op.operands, hx, hy, flat, one, execOp, ho, binOp, Op.intDiv, eqGuard, h]
  rfl
theorem repCs2 {X : Cx} {k1 k2 : IntKind} {a1 a2 : Int} {w : Value} (h : repV P X (.v (.a [.c (.int k1 a1), .c (.int k2 a2)])) w) : w = .agg #[.int k1 a1, .int k2 a2] := by
  obtain ⟨⟨l⟩, rfl, h2⟩ := h
  match l, h2 with
  | [u, v], h2 =>
    obtain ⟨⟨rfl, _⟩, ⟨rfl, _⟩, _⟩ := h2
    rfl
theorem veqS_sound {t : TypeId} {x y : Operand} {ev : Operand → Value} {sx sy : Sl} {b : Bool} (hx : repV P X sx (ev x)) (hy : repV P X sy (ev y)) (h : veqS P t sx sy = some b) {o : Oper} {m : M} {ps} :
    (o.op = .binOp .eql t x y ps → iop P ev o m = some (.val (.bool b) m)) ∧ (o.op = .binOp .neq t x y ps → iop P ev o m = some (.val (.bool (!b)) m)) := by
  unfold veqS at h
  split at h
  · split at h
    · rename_i hc
      obtain ⟨rfl, rfl, hc⟩ := hc
      cases h
      exact iop_eq2 hc (repCs2 hx) (repCs2 hy)
    · cases h
  · cases h
theorem vfill_sound (h : Rel P S0 env m a vs) {place : Nat → Option (Nat × Nat)} : ∀ {l : List (Nat × Operand)} {cs cs' : List Cl} {c : Array Value}, vfill place vs.ev cs l = some cs' → repCs P (vs.cx S0 env m) cs c.toList →
    ∃ c', Instr.fill place c (l.map fun (p : Nat × Operand) => (p.1, a.eval p.2)) = some c' ∧ repCs P (vs.cx S0 env m) cs' c'.toList := by
  intro l
  induction l with
  | nil => intro cs cs' c hv hr; cases hv; exact ⟨c, rfl, hr⟩
  | cons p l ih =>
    intro cs cs' c hv hr
    obtain ⟨i, x⟩ := p
    simp only [vfill] at hv
    split at hv
    · rename_i off size ns hp hns
      split at hv
      · rename_i hc
        have hx := unV_rep' (ev_rep h x)
        obtain ⟨h1, h2⟩ := cellsOf_rep hns hx hc.2.2
        have hl : cs.length = c.size := (repCs_len hr).trans Array.length_toList
        have hnl : ns.length = (a.eval x).cells.size := (repCs_len h1).trans Array.length_toList
        obtain ⟨c', h3, h4⟩ := ih (c := wr c off (a.eval x).cells.toList) hv (lay_rep hr h1 hc.2.1)
        refine ⟨c', ?_, h4⟩
        simp only [List.map_cons]
        unfold Instr.fill
        dsimp only
        rw [hp]
        dsimp only
        rw [if_neg (by simp; omega), zip_wr']
        exact h3
      · cases hv
    · cases hv
theorem vbuild_sound (h : Rel P S0 env m a vs) {t : TypeId} {parts : Array (Nat × Operand)} {g : Option Bool} {x : Sl} {vs1 : VS} (hv : vbuild P t parts.toList vs = some (g, x, vs1)) :
    vs1 = vs ∧ ∃ z v, zeroOf P t = some z ∧ pureSem P (Instr.build t (parts.map fun (p : Nat × Operand) => (p.1, a.eval p.2))) = some v ∧ repV P (vs.cx S0 env m) x v := by
  unfold vbuild at hv
  split at hv
  · rename_i z fields hz hu
    split at hv
    · rename_i places hp
      split at hv
      · rename_i hone
        simp only [Option.map_eq_some_iff] at hv
        obtain ⟨cs, h1, h2⟩ := hv
        cases h2
        have hrep : repCs P (vs.cx S0 env m) (z.cells.toList.map .c) z.cells.toList := by
          rw [Array.all_eq_true'] at hone
          have : ∀ l : List Value, (∀ v ∈ l, okc v = true) → repCs P (vs.cx S0 env m) (l.map .c) l := by
            intro l
            induction l with
            | nil => intro _; trivial
            | cons v l ih => intro h; exact ⟨⟨rfl, h v (by simp)⟩, ih fun w hw => h w (by simp [hw])⟩
          exact this _ fun v hv => hone v (by simpa using hv)
        obtain ⟨c', h3, h4⟩ := vfill_sound h h1 hrep
        refine ⟨rfl, z, .agg c', hz, ?_, c', rfl, h4⟩
        have hzp : pureSem P (zeroValue t) = some z := by
          unfold zeroOf at hz
          split at hz
          · rename_i i hi
            split at hz
            · rename_i z' hz'
              split at hz
              · cases hz; simp [zeroValue, typeInfo, pureSem_bind, program, pureSem, hi, hz', pure]
              · cases hz
            · cases hz
          · cases hz
        unfold Instr.build
        simp only [pureSem_bind, hzp, Option.bind_some, hu]
        have hp' : pureSem P (fields.mapM fun f => do pure (f.offset, ← sizeOf f.type)) = some places := hp
        rw [hp']
        simp only [Option.bind_some]
        have h5 : Instr.fill (places[·]?) z.cells (parts.map fun (p : Nat × Operand) => (p.1, a.eval p.2)).toList = some c' := by rw [Array.toList_map]; exact h3
        rw [h5]
        rfl
      · cases hv
    · cases hv
  · cases hv
theorem vcopyC_sound (h : Rel P S0 env m a vs) (hbar : ∀ i, Wb (vs.cx S0 env m) i → m.bar ≤ i) {t e : TypeId} {ty : Ty} {ti : TypeInfo} {j o n : Nat} {x : Sl} {wx : Value} {b : Option Addr} {cap : Nat} (hu : P.underlying t = some (.slice e)) (hti : P.info? e = some ti) (hsz : ti.size = ty.n) (hn : 0 < ty.n)
    (hx : repV P (vs.cx S0 env m) x wx) {own : Bool} {xs : List ty.El} (hj : vs.bx[j]? = some [.r own ty xs]) (hfit : o + n ≤ xs.length) (hb : xs ≠ [] → ∃ sp, b = some ⟨env.β j, o * ty.n, sp⟩) {ys : List ty.El} (hys : newsL vs ty x = some ys) :
    ∃ v m1, icopy P t (.slice b n cap) wx m = some (v, m1) ∧ Rel P S0 env m1 a { vs with bx := setL vs.bx j [.r own ty (xs.take o ++ ys.take (min n ys.length) ++ xs.drop (o + min n ys.length))] } ∧
      Stp (vs.cx S0 env m) (({ vs with bx := setL vs.bx j [.r own ty (xs.take o ++ ys.take (min n ys.length) ++ xs.drop (o + min n ys.length))] } : VS).cx S0 env m1) ∧ v = .int .i64 ((min n ys.length : Nat) : Int) := by
  obtain ⟨cs, hnews, hels⟩ := newsL_rep h hys hx
  have hcl : copyLen wx = some ys.length := by
    unfold news at hnews
    split at hnews
    · simp only [Option.some.injEq, Prod.mk.injEq] at hnews; rw [← hnews.1]; rfl
    · split at hnews
      · simp only [Option.some.injEq, Prod.mk.injEq] at hnews; rw [← hnews.1]; rfl
      · simp only [Option.map_eq_some_iff, Prod.mk.injEq] at hnews; obtain ⟨_, _, h1, _⟩ := hnews; rw [← h1]; rfl
    · split at hnews
      · simp only [Option.some.injEq, Prod.mk.injEq] at hnews; rw [← hnews.1]; rfl
      · cases hnews
    · cases hnews
  generalize hk : min n ys.length = k
  have hkn : k ≤ n := by omega
  have hky : k ≤ ys.length := by omega
  have hcc : ∃ ds, copyCells ti.size k m wx = some ds ∧ Els P (vs.S S0 env) m ty (ys.take k) ds := by
    have hsub : ∀ {ds : Array Value}, ds = cs.extract 0 (k * ty.n) → Els P (vs.S S0 env) m ty (ys.take k) ds := by
      intro ds hds
      subst hds
      refine ⟨?_, fun q y hq => ?_⟩
      · rw [Array.size_extract, hels.1, List.length_take, Nat.min_eq_left hky]
        have : k * ty.n ≤ ys.length * ty.n := Nat.mul_le_mul_right _ hky
        omega
      · rw [List.getElem?_take] at hq
        split at hq
        · rename_i hqk
          have := hels.2 q y hq
          have hmul : q * ty.n + ty.n ≤ k * ty.n := by
            have : (q + 1) * ty.n ≤ k * ty.n := Nat.mul_le_mul_right _ hqk
            rw [Nat.add_mul, Nat.one_mul] at this; exact this
          rw [Array.extract_extract, Nat.zero_add, Nat.zero_add, Nat.min_eq_left hmul]
          exact this
        · cases hq
    by_cases hk0 : k * ti.size = 0
    · have hkz : k = 0 := by
        rcases Nat.mul_eq_zero.1 hk0 with q | q
        · exact q
        · omega
      subst hkz
      refine ⟨#[], ?_, ?_⟩
      · unfold news at hnews
        unfold copyCells
        split at hnews
        · rfl
        · dsimp only; rw [if_pos hk0]
        · rename_i s
          split at hnews
          · rename_i h1
            dsimp only
            rw [if_pos (by rw [hsz]; exact h1)]
            simp
          · cases hnews
        · cases hnews
      · simpa using Els.nil (P := P) (S := vs.S S0 env) (m := m) (ty := ty)
    · unfold news at hnews
      unfold copyCells
      split at hnews
      · simp only [Option.some.injEq, Prod.mk.injEq] at hnews
        exfalso; apply hk0; rw [show k = 0 by omega]; simp
      · rename_i i o' sp q cp
        dsimp only
        rw [if_neg hk0]
        split at hnews
        · rename_i hz
          simp only [Option.some.injEq, Prod.mk.injEq] at hnews
          rcases Nat.mul_eq_zero.1 hz with q1 | q1
          · exfalso; apply hk0; rw [show k = 0 by omega]; simp
          · omega
        · simp only [Option.map_eq_some_iff, Prod.mk.injEq] at hnews
          obtain ⟨cs2, h1, h2, rfl⟩ := hnews
          have hcells := h1
          unfold M.cells at hcells ⊢
          split at hcells
          · rename_i c e' hrow
            split at hcells
            · rename_i hfit2
              cases hcells
              have hle : k * ti.size ≤ q * ty.n := by rw [hsz, h2]; exact Nat.mul_le_mul_right _ hky
              rw [if_pos (by omega)]
              refine ⟨_, rfl, hsub ?_⟩
              rw [Array.extract_extract, Nat.add_zero, hsz, Nat.min_eq_left (by rw [hsz] at hle; omega)]
            · cases hcells
          · cases hcells
      · rename_i s
        split at hnews
        · rename_i h1
          dsimp only
          rw [if_pos (by rw [hsz]; exact h1)]
          simp only [Option.some.injEq, Prod.mk.injEq] at hnews
          obtain ⟨h2, rfl⟩ := hnews
          refine ⟨_, rfl, hsub ?_⟩
          rw [h1, Nat.mul_one]
          apply Array.ext'
          simp
        · cases hnews
      · cases hnews
  obtain ⟨ds, hds, hels2⟩ := hcc
  have hones := hels2.all_one hn
  have hlen2 : (ys.take k).length = k := by rw [List.length_take]; omega
  have hic : ∀ r, (if k = 0 then some (Value.int .i64 0, m) else match b with | some ⟨i, o, _⟩ => (m.store i o ds.toList).map (Value.int .i64 ((k : Nat) : Int), ·) | _ => none) = some r → icopy P t (.slice b n cap) wx m = some r := by
    intro r hr
    unfold icopy
    rw [hu]
    dsimp only
    rw [hti, hcl]
    dsimp only
    rw [show min ys.length n = k by omega, hds]
    dsimp only
    exact hr
  by_cases hk0 : k = 0
  · have hnew : xs.take o ++ ys.take k ++ xs.drop (o + k) = xs := by rw [hk0]; simp
    rw [hnew]
    have hsame : ({ vs with bx := setL vs.bx j [.r own ty xs] } : VS) = vs := by
      have : ∀ (l : List (List Cl)) (j : Nat) (c : List Cl), l[j]? = some c → setL l j c = l := by
        intro l
        induction l with
        | nil => intro j c hc; rfl
        | cons d l ih => intro j c hc; cases j with
          | zero => cases hc; rfl
          | succ j => simp only [setL]; rw [ih j c (by simpa using hc)]
      rw [this _ _ _ hj]
    rw [hsame]
    exact ⟨_, m, hic _ (by rw [if_pos hk0]), h, Stp.refl h.T.free, by rw [hk0]; rfl⟩
  · have hne : xs ≠ [] := fun q => by rw [q] at hfit; simp at hfit; omega
    obtain ⟨sp, rfl⟩ := hb hne
    have hhas := box_has h hj (has1_run hne)
    obtain ⟨⟨hpos, hR⟩, _⟩ := h.T.bx j _ hj
    obtain ⟨kb, c, eo, fr, g1, g2, g3, g4, g5, g6, g7, g8, ⟨rb, g9, g10⟩, g11⟩ := hR hne
    have hal : m.alive (env.β j) = some kb := g1
    have hdl : ds.toList.length = k * ty.n := by rw [Array.length_toList, hels2.1, hlen2]
    have hfit2 : o * ty.n + ds.toList.length ≤ c.size := by
      rw [hdl, g7, ← Nat.add_mul]; exact Nat.mul_le_mul_right _ (by omega)
    have hlen : (xs.take o ++ ys.take k ++ xs.drop (o + k)).length = xs.length := by
      simp only [List.length_append, List.length_take, List.length_drop]; omega
    have hnew : Els P (vs.S S0 env) m ty (xs.take o ++ ys.take k ++ xs.drop (o + k)) (wr c (o * ty.n) ds.toList) := by
      refine ⟨by rw [wr_size, hlen]; exact g7, fun q y hq => ?_⟩
      have hto : (xs.take o).length = o := by rw [List.length_take]; omega
      by_cases q1 : q < o
      · rw [List.getElem?_append_left (by rw [List.length_append, hto]; omega), List.getElem?_append_left (by omega), List.getElem?_take, if_pos q1] at hq
        rw [wr_ext_other hfit2 (.inl (by
          have : (q + 1) * ty.n ≤ o * ty.n := Nat.mul_le_mul_right _ q1
          rw [Nat.add_mul, Nat.one_mul] at this; exact this))]
        exact g8 q y hq
      · by_cases q2 : q < o + k
        · rw [List.getElem?_append_left (by rw [List.length_append, hto, hlen2]; omega), List.getElem?_append_right (by omega), hto] at hq
          have := hels2.2 (q - o) y hq
          have e1 : q * ty.n = o * ty.n + (q - o) * ty.n := by rw [← Nat.add_mul]; congr 1; omega
          have hmul : (q - o) * ty.n + ty.n ≤ k * ty.n := by
            have : (q - o + 1) * ty.n ≤ k * ty.n := Nat.mul_le_mul_right _ (by omega)
            rw [Nat.add_mul, Nat.one_mul] at this; exact this
          have : ((wr c (o * ty.n) ds.toList).extract (q * ty.n) (q * ty.n + ty.n)).toList = (ds.extract ((q - o) * ty.n) ((q - o) * ty.n + ty.n)).toList := by
            apply List.ext_getElem?
            intro r
            rw [Array.getElem?_toList, Array.getElem?_toList, Array.getElem?_extract, Array.getElem?_extract, wr_size, wr_get _ _ _ _ hfit2]
            have hds2 : ds.size = k * ty.n := by rw [← Array.length_toList]; exact hdl
            have hA : q * ty.n + ty.n ≤ c.size := by omega
            by_cases q3 : r < ty.n
            · rw [if_pos (by omega), if_neg (by omega), if_pos (by rw [hdl]; omega), if_pos (by rw [hds2]; omega), Array.getElem?_toList]
              congr 1; omega
            · rw [if_neg (by omega), if_neg (by omega)]
          rw [this]
          assumption
        · rw [List.getElem?_append_right (by rw [List.length_append, hto, hlen2]; omega), List.getElem?_drop, List.length_append, hto, hlen2] at hq
          rw [wr_ext_other hfit2 (.inr (by
            rw [hdl, ← Nat.add_mul]; exact Nat.mul_le_mul_right _ (by omega)))]
          refine g8 q y ?_
          rw [← hq]; congr 1; omega
    obtain ⟨hR2, hS2⟩ := h.storeRun (o := some own) hj hne hlen hal g2 hnew
    have hbr : m.bar ≤ kb.root := by
      rcases g11 _ rb g9 g10 with q | ⟨q, _⟩
      · rw [q]; exact hbar _ (.inl ⟨j, lt_of_get hj, hhas, rfl⟩)
      · exact hbar _ (.inr q)
    refine ⟨_, _, hic (.int .i64 ((k : Nat) : Int), m.put (env.β j) kb (.cells (wr c (o * ty.n) ds.toList) eo fr)) ?_, hR2, hS2, rfl⟩
    rw [if_neg hk0]
    dsimp only
    unfold M.store
    rw [hal]
    dsimp only
    rw [g2]
    dsimp only
    rw [if_pos ⟨g3, g4, hfit2, by rw [← Array.all_toList] at hones; exact hones, hbar _ (.inl ⟨j, lt_of_get hj, hhas, rfl⟩), hbr⟩]
    rfl
theorem vcopy_sound (h : Rel P S0 env m a vs) (hbar : ∀ i, Wb (vs.cx S0 env m) i → m.bar ≤ i) {t : TypeId} {s x : Sl} {ws wx : Value} (hs : repV P (vs.cx S0 env m) s ws) (hx : repV P (vs.cx S0 env m) x wx) {g : Option Bool} {y : Sl} {vs1 : VS} (hv : vcopy P t s x vs = some (g, y, vs1)) (hg : Holds' g) :
    ∃ v m1, icopy P t ws wx m = some (v, m1) ∧ Rel P S0 env m1 a vs1 ∧ Stp (vs.cx S0 env m) (vs1.cx S0 env m1) ∧ repV P (vs1.cx S0 env m1) y v := by
  unfold vcopy at hv
  split at hv
  · rename_i e ty e0 j hel
    obtain ⟨hu, hn, hce, ti, hti, hsz, hby⟩ := elTy_some hel
    split at hv
    · rename_i he
      subst he
      split at hv
      · rename_i n hlen
        unfold vcopyC at hv
        split at hv
        · rename_i own e1 xs hj
          split at hv
          · rename_i xs' ys hc hys
            obtain ⟨hc1, hc2⟩ := castL_eq hc
            subst hc1
            subst hc2
            simp only [Option.some.injEq, Prod.mk.injEq] at hv
            obtain ⟨rfl, rfl, rfl⟩ := hv
            have hnl : n = xs.length := by
              have := lenOf_get hj
              rw [hlen] at this
              cases this; rfl
            obtain ⟨g1, g2⟩ := run_val (e' := e1) h.T hj hs
            have hws : ∃ b cap, ws = .slice b n cap ∧ (xs ≠ [] → ∃ sp, b = some ⟨env.β j, 0 * e1.n, sp⟩) := by
              by_cases hx0 : xs = []
              · have hn0 : n = 0 := by rw [hnl, hx0]; rfl
                rw [hn0]
                rcases g1 hx0 with q | ⟨i, o, q⟩
                · exact ⟨_, _, q, fun w => absurd hx0 w⟩
                · exact ⟨_, _, q, fun w => absurd hx0 w⟩
              · exact ⟨_, _, by rw [hnl]; exact g2 hx0, fun _ => ⟨none, by rw [Nat.zero_mul]; rfl⟩⟩
            obtain ⟨b, cap, rfl, hb⟩ := hws
            obtain ⟨v, m1, k1, k2, k3, rfl⟩ := vcopyC_sound (o := 0) (n := n) (cap := cap) h hbar hu hti hsz hn hx hj (by omega) hb hys
            exact ⟨_, m1, k1, k2, k3, rfl, rfl⟩
          · cases hv
        · cases hv
      · cases hv
    · cases hv
  · rename_i e ty e0 j o n cp hel
    obtain ⟨hu, hn, hce, ti, hti, hsz, hby⟩ := elTy_some hel
    split at hv
    · rename_i he
      subst he
      unfold vcopyC at hv
      split at hv
      · rename_i own e1 xs hj
        split at hv
        · rename_i xs' ys hc hys
          obtain ⟨hc1, hc2⟩ := castL_eq hc
          subst hc1
          subst hc2
          simp only [Option.some.injEq, Prod.mk.injEq] at hv
          obtain ⟨rfl, rfl, rfl⟩ := hv
          have hL : (vs.cx S0 env m).len j = some xs.length := lenOf_get hj
          obtain ⟨_, _, hw⟩ := hs
          obtain ⟨q1, q2, q3⟩ := hw _ hL
          have hws : ∃ b cap, ws = .slice b n cap ∧ (xs ≠ [] → ∃ sp, b = some ⟨env.β j, o * e1.n, sp⟩) := by
            by_cases hx0 : xs = []
            · have hl0 : xs.length = 0 := by rw [hx0]; rfl
              have hn0 : n = 0 := by omega
              rw [hn0]
              rcases q2 hl0 with q | ⟨i, o, q⟩
              · exact ⟨_, _, q, fun w => absurd hx0 w⟩
              · exact ⟨_, _, q, fun w => absurd hx0 w⟩
            · obtain ⟨sp, cap, q, _⟩ := q3 (List.length_pos_iff.2 hx0)
              exact ⟨_, _, q, fun _ => ⟨sp, rfl⟩⟩
          obtain ⟨b, cap, rfl, hb⟩ := hws
          obtain ⟨v, m1, k1, k2, k3, rfl⟩ := vcopyC_sound (cap := cap) h hbar hu hti hsz hn hx hj q1 hb hys
          exact ⟨_, m1, k1, k2, k3, rfl, rfl⟩
        · cases hv
      · cases hv
    · cases hv
  · cases hv
theorem repCs_setL {X : Cx} {c : Cl} {w : Value} : ∀ {cs : List Cl} {l : List Value} {i : Nat}, repCs P X cs l → l[i]? = some w → repC P X c w → repCs P X (setL cs i c) l := by
  intro cs
  induction cs with
  | nil => intro l i h _ _; exact h
  | cons d cs ih =>
    intro l i h hw hc
    cases l with
    | nil => exact h.elim
    | cons u l => cases i with
      | zero => cases hw; exact ⟨hc, h.2⟩
      | succ i => exact ⟨h.1, ih h.2 hw hc⟩
theorem setL_norunC {cs : List Cl} {i : Nat} {d : Cl} (hd : isRun [d] = false) (h : isRun cs = false) : isRun (setL cs i d) = false := by
  have two : ∀ (a b : Cl) (l : List Cl), isRun (a :: b :: l) = false := fun a b l => by unfold isRun; split <;> first | rfl | (rename_i q; cases q)
  cases cs with
  | nil => rfl
  | cons a cs => cases cs with
    | nil => cases i with
      | zero => exact hd
      | succ i => exact h
    | cons b cs => cases i with
      | zero => exact two _ _ _
      | succ i => cases i with
        | zero => exact two _ _ _
        | succ i => exact two _ _ _
theorem partW_sound (h : Rel P S0 env m a vs) (j off : Nat) : Rel P S0 env m a (partW vs j off) ∧ Stp (vs.cx S0 env m) ((partW vs j off).cx S0 env m) := by
  unfold partW
  split
  · rename_i cs hj
    split
    · rename_i e q hc
      split
      · rename_i L hL
        cases hrun : isRun cs with
        | true => exact ⟨h, Stp.refl h.T.free⟩
        | false =>
          have hns : isRun (setL cs off (.w e q 0 L false)) = false := setL_norunC rfl hrun
          refine h.setBox (ns := setL cs off (.w e q 0 L false)) hj (has1_cel hrun) ((has1_cel hns).trans (has1_cel hrun).symm) ((len1_cel hns).trans (len1_cel hrun).symm) (Wb' := fun _ => False) (Fr2.refl h.T.free) (fun _ w => w.elim) (BoxOK.of hns ?_)
          obtain ⟨k, c, eo, fr, q1, q2, q3, q4, q5, q6⟩ := (h.T.bx j cs hj).cel hrun
          refine ⟨k, c, eo, fr, q1, q2, q3, q4, q5, ?_⟩
          obtain ⟨w, hw, hwc⟩ := repCs_get q6 hc
          refine repCs_setL q6 hw ?_
          obtain ⟨u1, u2, u3⟩ := hwc
          refine ⟨u1, u2, fun L' hL' => ?_⟩
          have hLL : L = L' := by
            have h1 : (vs.cx S0 env m).len q = some L := by rw [h.T.len]; exact hL
            have h2 : (vs.cx S0 env m).len q = some L' := hL'
            rw [h1] at h2; cases h2; rfl
          subst hLL
          obtain ⟨v1, v2⟩ := u3 L hL'
          refine ⟨by omega, v1, fun hp => ⟨none, L, ?_, Nat.le_refl _, by omega, fun w => by cases w⟩⟩
          rw [v2 hp, Nat.zero_mul]
      · exact ⟨h, Stp.refl h.T.free⟩
    · exact ⟨h, Stp.refl h.T.free⟩
  · exact ⟨h, Stp.refl h.T.free⟩
theorem vmkIface_sound {t : TypeId} {x y : Sl} {w : Value} {g : Option Bool} {vs1 : VS} (h : Rel P S0 env m a vs) (hx : repV P (vs.cx S0 env m) x w) (hv : vmkIface P t x vs = some (g, y, vs1)) :
    (match P.underlying t with | some (.interface _) | none => none | some _ => some (Res.val (.iface t w) m)) = some (Res.val (.iface t w) m) ∧ Rel P S0 env m a vs1 ∧ Stp (vs.cx S0 env m) (vs1.cx S0 env m) ∧ repV P (vs1.cx S0 env m) y (.iface t w) := by
  unfold vmkIface at hv
  split at hv
  · cases hv
  · cases hv
  · rename_i d hn hd
    refine ⟨?_, ?_⟩
    · rw [hd]
      cases d <;> first | rfl | exact (hn _ rfl).elim | exact absurd rfl (hn _)
    · split at hv
      · rename_i j off
        cases hv
        obtain ⟨k1, k2⟩ := partW_sound h j off
        refine ⟨k1, k2, ?_⟩
        obtain ⟨u1, i, rfl, u2, u3⟩ := hx
        have hb : (partW vs j off).bx.length = vs.bx.length := by
          unfold partW
          split
          · split
            · split
              · cases isRun _ with
                | true => rfl
                | false => exact setL_length _ _ _
              · rfl
            · rfl
          · rfl
        exact ⟨Nat.lt_of_lt_of_le u1 k2.le.nb, i, rfl, Nat.lt_of_lt_of_le u2 k2.le.nxt, fun q => u3 (k2.le.has j u1 q)⟩
      · cases hv
        exact ⟨h, Stp.refl h.T.free, trivial⟩
theorem vop1_sound {o : Oper} {hot : Bool} (h : Rel P S0 env m a vs) (hbar : isWr o.op = true → ∀ i, Wb (vs.cx S0 env m) i → m.bar ≤ i) {g : Option Bool} {x : Sl} {vs1 : VS} (hv : vop1 P hot vs o = some (g, x, vs1)) (hg : Holds' g) : OpS P S0 env m a vs o x vs1 := by
  unfold vop1 at hv
  split at hv
  · rename_i r hr
    cases hv
    cases hs : (isShift o.op || isEqS vs o.op) with
    | true => rw [hs] at hr; cases hr
    | false => rw [hs] at hr; exact vpure_sound h hr
  · have hE := fun y => ev_rep (P := P) h y
    split at hv
    · rename_i y ho; cases hv; exact OpS.same h (by unfold iop; rw [ho]) (hE y)
    · rename_i y ho; cases hv; exact OpS.same h (by unfold iop; rw [ho]) (hE y)
    · rename_i t ho
      obtain ⟨z, v, m1, env1, h1, h2, h3, h4, h5⟩ := valloc_sound h hv
      exact ⟨v, m1, env1, .inl (by unfold iop; rw [ho]; dsimp only; rw [h1]; exact h2), h3, h4, h5⟩
    · rename_i t y ho
      obtain ⟨v, m1, env1, h2, h3, h4, h5⟩ := vbox_sound (t := t) h (hE y) hv
      exact ⟨v, m1, env1, .inl (by unfold iop; rw [ho]; exact h2), h3, h4, h5⟩
    · rename_i t len parts ho
      obtain ⟨v, m1, env1, h2, h3, h4, h5⟩ := vbuildSlice_sound h hv
      exact ⟨v, m1, env1, .inl (by unfold iop; rw [ho]; dsimp only; rw [h2]; rfl), h3, h4, h5⟩
    · rename_i t parts ho
      obtain ⟨rfl, z, v, h1, h2, h3⟩ := vbuild_sound h hv
      refine OpS.same h ?_ h3
      unfold iop; rw [ho]; dsimp only
      have h2' : pureSem P (Instr.build t (parts.map fun (i, x) => (i, a.eval x))) = some v := h2
      rw [h2']
      simp only [Option.bind_some]
      rw [h1]
    · rename_i t y ho
      obtain ⟨rfl, v, h2, h3⟩ := vloadA_sound h (hE y) hv hg
      exact OpS.same h (by unfold iop; rw [ho]; dsimp only; rw [h2]; rfl) h3
    · rename_i t y z ho
      obtain ⟨rfl, m1, h2, h3, h4⟩ := vstoreA_sound h (hbar (by rw [ho]; rfl)) (hE y) (hE z) hv hg
      exact ⟨undef, m1, env, .inr ⟨by unfold iop; rw [ho]; dsimp only; rw [h2]; rfl, rfl⟩, h3, h4, ⟨#[], rfl, trivial⟩⟩
    · rename_i y ho
      split at hv
      · rename_i j off hy
        cases hv
        have hr := hE y
        rw [hy] at hr
        refine OpS.same (v := a.eval y) h ?_ hr
        obtain ⟨_, kb, hw, _⟩ := hr
        unfold iop; rw [ho]; dsimp only; rw [hw]
      · rename_i e j i off hy
        cases hv
        have hr := hE y
        rw [hy] at hr
        refine OpS.same (v := a.eval y) h ?_ hr
        obtain ⟨_, kb, hw, _⟩ := hr
        unfold iop; rw [ho]; dsimp only; rw [hw]
      · rename_i e x off hy
        cases hv
        have hr := hE y
        rw [hy] at hr
        refine OpS.same (v := a.eval y) h ?_ hr
        obtain ⟨kb, o1, c1, e1, hw, _⟩ := hr
        unfold iop; rw [ho]; dsimp only; rw [hw]
      · cases hv
    · rename_i op t y z u ho
      have hy := hE y
      have hz := hE z
      unfold vbin at hv
      split at hv
      · split at hv
        · rename_i k n k' b e1 e2
          cases hv
          rw [e1] at hy; rw [e2] at hz
          exact OpS.same h (iop_shl ho hy.1 hz.1 (decide_eq (hg _ rfl))) ⟨rfl, rfl⟩
        · cases hv
      · split at hv
        · rename_i k n k' b e1 e2
          cases hv
          rw [e1] at hy; rw [e2] at hz
          exact OpS.same h (iop_shr ho hy.1 hz.1 (decide_eq (hg _ rfl))) ⟨rfl, rfl⟩
        · cases hv
      · simp only [Option.map_eq_some_iff] at hv
        obtain ⟨b, h1, h2⟩ := hv
        cases h2
        unfold veq at h1
        split at h1
        · rename_i b' h1'
          cases h1
          have h3 := veqP_sound hy hz h1'
          exact OpS.same h (by unfold iop; rw [ho]; dsimp only; rw [h3]) ⟨rfl, rfl⟩
        · exact OpS.same h (by first | exact (veqS_sound hy hz h1).1 ho | exact (veqS_sound hy hz h1).2 ho) ⟨rfl, rfl⟩
      · simp only [Option.map_eq_some_iff] at hv
        obtain ⟨b, h1, h2⟩ := hv
        cases h2
        unfold veq at h1
        split at h1
        · rename_i b' h1'
          cases h1
          have h3 := veqP_sound hy hz h1'
          exact OpS.same h (by unfold iop; rw [ho]; dsimp only; rw [h3]) ⟨rfl, rfl⟩
        · exact OpS.same h (by first | exact (veqS_sound hy hz h1).1 ho | exact (veqS_sound hy hz h1).2 ho) ⟨rfl, rfl⟩
      · split at hv
        · rename_i n b e1 e2
          cases hv
          rw [e1] at hy; rw [e2] at hz
          exact OpS.same h (iop_add ho hy.1 hz.1 (decide_eq (hg _ rfl))) ⟨rfl, rfl⟩
        · cases hv
      · split at hv
        · rename_i k n k' b e1 e2
          split at hv
          · rename_i hk
            subst hk
            cases hv
            rw [e1] at hy; rw [e2] at hz
            exact OpS.same h (iop_quo ho hy.1 hz.1 (decide_eq (hg _ rfl))) ⟨rfl, rfl⟩
          · cases hv
        · rename_i k n k' b e1 e2
          split at hv
          · rename_i hk
            subst hk
            cases hv
            rw [e1] at hy; rw [e2] at hz
            have hsm : (k.format.div n b).isSome = true := hg _ rfl
            obtain ⟨r, hr⟩ := Option.isSome_iff_exists.1 hsm
            have hi := iop_fquo (P := P) (m := m) ho hy.1 hz.1 hr
            rw [hr]
            exact OpS.same h hi ⟨rfl, rfl⟩
          · cases hv
        · cases hv
      · split at hv
        · rename_i k n k' b e1 e2
          split at hv
          · rename_i hk
            subst hk
            cases hv
            rw [e1] at hy; rw [e2] at hz
            exact OpS.same h (iop_rem ho hy.1 hz.1 (decide_eq (hg _ rfl))) ⟨rfl, rfl⟩
          · cases hv
        · cases hv
      · cases hv
    · rename_i src dst y ho
      obtain ⟨v, m1, env1, h2, h3, h4, h5⟩ := vconvert_sound (o := o) h (hE y) hv hg
      exact ⟨v, m1, env1, .inl (by unfold iop; rw [ho]; exact h2), h3, h4, h5⟩
    · rename_i t l c ho
      obtain ⟨v, m1, env1, h2, h3, h4, h5⟩ := vmakeSlice_sound h (hE l) (hE c) hv hg
      exact ⟨v, m1, env1, .inl (by unfold iop; rw [ho]; dsimp only; rw [h2]; rfl), h3, h4, h5⟩
    · rename_i t y lo hi mx ho
      exact vslice_sound h ho hv hg
    · rename_i s y f ho
      obtain ⟨rfl, v, h2, h3⟩ := vfieldAddr_sound (hE y) hv
      exact OpS.same h (by unfold iop; rw [ho]; dsimp only; rw [h2]; rfl) h3
    · rename_i s y f ho
      obtain ⟨rfl, v, h2, h3⟩ := vfield_sound (hE y) hv
      exact OpS.same h (by unfold iop; rw [ho]; dsimp only; rw [h2]; rfl) h3
    · rename_i t y ho
      obtain ⟨h1, h2, h3, h4⟩ := vmkIface_sound (t := t) h (hE y) hv
      exact ⟨_, m, env, .inl (by unfold iop; rw [ho]; exact h1), h2, h3, h4⟩
    · rename_i t y ix ho
      obtain ⟨rfl, v, h2, h3⟩ := vindexAddr_sound h (hE y) (hE ix) hv hg
      exact OpS.same h (by unfold iop; rw [ho]; dsimp only; rw [h2]; rfl) h3
    · rename_i y ix ho
      split at hv
      · rename_i l hl
        split at hv
        · rename_i s hs
          cases hv
          have hr := hE y
          rw [hl] at hr
          obtain ⟨b, hb, h2⟩ := hr
          obtain ⟨u, h3, h4⟩ := repSs_get h2 hs
          refine OpS.same (v := u) h ?_ h4
          unfold iop; rw [ho]; dsimp only; rw [hb]; dsimp only
          rw [← Array.getElem?_toList, h3]; rfl
        · cases hv
      · cases hv
    · rename_i c ho
      split at hv
      · rename_i hc
        split at hv
        · rename_i y hy
          obtain ⟨rfl, e, b, n, cp, h1, h2, rfl⟩ := vlen_sound h (hE y) hv
          refine OpS.same (v := .int .i64 (n : Nat)) h ?_ ⟨rfl, rfl⟩
          unfold iop; rw [ho]; dsimp only
          unfold icall
          rw [hc]
          dsimp only
          rw [hy]
          simp only [Option.map_some]
          rw [h1, h2]
        · cases hv
      · rename_i hc
        split at hv
        · rename_i s y t hs hy ht
          split at hv
          · rename_i hsz
            obtain ⟨v, m1, env1, h2, h3, h4, h5⟩ := vappend_sound h (hE s) (hE y) hg hv
            refine ⟨v, m1, env1, .inl ?_, h3, h4, h5⟩
            unfold iop; rw [ho]; dsimp only
            unfold icall
            rw [hc]
            dsimp only
            rw [hs, hy, ht]
            simp only [Option.map_some]
            rw [if_pos hsz, h2]; rfl
          · cases hv
        · cases hv
      · rename_i hc
        split at hv
        · rename_i s y t hs hy ht
          split at hv
          · rename_i hsz
            obtain ⟨v, m1, h2, h3, h4, h5⟩ := vcopy_sound h (hbar (by obtain ⟨ce, cas, cts⟩ := c; dsimp only at hc; subst hc; rw [ho]; rfl)) (hE s) (hE y) hv hg
            refine ⟨v, m1, env, .inl ?_, h3, h4, h5⟩
            unfold iop; rw [ho]; dsimp only
            unfold icall
            rw [hc]
            dsimp only
            rw [hs, hy, ht]
            simp only [Option.map_some]
            rw [if_pos hsz, h2]; rfl
          · cases hv
        · cases hv
      · cases hv
    · cases hv
end Go.IM.V
namespace Go.IM.V
open Go Go.IM
variable {P : Program} {m m1 : M} {S0 : Nat → Prop} {env : Env} {a : Act} {vs : VS} {X : Cx}
theorem Rel.setObj (h : Rel P S0 env m a vs) {j : Nat} {cs ns : List Cl} (hj : vs.bx[j]? = some cs) (hcs : has1 cs = true) (hh : has1 ns = true) (hl : len1 ns = len1 cs) {k : Blk} (hal : m.alive (env.β j) = some k) (hroot : k.root = env.β j) {o : Obj} (ho : otyp o = otyp k.obj)
    (hnew : ∀ m', CxLe (vs.cx S0 env m) { vs.cx S0 env m with m := m' } → m'.alive (env.β j) = some { k with obj := o } → BoxOK P { vs.cx S0 env m with m := m' } j ns) :
    Rel P S0 env (m.set (env.β j) { k with obj := o }) a { vs with bx := setL vs.bx j ns } ∧ Stp (vs.cx S0 env m) (({ vs with bx := setL vs.bx j ns } : VS).cx S0 env (m.set (env.β j) { k with obj := o })) := by
  have hT := h.T
  obtain ⟨hfr, hal2⟩ := fr2_set o ho hT.free hal hroot
  have hjl : j < vs.bx.length := lt_of_get hj
  have hle : CxLe (vs.cx S0 env m) { vs.cx S0 env m with m := m.set (env.β j) { k with obj := o } } :=
    ⟨hfr.mono_row hT.free (fun i w => by rw [w]; exact hT.inS j hjl ((hasOf_get hj).trans hcs)) (fun i w => .inl w), Nat.le_refl _, fun _ _ => rfl, fun q b hb => ⟨b.live, hb, rfl⟩, fun _ _ q => q, fun _ _ _ q => q, fun _ q => q, fun _ q => q, hfr.nxt, hfr.ty⟩
  exact h.setBox hj hcs (hh.trans hcs.symm) hl hfr (fun i w => .inl w) (hnew _ hle hal2)
theorem putObj_set {i : Nat} {k : Blk} {o : Obj} (hal : m.alive i = some k) (hro : k.ro = false) (hsup : k.sup = false) (hroot : k.root = i) (hbar : m.bar ≤ i) : m.putObj i o = some (m.set i { k with obj := o }) := by
  unfold M.putObj
  rw [hal]
  dsimp only
  rw [if_pos ⟨hro, hsup, hbar, by rw [hroot]; exact hbar⟩]
  simp [M.put, hroot]
theorem Rel.newObj (h : Rel P S0 env m a vs) {cs : List Cl} {o : Obj} (hcs : has1 cs = true)
    (hnew : ∀ Y : Cx, CxLe (vs.cx S0 env m) Y → Y.m.alive (Y.env.β vs.bx.length) = some ⟨o, m.nxt, false, false, false⟩ → Y.env.β vs.bx.length = m.nxt → BoxOK P Y vs.bx.length cs) :
    m.newO o = some (m.nxt, m.mk1 o) ∧ Rel P S0 (env.setβ vs.bx.length m.nxt) (m.mk1 o) a (V.newBox vs cs).2 ∧ Stp (vs.cx S0 env m) ((V.newBox vs cs).2.cx S0 (env.setβ vs.bx.length m.nxt) (m.mk1 o)) := by
  have hT := h.T
  have hfr := fr2_mk1 hT.free o
  have hβ : ∀ j, j < vs.bx.length → (env.setβ vs.bx.length m.nxt).β j = env.β j := fun j hj => setβ_old _ _ (by omega)
  have hnb : (V.newBox vs cs).2.bx.length = vs.bx.length + 1 := by show (vs.bx ++ [cs]).length = _; simp
  have hho : ∀ j, j < vs.bx.length → hasOf (V.newBox vs cs).2.bx j = hasOf vs.bx j := fun j hj => by show hasOf (vs.bx ++ [cs]) j = _; rw [hasOf_app, if_neg (by omega)]
  have hlo : ∀ j, j < vs.bx.length → lenOf (V.newBox vs cs).2.bx j = lenOf vs.bx j := fun j hj => by show lenOf (vs.bx ++ [cs]) j = _; rw [lenOf_app, if_neg (by omega)]
  have hle : CxLe (vs.cx S0 env m) ((V.newBox vs cs).2.cx S0 (env.setβ vs.bx.length m.nxt) (m.mk1 o)) := by
    refine ⟨hfr.mono_row hT.free (fun _ w => w.elim) (fun q w => ?_), by show vs.bx.length ≤ (V.newBox vs cs).2.bx.length; omega, hβ, fun j b hb => ⟨b.live, hb, rfl⟩,
      fun j hj q => (hho j hj).symm.trans q, fun j L hj q => (hlo j hj).symm.trans q, fun _ q => q, fun _ q => q, hfr.nxt, hfr.ty⟩
    rcases w with w | ⟨j, h1, h3, h2⟩ | w
    · exact .inl (.inl w)
    · rw [hnb] at h1
      rcases Nat.lt_or_ge j vs.bx.length with hj | hj
      · exact .inl (.inr (.inl ⟨j, hj, by rw [← hho j hj]; exact h3, by rw [← hβ j hj]; exact h2⟩))
      · obtain rfl : j = vs.bx.length := by omega
        rw [setβ_new] at h2
        exact .inr (by show m.nxt ≤ q; omega)
    · exact .inl (.inr (.inr w))
  refine ⟨by
    have hq : m.get m.nxt = none := hT.free m.nxt (Nat.le_refl _)
    unfold M.newO; rw [hq], h.addBox (cs := cs) (i := m.nxt) hfr (fun _ => ⟨Nat.le_refl _, Nat.lt_succ_self _⟩) (hnew _ hle ?_ (setβ_new _ _ _))⟩
  show (m.mk1 o).alive ((env.setβ vs.bx.length m.nxt).β vs.bx.length) = _
  rw [setβ_new]; exact alive_mk1_new _
theorem ents_find {q : ByteArray} : ∀ {l : List (ByteArray × Nat × Nat)} {es : List MapEntry} (n : Nat), entsOK P X l es →
    match findK q l n with
    | none => Instr.findNow .string (.string q) es n = some none
    | some (i, jj) => ∃ v, Instr.findNow .string (.string q) es n = some (some (i, v)) ∧ repC P X (.p jj 0) v ∧ n ≤ i := by
  intro l
  induction l with
  | nil => intro es n h; cases es with
    | nil => rfl
    | cons => exact h.elim
  | cons b l ih =>
    intro es n h
    cases es with
    | nil => exact h.elim
    | cons e es =>
      obtain ⟨⟨h1, h2, h3⟩, h4⟩ := h
      have hs : Instr.sameNow .string (.string q) e.key = some (q == b.1) := by rw [h1]; rfl
      unfold findK Instr.findNow
      rw [hs]
      cases hq : (q == b.1) with
      | true => exact ⟨_, rfl, h3, Nat.le_refl _⟩
      | false =>
        have h5 := ih (n + 1) h4
        simp only [cond_false]
        split at h5
        · exact h5
        · rename_i i jj hf
          obtain ⟨v, g1, g2, g3⟩ := h5
          exact ⟨v, g1, g2, by omega⟩
theorem ents_mod {q : ByteArray} {jj : Nat} {v : Value} (hv : repC P X (.p jj 0) v) : ∀ {l : List (ByteArray × Nat × Nat)} {es : List MapEntry} (i : Nat), entsOK P X l es →
    entsOK P X (modK q jj l i) (es.modify i fun e => { e with key := .string q, val := v }) := by
  intro l
  induction l with
  | nil => intro es i h; cases es with
    | nil => simp [modK]; trivial
    | cons => exact h.elim
  | cons b l ih =>
    intro es i h
    cases es with
    | nil => exact h.elim
    | cons e es =>
      obtain ⟨⟨h1, h2, h3⟩, h4⟩ := h
      cases i with
      | zero => rw [List.modify_zero_cons]; exact ⟨⟨rfl, h2, hv⟩, h4⟩
      | succ i => rw [List.modify_succ_cons]; exact ⟨⟨h1, h2, h3⟩, ih i h4⟩
theorem ents_era : ∀ {l : List (ByteArray × Nat × Nat)} {es : List MapEntry} (i : Nat), entsOK P X l es → entsOK P X (eraK l i) (es.eraseIdx i) := by
  intro l
  induction l with
  | nil => intro es i h; cases es with
    | nil => simp [eraK]; trivial
    | cons => exact h.elim
  | cons b l ih =>
    intro es i h
    cases es with
    | nil => exact h.elim
    | cons e es =>
      obtain ⟨h1, h4⟩ := h
      cases i with
      | zero => exact h4
      | succ i => exact ⟨h1, ih i h4⟩
theorem ents_app {c : ByteArray × Nat × Nat} {e : MapEntry} (hc : e.key = .string c.1 ∧ e.born = c.2.1 ∧ repC P X (.p c.2.2 0) e.val) : ∀ {l : List (ByteArray × Nat × Nat)} {es : List MapEntry}, entsOK P X l es → entsOK P X (l ++ [c]) (es ++ [e]) := by
  intro l
  induction l with
  | nil => intro es h; cases es with
    | nil => exact ⟨hc, trivial⟩
    | cons => exact h.elim
  | cons b l ih =>
    intro es h
    cases es with
    | nil => exact h.elim
    | cons x es => exact ⟨h.1, ih h.2⟩
theorem ents_filter (p : Nat → Bool) : ∀ {l : List (ByteArray × Nat × Nat)} {es : List MapEntry}, entsOK P X l es → entsOK P X (l.filter fun a => p a.2.1) (es.filter fun e => p e.born) := by
  intro l
  induction l with
  | nil => intro es h; cases es with
    | nil => trivial
    | cons => exact h.elim
  | cons b l ih =>
    intro es h
    cases es with
    | nil => exact h.elim
    | cons e es =>
      obtain ⟨h1, h4⟩ := h
      have hb : e.born = b.2.1 := h1.2.1
      simp only [List.filter_cons, hb]
      split
      · exact ⟨h1, ih h4⟩
      · exact ih h4
theorem ents_all (p : Nat → Bool) : ∀ {l : List (ByteArray × Nat × Nat)} {es : List MapEntry}, entsOK P X l es → (es.all fun e => p e.born) = (l.all fun a => p a.2.1) ∧ es.isEmpty = l.isEmpty := by
  intro l
  induction l with
  | nil => intro es h; cases es with
    | nil => exact ⟨rfl, rfl⟩
    | cons => exact h.elim
  | cons b l ih =>
    intro es h
    cases es with
    | nil => exact h.elim
    | cons e es =>
      obtain ⟨h1, h4⟩ := h
      have hb : e.born = b.2.1 := h1.2.1
      refine ⟨?_, rfl⟩
      simp only [List.all_cons, hb, (ih h4).1]
theorem mx_alive (h : Rel P S0 env m a vs) {j c : Nat} {l : List (ByteArray × Nat × Nat)} (hj : mxAt vs j = some (c, l)) {w : Value} (hw : repV P (vs.cx S0 env m) (.v (.s (.mv j))) w) :
    vs.bx[j]? = some [.mx c l] ∧ w = .map (some (env.β j)) ∧ ∃ k es, m.alive (env.β j) = some k ∧ k.obj = .map es c ∧ k.ro = false ∧ k.sup = false ∧ k.root = env.β j ∧ entsOK P (vs.cx S0 env m) l es.toList ∧ m.mapOf (env.β j) = some (es, c) := by
  have hbx : vs.bx[j]? = some [.mx c l] := by
    unfold mxAt at hj
    split at hj
    · rename_i c' l' hq; cases hj; exact hq
    · cases hj
  obtain ⟨h1, i, h2, h3, h4⟩ := hw
  have hh : hasOf vs.bx j = true := by rw [hasOf_get hbx]; rfl
  have hi : i = env.β j := h4 hh
  obtain ⟨k, es, g1, g2, g3, g4, g5, g6⟩ := h.T.bx j _ hbx
  refine ⟨hbx, by rw [h2, hi], k, es, g1, g2, g3, g4, g5, g6, ?_⟩
  have g1' : m.alive (env.β j) = some k := g1
  unfold M.mapOf
  rw [g1']
  dsimp only
  rw [g2]
theorem txtMap_eq {t e : TypeId} (h : txtMap P t = some e) : mapTy P t = some (.string, e) := by
  unfold txtMap at h
  split at h
  · rename_i d e' hm
    rw [hm]
    cases hb : isTxt d with
    | false => rw [hb] at h; cases h
    | true =>
      rw [hb] at h
      cases h
      cases d <;> first | rfl | cases hb
  · cases h
theorem str_rep {q : ByteArray} {w : Value} (h : repV P X (.v (.s (.c (.string q)))) w) : w = .string q := h.1
theorem vlookup_sound (h : Rel P S0 env m a vs) {t : TypeId} {x k y : Sl} {ok : Bool} {wx wk : Value} {vs1 : VS} (hx : repV P (vs.cx S0 env m) x wx) (hk : repV P (vs.cx S0 env m) k wk) (hv : vlookup P t x k ok vs = some (y, vs1)) :
    vs1 = vs ∧ ∃ v, ilookup P t wx wk ok m = some v ∧ repV P (vs.cx S0 env m) y v := by
  unfold vlookup at hv
  split at hv
  · rename_i e j q ht
    split at hv
    · rename_i c l hj
      obtain ⟨hbx, rfl, kb, es, g1, g2, g3, g4, g5, g6, g7⟩ := mx_alive h hj hx
      obtain rfl := str_rep hk
      have hf := ents_find (q := q) 0 g6
      have hpk : ∀ r, Instr.findNow .string (.string q) es.toList 0 = some r → ilookup P t (.map (some (env.β j))) (.string q) ok m = lookRes P e ok r := by
        intro r hr
        unfold ilookup
        rw [txtMap_eq ht]
        dsimp only
        rw [g7]
        dsimp only
        unfold ifind
        rw [show plainKey .string (.string q) = true from rfl, if_pos rfl, hr]
      split at hv
      · rename_i i jj hfi
        rw [hfi] at hf
        obtain ⟨v, f1, f2, _⟩ := hf
        cases hv
        refine ⟨rfl, _, (hpk _ f1).trans rfl, ?_⟩
        cases ok with
        | true => exact ⟨_, rfl, f2, ⟨rfl, rfl⟩, trivial⟩
        | false => exact f2
      · rename_i hfi
        rw [hfi] at hf
        split at hv
        · rename_i v hz
          cases hv
          exact ⟨rfl, v, (hpk _ hf).trans hz, ofV_rep v⟩
        · cases hv
    · cases hv
  · cases hv
theorem vupdate_sound (h : Rel P S0 env m a vs) (hbar : ∀ i, Wb (vs.cx S0 env m) i → m.bar ≤ i) {t : TypeId} {x k v y : Sl} {wx wk wv : Value} {vs1 : VS} (hx : repV P (vs.cx S0 env m) x wx) (hk : repV P (vs.cx S0 env m) k wk) (hv' : repV P (vs.cx S0 env m) v wv) (hv : vupdate P t x k v vs = some (y, vs1)) :
    ∃ m1, iupdate P t wx wk wv m = some m1 ∧ Rel P S0 env m1 a vs1 ∧ Stp (vs.cx S0 env m) (vs1.cx S0 env m1) ∧ y = undefS := by
  unfold vupdate at hv
  split at hv
  · rename_i e j q ht
    split at hv
    · rename_i c l jj hj
      obtain ⟨hbx, rfl, kb, es, g1, g2, g3, g4, g5, g6, g7⟩ := mx_alive h hj hx
      obtain rfl := str_rep hk
      have hf := ents_find (q := q) 0 g6
      have hp : repC P (vs.cx S0 env m) (.p jj 0) wv := hv'
      have hb : m.bar ≤ env.β j := hbar _ (.inl ⟨j, lt_of_get hbx, by show hasOf vs.bx j = true; rw [hasOf_get hbx]; rfl, rfl⟩)
      cases hv
      have hpk : ∀ r, Instr.findNow .string (.string q) es.toList 0 = some r → iupdate P t (.map (some (env.β j))) (.string q) wv m = (match (r : Option (Nat × Value)) with
          | some (j', _) => m.putObj (env.β j) (.map (es.modify j' fun e => { e with key := .string q, val := wv }) c)
          | none => m.putObj (env.β j) (.map (es.push { key := .string q, val := wv, born := c }) (c + 1))) := by
        intro r hr
        unfold iupdate
        rw [txtMap_eq ht]
        dsimp only
        rw [g7]
        dsimp only
        unfold ifind
        rw [show plainKey .string (.string q) = true from rfl, if_pos rfl, hr]
        cases r with
        | none => rfl
        | some r => rfl
      cases hfi : findK q l 0 with
      | none =>
        rw [hfi] at hf
        obtain ⟨k1, k2⟩ := h.setObj (ns := [.mx (c + 1) (l ++ [(q, c, jj)])]) hbx rfl rfl rfl g1 g5 (o := .map (es.push { key := .string q, val := wv, born := c }) (c + 1)) (by rw [g2]; rfl) (fun m' hle hal => by
          refine ⟨_, _, hal, rfl, g3, g4, g5, ?_⟩
          rw [Array.toList_push]
          exact (ents_app ⟨rfl, rfl, hp⟩ g6).le hle)
        exact ⟨_, (hpk _ hf).trans (putObj_set g1 g3 g4 g5 hb), k1, k2, rfl⟩
      | some p =>
        obtain ⟨i, j2⟩ := p
        rw [hfi] at hf
        obtain ⟨v', f1, f2, _⟩ := hf
        obtain ⟨k1, k2⟩ := h.setObj (ns := [.mx c (modK q jj l i)]) hbx rfl rfl rfl g1 g5 (o := .map (es.modify i fun e => { e with key := .string q, val := wv }) c) (by rw [g2]; rfl) (fun m' hle hal => by
          refine ⟨_, _, hal, rfl, g3, g4, g5, ?_⟩
          rw [Array.toList_modify]
          exact (ents_mod hp i g6).le hle)
        exact ⟨_, (hpk _ f1).trans (putObj_set g1 g3 g4 g5 hb), k1, k2, rfl⟩
    · cases hv
  · cases hv
theorem vdelete_sound (h : Rel P S0 env m a vs) (hbar : ∀ i, Wb (vs.cx S0 env m) i → m.bar ≤ i) {t : TypeId} {x k y : Sl} {wx wk : Value} {vs1 : VS} (hx : repV P (vs.cx S0 env m) x wx) (hk : repV P (vs.cx S0 env m) k wk) (hv : vdelete P t x k vs = some (y, vs1)) :
    ∃ m1, idelete P t wx wk m = some m1 ∧ Rel P S0 env m1 a vs1 ∧ Stp (vs.cx S0 env m) (vs1.cx S0 env m1) ∧ y = undefS := by
  unfold vdelete at hv
  split at hv
  · rename_i e j q ht
    split at hv
    · rename_i c l hj
      obtain ⟨hbx, rfl, kb, es, g1, g2, g3, g4, g5, g6, g7⟩ := mx_alive h hj hx
      obtain rfl := str_rep hk
      have hf := ents_find (q := q) 0 g6
      have hb : m.bar ≤ env.β j := hbar _ (.inl ⟨j, lt_of_get hbx, by show hasOf vs.bx j = true; rw [hasOf_get hbx]; rfl, rfl⟩)
      cases hv
      have hpk : ∀ r, Instr.findNow .string (.string q) es.toList 0 = some r → idelete P t (.map (some (env.β j))) (.string q) m = (match (r : Option (Nat × Value)) with
          | some (j', _) => m.putObj (env.β j) (.map (es.eraseIdxIfInBounds j') c)
          | none => m.putObj (env.β j) (.map es c)) := by
        intro r hr
        unfold idelete
        rw [txtMap_eq ht]
        dsimp only
        rw [g7]
        dsimp only
        unfold ifind
        rw [show plainKey .string (.string q) = true from rfl, if_pos rfl, hr]
        cases r with
        | none => rfl
        | some r => rfl
      cases hfi : findK q l 0 with
      | none =>
        rw [hfi] at hf
        obtain ⟨k1, k2⟩ := h.setObj (ns := [.mx c l]) hbx rfl rfl rfl g1 g5 (o := .map es c) (by rw [g2]) (fun m' hle hal => ⟨_, _, hal, rfl, g3, g4, g5, g6.le hle⟩)
        exact ⟨_, (hpk _ hf).trans (putObj_set g1 g3 g4 g5 hb), k1, k2, rfl⟩
      | some p =>
        obtain ⟨i, j2⟩ := p
        rw [hfi] at hf
        obtain ⟨v', f1, f2, _⟩ := hf
        obtain ⟨k1, k2⟩ := h.setObj (ns := [.mx c (eraK l i)]) hbx rfl rfl rfl g1 g5 (o := .map (es.eraseIdxIfInBounds i) c) (by rw [g2]; rfl) (fun m' hle hal => by
          refine ⟨_, _, hal, rfl, g3, g4, g5, ?_⟩
          rw [Array.toList_eraseIdxIfInBounds]
          exact (ents_era i g6).le hle)
        exact ⟨_, (hpk _ f1).trans (putObj_set g1 g3 g4 g5 hb), k1, k2, rfl⟩
    · cases hv
  · cases hv
theorem mv_new {Y : Cx} {n i : Nat} (h1 : n < Y.nb) (h2 : i < Y.m.nxt) (h3 : Y.env.β n = i) : repV P Y (.v (.s (.mv n))) (.map (some i)) := ⟨h1, i, rfl, h2, fun _ => h3.symm⟩
theorem vmakeMap_sound (h : Rel P S0 env m a vs) {t : TypeId} {r : Option Sl} {wr : Option Value} {y : Sl} {vs1 : VS} (hr : match r, wr with | none, none => True | some s, some w => repV P (vs.cx S0 env m) s w | _, _ => False) (hv : vmakeMap P t r vs = some (y, vs1)) :
    ∃ v m1 env1, imakeMap P t wr m = some (v, m1) ∧ Rel P S0 env1 m1 a vs1 ∧ Stp (vs.cx S0 env m) (vs1.cx S0 env1 m1) ∧ repV P (vs1.cx S0 env1 m1) y v := by
  obtain ⟨k0, k1, k2⟩ := h.newObj (cs := [.mx 0 []]) (o := .map #[] 0) rfl (fun Y hle hal hβ => by
    refine ⟨_, _, hal, rfl, rfl, rfl, hβ.symm, trivial⟩)
  have fin : ∀ {i}, imakeMap P t wr m = some (i, m.mk1 (.map #[] 0)) → i = .map (some m.nxt) → (.v (.s (.mv vs.bx.length)), (newBox vs [.mx 0 []]).2) = (y, vs1) → ∃ v m1 env1, imakeMap P t wr m = some (v, m1) ∧ Rel P S0 env1 m1 a vs1 ∧ Stp (vs.cx S0 env m) (vs1.cx S0 env1 m1) ∧ repV P (vs1.cx S0 env1 m1) y v := by
    intro i hi e1 e2
    cases e2
    subst e1
    refine ⟨_, _, _, hi, k1, k2, ?_⟩
    refine mv_new (by show vs.bx.length < (vs.bx ++ [_]).length; simp) (Nat.lt_succ_self _) (setβ_new _ _ _)
  unfold vmakeMap at hv
  split at hv
  · cases hv
    cases wr with
    | some w => exact hr.elim
    | none => exact fin (by unfold imakeMap; rw [k0]) rfl rfl
  · rename_i hu
    cases hv
    cases wr with
    | none => exact hr.elim
    | some w =>
      have hw := hr.1
      subst hw
      exact fin (by unfold imakeMap; rw [hu, k0]) rfl rfl
  · cases hv
theorem vrangeM_sound (h : Rel P S0 env m a vs) {t : TypeId} {x y : Sl} {wx : Value} {vs1 : VS} (hx : repV P (vs.cx S0 env m) x wx) (hv : vrangeM P t x vs = some (y, vs1)) :
    ∃ v m1 env1, irange P t wx m = some (v, m1) ∧ Rel P S0 env1 m1 a vs1 ∧ Stp (vs.cx S0 env m) (vs1.cx S0 env1 m1) ∧ repV P (vs1.cx S0 env1 m1) y v := by
  unfold vrangeM at hv
  split at hv
  · rename_i j
    split at hv
    · rename_i c l hj
      obtain ⟨hbx, rfl, kb, es, g1, g2, g3, g4, g5, g6, g7⟩ := mx_alive h hj hx
      cases hu : isMapT (P.underlying t) with
      | false => rw [hu] at hv; cases hv
      | true =>
        rw [hu] at hv
        simp only [cond_true, Option.some.injEq] at hv
        have hro : rangeObj P t (.map (some (env.β j))) m = some (.mapIter (some (env.β j)) c #[] c) := by
          unfold rangeObj
          unfold isMapT at hu
          split at hu
          · rename_i kd ed hd
            rw [hd]
            dsimp only
            rw [g7]
          · cases hu
        have hlt : env.β j < m.nxt := alive_lt h.T.free g1
        obtain ⟨k0, k1, k2⟩ := h.newObj (cs := [.mi j c [] c]) (o := .mapIter (some (env.β j)) c #[] c) rfl (fun Y hle hal hβ => by
          refine ⟨Nat.lt_of_lt_of_le (lt_of_get hbx) hle.nb, _, env.β j, hal, rfl, rfl, rfl, hβ.symm, Nat.lt_of_lt_of_le hlt hle.nxt, fun q => (hle.β j (lt_of_get hbx)).symm⟩)
        cases hv
        refine ⟨_, _, _, by unfold irange; rw [hro]; dsimp only; rw [k0], k1, k2, ?_⟩
        exact ⟨by show vs.bx.length < (vs.bx ++ [_]).length; simp, m.nxt, rfl, Nat.lt_succ_self _, fun _ => (setβ_new _ _ _).symm⟩
    · cases hv
  · cases hv
theorem cand_list (es : Array MapEntry) (since : Nat) (seen : List Nat) : (candOf es since seen.toArray).toList =
    (if ((es.toList.filter fun e => !seen.contains e.born).filter fun e => decide (e.born < since)).isEmpty then [none] else []) ++
      (((es.toList.filter fun e => !seen.contains e.born).filter fun e => decide (e.born < since)) ++ ((es.toList.filter fun e => !seen.contains e.born).filter fun e => decide (e.born ≥ since))).map some := by
  unfold candOf
  have h1 : ∀ x : Array MapEntry, x.isEmpty = x.toList.isEmpty := fun x => by cases x with | mk l => cases l <;> rfl
  rw [h1]
  simp only [Array.toList_append, Array.toList_map, Array.toList_filter, List.contains_toArray]
  split <;> rfl
theorem ents_nil {es : List MapEntry} (h : entsOK P X [] es) : es = [] := by
  cases es with
  | nil => rfl
  | cons => exact h.elim
theorem ents_one {a : ByteArray × Nat × Nat} {es : List MapEntry} (h : entsOK P X [a] es) : ∃ e, es = [e] ∧ e.key = .string a.1 ∧ e.born = a.2.1 ∧ repC P X (.p a.2.2 0) e.val := by
  cases es with
  | nil => exact h.elim
  | cons e es => exact ⟨e, by rw [ents_nil h.2], h.1⟩
theorem vnextM_sound (h : Rel P S0 env m a vs) (hbar : ∀ i, Wb (vs.cx S0 env m) i → m.bar ≤ i) {i jm since last c : Nat} {seen : List Nat} {l : List (ByteArray × Nat × Nat)} {y : Sl} {vs1 : VS} (hi : vs.bx[i]? = some [.mi jm since seen last]) (hj : mxAt vs jm = some (c, l)) (hv : vnextM i jm since seen last c l vs = some (y, vs1)) :
    ∃ v m1, inext (.pointer (some ⟨env.β i, 0, none⟩)) false m = some (v, m1) ∧ Rel P S0 env m1 a vs1 ∧ Stp (vs.cx S0 env m) (vs1.cx S0 env m1) ∧ repV P (vs1.cx S0 env m1) y v := by
  obtain ⟨u0, k, ib, u1, u2, u3, u4, u5, u6, u7⟩ := h.T.bx i _ hi
  have hbxj : vs.bx[jm]? = some [.mx c l] := by
    unfold mxAt at hj
    split at hj
    · rename_i c' l' hq; cases hj; exact hq
    · cases hj
  have hh : hasOf vs.bx jm = true := by rw [hasOf_get hbxj]; rfl
  have hib : ib = env.β jm := u7 hh
  subst hib
  obtain ⟨_, _, kb, es, g1, g2, g3, g4, g5, g6, g7⟩ := mx_alive (w := .map (some (env.β jm))) h hj ⟨u0, _, rfl, u6, fun _ => rfl⟩
  have u1' : m.alive (env.β i) = some k := u1
  have hb : m.bar ≤ env.β i := hbar _ (.inl ⟨i, lt_of_get hi, by show hasOf vs.bx i = true; rw [hasOf_get hi]; rfl, rfl⟩)
  unfold vnextM at hv
  obtain ⟨e1, e2⟩ := ents_all (fun b => decide (b ≥ last)) g6
  have hemp : es.isEmpty = l.isEmpty := by rw [← e2]; cases es with | mk q => cases q <;> rfl
  have hall : es.all (fun x => decide (x.born ≥ last)) = l.all (fun a => decide (a.2.1 ≥ last)) := by rw [← e1, Array.all_toList]
  have hsee : seen.toArray.isEmpty = seen.isEmpty := by cases seen <;> rfl
  cases hg : (!seen.isEmpty && !l.isEmpty && l.all (fun a => decide (a.2.1 ≥ last))) with
  | true => rw [hg] at hv; cases hv
  | false =>
    rw [hg] at hv
    simp only [cond_false] at hv
    have hA := ents_filter (fun b => decide (b < since)) (ents_filter (fun b => !seen.contains b) g6)
    have hB := ents_filter (fun b => decide (b ≥ since)) (ents_filter (fun b => !seen.contains b) g6)
    have hc := cand_list es since seen
    have hin : inext (.pointer (some ⟨env.β i, 0, none⟩)) false m = (match (candOf es since seen.toArray).toList with
      | [some e] => (m.putObj (env.β i) (.mapIter (some (env.β jm)) since (seen.toArray.push e.born) c)).map fun m1 => (.tuple #[.bool true, e.key, e.val], m1)
      | [none] => some (.tuple #[.bool false], m)
      | _ => none) := by
      show (match m.alive (env.β i) with | some b => inextObj m (env.β i) false b.obj | none => none) = _
      rw [u1']
      dsimp only
      rw [u2]
      unfold inextObj
      dsimp only
      rw [if_neg (by decide), g7]
      dsimp only
      rw [if_neg (by rw [hsee, hemp, hall]; rw [hg]; decide)]
      split
      · rename_i q; rw [q]
      · rename_i q; rw [q]
      · rename_i q1 q2
        split
        · rename_i q; exact absurd q (q1 _)
        · rename_i q; exact absurd q q2
        · rfl
    split at hv
    · rename_i o1 o2
      have w1 := ents_nil (by rw [← o1]; exact hA)
      have w2 := ents_nil (by rw [← o2]; exact hB)
      rw [w1, w2] at hc
      rw [hc] at hin
      cases hv
      exact ⟨_, m, hin, h, Stp.refl h.T.free, _, rfl, ⟨rfl, rfl⟩, trivial⟩
    · rename_i b o1 o2
      obtain ⟨e, w1, w3, w4, w5⟩ := ents_one (by rw [← o1]; exact hA)
      have w2 := ents_nil (by rw [← o2]; exact hB)
      rw [w1, w2] at hc
      rw [hc] at hin
      cases hv
      obtain ⟨k1, k2⟩ := h.setObj (ns := [.mi jm since (seen ++ [b.2.1]) c]) hi rfl rfl rfl u1 u5 (o := .mapIter (some (env.β jm)) since (seen.toArray.push e.born) c) (by rw [u2]; rfl) (fun m' hle hal => by
        refine ⟨Nat.lt_of_lt_of_le u0 hle.nb, _, env.β jm, hal, ?_, u3, u4, u5, Nat.lt_of_lt_of_le u6 hle.nxt, fun _ => rfl⟩
        rw [w4]; simp)
      refine ⟨.tuple #[.bool true, e.key, e.val], _, hin.trans ?_, k1, k2, ?_⟩
      · show (m.putObj (env.β i) (.mapIter (some (env.β jm)) since (seen.toArray.push e.born) c)).map (fun m1 => (Value.tuple #[.bool true, e.key, e.val], m1)) = _
        rw [putObj_set u1' u3 u4 u5 hb]
        rfl
      · exact ⟨_, rfl, ⟨rfl, rfl⟩, ⟨w3, rfl⟩, w5.le k2.le, trivial⟩
    · cases hv
theorem vnext_sound (h : Rel P S0 env m a vs) (hbar : ∀ i, Wb (vs.cx S0 env m) i → m.bar ≤ i) {x y : Sl} {s : Bool} {wx : Value} {vs1 : VS} (hx : repV P (vs.cx S0 env m) x wx) (hv : vnext x s vs = some (y, vs1)) :
    ∃ v m1, inext wx s m = some (v, m1) ∧ Rel P S0 env m1 a vs1 ∧ Stp (vs.cx S0 env m) (vs1.cx S0 env m1) ∧ repV P (vs1.cx S0 env m1) y v := by
  unfold vnext at hv
  split at hv
  · rename_i i
    split at hv
    · rename_i jm since seen last hi
      split at hv
      · rename_i c l hj
        obtain ⟨h1, b, rfl, h3, h4⟩ := hx
        have hb : b = env.β i := h4 (by show hasOf vs.bx i = true; rw [hasOf_get hi]; rfl)
        subst hb
        exact vnextM_sound h hbar hi hj hv
      · cases hv
    · cases hv
  · cases hv
theorem ents_findB (p : Nat → Bool) : ∀ {l : List (ByteArray × Nat × Nat)} {es : List MapEntry}, entsOK P X l es → ∀ {b : ByteArray × Nat × Nat}, l.find? (fun a => p a.2.1) = some b → ∃ e, es.find? (fun x => p x.born) = some e ∧ e.key = .string b.1 ∧ repC P X (.p b.2.2 0) e.val := by
  intro l
  induction l with
  | nil => intro es h b hb; cases hb
  | cons a l ih =>
    intro es h b hb
    cases es with
    | nil => exact h.elim
    | cons e es =>
      obtain ⟨⟨h1, h2, h3⟩, h4⟩ := h
      rw [List.find?_cons] at hb ⊢
      rw [h2]
      split at hb
      · cases hb; exact ⟨e, rfl, h1, h3⟩
      · exact ih h4 hb
theorem ventry_sound (h : Rel P S0 env m a vs) {x y : Sl} {wx : Value} {vs1 : VS} (hx : repV P (vs.cx S0 env m) x wx) (hv : ventry x vs = some (y, vs1)) :
    vs1 = vs ∧ ∃ v, ientry wx m = some v ∧ repV P (vs.cx S0 env m) y v := by
  unfold ventry at hv
  split at hv
  · rename_i i
    split at hv
    · rename_i jm since seen last hi
      split at hv
      · rename_i c l st hj hst
        obtain ⟨h1, b, rfl, h3, h4⟩ := hx
        have hb : b = env.β i := h4 (by show hasOf vs.bx i = true; rw [hasOf_get hi]; rfl)
        subst hb
        cases hcl : Nat.beq c last with
        | false => rw [hcl] at hv; cases hv
        | true =>
          rw [hcl] at hv
          simp only [cond_true, Option.map_eq_some_iff, Prod.mk.injEq] at hv
          obtain ⟨q, hq, rfl, rfl⟩ := hv
          have hc : c = last := Nat.eq_of_beq_eq_true hcl
          subst hc
          obtain ⟨u0, k, ib, u1, u2, u3, u4, u5, u6, u7⟩ := h.T.bx i _ hi
          have hbxj : vs.bx[jm]? = some [.mx c l] := by
            unfold mxAt at hj
            split at hj
            · rename_i c' l' hq; cases hj; exact hq
            · cases hj
          have hib : ib = env.β jm := u7 (by show hasOf vs.bx jm = true; rw [hasOf_get hbxj]; rfl)
          subst hib
          obtain ⟨_, _, kb, es, g1, g2, g3, g4, g5, g6, g7⟩ := mx_alive (w := .map (some (env.β jm))) h hj ⟨u0, _, rfl, u6, fun _ => rfl⟩
          have u1' : m.alive (env.β i) = some k := u1
          obtain ⟨e, e1, e2, e3⟩ := ents_findB (fun n => n == st) g6 hq
          refine ⟨rfl, .tuple #[e.key, e.val], ?_, ⟨_, rfl, ⟨e2, rfl⟩, e3, trivial⟩⟩
          have hbk : seen.toArray.back? = some st := by rw [List.back?_toArray]; exact hst
          unfold ientry
          simp only [u1', u2, hbk, g7, if_true, e1, Option.map_some]
      · cases hv
    · cases hv
  · cases hv
theorem isMapO_src {o : Op} (h : isMapO o = true) : srcOf o = none := by
  unfold isMapO at h
  split at h <;> first | rfl | cases h
theorem vmap_sound {o : Oper} (hm : isMapO o.op = true) (h : Rel P S0 env m a vs) (hbar : ∀ i, Wb (vs.cx S0 env m) i → m.bar ≤ i) {x : Sl} {vs1 : VS} (hv : vmap P vs o = some (x, vs1)) : OpS P S0 env m a vs o x vs1 := by
  have hE := fun y => ev_rep (P := P) h y
  unfold vmap at hv
  split at hv
  · rename_i t y k ok ho
    obtain ⟨rfl, v, h1, h2⟩ := vlookup_sound h (hE y) (hE k) hv
    exact OpS.same h (by unfold iop; rw [ho]; dsimp only; rw [h1]; rfl) h2
  · rename_i t y k v ho
    obtain ⟨m1, h1, h2, h3, rfl⟩ := vupdate_sound h hbar (hE y) (hE k) (hE v) hv
    exact ⟨undef, m1, env, .inr ⟨by unfold iop; rw [ho]; dsimp only; rw [h1]; rfl, rfl⟩, h2, h3, ⟨#[], rfl, trivial⟩⟩
  · rename_i t y k v ho
    obtain ⟨m1, h1, h2, h3, rfl⟩ := vupdate_sound h hbar (hE y) (hE k) (hE v) hv
    exact ⟨undef, m1, env, .inr ⟨by unfold iop; rw [ho]; dsimp only; rw [h1]; rfl, rfl⟩, h2, h3, ⟨#[], rfl, trivial⟩⟩
  · rename_i t r ho
    obtain ⟨v, m1, env1, h1, h2, h3, h4⟩ := vmakeMap_sound (wr := r.map a.eval) h (by cases r with | none => trivial | some r => exact hE r) hv
    exact ⟨v, m1, env1, .inl (by unfold iop; rw [ho]; dsimp only; rw [h1]; rfl), h2, h3, h4⟩
  · rename_i t y ho
    obtain ⟨v, m1, env1, h1, h2, h3, h4⟩ := vrangeM_sound h (hE y) hv
    exact ⟨v, m1, env1, .inl (by unfold iop; rw [ho]; dsimp only; rw [h1]; rfl), h2, h3, h4⟩
  · rename_i it s ho
    obtain ⟨v, m1, h1, h2, h3, h4⟩ := vnext_sound h hbar (hE it) hv
    exact ⟨v, m1, env, .inl (by unfold iop; rw [ho]; dsimp only; rw [h1]; rfl), h2, h3, h4⟩
  · rename_i it ho
    obtain ⟨rfl, v, h1, h2⟩ := ventry_sound h (hE it) hv
    exact OpS.same h (by unfold iop; rw [ho]; dsimp only; rw [h1]; rfl) h2
  · rename_i c ho
    have hc : c.callee = .builtin .delete := by
      rw [ho] at hm
      unfold isMapO at hm
      dsimp only at hm
      split at hm
      · assumption
      · cases hm
    split at hv
    · rename_i y k t hy hk ht
      split at hv
      · rename_i hsz
        obtain ⟨m1, h1, h2, h3, rfl⟩ := vdelete_sound h hbar (hE y) (hE k) hv
        refine ⟨.tuple #[], m1, env, .inl ?_, h2, h3, ⟨#[], rfl, trivial⟩⟩
        unfold iop; rw [ho]; dsimp only
        unfold icall
        rw [hc]
        dsimp only
        rw [hy, hk, ht]
        simp only [Option.map_some]
        rw [if_pos hsz, h1]; rfl
      · cases hv
    · cases hv
  · cases hv
end Go.IM.V
namespace Go.IM.V
open Go Go.IM
variable {P : Program} {m m1 : M} {S0 : Nat → Prop} {env : Env} {a : Act} {vs : VS} {X Y : Cx}
def lext (l l' : List Nat) : Prop := ∀ (t j : Nat), l[t]? = some j → l'[t]? = some j
theorem lext.refl (l : List Nat) : lext l l := fun _ _ h => h
theorem lext.trans {a b c : List Nat} (h : lext a b) (k : lext b c) : lext a c := fun t j x => k t j (h t j x)
theorem pin_some {l l' : List Nat} {t j : Nat} (h : pin l t j = some l') : lext l l' ∧ l'[t]? = some j := by
  unfold pin at h
  split at h
  · rename_i j' hj
    cases hb : Nat.beq j' j with
    | true => rw [hb] at h; cases h; exact ⟨lext.refl _, by rw [hj, Nat.eq_of_beq_eq_true hb]⟩
    | false => rw [hb] at h; cases h
  · rename_i hj
    cases hb : Nat.beq t l.length with
    | true =>
      rw [hb] at h
      cases h
      have ht := Nat.eq_of_beq_eq_true hb
      refine ⟨fun s i hs => ?_, by rw [ht]; simp⟩
      rw [List.getElem?_append_left (lt_of_get hs)]; exact hs
    | false => rw [hb] at h; cases h
structure GH.le (q q' : GH) : Prop where
  g : lext q.g q'.g
  h : lext q.h q'.h
theorem GH.le.refl (q : GH) : q.le q := ⟨lext.refl _, lext.refl _⟩
theorem GH.le.trans {a b c : GH} (h : a.le b) (k : b.le c) : a.le c := ⟨h.g.trans k.g, h.h.trans k.h⟩
structure Ren2 (X Y : Cx) (q : GH) (rx rb : Nat → Nat) : Prop where
  mono : Mono X.S X.m Y.S Y.m
  nxt : X.m.nxt ≤ Y.m.nxt
  ty : ∀ i e, X.m.typ i = some e → Y.m.typ i = some e
  box : ∀ t j, q.g[t]? = some j → rx t < Y.nb ∧ Y.env.β (rx t) = X.env.β j ∧ (Y.has (rx t) = true → X.has j = true) ∧ ∀ L, Y.len (rx t) = some L → X.len j = some L
  buf : ∀ (t j : Nat) (b : Bf), q.h[t]? = some j → X.bf[j]? = some b → ∃ l, Y.bf[rb t]? = some { b with live := l } ∧ Y.env.τ (rb t) = X.env.τ j
def renE (rx : Nat → Nat) (g : List Nat) : List (ByteArray × Nat × Nat) → List (ByteArray × Nat × Nat) → Prop
  | [], [] => True
  | a :: l, b :: r => (a.1 = b.1 ∧ a.2.1 = b.2.1 ∧ ∃ t, b.2.2 = rx t ∧ g[t]? = some a.2.2) ∧ renE rx g l r
  | _, _ => False
theorem renE.le {rx : Nat → Nat} {g g' : List Nat} (h : lext g g') : ∀ {l r : List (ByteArray × Nat × Nat)}, renE rx g l r → renE rx g' l r := by
  intro l
  induction l with
  | nil => intro r hr; cases r <;> exact hr
  | cons a l ih => intro r hr; cases r with
    | nil => exact hr.elim
    | cons b r =>
      obtain ⟨⟨h1, h2, t, h3, h4⟩, h5⟩ := hr
      exact ⟨⟨h1, h2, t, h3, h _ _ h4⟩, ih h5⟩
theorem pinL_some (rx : Nat → Nat) : ∀ {l r : List (ByteArray × Nat × Nat)} {g g' : List Nat}, pinL g l r = some g' → eqK l r = true → lext g g' ∧ renE rx g' r (l.map fun q => (q.1, q.2.1, rx q.2.2)) := by
  intro l
  induction l with
  | nil => intro r g g' h he; cases r with
    | nil => cases h; exact ⟨lext.refl _, trivial⟩
    | cons => cases h
  | cons a l ih => intro r g g' h he; cases r with
    | nil => cases h
    | cons b r =>
      simp only [pinL, Option.bind_eq_some_iff] at h
      obtain ⟨g1, h1, h2⟩ := h
      simp only [eqK, Bool.and_eq_true] at he
      obtain ⟨⟨e1, e2⟩, e3⟩ := he
      obtain ⟨k1, k2⟩ := ih h2 e3
      obtain ⟨p1, p2⟩ := pin_some h1
      refine ⟨p1.trans k1, ⟨?_, (Nat.eq_of_beq_eq_true e2).symm, a.2.2, rfl, k1 _ _ p2⟩, k2⟩
      exact ((MapKept.bytes_beq _ _).1 e1).symm
theorem pinL_lext : ∀ {l r : List (ByteArray × Nat × Nat)} {g g' : List Nat}, pinL g l r = some g' → lext g g' := by
  intro l
  induction l with
  | nil => intro r g g' h; cases r with
    | nil => cases h; exact lext.refl _
    | cons => cases h
  | cons a l ih => intro r g g' h; cases r with
    | nil => cases h
    | cons b r =>
      simp only [pinL, Option.bind_eq_some_iff] at h
      obtain ⟨g1, h1, h2⟩ := h
      exact (pin_some h1).1.trans (ih h2)
theorem ptM_le {bf : List Bf} {p : Pt} {s : S1} {q q' : GH} {x : PtE p} (h : ptM bf p s q = some (x, q')) : q.le q' := by
  cases p with
  | v t =>
    simp only [ptM, Option.map_eq_some_iff] at h
    obtain ⟨y, _, h2⟩ := h
    cases h2
    exact GH.le.refl _
  | o t =>
    simp only [ptM] at h
    split at h
    · simp only [Option.map_eq_some_iff] at h
      obtain ⟨l, h1, h2⟩ := h
      cases h2
      exact ⟨lext.refl _, (pin_some h1).1⟩
    · cases h
  | p t off =>
    simp only [ptM] at h
    split at h
    · rename_i j off'
      cases hb : Nat.beq off off' with
      | false => rw [hb] at h; cases h
      | true =>
        rw [hb] at h
        simp only [cond_true, Option.map_eq_some_iff] at h
        obtain ⟨l, h1, h2⟩ := h
        cases h2
        exact ⟨(pin_some h1).1, lext.refl _⟩
    · cases h
  | fn f =>
    simp only [ptM] at h
    split at h
    · rename_i f' a c
      cases hc : (Nat.beq f f' && a.isEmpty && c.isEmpty) with
      | false => rw [hc] at h; cases h
      | true => rw [hc] at h; cases h; exact GH.le.refl _
    · cases h
  | m e t =>
    simp only [ptM] at h
    split at h
    · split at h
      · simp only [Option.map_eq_some_iff] at h
        obtain ⟨l, h1, h2⟩ := h
        cases h2
        exact ⟨(pin_some h1).1, lext.refl _⟩
      · cases h
    · cases h
  | r e =>
    simp only [ptM] at h
    split at h
    · simp only [Option.map_eq_some_iff] at h
      obtain ⟨l, h1, h2⟩ := h
      cases h2
      exact GH.le.refl _
    · cases h
  | ra e =>
    simp only [ptM] at h
    split at h
    · simp only [Option.map_eq_some_iff] at h
      obtain ⟨l, h1, h2⟩ := h
      cases h2
      exact GH.le.refl _
    · cases h
  | g =>
    simp only [ptM] at h
    split at h
    · cases h; exact GH.le.refl _
    · cases h
  | nl =>
    simp only [ptM] at h
    split at h
    · cases h; exact GH.le.refl _
    · cases h
  | mv t =>
    simp only [ptM] at h
    split at h
    · simp only [Option.map_eq_some_iff] at h
      obtain ⟨l, h1, h2⟩ := h
      cases h2
      exact ⟨(pin_some h1).1, lext.refl _⟩
    · cases h
  | mx c l =>
    simp only [ptM] at h
    split at h
    · rename_i c' l'
      cases hb : (Nat.beq c c' && eqK l l') with
      | false => rw [hb] at h; cases h
      | true =>
        rw [hb] at h
        simp only [cond_true, Option.map_eq_some_iff] at h
        obtain ⟨g, h1, h2⟩ := h
        cases h2
        exact ⟨pinL_lext h1, lext.refl _⟩
    · cases h
  | sb e n t =>
    simp only [ptM] at h
    split at h
    · split at h
      · simp only [Option.map_eq_some_iff] at h
        obtain ⟨l, h1, h2⟩ := h
        cases h2
        exact ⟨(pin_some h1).1, lext.refl _⟩
      · cases h
    · cases h
  | ki k n =>
    simp only [ptM] at h
    split at h
    · split at h
      · cases h; exact GH.le.refl _
      · cases h
    · cases h
  | kt n =>
    simp only [ptM] at h
    split at h
    · split at h
      · cases h; exact GH.le.refl _
      · cases h
    · cases h
  | va t =>
    simp only [ptM, Option.map_eq_some_iff] at h
    obtain ⟨y, h1, h2⟩ := h
    cases h2
    exact GH.le.refl _
  | ip u t off =>
    simp only [ptM] at h
    split at h
    · rename_i u' j off'
      cases hb : (Nat.beq u u' && Nat.beq off off') with
      | false => rw [hb] at h; cases h
      | true =>
        rw [hb] at h
        simp only [cond_true, Option.map_eq_some_iff] at h
        obtain ⟨l, h1, h2⟩ := h
        cases h2
        exact ⟨(pin_some h1).1, lext.refl _⟩
    · cases h
  | w e t =>
    simp only [ptM] at h
    split at h
    · rename_i e' j n cp
      split at h
      · rename_i he
        simp only [Option.map_eq_some_iff] at h
        obtain ⟨l, h1, h2⟩ := h
        cases h2
        exact ⟨(pin_some h1).1, lext.refl _⟩
      · cases h
    · cases h
  | x =>
    simp only [ptM] at h
    split at h
    · rename_i c
      cases hb : isRun [c] with
      | true => rw [hb] at h; cases h
      | false => rw [hb] at h; cases h; exact GH.le.refl _
    · cases h; exact GH.le.refl _
theorem old_noAd {v : Value} (h : okc v = true) (n : Nat) : OldV n v := by
  unfold okc at h
  rw [Bool.and_eq_true] at h
  have h2 := h.2
  unfold noAd at h2
  split at h2
  · cases h2
  · cases h2
  · rename_i h3 h4
    unfold OldV
    split
    · exact absurd rfl (h3 _)
    · exact absurd rfl (h4 _ _ _)
    · trivial
theorem old_rep {bx : List (List Cl)} (hT : RelT P X bx) {s : Sl} {v : Value} (h : repV P X s v) (hp : known1 s = true) : OldV X.m.nxt v := by
  have key : ∀ {n : Nat} {α : Type} {R : α → List Value → Prop} {xs : List α} {w : Value}, repL P X.S X.m n R xs w → OldV X.m.nxt w := by
    intro n α R xs w hr
    rcases hr with ⟨rfl, _⟩ | ⟨i, o, sp, cap, rfl, h1, h2⟩
    · trivial
    · rcases h2 with h2 | ⟨c, e, h3, _⟩
      · exact .inl ⟨by omega, h2⟩
      · exact .inr (row_lt hT.free h3)
  cases s with
  | t l => obtain ⟨b, rfl, _⟩ := h; trivial
  | v s =>
    cases s with
    | x => cases hp
    | a cs => obtain ⟨b, rfl, _⟩ := h; trivial
    | s c =>
      cases c with
      | x => cases hp
      | c v => obtain ⟨rfl, h2⟩ := h; exact old_noAd h2 _
      | l e xs => exact key (R := repE P X.S X.m e) h
      | z e xs => exact capE_old h.1 _
      | o j => obtain ⟨b, h1, h2⟩ := h; exact key (buf_repL (hT.bf j b h1) h2)
      | p j off => obtain ⟨h1, i, rfl, h2, _⟩ := h; exact h2
      | e t x off => obtain ⟨i, o, c, e', rfl, h1, _⟩ := h; exact row_lt hT.free h1
      | m e j => exact h.2.1.2
      | w e j o n cp => exact h.2.1.2
      | q e j i off => obtain ⟨h1, k, rfl, h2, _⟩ := h; exact h2
      | ra => exact h.elim
      | g => exact h.elim
      | r => exact h.elim
      | sb e j n => exact h.2.1.2
      | ip t j off => obtain ⟨h1, i, rfl, _⟩ := h; trivial
      | mv j => obtain ⟨h1, i, rfl, _⟩ := h; trivial
      | mx => exact h.elim
      | mi => exact h.elim
      | y => exact h.2
theorem fogC_rep {X Y : Cx} {bx : List (List Cl)} (hT : RelT P X bx) (hn : X.m.nxt ≤ Y.m.nxt) {c : Cl} {w : Value} (h : repC P X c w) : repC P Y (fogC c) w := by
  have key : known c = true → known1 (.v (.s c)) = true → repC P Y .y w := fun h1 h2 => ⟨known_one h1 h, (old_rep (s := .v (.s c)) hT h h2).mono hn⟩
  cases c <;> first | trivial | exact h | exact key rfl rfl
theorem fog_rep {X Y : Cx} {bx : List (List Cl)} (hT : RelT P X bx) (hn : X.m.nxt ≤ Y.m.nxt) {s : S1} {w : Value} (h : repS P X s w) : repS P Y (fog s) w := by
  cases s with
  | x => trivial
  | s c => exact fogC_rep (P := P) (c := c) hT hn h
  | a cs =>
    obtain ⟨b, rfl, h2⟩ := h
    refine ⟨b, rfl, ?_⟩
    generalize b.toList = l at h2
    clear b
    induction cs generalizing l with
    | nil => cases l with
      | nil => trivial
      | cons => exact h2.elim
    | cons c cs ih => cases l with
      | nil => exact h2.elim
      | cons v l => exact ⟨fogC_rep hT hn h2.1, ih l h2.2⟩
theorem fogC_any {X Y : Cx} (hn : X.m.nxt ≤ Y.m.nxt) {c : Cl} {w : Value} (h : repC P X (fogC c) w) : repC P Y (fogC c) w := by
  cases c <;> first | trivial | exact h | exact ⟨h.1, h.2.mono hn⟩
theorem fog_any {X Y : Cx} (hn : X.m.nxt ≤ Y.m.nxt) {s : S1} {w : Value} (h : repS P X (fog s) w) : repS P Y (fog s) w := by
  cases s with
  | x => trivial
  | s c => exact fogC_any (P := P) (c := c) hn h
  | a cs =>
    obtain ⟨b, rfl, h2⟩ := h
    refine ⟨b, rfl, ?_⟩
    generalize b.toList = l at h2
    clear b
    induction cs generalizing l with
    | nil => cases l with
      | nil => trivial
      | cons => exact h2.elim
    | cons c cs ih => cases l with
      | nil => exact h2.elim
      | cons v l => exact ⟨fogC_any hn h2.1, ih l h2.2⟩
theorem fogC_norun (c : Cl) : isRun [fogC c] = false ∧ has1 [fogC c] = true ∧ len1 [fogC c] = none := by cases c <;> exact ⟨rfl, rfl, rfl⟩
theorem fog_norun (s : S1) : isRun [clOf (fog s)] = false ∧ has1 [clOf (fog s)] = true ∧ len1 [clOf (fog s)] = none := by
  cases s with
  | s c => exact fogC_norun c
  | _ => exact ⟨rfl, rfl, rfl⟩
theorem ptM_rep {bx : List (List Cl)} (hT : RelT P X bx) {p : Pt} {s : S1} {q q' qf : GH} {x : PtE p} (h : ptM X.bf p s q = some (x, q')) (hq : q'.le qf) {rx rb : Nat → Nat} (hR : Ren2 X Y qf rx rb) {w : Value} (hr : repS P X s w) :
    repS P Y (ptI rx rb p x) w ∧ (∀ c, s = .s c → ∃ c', ptI rx rb p x = .s c') := by
  cases p with
  | v t =>
    simp only [ptM, Option.map_eq_some_iff] at h
    obtain ⟨y, h1, h2⟩ := h
    cases h2
    obtain ⟨h3, h4, h5⟩ := rdS_rep hT h1 hr
    refine ⟨s1Of_rep (repE.mono hR.mono h3) h4 h5, fun c hc => ?_⟩
    subst hc
    show ∃ c', s1Of t _ = .s c'
    simp only [rdS] at h1
    cases t <;> first | exact ⟨_, rfl⟩ | (simp [Ty.ag] at h1; done)
  | o t =>
    simp only [ptM] at h
    split at h
    · rename_i j
      simp only [Option.map_eq_some_iff] at h
      obtain ⟨l, h1, h2⟩ := h
      cases h2
      obtain ⟨_, h3⟩ := pin_some h1
      obtain ⟨b, h4, h5⟩ := hr
      obtain ⟨l', h6, h8⟩ := hR.buf t j b (hq.h t j h3) h4
      refine ⟨⟨_, h6, ?_⟩, fun c hc => ⟨_, rfl⟩⟩
      rw [h8]
      unfold bufW at h5 ⊢
      split at h5
      · exact ⟨h5.1, h5.2.mono hR.mono fun _ _ q => repE.mono hR.mono q⟩
      · exact h5
    · cases h
  | p t off =>
    simp only [ptM] at h
    split at h
    · rename_i j off'
      cases hb : Nat.beq off off' with
      | false => rw [hb] at h; cases h
      | true =>
        rw [hb] at h
        simp only [cond_true, Option.map_eq_some_iff] at h
        obtain ⟨l, h1, h2⟩ := h
        cases h2
        obtain ⟨_, h3⟩ := pin_some h1
        obtain ⟨h4, h5, h7, _⟩ := hR.box t j (hq.g t j h3)
        obtain ⟨_, i, h6, h9, h8⟩ := hr
        have := Nat.eq_of_beq_eq_true hb
        subst this
        exact ⟨⟨h4, i, h6, Nat.lt_of_lt_of_le h9 hR.nxt, fun w => by rw [h5]; exact h8 (h7 w)⟩, fun c hc => ⟨_, rfl⟩⟩
    · cases h
  | fn f =>
    simp only [ptM] at h
    split at h
    · rename_i f' a c
      cases hc : (Nat.beq f f' && a.isEmpty && c.isEmpty) with
      | false => rw [hc] at h; cases h
      | true =>
        rw [hc] at h
        cases h
        simp only [Bool.and_eq_true, Array.isEmpty_iff] at hc
        obtain ⟨⟨h1, rfl⟩, rfl⟩ := hc
        have := Nat.eq_of_beq_eq_true h1
        subst this
        exact ⟨hr, fun c hc => ⟨_, rfl⟩⟩
    · cases h
  | m e t =>
    simp only [ptM] at h
    split at h
    · rename_i e' j
      split at h
      · rename_i he
        subst he
        simp only [Option.map_eq_some_iff] at h
        obtain ⟨l, h1, h2⟩ := h
        cases h2
        obtain ⟨_, h3⟩ := pin_some h1
        obtain ⟨h4, h5, h7, h8⟩ := hR.box t j (hq.g t j h3)
        obtain ⟨_, h6, h9⟩ := hr
        exact ⟨⟨h4, ⟨h6.1, h6.2.mono hR.nxt⟩, fun L hL => by rw [h5]; exact h9 L (h8 L hL)⟩, fun c hc => ⟨_, rfl⟩⟩
      · cases h
    · cases h
  | r e =>
    simp only [ptM] at h
    split at h
    · exact hr.elim
    · cases h
  | ra e =>
    simp only [ptM] at h
    split at h
    · exact hr.elim
    · cases h
  | g =>
    simp only [ptM] at h
    split at h
    · exact hr.elim
    · cases h
  | nl =>
    simp only [ptM] at h
    split at h
    · cases h
      exact ⟨hr, fun c hc => ⟨_, rfl⟩⟩
    · cases h
  | mv t =>
    simp only [ptM] at h
    split at h
    · rename_i j
      simp only [Option.map_eq_some_iff] at h
      obtain ⟨l, h1, h2⟩ := h
      cases h2
      obtain ⟨_, h3⟩ := pin_some h1
      obtain ⟨h4, h5, h7, _⟩ := hR.box t j (hq.g t j h3)
      obtain ⟨_, i, h6, h9, h8⟩ := hr
      exact ⟨⟨h4, i, h6, Nat.lt_of_lt_of_le h9 hR.nxt, fun w => by rw [h5]; exact h8 (h7 w)⟩, fun c hc => ⟨_, rfl⟩⟩
    · cases h
  | mx c l =>
    simp only [ptM] at h
    split at h
    · exact hr.elim
    · cases h
  | sb e n t =>
    simp only [ptM] at h
    split at h
    · rename_i e' j n'
      split at h
      · rename_i he
        obtain ⟨rfl, rfl⟩ := he
        simp only [Option.map_eq_some_iff] at h
        obtain ⟨l, h1, h2⟩ := h
        cases h2
        obtain ⟨_, h3⟩ := pin_some h1
        obtain ⟨h4, h5, h7, h8⟩ := hR.box t j (hq.g t j h3)
        obtain ⟨_, h6, h9⟩ := hr
        exact ⟨⟨h4, ⟨h6.1, h6.2.mono hR.nxt⟩, fun w => by
          rw [h5]
          obtain ⟨u1, eo, u2, u3⟩ := h9 (h7 w)
          exact ⟨u1, eo, hR.ty _ _ u2, u3⟩⟩, fun c hc => ⟨_, rfl⟩⟩
      · cases h
    · cases h
  | ki k n =>
    simp only [ptM] at h
    split at h
    · split at h
      · rename_i he
        obtain ⟨rfl, rfl⟩ := he
        cases h
        exact ⟨hr, fun c hc => ⟨_, rfl⟩⟩
      · cases h
    · cases h
  | kt n =>
    simp only [ptM] at h
    split at h
    · split at h
      · rename_i he
        subst he
        cases h
        exact ⟨hr, fun c hc => ⟨_, rfl⟩⟩
      · cases h
    · cases h
  | va t =>
    simp only [ptM, Option.map_eq_some_iff] at h
    obtain ⟨y, h1, h2⟩ := h
    cases h2
    obtain ⟨h3, h4, h5⟩ := rdS_rep hT h1 hr
    refine ⟨fog_rep (X := X) hT hR.nxt (s1Of_rep h3 h4 h5), fun c hc => ?_⟩
    subst hc
    show ∃ c', fog (s1Of t _) = .s c'
    simp only [rdS] at h1
    cases t <;> first | exact ⟨_, rfl⟩ | (simp [Ty.ag] at h1; done)
  | ip u t off =>
    simp only [ptM] at h
    split at h
    · rename_i u' j off'
      cases hb : (Nat.beq u u' && Nat.beq off off') with
      | false => rw [hb] at h; cases h
      | true =>
        rw [hb] at h
        simp only [cond_true, Option.map_eq_some_iff] at h
        obtain ⟨l, h1, h2⟩ := h
        cases h2
        obtain ⟨_, h3⟩ := pin_some h1
        obtain ⟨h4, h5, h7, _⟩ := hR.box t j (hq.g t j h3)
        obtain ⟨_, i, h6, h9, h8⟩ := hr
        rw [Bool.and_eq_true] at hb
        have e1 := Nat.eq_of_beq_eq_true hb.1
        have e2 := Nat.eq_of_beq_eq_true hb.2
        subst e1
        subst e2
        exact ⟨⟨h4, i, h6, Nat.lt_of_lt_of_le h9 hR.nxt, fun w => by rw [h5]; exact h8 (h7 w)⟩, fun c hc => ⟨_, rfl⟩⟩
    · cases h
  | w e t =>
    simp only [ptM] at h
    split at h
    · rename_i e' j n cp
      split at h
      · rename_i he
        simp only [Option.map_eq_some_iff] at h
        obtain ⟨l, h1, h2⟩ := h
        cases h2
        subst he
        obtain ⟨_, h3⟩ := pin_some h1
        obtain ⟨h4, h5, h7, h8⟩ := hR.box t j (hq.g t j h3)
        obtain ⟨_, h6, h9⟩ := hr
        exact ⟨⟨h4, ⟨h6.1, h6.2.mono hR.nxt⟩, fun L hL => by
          rw [h5, Int.toNat_natCast]
          obtain ⟨u1, u2, u3⟩ := h9 L (h8 L hL)
          exact ⟨u1, u2, fun q => by
            obtain ⟨sp, cap, v1, v2, v3, v4⟩ := u3 q
            exact ⟨sp, cap, v1, v2, v3, fun q => by cases q⟩⟩⟩, fun c hc => ⟨_, rfl⟩⟩
      · cases h
    · cases h
  | x =>
    simp only [ptM] at h
    split at h
    · rename_i c
      cases hb : isRun [c] with
      | true => rw [hb] at h; cases h
      | false => rw [hb] at h; cases h; exact ⟨trivial, fun c hc => ⟨_, rfl⟩⟩
    · cases h; exact ⟨trivial, fun c hc => ⟨_, rfl⟩⟩
def repSlots (P : Program) (X : Cx) (av : Nat → Value) : List (Nat × S1) → Prop
  | [] => True
  | (k, s) :: r => repS P X s (av k) ∧ repSlots P X av r
theorem slM_le {bf : List Bf} {acc : Nat → Sl} : ∀ {l : List (Nat × Pt)} {q q' : GH} {x : SlE l}, slM bf acc l q = some (x, q') → q.le q' := by
  intro l
  induction l with
  | nil => intro q q' x h; cases h; exact GH.le.refl _
  | cons p l ih =>
    intro q q' x h
    obtain ⟨k, p⟩ := p
    simp only [slM, Option.bind_eq_some_iff, Option.map_eq_some_iff] at h
    obtain ⟨⟨y, q1⟩, h1, ⟨z, q2⟩, h2, h3⟩ := h
    cases h3
    exact (ptM_le h1).trans (ih h2)
theorem unV_rep {s : Sl} {w : Value} (h : repV P X s w) : repS P X (unV s) w := by
  cases s with
  | v s => exact h
  | t l => trivial
theorem slM_rep {bx : List (List Cl)} (hT : RelT P X bx) {acc : Nat → Sl} {av : Nat → Value} : ∀ {l : List (Nat × Pt)} {q q' qf : GH} {x : SlE l}, slM X.bf acc l q = some (x, q') → q'.le qf → (∀ p ∈ l, repV P X (acc p.1) (av p.1)) → ∀ {rx rb : Nat → Nat}, Ren2 X Y qf rx rb → repSlots P Y av (slI rx rb l x) := by
  intro l
  induction l with
  | nil => intro q q' qf x h hq ha rx rb hR; trivial
  | cons p l ih =>
    intro q q' qf x h hq ha rx rb hR
    obtain ⟨k, p⟩ := p
    simp only [slM, Option.bind_eq_some_iff, Option.map_eq_some_iff] at h
    obtain ⟨⟨y, q1⟩, h1, ⟨z, q2⟩, h2, h3⟩ := h
    cases h3
    exact ⟨(ptM_rep hT h1 ((slM_le h2).trans hq) hR (unV_rep (ha (k, p) (by simp)))).1, ih h2 hq (fun p hp => ha p (by simp [hp])) hR⟩
theorem ren_ents {q : GH} {rx rb : Nat → Nat} (hR : Ren2 X Y q rx rb) : ∀ {l0 l1 : List (ByteArray × Nat × Nat)} {es : List MapEntry}, renE rx q.g l0 l1 → entsOK P X l0 es → entsOK P Y l1 es := by
  intro l0
  induction l0 with
  | nil => intro l1 es h k; cases l1 with
    | nil => cases es <;> exact k
    | cons => exact h.elim
  | cons a l0 ih => intro l1 es h k; cases l1 with
    | nil => exact h.elim
    | cons b l1 => cases es with
      | nil => exact k.elim
      | cons e es =>
        obtain ⟨⟨h1, h2, t, h3, h4⟩, h5⟩ := h
        obtain ⟨⟨k1, k2, k3⟩, k4⟩ := k
        refine ⟨⟨by rw [← h1]; exact k1, by rw [← h2]; exact k2, ?_⟩, ih h5 k4⟩
        rw [h3]
        obtain ⟨g4, g5, g7, _⟩ := hR.box t a.2.2 h4
        obtain ⟨_, i, g6, g9, g8⟩ := k3
        exact ⟨g4, i, g6, Nat.lt_of_lt_of_le g9 hR.nxt, fun w => by rw [g5]; exact g8 (g7 w)⟩
theorem ceM_le {bf : List Bf} : ∀ {l : List Pt} {cs : List Cl} {q q' : GH} {x : CeE l}, ceM bf l cs q = some (x, q') → q.le q' := by
  intro l
  induction l with
  | nil => intro cs q q' x h; cases cs with
    | nil => cases h; exact GH.le.refl _
    | cons => cases h
  | cons p l ih =>
    intro cs q q' x h
    cases cs with
    | nil => cases h
    | cons c cs =>
      simp only [ceM, Option.bind_eq_some_iff, Option.map_eq_some_iff] at h
      obtain ⟨⟨y, q1⟩, h1, ⟨z, q2⟩, h2, h3⟩ := h
      cases h3
      exact (ptM_le h1).trans (ih h2)
theorem ceM_rep {bx : List (List Cl)} (hT : RelT P X bx) : ∀ {l : List Pt} {cs : List Cl} {q q' qf : GH} {x : CeE l}, ceM X.bf l cs q = some (x, q') → q'.le qf → ∀ {rx rb : Nat → Nat}, Ren2 X Y qf rx rb → ∀ {ws : List Value}, repCs P X cs ws → repCs P Y (ceI rx rb l x) ws := by
  intro l
  induction l with
  | nil => intro cs q q' qf x h hq rx rb hR ws hr; cases cs with
    | nil => cases ws with
      | nil => trivial
      | cons => exact hr.elim
    | cons => cases h
  | cons p l ih =>
    intro cs q q' qf x h hq rx rb hR ws hr
    cases cs with
    | nil => cases h
    | cons c cs =>
      cases ws with
      | nil => exact hr.elim
      | cons w ws =>
        simp only [ceM, Option.bind_eq_some_iff, Option.map_eq_some_iff] at h
        obtain ⟨⟨y, q1⟩, h1, ⟨z, q2⟩, h2, h3⟩ := h
        cases h3
        obtain ⟨h4, h5⟩ := ptM_rep hT h1 ((ceM_le h2).trans hq) hR (s := .s c) hr.1
        obtain ⟨c', h6⟩ := h5 c rfl
        refine ⟨?_, ih h2 hq hR hr.2⟩
        show repC P Y (clOf (ptI rx rb p y)) w
        rw [h6] at h4 ⊢
        exact h4
theorem bxM_le : ∀ {l : List (List Pt)} {t : Nat} {q q' : GH} {x : BxE l}, bxM vs l t q = some (x, q') → q.le q' := by
  intro l
  induction l with
  | nil => intro t q q' x h; cases h; exact GH.le.refl _
  | cons p l ih =>
    intro t q q' x h
    simp only [bxM] at h
    split at h
    · split at h
      · simp only [Option.bind_eq_some_iff, Option.map_eq_some_iff] at h
        obtain ⟨⟨y, q1⟩, h1, ⟨z, q2⟩, h2, h3⟩ := h
        cases h3
        exact (ceM_le h1).trans (ih h2)
      · cases h
    · cases h
theorem isRun2 (a b : Cl) (l : List Cl) : isRun (a :: b :: l) = false ∧ has1 (a :: b :: l) = true ∧ len1 (a :: b :: l) = none := by cases a <;> exact ⟨rfl, rfl, rfl⟩
theorem isRun1 {c : Cl} (h1 : ∀ o e xs, c ≠ .r o e xs) (h2 : ∀ e xs, c ≠ .ra e xs) (h3 : c ≠ .g) (h4 : ∀ k l, c ≠ .mx k l) (h5 : ∀ j s n t, c ≠ .mi j s n t) : isRun [c] = false ∧ has1 [c] = true ∧ len1 [c] = none := by
  cases c <;> first | exact ⟨rfl, rfl, rfl⟩ | exact absurd rfl (h1 _ _ _) | exact absurd rfl (h2 _ _) | exact absurd rfl h3 | exact absurd rfl (h4 _ _) | exact absurd rfl (h5 _ _ _ _)
theorem s1Of_norun {t : Ty} {x : t.El} : isRun [clOf (s1Of t x)] = false ∧ has1 [clOf (s1Of t x)] = true ∧ len1 [clOf (s1Of t x)] = none := by
  cases t <;> exact ⟨rfl, rfl, rfl⟩
theorem rdS_norun {bf : List Bf} {t : Ty} {c : Cl} {x : t.El} (h : rdS bf t (.s c) = some x) : isRun [c] = false ∧ has1 [c] = true ∧ len1 [c] = none := by
  refine isRun1 (fun o e xs q => ?_) (fun e xs q => ?_) (fun q => ?_) (fun k l q => ?_) (fun j s n t' q => ?_) <;> subst q <;> cases t <;> cases h
theorem ceM_shape {bf : List Bf} {l : List Pt} {cs : List Cl} {q q' : GH} {x : CeE l} (h : ceM bf l cs q = some (x, q')) (rx rb : Nat → Nat) :
    isRun (ceI rx rb l x) = isRun cs ∧ has1 (ceI rx rb l x) = has1 cs ∧ len1 (ceI rx rb l x) = len1 cs ∧
      (isRun cs = true → (∃ own e xs, cs = [.r own e xs] ∧ ceI rx rb l x = [.r false e xs]) ∨ (∃ e xs, cs = [.ra e xs] ∧ ceI rx rb l x = [.ra e xs]) ∨ (cs = [.g] ∧ ceI rx rb l x = [.g]) ∨ (∃ c l0 l1, cs = [.mx c l0] ∧ ceI rx rb l x = [.mx c l1] ∧ renE rx q'.g l0 l1)) := by
  cases l with
  | nil => cases cs with
    | nil => cases h; exact ⟨rfl, rfl, rfl, fun q => by cases q⟩
    | cons => cases h
  | cons p l =>
    cases cs with
    | nil => cases h
    | cons c cs =>
      simp only [ceM, Option.bind_eq_some_iff, Option.map_eq_some_iff] at h
      obtain ⟨⟨y, q1⟩, h1, ⟨z, q2⟩, h2, h3⟩ := h
      cases h3
      cases l with
      | nil =>
        cases cs with
        | cons => cases h2
        | nil =>
          cases h2
          show isRun [clOf (ptI rx rb p y)] = _ ∧ has1 [clOf (ptI rx rb p y)] = _ ∧ len1 [clOf (ptI rx rb p y)] = _ ∧ (_ → (∃ own e xs, _ ∧ [clOf (ptI rx rb p y)] = _) ∨ (∃ e xs, _ ∧ [clOf (ptI rx rb p y)] = _) ∨ (_ ∧ [clOf (ptI rx rb p y)] = _) ∨ (∃ c l0 l1, _ ∧ [clOf (ptI rx rb p y)] = _ ∧ renE rx q1.g l0 l1))
          have plain : isRun [clOf (ptI rx rb p y)] = false ∧ has1 [clOf (ptI rx rb p y)] = true ∧ len1 [clOf (ptI rx rb p y)] = none → isRun [c] = false ∧ has1 [c] = true ∧ len1 [c] = none → isRun [clOf (ptI rx rb p y)] = isRun [c] ∧ has1 [clOf (ptI rx rb p y)] = has1 [c] ∧ len1 [clOf (ptI rx rb p y)] = len1 [c] ∧ (isRun [c] = true → (∃ own e xs, [c] = [.r own e xs] ∧ [clOf (ptI rx rb p y)] = [.r false e xs]) ∨ (∃ e xs, [c] = [.ra e xs] ∧ [clOf (ptI rx rb p y)] = [.ra e xs]) ∨ ([c] = [.g] ∧ [clOf (ptI rx rb p y)] = [.g]) ∨ (∃ k l0 l1, [c] = [.mx k l0] ∧ [clOf (ptI rx rb p y)] = [.mx k l1] ∧ renE rx q1.g l0 l1)) := by
            intro ⟨a1, a2, a3⟩ ⟨b1, b2, b3⟩
            exact ⟨a1.trans b1.symm, a2.trans b2.symm, a3.trans b3.symm, fun q => by rw [b1] at q; cases q⟩
          cases p with
          | v t =>
            simp only [ptM, Option.map_eq_some_iff] at h1
            obtain ⟨y', h4, h5⟩ := h1
            cases h5
            exact plain s1Of_norun (rdS_norun h4)
          | o t =>
            simp only [ptM] at h1
            split at h1
            · rename_i hs; cases hs; exact plain ⟨rfl, rfl, rfl⟩ ⟨rfl, rfl, rfl⟩
            · cases h1
          | p t off =>
            simp only [ptM] at h1
            split at h1
            · rename_i hs; cases hs; exact plain ⟨rfl, rfl, rfl⟩ ⟨rfl, rfl, rfl⟩
            · cases h1
          | fn f =>
            simp only [ptM] at h1
            split at h1
            · rename_i hs; cases hs; exact plain ⟨rfl, rfl, rfl⟩ ⟨rfl, rfl, rfl⟩
            · cases h1
          | m e t =>
            simp only [ptM] at h1
            split at h1
            · rename_i hs; cases hs; exact plain ⟨rfl, rfl, rfl⟩ ⟨rfl, rfl, rfl⟩
            · cases h1
          | r e =>
            simp only [ptM] at h1
            split at h1
            · rename_i own e' xs hs
              cases hs
              simp only [Option.map_eq_some_iff] at h1
              obtain ⟨ys, h4, h5⟩ := h1
              cases h5
              obtain ⟨rfl, rfl⟩ := castL_eq h4
              exact ⟨rfl, rfl, rfl, fun _ => .inl ⟨_, _, _, rfl, rfl⟩⟩
            · cases h1
          | ra e =>
            simp only [ptM] at h1
            split at h1
            · rename_i e' xs hs
              cases hs
              simp only [Option.map_eq_some_iff] at h1
              obtain ⟨ys, h4, h5⟩ := h1
              cases h5
              obtain ⟨rfl, rfl⟩ := castL_eq h4
              exact ⟨rfl, rfl, rfl, fun _ => .inr (.inl ⟨_, _, rfl, rfl⟩)⟩
            · cases h1
          | g =>
            simp only [ptM] at h1
            split at h1
            · rename_i hs; cases hs; exact ⟨rfl, rfl, rfl, fun _ => .inr (.inr (.inl ⟨rfl, rfl⟩))⟩
            · cases h1
          | mv t =>
            simp only [ptM] at h1
            split at h1
            · rename_i hs; cases hs; exact plain ⟨rfl, rfl, rfl⟩ ⟨rfl, rfl, rfl⟩
            · cases h1
          | mx k l =>
            simp only [ptM] at h1
            split at h1
            · rename_i k' l' hs
              cases hs
              cases hb : (Nat.beq k k' && eqK l l') with
              | false => rw [hb] at h1; cases h1
              | true =>
                rw [hb] at h1
                simp only [cond_true, Option.map_eq_some_iff] at h1
                obtain ⟨g, h4, h5⟩ := h1
                cases h5
                rw [Bool.and_eq_true] at hb
                have := Nat.eq_of_beq_eq_true hb.1
                subst this
                exact ⟨rfl, rfl, rfl, fun _ => .inr (.inr (.inr ⟨_, _, _, rfl, rfl, (pinL_some rx h4 hb.2).2⟩))⟩
            · cases h1
          | nl =>
            simp only [ptM] at h1
            split at h1
            · rename_i hs; cases hs; exact plain ⟨rfl, rfl, rfl⟩ ⟨rfl, rfl, rfl⟩
            · cases h1
          | sb e n t =>
            simp only [ptM] at h1
            split at h1
            · rename_i hs; cases hs; exact plain ⟨rfl, rfl, rfl⟩ ⟨rfl, rfl, rfl⟩
            · cases h1
          | ki k n =>
            simp only [ptM] at h1
            split at h1
            · rename_i hs; cases hs; exact plain ⟨rfl, rfl, rfl⟩ ⟨rfl, rfl, rfl⟩
            · cases h1
          | kt n =>
            simp only [ptM] at h1
            split at h1
            · rename_i hs; cases hs; exact plain ⟨rfl, rfl, rfl⟩ ⟨rfl, rfl, rfl⟩
            · cases h1
          | va t =>
            simp only [ptM, Option.map_eq_some_iff] at h1
            obtain ⟨y', h4, h5⟩ := h1
            cases h5
            exact plain (fog_norun _) (rdS_norun h4)
          | ip u t off =>
            simp only [ptM] at h1
            split at h1
            · rename_i hs; cases hs; exact plain ⟨rfl, rfl, rfl⟩ ⟨rfl, rfl, rfl⟩
            · cases h1
          | w e t =>
            simp only [ptM] at h1
            split at h1
            · rename_i hs; cases hs; exact plain ⟨rfl, rfl, rfl⟩ ⟨rfl, rfl, rfl⟩
            · cases h1
          | x =>
            have hb : isRun [c] = false := by
              simp only [ptM] at h1
              cases hb : isRun [c] with
              | true => rw [hb] at h1; cases h1
              | false => rfl
            exact plain ⟨rfl, rfl, rfl⟩ ⟨hb, has1_cel hb, len1_cel hb⟩
      | cons p2 l =>
        cases cs with
        | nil => cases h2
        | cons c2 cs =>
          obtain ⟨a1, a2, a3⟩ := isRun2 c c2 cs
          obtain ⟨b1, b2, b3⟩ := isRun2 (clOf (ptI rx rb p y)) (clOf (ptI rx rb p2 z.1)) (ceI rx rb l z.2)
          exact ⟨b1.trans a1.symm, b2.trans a2.symm, b3.trans a3.symm, fun q => by rw [a1] at q; cases q⟩
theorem bxM_shape {bx : List (List Cl)} (hbx : vs.bx = bx) (rx rb : Nat → Nat) : ∀ {l : List (List Pt)} {t : Nat} {q q' : GH} {x : BxE l}, bxM vs l t q = some (x, q') →
    (bxI rx rb l x).length = l.length ∧ ∀ (i : Nat) cs', (bxI rx rb l x)[i]? = some cs' → ∃ j cs, q'.g[t + i]? = some j ∧ bx[j]? = some cs ∧ isRun cs' = isRun cs ∧ has1 cs' = has1 cs ∧ len1 cs' = len1 cs ∧
      (isRun cs = true → (∃ own e xs, cs = [.r own e xs] ∧ cs' = [.r false e xs]) ∨ (∃ e xs, cs = [.ra e xs] ∧ cs' = [.ra e xs]) ∨ (cs = [.g] ∧ cs' = [.g]) ∨ (∃ c l0 l1, cs = [.mx c l0] ∧ cs' = [.mx c l1] ∧ renE rx q'.g l0 l1)) := by
  intro l
  induction l with
  | nil => intro t q q' x h; exact ⟨rfl, fun i cs' hi => by cases hi⟩
  | cons p l ih =>
    intro t q q' x h
    simp only [bxM] at h
    split at h
    · rename_i j hj
      split at h
      · rename_i cs hcs
        simp only [Option.bind_eq_some_iff, Option.map_eq_some_iff] at h
        obtain ⟨⟨y, q1⟩, h1, ⟨z, q2⟩, h2, h3⟩ := h
        cases h3
        obtain ⟨h4, h5⟩ := ih h2
        refine ⟨by show (_ :: _).length = _; simp [h4], fun i cs' hi => ?_⟩
        cases i with
        | zero =>
          cases hi
          obtain ⟨k1, k2, k3, k4⟩ := ceM_shape h1 rx rb
          refine ⟨j, cs, ((ceM_le h1).trans (bxM_le h2)).g t j hj, by rw [← hbx]; exact hcs, k1, k2, k3, fun w => ?_⟩
          rcases k4 w with k4 | k4 | k4 | ⟨c, l0, l1, u1, u2, u3⟩
          · exact .inl k4
          · exact .inr (.inl k4)
          · exact .inr (.inr (.inl k4))
          · exact .inr (.inr (.inr ⟨c, l0, l1, u1, u2, u3.le (bxM_le h2).g⟩))
        | succ i =>
          obtain ⟨j', cs2, h6, h7⟩ := h5 i cs' hi
          exact ⟨j', cs2, by rw [show t + (i + 1) = t + 1 + i by omega]; exact h6, h7⟩
      · cases h
    · cases h
theorem bxM_rep {bx : List (List Cl)} (hT : RelT P X bx) (hbf : vs.bf = X.bf) (hbx : vs.bx = bx) : ∀ {l : List (List Pt)} {t : Nat} {q q' qf : GH} {x : BxE l}, bxM vs l t q = some (x, q') → q'.le qf → ∀ {rx rb : Nat → Nat}, Ren2 X Y qf rx rb →
    ∀ (i : Nat) cs', (bxI rx rb l x)[i]? = some cs' → ∃ j cs, qf.g[t + i]? = some j ∧ bx[j]? = some cs ∧ ∀ {ws : List Value}, repCs P X cs ws → repCs P Y cs' ws := by
  intro l
  induction l with
  | nil => intro t q q' qf x h hq rx rb hR i cs' hi; cases hi
  | cons p l ih =>
    intro t q q' qf x h hq rx rb hR i cs' hi
    simp only [bxM] at h
    split at h
    · rename_i j hj
      split at h
      · rename_i cs hcs
        simp only [Option.bind_eq_some_iff, Option.map_eq_some_iff] at h
        obtain ⟨⟨y, q1⟩, h1, ⟨z, q2⟩, h2, h3⟩ := h
        cases h3
        cases i with
        | zero =>
          cases hi
          rw [hbf] at h1
          exact ⟨j, cs, ((ceM_le h1).trans ((bxM_le h2).trans hq)).g t j hj, by rw [← hbx]; exact hcs, fun hr => ceM_rep hT h1 ((bxM_le h2).trans hq) hR hr⟩
        | succ i =>
          obtain ⟨j', cs2, h6, h7, h8⟩ := ih h2 hq hR i cs' hi
          exact ⟨j', cs2, by rw [show t + (i + 1) = t + 1 + i by omega]; exact h6, h7, h8⟩
      · cases h
    · cases h
theorem bfM_sound {bf : List Bf} : ∀ {l : List Ty} {h : List Nat} {x : BfE l}, bfM bf l h = some x → (bfI l x).length = h.length ∧ ∀ (t : Nat) (b' : Bf), (bfI l x)[t]? = some b' → ∃ j, h[t]? = some j ∧ bf[j]? = some b' := by
  intro l
  induction l with
  | nil => intro h x hx; cases h with
    | nil => exact ⟨rfl, fun t b' hb => by cases hb⟩
    | cons => cases hx
  | cons ty l ih =>
    intro h x hx
    cases h with
    | nil => cases hx
    | cons j h =>
      simp only [bfM] at hx
      split at hx
      · rename_i b hb
        cases hl : (b.live && !b.cap) with
        | false => rw [hl] at hx; cases hx
        | true =>
          rw [hl] at hx
          simp only [cond_true, Option.bind_eq_some_iff, Option.map_eq_some_iff] at hx
          obtain ⟨ys, h1, z, h2, h3⟩ := hx
          cases h3
          obtain ⟨h4, h5⟩ := ih h2
          refine ⟨by show (_ :: _).length = _; simp [h4], fun t b' hb' => ?_⟩
          cases t with
          | zero =>
            cases hb'
            refine ⟨j, rfl, ?_⟩
            rw [hb]
            obtain ⟨e, hys⟩ := castL_some h1
            subst hys
            obtain ⟨be, bxs, bl, bc⟩ := b
            dsimp only at e hl
            subst e
            simp only [Bool.and_eq_true, Bool.not_eq_true'] at hl
            rw [hl.1, hl.2]
          | succ t => exact h5 t b' hb'
      · cases hx
theorem nodupN_sound : ∀ {l : List Nat}, nodupN l = true → ∀ (i j a : Nat), l[i]? = some a → l[j]? = some a → i = j := by
  intro l
  induction l with
  | nil => intro _ i j a h; simp at h
  | cons b l ih =>
    intro h i j a hi hj
    simp only [nodupN, Bool.and_eq_true] at h
    obtain ⟨h1, h2⟩ := h
    have hno : ∀ (k : Nat), l[k]? ≠ some b := by
      intro k hk
      have : l.any (Nat.beq b) = true := List.any_eq_true.2 ⟨b, List.mem_of_getElem? hk, by simp⟩
      rw [this] at h1
      cases h1
    cases i with
    | zero => cases j with
      | zero => rfl
      | succ j => cases hi; exact absurd hj (hno j)
    | succ i => cases j with
      | zero => cases hj; exact absurd hi (hno i)
      | succ j => rw [ih h2 i j a hi hj]
def Env.sub (env : Env) (q : GH) (p : Prop) : Env := { τ := fun t => match q.h[t]? with | some j => env.τ j | none => none, β := fun t => match q.g[t]? with | some j => env.β j | none => 0, φ := fun i => p ∧ env.φ i }
theorem mat_sound {bx : List (List Cl)} (hT : RelT P X bx) (hbf : vs.bf = X.bf) (hbx : vs.bx = bx) {t : Tm} {acc : Nat → Sl} {av : Nat → Value} (hacc : ∀ p ∈ t.sl, repV P X (acc p.1) (av p.1)) {g0 : List Nat} {x : t.E} {q : GH} (hm : t.mat acc vs g0 = some (x, q))
    {p : Prop} (hp : q.g ≠ [] → p) {S0 : Nat → Prop} (hS : ∀ i, S0 i → X.S i) (N : Nat) :
    RelT P ((t.inst N x).cx S0 (X.env.sub q p) X.m) (t.inst N x).bx ∧ repSlots P ((t.inst N x).cx S0 (X.env.sub q p) X.m) av (slI id id t.sl x.1) ∧ q.g.length = t.bx.length ∧ (t.inst N x).bx.length = t.bx.length ∧ (t.inst N x).bf.length = q.h.length ∧ lext g0 q.g ∧
    (∀ (k : Nat) (b : Bf), (t.inst N x).bf[k]? = some b → ∃ j, q.h[k]? = some j ∧ X.bf[j]? = some b) ∧ (∀ (k j : Nat), q.g[k]? = some j → j < bx.length ∧ hasOf (t.inst N x).bx k = hasOf bx j ∧ lenOf (t.inst N x).bx k = lenOf bx j) ∧ nodupN q.g = true ∧ nodupN q.h = true := by
  simp only [Tm.mat, Option.bind_eq_some_iff] at hm
  obtain ⟨⟨x1, q1⟩, h1, ⟨x2, q2⟩, h2, hm⟩ := hm
  cases hc : (Nat.beq q2.g.length t.bx.length && nodupN q2.g && nodupN q2.h) with
  | false => rw [hc] at hm; cases hm
  | true =>
    rw [hc] at hm
    simp only [cond_true, Option.map_eq_some_iff] at hm
    obtain ⟨z, h3, h4⟩ := hm
    cases h4
    simp only [Bool.and_eq_true] at hc
    obtain ⟨⟨hc1, hc2⟩, hc3⟩ := hc
    have hgl : q.g.length = t.bx.length := Nat.eq_of_beq_eq_true hc1
    rw [hbf] at h1 h3
    obtain ⟨hb1, hb2⟩ := bfM_sound h3
    obtain ⟨hsl, hshape⟩ := bxM_shape hbx id id h2
    have hgj : ∀ (k j : Nat), q.g[k]? = some j → ∃ cs cs', bx[j]? = some cs ∧ (bxI id id t.bx x2)[k]? = some cs' ∧ has1 cs' = has1 cs ∧ len1 cs' = len1 cs := by
      intro k j hk
      have hkl : k < (bxI id id t.bx x2).length := by rw [hsl, ← hgl]; exact lt_of_get hk
      obtain ⟨j', cs, g4, g5, _, g6, g7, _⟩ := hshape k (bxI id id t.bx x2)[k] (by simp [hkl])
      rw [Nat.zero_add, hk] at g4
      cases g4
      exact ⟨cs, _, g5, by simp [hkl], g6, g7⟩
    have hhas : ∀ (k j : Nat), q.g[k]? = some j → hasOf (t.inst N (x1, x2, z)).bx k = hasOf bx j := by
      intro k j hk
      obtain ⟨cs, cs', g1, g2, g3, _⟩ := hgj k j hk
      rw [hasOf_get g1, ← g3]
      exact hasOf_get (bx := bxI id id t.bx x2) g2
    have hlenk : ∀ (k j : Nat), q.g[k]? = some j → lenOf (t.inst N (x1, x2, z)).bx k = lenOf bx j := by
      intro k j hk
      obtain ⟨cs, cs', g1, g2, _, g3⟩ := hgj k j hk
      rw [lenOf_get g1, ← g3]
      exact lenOf_get (bx := bxI id id t.bx x2) g2
    have hjl : ∀ (k j : Nat), q.g[k]? = some j → j < bx.length := fun k j hk => by obtain ⟨cs, _, hcs, _⟩ := hgj k j hk; exact lt_of_get hcs
    have hβ : ∀ (k j : Nat), q.g[k]? = some j → (X.env.sub q p).β k = X.env.β j := fun k j hk => by show (match q.g[k]? with | some j => _ | none => _) = _; rw [hk]
    have hτ : ∀ (k j : Nat), q.h[k]? = some j → (X.env.sub q p).τ k = X.env.τ j := fun k j hk => by show (match q.h[k]? with | some j => _ | none => _) = _; rw [hk]
    have hnb : ((t.inst N (x1, x2, z)).cx S0 (X.env.sub q p) X.m).nb = q.g.length := by show (bxI id id t.bx x2).length = _; rw [hsl, hgl]
    have hSle : ∀ i, (t.inst N (x1, x2, z)).S S0 (X.env.sub q p) i → X.S i := by
      intro i w
      rcases w with w | ⟨k, hk, hh, he⟩ | w
      · exact hS i w
      · have hk' : k < q.g.length := by rw [← hnb]; exact hk
        have hgk : q.g[k]? = some q.g[k] := by simp [hk']
        rw [hβ k _ hgk] at he
        rw [hhas k _ hgk] at hh
        rw [← he]
        exact hT.inS _ (by rw [hT.nb]; exact hjl k _ hgk) (by rw [hT.has]; exact hh)
      · exact hT.φS i w.2
    have hmono : Mono X.S X.m ((t.inst N (x1, x2, z)).S S0 (X.env.sub q p)) X.m := fun i r hr hn => ⟨hr, fun w => hn (hSle i w)⟩
    have hR : Ren2 X ((t.inst N (x1, x2, z)).cx S0 (X.env.sub q p) X.m) q id id := by
      refine ⟨hmono, Nat.le_refl _, fun _ _ q => q, fun k j hk => ⟨by rw [hnb]; exact lt_of_get hk, hβ k j hk, fun w => ?_, fun L w => ?_⟩, fun k j b hk hb => ?_⟩
      · rw [hT.has, ← hhas k j hk]; exact w
      · rw [hT.len, ← hlenk k j hk]; exact w
      · have hkl : k < (bfI t.bf z).length := by rw [hb1]; exact lt_of_get hk
        obtain ⟨j', h5, h6⟩ := hb2 k (bfI t.bf z)[k] (by simp [hkl])
        rw [hk] at h5; cases h5
        rw [hb] at h6
        refine ⟨b.live, ?_, hτ k j hk⟩
        show (bfI t.bf z)[k]? = some b
        rw [h6]; simp [hkl]
    have hbr2 := bxM_rep (rx := id) (rb := id) hT hbf hbx h2 (GH.le.refl _) hR
    have hfr : Fr2 (fun _ => False) (fun _ => False) X.m X.m := Fr2.refl hT.free
    have hbd : ∀ k k', k < q.g.length → k' < q.g.length → hasOf (t.inst N (x1, x2, z)).bx k = true → hasOf (t.inst N (x1, x2, z)).bx k' = true → (X.env.sub q p).β k = (X.env.sub q p).β k' → k = k' := by
      intro k k' g1' g2' a1 a2 ge
      have hk : q.g[k]? = some q.g[k] := by simp [g1']
      have hk' : q.g[k']? = some q.g[k'] := by simp [g2']
      have ge' : X.env.β q.g[k] = X.env.β q.g[k'] := (hβ _ _ hk).symm.trans (ge.trans (hβ _ _ hk'))
      have heq := hT.bxd _ _ (by rw [hT.nb]; exact hjl k _ hk) (by rw [hT.nb]; exact hjl k' _ hk') (by rw [hT.has, ← hhas _ _ hk]; exact a1) (by rw [hT.has, ← hhas _ _ hk']; exact a2) ge'
      exact nodupN_sound hc2 k k' _ hk (by rw [heq]; exact hk')
    refine ⟨⟨hT.free, hT.bar, rfl, rfl, rfl, fun k hk hh => .inr (.inl ⟨k, hk, hh, rfl⟩), fun i w => hT.slt i (hSle i w), fun k b hb => ?_, fun k k' b b' i g1 g2 l1 l2 t1 t2 => ?_, fun k cs hcs => ?_, fun k k' g1 g2 a1 a2 ge => ?_, fun i w => .inr (.inr w), fun k hk hh w => ?_, hT.rts, hT.unq⟩,
      slM_rep hT h1 (bxM_le h2) hacc hR, hgl, hsl, hb1, ((slM_le h1).trans (bxM_le h2)).g, hb2, fun k j hk => ⟨hjl k j hk, hhas k j hk, hlenk k j hk⟩, hc2, hc3⟩
    · obtain ⟨j, h5, h6⟩ := hb2 k b hb
      exact BufOK.le (Y := (t.inst N (x1, x2, z)).cx S0 (X.env.sub q p) X.m) hfr hmono (fun _ w => w.elim) (hτ k j h5) (hT.bf j b h6) (fun _ _ _ w => w)
    · obtain ⟨j, h5, h6⟩ := hb2 k b g1
      obtain ⟨j', h5', h6'⟩ := hb2 k' b' g2
      have t1' : X.env.τ j = some i := (hτ k j h5).symm.trans t1
      have t2' : X.env.τ j' = some i := (hτ k' j' h5').symm.trans t2
      have := hT.bfd j j' b b' i h6 h6' l1 l2 t1' t2'
      subst this
      exact nodupN_sound hc3 k k' j h5 h5'
    · obtain ⟨j, cs0, h5, h6, k1, k2, k3, k4⟩ := hshape k cs hcs
      obtain ⟨j2, cs2, h5', h6', h7⟩ := hbr2 k cs hcs
      rw [Nat.zero_add] at h5 h5'
      rw [h5] at h5'; cases h5'
      rw [h6] at h6'; cases h6'
      have hb : ((t.inst N (x1, x2, z)).cx S0 (X.env.sub q p) X.m).env.β k = X.env.β j := hβ k j h5
      have hgne : q.g ≠ [] := fun e => by rw [e] at h5; simp at h5
      have runle : ∀ {arr : Bool} {e : Ty} {xs : List e.El}, RunOK P X j arr e xs → RunOK P ((t.inst N (x1, x2, z)).cx S0 (X.env.sub q p) X.m) k arr e xs := fun hr =>
        RunOK.le (X := X) (Y := (t.inst N (x1, x2, z)).cx S0 (X.env.sub q p) X.m) (Wb := fun _ => False) (Wl := fun _ => False) hT.free hT.rts hfr hmono (fun i w => ⟨hp hgne, w⟩) (fun _ => hb) hr (fun _ w => w) (fun _ w => w)
      cases hrun : isRun cs0 with
      | false =>
        refine BoxOK.of (k1.trans hrun) ?_
        obtain ⟨b, c, e, fr, g1, g2, g3, g4, g5, g7⟩ := (hT.bx j cs0 h6).cel hrun
        unfold CelOK
        rw [hb]
        exact ⟨b, c, e, fr, g1, g2, g3, g4, g5, h7 g7⟩
      | true =>
        rcases k4 hrun with ⟨own, e, xs, rfl, rfl⟩ | ⟨e, xs, rfl, rfl⟩ | ⟨rfl, rfl⟩ | ⟨c, l0, l1, rfl, rfl, hren⟩
        · have hB := hT.bx j _ h6
          exact ⟨runle hB.1, fun q => by cases q⟩
        · exact runle (hT.bx j _ h6)
        · trivial
        · obtain ⟨k0, es, g1, g2, g3, g4, g5, g7⟩ := hT.bx j _ h6
          show MapOK P _ k c l1
          unfold MapOK
          rw [hb]
          exact ⟨k0, es, g1, g2, g3, g4, g5, ren_ents hR hren g7⟩
    · exact hbd k k' (by rw [← hnb]; exact g1) (by rw [← hnb]; exact g2) a1 a2 ge
    · have hk' : k < q.g.length := by rw [← hnb]; exact hk
      have hgk : q.g[k]? = some q.g[k] := by simp [hk']
      have w' : X.env.φ ((X.env.sub q p).β k) := w.2
      rw [hβ k _ hgk] at w'
      exact hT.φd _ (by rw [hT.nb]; exact hjl k _ hgk) (by rw [hT.has, ← hhas k _ hgk]; exact hh) w'
end Go.IM.V
namespace Go.IM.V
open Go Go.IM
variable {P : Program} {m m1 : M} {S0 : Nat → Prop} {env env1 : Env} {a : Act} {vs : VS} {X Y : Cx}
def Tm.cx (t : Tm) (x : t.E) (S0 : Nat → Prop) (env : Env) (m : M) : Cx := (t.inst 0 x).cx S0 env m
structure Ended (P : Program) (X : Cx) (S0 : Nat → Prop) (env1 : Env) (m1 : M) (t : Tm) (x : t.E) : Prop where
  fr : Fr2 (Wb X) (Wl X) X.m m1
  T : RelT P (t.cx x S0 env1 m1) (t.inst 0 x).bx
  β : ∀ j, j < X.nb → j < t.bx.length ∧ ((t.cx x S0 env1 m1).has j = true → env1.β j = X.env.β j)
  wb : ∀ i, Wb (t.cx x S0 env1 m1) i → Wb X i ∨ X.m.nxt ≤ i
  wl : ∀ i, Wl (t.cx x S0 env1 m1) i → Wl X i ∨ Wb X i ∨ X.m.nxt ≤ i
  has : ∀ j, j < X.nb → (t.cx x S0 env1 m1).has j = true → X.has j = true
  len : ∀ j L, j < X.nb → (t.cx x S0 env1 m1).len j = some L → X.len j = some L
  φ : ∀ i, X.env.φ i → env1.φ i
def Bars (X : Cx) : Prop := ∀ i, Wb X i → X.m.bar ≤ i
def EndsC (P : Program) (Y : Cx) (e : Out) (sl : List (Nat × S1)) (c : COut) : Prop :=
  match e with
  | .ret => ∃ v, c = .ret v ∧ repV P Y (resSl sl) v
  | .pnc w => c = .pnc w
  | _ => False
def Con.OK (P : Program) [Orc P] (k : FuncId) (con : Con) : Prop :=
  ∀ x y, con.F x = some y → ∀ (S0 : Nat → Prop) (env : Env) (m : M) (args : Array Value), RelT P (con.ins.cx x S0 env m) (con.ins.inst 0 x).bx → Bars (con.ins.cx x S0 env m) → repSlots P (con.ins.cx x S0 env m) (fun i => args.getD i undef) (slI id id con.ins.sl x.1) → args.size = con.ins.sl.length →
    ∃ c m1 env1, Cal P k args m c m1 ∧ Ended P (con.ins.cx x S0 env m) S0 env1 m1 (con.out.out y).2.1 (con.out.out y).2.2 ∧
      EndsC P ((con.out.out y).2.1.cx (con.out.out y).2.2 S0 env1 m1) (con.out.out y).1 (slI id id (con.out.out y).2.1.sl (con.out.out y).2.2.1) c
def Con.LOK (P : Program) [Orc P] (N : Nat) (b : Code) (con : Con) : Prop :=
  ∀ x y, con.F x = some y → ∀ (S0 : Nat → Prop) (env : Env) (m : M) (a : Act), N ≤ a.tmps.size → RelT P (con.ins.cx x S0 env m) (con.ins.inst 0 x).bx → Bars (con.ins.cx x S0 env m) → repSlots P (con.ins.cx x S0 env m) (fun i => a.tmps.getD i undef) (slI id id con.ins.sl x.1) →
    ∃ a1 m1 env1, Ev.To P (.loop b) a m (con.out.out y).1 a1 m1 ∧ Ended P (con.ins.cx x S0 env m) S0 env1 m1 (con.out.out y).2.1 (con.out.out y).2.2 ∧ (con.out.out y).1 ≠ .normal ∧ a1.defers = a.defers ∧
      repSlots P ((con.out.out y).2.1.cx (con.out.out y).2.2 S0 env1 m1) (fun i => a1.tmps.getD i undef) (slI id id (con.out.out y).2.1.sl (con.out.out y).2.2.1)
def TabOK (P : Program) [Orc P] : Tab → Prop
  | [] => True
  | (k, c) :: l => c.OK P k ∧ TabOK P l
theorem TabOK.gets [Orc P] {C : Tab} (h : TabOK P C) {k : Nat} : ∀ c ∈ lookCs C k, c.OK P k := by
  induction C with
  | nil => intro c hc; cases hc
  | cons p C ih =>
    obtain ⟨k', c'⟩ := p
    intro c hc
    simp only [lookCs] at hc
    cases hb : Nat.beq k' k with
    | true =>
      rw [hb] at hc
      have := Nat.eq_of_beq_eq_true hb
      subst this
      rcases List.mem_cons.1 hc with rfl | hc
      · exact h.1
      · exact ih h.2 c hc
    | false => rw [hb] at hc; exact ih h.2 c hc
theorem bufW_ren {X Z : Cx} (hm : Mono X.S X.m Z.S Z.m) {b : Bf} {l : Bool} {t : Option Nat} {w : Value} (h : bufW P X b t w) : bufW P Z { b with live := l } t w := by
  cases t with
  | none => exact ⟨h.1, h.2.mono hm fun _ _ q => repE.mono hm q⟩
  | some i => exact h
structure Ren3 (Y Z : Cx) (rx rb : Nat → Nat) : Prop where
  mono : Mono Y.S Y.m Z.S Z.m
  nxt : Y.m.nxt ≤ Z.m.nxt
  ty : ∀ i e, Y.m.typ i = some e → Z.m.typ i = some e
  box : ∀ t, t < Y.nb → rx t < Z.nb ∧ (Z.has (rx t) = true → Z.env.β (rx t) = Y.env.β t) ∧ (Z.has (rx t) = true → Y.has t = true) ∧ ∀ L, Z.len (rx t) = some L → Y.len t = some L
  hl : ∀ j L, Z.len j = some L → 0 < L → Z.has j = true
  buf : ∀ (t : Nat) (b : Bf), Y.bf[t]? = some b → ∃ l, Z.bf[rb t]? = some { b with live := l } ∧ Z.env.τ (rb t) = Y.env.τ t
theorem exp_mono {S' : Nat → Prop} {m' : M} {Z : Cx} (hm : Mono Y.S Y.m Z.S Z.m) : ∀ {t : Ty} {x : t.El} {ws : List Value}, repCs P Y (exp t x) ws → repCs P Z (exp t x) ws := by
  intro t
  induction t with
  | l e ih =>
    intro x ws h
    cases ws with
    | nil => exact h.elim
    | cons w ws => exact ⟨repL.mono (P := P) (n := e.n) (R := repE P Y.S Y.m e) hm (fun _ _ q => repE.mono hm q) h.1, by cases ws with
      | nil => trivial
      | cons => exact h.2.elim⟩
  | h e ih =>
    intro x ws h
    cases ws with
    | nil => exact h.elim
    | cons w ws => exact ⟨repL.mono (P := P) (n := e.n) (R := repE P Y.S Y.m e) hm (fun _ _ q => repE.mono hm q) h.1, by cases ws with
      | nil => trivial
      | cons => exact h.2.elim⟩
  | p t1 t2 ih1 ih2 =>
    intro x ws h
    have hl := repCs_len h
    have hsplit : ∀ {cs ds : List Cl} {ws : List Value}, repCs P Y (cs ++ ds) ws → ∃ w1 w2, ws = w1 ++ w2 ∧ repCs P Y cs w1 ∧ repCs P Y ds w2 := by
      intro cs
      induction cs with
      | nil => intro ds ws h; exact ⟨[], ws, rfl, trivial, h⟩
      | cons c cs ih => intro ds ws h; cases ws with
        | nil => exact h.elim
        | cons w ws =>
          obtain ⟨w1, w2, rfl, h1, h2⟩ := ih h.2
          exact ⟨w :: w1, w2, rfl, ⟨h.1, h1⟩, h2⟩
    obtain ⟨w1, w2, rfl, h1, h2⟩ := hsplit h
    exact repCs_append (ih1 h1) (ih2 h2)
  | u => intro x ws h; cases ws with
    | nil => trivial
    | cons => exact h.elim
  | _ => intro x ws h; cases ws with
    | nil => exact h.elim
    | cons w ws => exact ⟨h.1, by cases ws with
      | nil => trivial
      | cons => exact h.2.elim⟩
theorem ptI_ren {Z : Cx} {rx rb : Nat → Nat} (hR : Ren3 Y Z rx rb) {p : Pt} {x : PtE p} {w : Value} (h : repS P Y (ptI id id p x) w) : repS P Z (ptI rx rb p x) w := by
  cases p with
  | v t =>
    show repS P Z (s1Of t x) w
    have h' : repS P Y (s1Of t x) w := h
    cases t with
    | p t1 t2 => obtain ⟨b, rfl, h2⟩ := h'; exact ⟨b, rfl, exp_mono (S' := fun _ => False) (m' := Y.m) hR.mono (t := .p t1 t2) h2⟩
    | u => obtain ⟨b, rfl, h2⟩ := h'; exact ⟨b, rfl, exp_mono (S' := fun _ => False) (m' := Y.m) hR.mono (t := .u) (x := ()) h2⟩
    | l e => exact repL.mono (P := P) (n := e.n) (R := repE P Y.S Y.m e) hR.mono (fun _ _ q => repE.mono hR.mono q) h'
    | h e => exact repL.mono (P := P) (n := e.n) (R := repE P Y.S Y.m e) hR.mono (fun _ _ q => repE.mono hR.mono q) h'
    | _ => exact h'
  | o t =>
    obtain ⟨b, h1, h2⟩ := h
    obtain ⟨l', h3, h5⟩ := hR.buf t b h1
    refine ⟨_, h3, ?_⟩
    rw [h5]
    exact bufW_ren hR.mono h2
  | p t off =>
    obtain ⟨h1, i, h2, h7, h5⟩ := h
    obtain ⟨h3, h4, h6, _⟩ := hR.box t h1
    exact ⟨h3, i, h2, Nat.lt_of_lt_of_le h7 hR.nxt, fun w => by rw [h4 w]; exact h5 (h6 w)⟩
  | mv t =>
    obtain ⟨h1, i, h2, h7, h5⟩ := h
    obtain ⟨h3, h4, h6, _⟩ := hR.box t h1
    exact ⟨h3, i, h2, Nat.lt_of_lt_of_le h7 hR.nxt, fun w => by rw [h4 w]; exact h5 (h6 w)⟩
  | mx c l => exact (show False from h).elim
  | fn f => exact h
  | m e t =>
    obtain ⟨h1, h2, h5⟩ := h
    obtain ⟨h3, h4, _, h6⟩ := hR.box t h1
    exact ⟨h3, ⟨h2.1, h2.2.mono hR.nxt⟩, fun L hL => ⟨(h5 L (h6 L hL)).1, fun w => by rw [h4 (hR.hl _ L hL w)]; exact (h5 L (h6 L hL)).2 w⟩⟩
  | r e => exact h
  | ra e => exact h
  | g => exact h
  | nl => exact h
  | sb e n t =>
    obtain ⟨h1, h2, h5⟩ := h
    obtain ⟨h3, h4, h6, _⟩ := hR.box t h1
    exact ⟨h3, ⟨h2.1, h2.2.mono hR.nxt⟩, fun w => by
      rw [h4 w]
      obtain ⟨u1, eo, u2, u3⟩ := h5 (h6 w)
      exact ⟨u1, eo, hR.ty _ _ u2, u3⟩⟩
  | ki k n => exact h
  | kt n => exact h
  | va t =>
    show repS P Z (fog (s1Of t x)) w
    have h' : repS P Y (fog (s1Of t x)) w := h
    exact fog_any hR.nxt h'
  | ip u t off =>
    obtain ⟨h1, i, h2, h7, h5⟩ := h
    obtain ⟨h3, h4, h6, _⟩ := hR.box t h1
    exact ⟨h3, i, h2, Nat.lt_of_lt_of_le h7 hR.nxt, fun w => by rw [h4 w]; exact h5 (h6 w)⟩
  | w e t =>
    obtain ⟨h1, h2, h5⟩ := h
    obtain ⟨h3, h4, _, h6⟩ := hR.box t h1
    exact ⟨h3, ⟨h2.1, h2.2.mono hR.nxt⟩, fun L hL => ⟨(h5 L (h6 L hL)).1, (h5 L (h6 L hL)).2.1, fun w => by rw [h4 (hR.hl _ L hL w)]; exact (h5 L (h6 L hL)).2.2 w⟩⟩
  | x => trivial
theorem ents_ren {Z : Cx} {rx rb : Nat → Nat} (hR : Ren3 Y Z rx rb) : ∀ {l : List (ByteArray × Nat × Nat)} {es : List MapEntry}, entsOK P Y (l.map fun q => (q.1, q.2.1, q.2.2)) es → entsOK P Z (l.map fun q => (q.1, q.2.1, rx q.2.2)) es := by
  intro l
  induction l with
  | nil => intro es h; cases es <;> exact h
  | cons a l ih => intro es h; cases es with
    | nil => exact h.elim
    | cons e es =>
      obtain ⟨⟨k1, k2, k3⟩, k4⟩ := h
      exact ⟨⟨k1, k2, ptI_ren (P := P) (p := .p a.2.2 0) (x := ()) hR k3⟩, ih k4⟩
theorem slI_ren {Z : Cx} {rx rb : Nat → Nat} (hR : Ren3 Y Z rx rb) {av : Nat → Value} : ∀ {l : List (Nat × Pt)} {x : SlE l}, repSlots P Y av (slI id id l x) → repSlots P Z av (slI rx rb l x) := by
  intro l
  induction l with
  | nil => intro x h; trivial
  | cons p l ih => intro x h; exact ⟨ptI_ren hR h.1, ih h.2⟩
theorem clOf_ren {Z : Cx} {rx rb : Nat → Nat} (hR : Ren3 Y Z rx rb) {p : Pt} {x : PtE p} {w : Value} (h : repC P Y (clOf (ptI id id p x)) w) : repC P Z (clOf (ptI rx rb p x)) w := by
  cases p with
  | v t =>
    cases t with
    | p t1 t2 => trivial
    | u => trivial
    | l e => exact repL.mono (P := P) (n := e.n) (R := repE P Y.S Y.m e) hR.mono (fun _ _ q => repE.mono hR.mono q) h
    | h e => exact repL.mono (P := P) (n := e.n) (R := repE P Y.S Y.m e) hR.mono (fun _ _ q => repE.mono hR.mono q) h
    | _ => exact h
  | o t => exact ptI_ren (P := P) (p := .o t) (x := x) hR h
  | p t off => exact ptI_ren (P := P) (p := .p t off) (x := x) hR h
  | mv t => exact ptI_ren (P := P) (p := .mv t) (x := x) hR h
  | mx c l => exact (show False from h).elim
  | fn f => exact h
  | m e t => exact ptI_ren (P := P) (p := .m e t) (x := x) hR h
  | r e => exact h
  | ra e => exact h
  | g => exact h
  | nl => exact h
  | sb e n t => exact ptI_ren (P := P) (p := .sb e n t) (x := x) hR h
  | ki k n => exact h
  | kt n => exact h
  | va t =>
    have h' : repC P Y (clOf (fog (s1Of t x))) w := h
    show repC P Z (clOf (fog (s1Of t x))) w
    generalize s1Of t x = s at h'
    cases s with
    | s c => exact fogC_any (P := P) (c := c) hR.nxt h'
    | _ => trivial
  | ip u t off => exact ptI_ren (P := P) (p := .ip u t off) (x := x) hR h
  | w e t => exact ptI_ren (P := P) (p := .w e t) (x := x) hR h
  | x => trivial
theorem ceI_kinds {rx rb : Nat → Nat} {ps : List Pt} {z : CeE ps} : (isRun (ceI rx rb ps z) = false ∧ isRun (ceI id id ps z) = false) ∨
    (((∃ e xs, ceI rx rb ps z = [.r false e xs]) ∨ (∃ e xs, ceI rx rb ps z = [.ra e xs]) ∨ ceI rx rb ps z = [.g]) ∧ ceI id id ps z = ceI rx rb ps z) ∨
    (∃ (c : Nat) (l : List (ByteArray × Nat × Nat)), ceI rx rb ps z = [.mx c (l.map fun q => (q.1, q.2.1, rx q.2.2))] ∧ ceI id id ps z = [.mx c (l.map fun q => (q.1, q.2.1, q.2.2))]) := by
  cases ps with
  | nil => exact .inl ⟨rfl, rfl⟩
  | cons p ps => cases ps with
    | nil =>
      obtain ⟨z, _⟩ := z
      cases p with
      | v t => exact .inl ⟨s1Of_norun.1, s1Of_norun.1⟩
      | r e => exact .inr (.inl ⟨.inl ⟨e, z, rfl⟩, rfl⟩)
      | ra e => exact .inr (.inl ⟨.inr (.inl ⟨e, z, rfl⟩), rfl⟩)
      | g => exact .inr (.inl ⟨.inr (.inr rfl), rfl⟩)
      | mx c l => exact .inr (.inr ⟨c, l, rfl, rfl⟩)
      | va t => exact .inl ⟨(fog_norun _).1, (fog_norun _).1⟩
      | _ => exact .inl ⟨rfl, rfl⟩
    | cons p2 ps => exact .inl ⟨(isRun2 _ _ _).1, (isRun2 _ _ _).1⟩
theorem ceI_has {rx rb : Nat → Nat} {ps : List Pt} {z : CeE ps} : has1 (ceI rx rb ps z) = has1 (ceI id id ps z) ∧ len1 (ceI rx rb ps z) = len1 (ceI id id ps z) := by
  rcases ceI_kinds (rx := rx) (rb := rb) (ps := ps) (z := z) with ⟨h1, h2⟩ | ⟨_, h2⟩ | ⟨c, l, h1, h2⟩
  · exact ⟨(has1_cel h1).trans (has1_cel h2).symm, (len1_cel h1).trans (len1_cel h2).symm⟩
  · rw [h2]; exact ⟨rfl, rfl⟩
  · rw [h1, h2]; exact ⟨rfl, rfl⟩
theorem ownBx_shape (o : Bool) (cs : List Cl) : isRun (ownBx o cs) = isRun cs ∧ has1 (ownBx o cs) = has1 cs ∧ len1 (ownBx o cs) = len1 cs ∧ (isRun cs = false → ownBx o cs = cs) := by
  unfold ownBx
  split
  · exact ⟨rfl, rfl, rfl, fun q => by cases q⟩
  · exact ⟨rfl, rfl, rfl, fun _ => rfl⟩
theorem keepBx_shape (old : Option (List Cl)) (cs : List Cl) : isRun (keepBx old cs) = isRun cs ∧ has1 (keepBx old cs) = has1 cs ∧ len1 (keepBx old cs) = len1 cs ∧ (isRun cs = false → keepBx old cs = cs) := by
  unfold keepBx
  split
  · exact ownBx_shape _ _
  · exact ⟨rfl, rfl, rfl, fun _ => rfl⟩
theorem ceI_ren {Z : Cx} {rx rb : Nat → Nat} (hR : Ren3 Y Z rx rb) : ∀ {l : List Pt} {x : CeE l} {ws : List Value}, repCs P Y (ceI id id l x) ws → repCs P Z (ceI rx rb l x) ws := by
  intro l
  induction l with
  | nil => intro x ws h; cases ws with
    | nil => trivial
    | cons => exact h.elim
  | cons p l ih => intro x ws h; cases ws with
    | nil => exact h.elim
    | cons w ws => exact ⟨clOf_ren hR h.1, ih h.2⟩
theorem bxI_get : ∀ {l : List (List Pt)} {x : BxE l} {rx rb : Nat → Nat} {k : Nat} {cs : List Cl}, (bxI rx rb l x)[k]? = some cs → ∃ (ps : List Pt) (z : CeE ps), cs = ceI rx rb ps z ∧ (bxI id id l x)[k]? = some (ceI id id ps z) := by
  intro l
  induction l with
  | nil => intro x rx rb k cs h; cases h
  | cons p l ih =>
    intro x rx rb k cs h
    cases k with
    | zero => cases h; exact ⟨p, x.1, rfl, rfl⟩
    | succ k => exact ih (x := x.2) h
theorem bxI_len : ∀ {l : List (List Pt)} {x : BxE l} {rx rb : Nat → Nat}, (bxI rx rb l x).length = l.length := by
  intro l
  induction l with
  | nil => intro x rx rb; rfl
  | cons p l ih => intro x rx rb; show (_ :: _).length = _; simp [ih]
theorem resSl_ren {Z : Cx} {rx rb : Nat → Nat} (hR : Ren3 Y Z rx rb) {l : List (Nat × Pt)} {x : SlE l} {v : Value} (h : repV P Y (resSl (slI id id l x)) v) : repV P Z (resSl (slI rx rb l x)) v := by
  have key : ∀ {l : List (Nat × Pt)} {x : SlE l} {ws : List Value}, repSs P Y ((slI id id l x).map (·.2)) ws → repSs P Z ((slI rx rb l x).map (·.2)) ws := by
    intro l
    induction l with
    | nil => intro x ws h; cases ws with
      | nil => trivial
      | cons => exact h.elim
    | cons p l ih => intro x ws h; cases ws with
      | nil => exact h.elim
      | cons w ws => exact ⟨ptI_ren hR h.1, ih h.2⟩
  cases l with
  | nil => obtain ⟨b, rfl, h2⟩ := h; exact ⟨b, rfl, key (l := []) (x := x) h2⟩
  | cons p l => cases l with
    | nil => exact ptI_ren hR h
    | cons p2 l => obtain ⟨b, rfl, h2⟩ := h; exact ⟨b, rfl, key (l := p :: p2 :: l) (x := x) h2⟩
theorem giveBx_len : ∀ {o : Bool} {g : List Nat} {cs bx : List (List Cl)}, g.length ≤ cs.length → (giveBx o g cs bx).length = bx.length + (cs.length - g.length) := by
  intro o g
  induction g with
  | nil => intro cs bx h; cases cs <;> simp [giveBx]
  | cons j g ih =>
    intro cs bx h
    cases cs with
    | nil => simp at h
    | cons c cs => simp only [giveBx]; rw [ih (by simpa using h), setL_length]; simp
theorem giveBx_nil (o : Bool) (cs bx : List (List Cl)) : giveBx o [] cs bx = bx ++ cs.map (ownBx o) := by cases cs <;> rfl
theorem giveBx_new : ∀ {o : Bool} {g : List Nat} {cs bx : List (List Cl)} {j : Nat}, g.length ≤ cs.length → bx.length ≤ j → (giveBx o g cs bx)[j]? = (cs[g.length + (j - bx.length)]?).map (ownBx o) := by
  intro o g
  induction g with
  | nil =>
    intro cs bx j h hj
    rw [giveBx_nil, List.getElem?_append_right hj]; simp
  | cons i g ih =>
    intro cs bx j h hj
    cases cs with
    | nil => simp at h
    | cons c cs =>
      simp only [giveBx]
      rw [ih (by simpa using h) (by rw [setL_length]; exact hj), setL_length]
      rw [List.length_cons, show g.length + 1 + (j - bx.length) = g.length + (j - bx.length) + 1 by omega, List.getElem?_cons_succ]
theorem giveBx_old : ∀ {o : Bool} {g : List Nat} {cs bx : List (List Cl)} {j : Nat}, g.length ≤ cs.length → j < bx.length → (∀ k : Nat, g[k]? ≠ some j) → (giveBx o g cs bx)[j]? = bx[j]? := by
  intro o g
  induction g with
  | nil =>
    intro cs bx j h hj _
    rw [giveBx_nil, List.getElem?_append_left hj]
  | cons i g ih =>
    intro cs bx j h hj hn
    cases cs with
    | nil => simp at h
    | cons c cs =>
      simp only [giveBx]
      rw [ih (by simpa using h) (by rw [setL_length]; exact hj) (fun k => hn (k + 1)), setL_get, if_neg]
      intro e
      exact hn 0 (by simp [e])
theorem giveBx_in : ∀ {o : Bool} {g : List Nat} {cs bx : List (List Cl)} {k j : Nat}, g.length ≤ cs.length → nodupN g = true → (∀ (k j : Nat), g[k]? = some j → j < bx.length) → g[k]? = some j → (giveBx o g cs bx)[j]? = (cs[k]?).map (keepBx bx[j]?) := by
  intro o g
  induction g with
  | nil => intro cs bx k j h hn hl hk; simp at hk
  | cons i g ih =>
    intro cs bx k j h hn hl hk
    cases cs with
    | nil => simp at h
    | cons c cs =>
      have hn' := hn
      simp only [nodupN, Bool.and_eq_true] at hn
      simp only [giveBx]
      cases k with
      | zero =>
        simp only [List.getElem?_cons_zero, Option.some.injEq] at hk
        subst hk
        have hil : i < bx.length := hl 0 i rfl
        rw [giveBx_old (by simpa using h) (by rw [setL_length]; exact hil) (fun k hk => by have := nodupN_sound hn' 0 (k + 1) i rfl (by simpa using hk); omega), setL_get, if_pos rfl]
        simp [hil]
      | succ k =>
        simp only [List.getElem?_cons_succ] at hk ⊢
        rw [ih (by simpa using h) hn.2 (fun k j hk => by rw [setL_length]; exact hl (k + 1) j (by simpa using hk)) hk, setL_get, if_neg]
        intro e
        subst e
        have := nodupN_sound hn' 0 (k + 1) j rfl (by simpa using hk)
        omega
theorem freezeL_len : ∀ (h : List Nat) (bf : List Bf), (freezeL h bf).length = bf.length := by
  intro h
  induction h with
  | nil => intro bf; rfl
  | cons j h ih => intro bf; simp only [freezeL]; rw [ih, freeze_length]
theorem freezeL_any : ∀ (h : List Nat) (bf : List Bf) (j : Nat) (b' : Bf), (freezeL h bf)[j]? = some b' → ∃ b, bf[j]? = some b ∧ (b' = b ∨ b' = { b with live := false }) := by
  intro h
  induction h with
  | nil => intro bf j b' hb; exact ⟨b', hb, .inl rfl⟩
  | cons i h ih =>
    intro bf j b' hb
    simp only [freezeL] at hb
    obtain ⟨b1, h1, h2⟩ := ih _ _ _ hb
    rw [freeze_get] at h1
    split at h1
    · cases hq : bf[j]? with
      | none => rw [hq] at h1; cases h1
      | some b0 =>
        rw [hq] at h1
        cases h1
        rcases h2 with rfl | rfl
        · exact ⟨b0, rfl, .inr rfl⟩
        · exact ⟨b0, rfl, .inr rfl⟩
    · exact ⟨b1, h1, h2⟩
theorem freezeL_in : ∀ (h : List Nat) (bf : List Bf) (j k : Nat) (b' : Bf), h[k]? = some j → (freezeL h bf)[j]? = some b' → b'.live = false := by
  intro h
  induction h with
  | nil => intro bf j k b' hk; simp at hk
  | cons i h ih =>
    intro bf j k b' hk hb
    simp only [freezeL] at hb
    cases k with
    | zero =>
      simp only [List.getElem?_cons_zero, Option.some.injEq] at hk
      subst hk
      obtain ⟨b1, h1, h2⟩ := freezeL_any h _ _ _ hb
      rw [freeze_get, if_pos rfl] at h1
      cases hq : bf[i]? with
      | none => rw [hq] at h1; cases h1
      | some b0 => rw [hq] at h1; cases h1; rcases h2 with rfl | rfl <;> rfl
    | succ k => exact ih _ _ k b' (by simpa using hk) hb
def Env.join (env env1 : Env) (nb nf ng : Nat) : Env :=
  { β := fun j => if j < nb then env.β j else env1.β (j - nb + ng), τ := fun j => if j < nf then env.τ j else env1.τ (j - nf), φ := fun i => env.φ i ∨ env1.φ i }
theorem lenOf_has {bx : List (List Cl)} {j L : Nat} (h : lenOf bx j = some L) (hL : 0 < L) : hasOf bx j = true := by
  unfold lenOf at h
  unfold hasOf
  split at h
  · rename_i cs hcs
    unfold len1 at h
    split at h
    · rename_i o e xs
      cases h
      exact has1_run (fun w => by rw [w] at hL; cases hL)
    · cases h
  · cases h
theorem merge (T : RelT P (vs.cx S0 env m) vs.bx) {q : GH} (hg : ∀ (k j : Nat), q.g[k]? = some j → j < vs.bx.length) (hh : ∀ (k j : Nat), q.h[k]? = some j → ∃ b : Bf, vs.bf[j]? = some b ∧ b.live = true) (ng : nodupN q.g = true) {Xc : Cx}
    (hXm : Xc.m = m) (hXn : Xc.nb = q.g.length) {p : Prop} (hXe : Xc.env = env.sub q p) (hXh : ∀ (k j : Nat), q.g[k]? = some j → Xc.has k = hasOf vs.bx j) (hXlen : ∀ (k j : Nat), q.g[k]? = some j → Xc.len k = lenOf vs.bx j) (hXl : ∀ i, Wl Xc i → ∃ (k j : Nat), q.h[k]? = some j ∧ env.τ j = some i) {t : Tm} {x : t.E} (hE : Ended P Xc (vs.S S0 env) env1 m1 t x) :
    RelT P ((after vs q t x).2.cx S0 (env.join env1 vs.bx.length vs.bf.length q.g.length) m1) (after vs q t x).2.bx ∧ Stp (vs.cx S0 env m) ((after vs q t x).2.cx S0 (env.join env1 vs.bx.length vs.bf.length q.g.length) m1) ∧
      Ren3 (t.cx x (vs.S S0 env) env1 m1) ((after vs q t x).2.cx S0 (env.join env1 vs.bx.length vs.bf.length q.g.length) m1) (rx q.g vs.bx.length) (vs.bf.length + ·) := by
  obtain ⟨hfr, hT, hβ, hwb, hwl, hhas, hlen, hφ⟩ := hE
  rw [hXm] at hfr
  have hXm' : ∀ i, Xc.m.nxt ≤ i → m.nxt ≤ i := fun i h => by rw [← hXm]; exact h
  have hgl : q.g.length ≤ t.bx.length := by
    rcases Nat.eq_zero_or_pos q.g.length with h | h
    · omega
    · have := (hβ (q.g.length - 1) (by omega)).1; omega
  have hYn : (t.cx x (vs.S S0 env) env1 m1).nb = t.bx.length := by show (bxI id id t.bx x.2.1).length = _; rw [bxI_len]
  have hβX : ∀ (k j : Nat), q.g[k]? = some j → Xc.env.β k = env.β j := fun k j hk => by
    rw [hXe]
    show (match q.g[k]? with | some j => _ | none => _) = _
    rw [hk]
  have hβ1 : ∀ (k j : Nat), q.g[k]? = some j → (t.cx x (vs.S S0 env) env1 m1).has k = true → env1.β k = env.β j := fun k j hk hhas => by
    have := (hβ k (by rw [hXn]; exact lt_of_get hk)).2 hhas
    rw [this, hXe]
    show (match q.g[k]? with | some j => _ | none => _) = _
    rw [hk]
  have hWbX : ∀ i, Wb Xc i → (∃ (k j : Nat), q.g[k]? = some j ∧ hasOf vs.bx j = true ∧ env.β j = i) ∨ env.φ i := by
    intro i w
    rcases w with ⟨k, hk, hhk, he⟩ | w
    · rw [hXn] at hk
      have hgk : q.g[k]? = some q.g[k] := by simp [hk]
      refine .inl ⟨k, q.g[k], hgk, by rw [← hXh k _ hgk]; exact hhk, ?_⟩
      rw [← he, hXe]
      show _ = (match q.g[k]? with | some j => _ | none => _)
      rw [hgk]
    · rw [hXe] at w
      exact .inr w.2
  have hWb0 : ∀ i, Wb Xc i → Wb (vs.cx S0 env m) i := fun i w => by
    rcases hWbX i w with ⟨k, j, h1, h3, h2⟩ | w
    · exact .inl ⟨j, hg k j h1, h3, h2⟩
    · exact .inr w
  have hWl0 : ∀ i, Wl Xc i → Wl (vs.cx S0 env m) i := fun i w => by
    obtain ⟨k, j, h1, h2⟩ := hXl i w
    obtain ⟨b, h3, h4⟩ := hh k j h1
    exact ⟨j, b, h3, h4, h2⟩
  have hWbS : ∀ i, Wb (vs.cx S0 env m) i → vs.S S0 env i := WbS
  have hnew : ∀ k, q.g.length ≤ k → k < t.bx.length → (t.cx x (vs.S S0 env) env1 m1).has k = true → m.nxt ≤ env1.β k ∨ ∃ (k' j : Nat), q.g[k']? = some j ∧ hasOf vs.bx j = true ∧ env.β j = env1.β k ∧ (t.cx x (vs.S S0 env) env1 m1).has k' = false := by
    intro k h1 h2 h2h
    rcases hwb (env1.β k) (.inl ⟨k, by rw [hYn]; exact h2, h2h, rfl⟩) with w | w
    · right
      have hnφ : ¬ Xc.env.φ (env1.β k) := fun w => hT.φd k (by rw [hYn]; exact h2) h2h (hφ _ w)
      rcases w with ⟨k', hk', hhk', he'⟩ | w
      · rw [hXn] at hk'
        have hgk : q.g[k']? = some q.g[k'] := by simp [hk']
        refine ⟨k', _, hgk, by rw [← hXh k' _ hgk]; exact hhk', by rw [← hβX k' _ hgk]; exact he', ?_⟩
        cases hk2 : (t.cx x (vs.S S0 env) env1 m1).has k' with
        | false => rfl
        | true =>
          have he2 : env1.β k' = env1.β k := by rw [(hβ k' (by rw [hXn]; exact hk')).2 hk2]; exact he'
          have : k = k' := hT.bxd k k' (by rw [hYn]; exact h2) (by rw [hYn]; omega) h2h hk2 he2.symm
          omega
      · exact absurd w hnφ
    · exact .inl (hXm' _ w)
  generalize hZ : (after vs q t x).2 = vs2
  have hbx2 : vs2.bx = giveBx (allOwn vs.bx q.g) q.g (bxI (rx q.g vs.bx.length) (vs.bf.length + ·) t.bx x.2.1) vs.bx := by rw [← hZ]; rfl
  have hbf2 : vs2.bf = freezeL q.h vs.bf ++ bfI t.bf x.2.2 := by rw [← hZ]; rfl
  have hgl' : q.g.length ≤ (bxI (rx q.g vs.bx.length) (vs.bf.length + ·) t.bx x.2.1).length := by rw [bxI_len]; exact hgl
  have hnb2 : vs2.bx.length = vs.bx.length + (t.bx.length - q.g.length) := by rw [hbx2, giveBx_len (by rw [bxI_len]; exact hgl), bxI_len]
  generalize hen : env.join env1 vs.bx.length vs.bf.length q.g.length = env2
  have hβo : ∀ j, j < vs.bx.length → env2.β j = env.β j := fun j hj => by rw [← hen]; show (if j < _ then _ else _) = _; rw [if_pos hj]
  have hβn : ∀ j, vs.bx.length ≤ j → env2.β j = env1.β (j - vs.bx.length + q.g.length) := fun j hj => by rw [← hen]; show (if j < _ then _ else _) = _; rw [if_neg (by omega)]
  have hτo : ∀ j, j < vs.bf.length → env2.τ j = env.τ j := fun j hj => by rw [← hen]; show (if j < _ then _ else _) = _; rw [if_pos hj]
  have hτn : ∀ j, env2.τ (vs.bf.length + j) = env1.τ j := fun j => by rw [← hen]; show (if _ < _ then _ else _) = _; rw [if_neg (by omega), show vs.bf.length + j - vs.bf.length = j by omega]
  have hφ2 : ∀ i, env2.φ i ↔ env.φ i ∨ env1.φ i := fun i => by rw [← hen]; exact Iff.rfl
  have hinY : ∀ k cs, (bxI (rx q.g vs.bx.length) (vs.bf.length + ·) t.bx x.2.1)[k]? = some cs → (t.cx x (vs.S S0 env) env1 m1).has k = has1 cs ∧ (t.cx x (vs.S S0 env) env1 m1).len k = len1 cs := by
    intro k cs hk
    obtain ⟨ps, z, rfl, h1⟩ := bxI_get hk
    have h2 : hasOf (bxI id id t.bx x.2.1) k = _ := hasOf_get h1
    have h3 : lenOf (bxI id id t.bx x.2.1) k = _ := lenOf_get h1
    exact ⟨h2.trans ceI_has.1.symm, h3.trans ceI_has.2.symm⟩
  have hgetY : ∀ k, k < t.bx.length → ∃ cs, (bxI (rx q.g vs.bx.length) (vs.bf.length + ·) t.bx x.2.1)[k]? = some cs := fun k hk => by
    have hk2 : k < (bxI (rx q.g vs.bx.length) (vs.bf.length + ·) t.bx x.2.1).length := by rw [bxI_len]; exact hk
    exact ⟨_, List.getElem?_eq_getElem hk2⟩
  have hin : ∀ (k j : Nat), q.g[k]? = some j → ∃ cs, (bxI (rx q.g vs.bx.length) (vs.bf.length + ·) t.bx x.2.1)[k]? = some cs ∧ vs2.bx[j]? = some (keepBx vs.bx[j]? cs) := by
    intro k j hk
    obtain ⟨cs, hcs⟩ := hgetY k (by have := lt_of_get hk; omega)
    exact ⟨cs, hcs, by rw [hbx2, giveBx_in hgl' ng hg hk, hcs]; rfl⟩
  have hout : ∀ j, j < vs.bx.length → (∀ k : Nat, q.g[k]? ≠ some j) → vs2.bx[j]? = vs.bx[j]? := fun j hj hno => by rw [hbx2, giveBx_old hgl' hj hno]
  have hnw : ∀ j, vs.bx.length ≤ j → j < vs2.bx.length → ∃ cs, (bxI (rx q.g vs.bx.length) (vs.bf.length + ·) t.bx x.2.1)[q.g.length + (j - vs.bx.length)]? = some cs ∧ vs2.bx[j]? = some (ownBx (allOwn vs.bx q.g) cs) := by
    intro j h1 h2
    obtain ⟨cs, hcs⟩ := hgetY (q.g.length + (j - vs.bx.length)) (by omega)
    exact ⟨cs, hcs, by rw [hbx2, giveBx_new hgl' h1, hcs]; rfl⟩
  have hhin : ∀ (k j : Nat), q.g[k]? = some j → hasOf vs2.bx j = (t.cx x (vs.S S0 env) env1 m1).has k ∧ lenOf vs2.bx j = (t.cx x (vs.S S0 env) env1 m1).len k := by
    intro k j hk
    obtain ⟨cs, h1, h2⟩ := hin k j hk
    obtain ⟨h3, h4⟩ := hinY k cs h1
    rw [hasOf_get h2, lenOf_get h2, (keepBx_shape _ _).2.1, (keepBx_shape _ _).2.2.1, h3, h4]
    exact ⟨rfl, rfl⟩
  have hhout : ∀ j, j < vs.bx.length → (∀ k : Nat, q.g[k]? ≠ some j) → hasOf vs2.bx j = hasOf vs.bx j ∧ lenOf vs2.bx j = lenOf vs.bx j := by
    intro j hj hno
    unfold hasOf lenOf
    rw [hout j hj hno]
    exact ⟨rfl, rfl⟩
  have hhnw : ∀ j, vs.bx.length ≤ j → j < vs2.bx.length → hasOf vs2.bx j = (t.cx x (vs.S S0 env) env1 m1).has (q.g.length + (j - vs.bx.length)) ∧ lenOf vs2.bx j = (t.cx x (vs.S S0 env) env1 m1).len (q.g.length + (j - vs.bx.length)) := by
    intro j h1 h2
    obtain ⟨cs, h3, h4⟩ := hnw j h1 h2
    obtain ⟨h5, h6⟩ := hinY _ cs h3
    rw [hasOf_get h4, lenOf_get h4, (ownBx_shape _ _).2.1, (ownBx_shape _ _).2.2.1, h5, h6]
    exact ⟨rfl, rfl⟩
  have hho : ∀ j, j < vs.bx.length → hasOf vs2.bx j = true → hasOf vs.bx j = true := by
    intro j hj hh2
    by_cases hin' : ∃ k : Nat, q.g[k]? = some j
    · obtain ⟨k, hk⟩ := hin'
      rw [(hhin k j hk).1] at hh2
      rw [← hXh k j hk]
      exact hhas k (by rw [hXn]; exact lt_of_get hk) hh2
    · rw [(hhout j hj (fun k hk => hin' ⟨k, hk⟩)).1] at hh2; exact hh2
  have hlo : ∀ j L, j < vs.bx.length → lenOf vs2.bx j = some L → lenOf vs.bx j = some L := by
    intro j L hj hh2
    by_cases hin' : ∃ k : Nat, q.g[k]? = some j
    · obtain ⟨k, hk⟩ := hin'
      rw [(hhin k j hk).2] at hh2
      rw [← hXlen k j hk]
      exact hlen k L (by rw [hXn]; exact lt_of_get hk) hh2
    · rw [(hhout j hj (fun k hk => hin' ⟨k, hk⟩)).2] at hh2; exact hh2
  have hnβ : ∀ j, vs.bx.length ≤ j → j < vs2.bx.length → hasOf vs2.bx j = true → m.nxt ≤ env2.β j ∨ ∃ (k' j' : Nat), q.g[k']? = some j' ∧ hasOf vs.bx j' = true ∧ env.β j' = env2.β j ∧ hasOf vs2.bx j' = false := by
    intro j h1 h2 h3
    rw [(hhnw j h1 h2).1] at h3
    rw [hβn j h1, show j - vs.bx.length + q.g.length = q.g.length + (j - vs.bx.length) by omega]
    rcases hnew (q.g.length + (j - vs.bx.length)) (by omega) (by omega) h3 with w | ⟨k', j', w1, w2, w3, w4⟩
    · exact .inl w
    · exact .inr ⟨k', j', w1, w2, w3, by rw [(hhin k' j' w1).1]; exact w4⟩
  have hφ1 : ∀ i, env1.φ i → Wb (vs.cx S0 env m) i ∨ m.nxt ≤ i := fun i w => by
    rcases hwb i (.inr w) with w | w
    · exact .inl (hWb0 i w)
    · exact .inr (hXm' i w)
  have hWb2 : ∀ i, Wb (vs2.cx S0 env2 m1) i → Wb (vs.cx S0 env m) i ∨ m.nxt ≤ i := by
    intro i w
    rcases w with ⟨j, h1, h3, h2⟩ | w
    · have h1' : j < vs2.bx.length := h1
      have h3' : hasOf vs2.bx j = true := h3
      have h2' : env2.β j = i := h2
      rcases Nat.lt_or_ge j vs.bx.length with hj | hj
      · rw [hβo j hj] at h2'
        exact .inl (.inl ⟨j, hj, hho j hj h3', h2'⟩)
      · rcases hnβ j hj h1' h3' with w | ⟨k', j', w1, w2, w3, _⟩
        · exact .inr (by rw [← h2']; exact w)
        · exact .inl (.inl ⟨j', hg k' j' w1, w2, by show env.β j' = i; rw [w3]; exact h2'⟩)
    · rcases (hφ2 i).1 w with w | w
      · exact .inl (.inr w)
      · exact hφ1 i w
  have hS2 : ∀ i, vs2.S S0 env2 i → vs.S S0 env i ∨ m.nxt ≤ i := by
    intro i w
    rcases w with w | w
    · exact .inl (.inl w)
    · rcases hWb2 i w with w | w
      · exact .inl (WbS i w)
      · exact .inr w
  have hSY : ∀ i, vs2.S S0 env2 i → (t.cx x (vs.S S0 env) env1 m1).S i := by
    intro i w
    rcases w with w | ⟨j, h1, h3, h2⟩ | w
    · exact .inl (.inl w)
    · rcases Nat.lt_or_ge j vs.bx.length with hj | hj
      · rw [hβo j hj] at h2
        exact .inl (.inr (.inl ⟨j, hj, hho j hj h3, h2⟩))
      · rw [hβn j hj, show j - vs.bx.length + q.g.length = q.g.length + (j - vs.bx.length) by omega] at h2
        rw [(hhnw j hj h1).1] at h3
        exact .inr (.inl ⟨q.g.length + (j - vs.bx.length), by show _ < (bxI id id t.bx x.2.1).length; rw [bxI_len]; omega, h3, h2⟩)
    · rcases (hφ2 i).1 w with w | w
      · exact .inl (.inr (.inr w))
      · exact .inr (.inr w)
  have hτY : ∀ (j : Nat) (b : Bf), vs2.bf[j]? = some b → (j < vs.bf.length ∧ (freezeL q.h vs.bf)[j]? = some b) ∨ (∃ k, j = vs.bf.length + k ∧ (t.cx x (vs.S S0 env) env1 m1).bf[k]? = some b) := by
    intro j b hj
    rw [hbf2] at hj
    rcases Nat.lt_or_ge j vs.bf.length with h | h
    · rw [List.getElem?_append_left (by rw [freezeL_len]; exact h)] at hj; exact .inl ⟨h, hj⟩
    · rw [List.getElem?_append_right (by rw [freezeL_len]; exact h), freezeL_len] at hj
      exact .inr ⟨j - vs.bf.length, by omega, hj⟩
  have hmonoX : Mono (vs.S S0 env) m (vs2.S S0 env2) m1 := hfr.mono_row T.free (fun i w => hWbS i (hWb0 i w)) hS2
  have hmonoY : Mono (t.cx x (vs.S S0 env) env1 m1).S m1 (vs2.S S0 env2) m1 := fun i r hr hn => ⟨hr, fun w => hn (hSY i w)⟩
  have hle : CxLe (vs.cx S0 env m) (vs2.cx S0 env2 m1) := by
    refine ⟨hmonoX, by show vs.bx.length ≤ vs2.bx.length; omega, fun j hj => hβo j hj, fun j b hj => ?_, fun j hj w => hho j hj w, fun j L hj w => hlo j L hj w, fun _ w => w, fun i w => (hφ2 i).2 (.inl w), hfr.nxt, hfr.ty⟩
    have hjl := lt_of_get hj
    have hjl' : j < vs.bf.length := hjl
    have hin : j < (freezeL q.h vs.bf).length := by rw [freezeL_len]; exact hjl'
    obtain ⟨b0, h1, h2⟩ := freezeL_any q.h vs.bf j (freezeL q.h vs.bf)[j] (by simp [hin])
    have hj' : vs.bf[j]? = some b := hj
    rw [hj'] at h1; cases h1
    rcases h2 with h2 | h2
    · exact ⟨b.live, by show vs2.bf[j]? = _; rw [hbf2, List.getElem?_append_left hin, List.getElem?_eq_getElem hin, h2], hτo j hjl'⟩
    · exact ⟨false, by show vs2.bf[j]? = _; rw [hbf2, List.getElem?_append_left hin, List.getElem?_eq_getElem hin, h2], hτo j hjl'⟩
  have hrx : ∀ k, k < t.bx.length → rx q.g vs.bx.length k < vs2.bx.length ∧ ((t.cx x (vs.S S0 env) env1 m1).has k = true → env2.β (rx q.g vs.bx.length k) = env1.β k) ∧ hasOf vs2.bx (rx q.g vs.bx.length k) = (t.cx x (vs.S S0 env) env1 m1).has k ∧ lenOf vs2.bx (rx q.g vs.bx.length k) = (t.cx x (vs.S S0 env) env1 m1).len k := by
    intro k hk
    unfold rx
    cases hq : q.g[k]? with
    | some j =>
      have hj := hg k j hq
      exact ⟨by show j < _; omega, fun hw => by show env2.β j = _; rw [hβo j hj, hβ1 k j hq hw], (hhin k j hq).1, (hhin k j hq).2⟩
    | none =>
      have : q.g.length ≤ k := List.getElem?_eq_none_iff.1 hq
      have hj1 : vs.bx.length + (k - q.g.length) < vs2.bx.length := by omega
      obtain ⟨h1, h2⟩ := hhnw (vs.bx.length + (k - q.g.length)) (by omega) hj1
      have hk2 : q.g.length + (vs.bx.length + (k - q.g.length) - vs.bx.length) = k := by omega
      rw [hk2] at h1 h2
      refine ⟨hj1, fun _ => ?_, h1, h2⟩
      show env2.β (vs.bx.length + (k - q.g.length)) = _
      rw [hβn _ (by omega)]
      congr 1; omega
  have hR : Ren3 (t.cx x (vs.S S0 env) env1 m1) (vs2.cx S0 env2 m1) (rx q.g vs.bx.length) (vs.bf.length + ·) := by
    refine ⟨hmonoY, Nat.le_refl _, fun _ _ q => q, fun k hk => ?_, fun j L w hL => lenOf_has w hL, fun k b hk => ⟨b.live, ?_, hτn k⟩⟩
    · obtain ⟨h1, h2, h3, h4⟩ := hrx k (by rw [← hYn]; exact hk)
      exact ⟨h1, fun w => h2 (by rw [← h3]; exact w), fun w => by rw [← h3]; exact w, fun L w => by rw [← h4]; exact w⟩
    · show vs2.bf[vs.bf.length + k]? = some b
      rw [hbf2, List.getElem?_append_right (by rw [freezeL_len]; omega), freezeL_len, show vs.bf.length + k - vs.bf.length = k by omega]
      exact hk
  have hfr0 : Fr2 (Wb (vs.cx S0 env m)) (Wl (vs.cx S0 env m)) m m1 := hfr.mono hWb0 (fun i w => .inl (hWl0 i w))
  have hs : Stp (vs.cx S0 env m) (vs2.cx S0 env2 m1) := by
    refine ⟨hfr0, hle, hWb2, fun i w => ?_⟩
    obtain ⟨j, b, h1, h2, h3⟩ := w
    have h3' : env2.τ j = some i := h3
    rcases hτY j b h1 with ⟨hj, h4⟩ | ⟨k, rfl, h4⟩
    · obtain ⟨b0, h5, h6⟩ := freezeL_any _ _ _ _ h4
      rw [hτo j hj] at h3'
      rcases h6 with rfl | rfl
      · exact .inl ⟨j, _, h5, h2, h3'⟩
      · cases h2
    · rw [hτn] at h3'
      rcases hwl i ⟨k, b, h4, h2, h3'⟩ with w | w | w
      · exact .inl (hWl0 i w)
      · exact .inr (.inl (hWb0 i w))
      · exact .inr (.inr (hXm' i w))
  have hbd : ∀ j j', j < vs2.bx.length → j' < vs2.bx.length → hasOf vs2.bx j = true → hasOf vs2.bx j' = true → env2.β j = env2.β j' → j = j' := by
    have cross : ∀ j j', j < vs.bx.length → vs.bx.length ≤ j' → j' < vs2.bx.length → hasOf vs2.bx j = true → hasOf vs2.bx j' = true → env2.β j = env2.β j' → False := by
      intro j j' hj hj' hj2 a1 a2 ge
      rw [hβo j hj] at ge
      have a0 := hho j hj a1
      rcases hnβ j' hj' hj2 a2 with w | ⟨k', j3, w1, w2, w3, w4⟩
      · have h2 : env.β j < m.nxt := T.slt _ (T.inS j hj a0)
        omega
      · have : j = j3 := T.bxd j j3 hj (hg k' j3 w1) a0 w2 (by show env.β j = env.β j3; rw [w3]; exact ge)
        subst this
        rw [w4] at a1; cases a1
    intro j j' g1' g2' a1 a2 ge'
    rcases Nat.lt_or_ge j vs.bx.length with hj | hj
    · rcases Nat.lt_or_ge j' vs.bx.length with hj' | hj'
      · rw [hβo j hj, hβo j' hj'] at ge'; exact T.bxd j j' hj hj' (hho j hj a1) (hho j' hj' a2) ge'
      · exact (cross j j' hj hj' g2' a1 a2 ge').elim
    · rcases Nat.lt_or_ge j' vs.bx.length with hj' | hj'
      · exact (cross j' j hj' hj g1' a2 a1 ge'.symm).elim
      · rw [(hhnw j hj g1').1] at a1
        rw [(hhnw j' hj' g2').1] at a2
        rw [hβn j hj, hβn j' hj', show j - vs.bx.length + q.g.length = q.g.length + (j - vs.bx.length) by omega, show j' - vs.bx.length + q.g.length = q.g.length + (j' - vs.bx.length) by omega] at ge'
        have := hT.bxd _ _ (by rw [hYn]; omega) (by rw [hYn]; omega) a1 a2 ge'
        omega
  refine ⟨⟨hfr.free, by show m1.bar ≤ m1.nxt; rw [hfr.bar]; exact Nat.le_trans T.bar hfr.nxt, rfl, rfl, rfl, fun j hj hh => .inr (.inl ⟨j, hj, hh, rfl⟩), fun i w => hT.slt i (hSY i w), fun j b hj => ?_, fun j j' b b' i g1 g2 l1 l2 t1 t2 => ?_, fun j cs hj => ?_, fun j j' g1 g2 a1 a2 ge => hbd j j' g1 g2 a1 a2 ge, fun i w => .inr (.inr w), fun j hj hh w => ?_, hT.rts, hT.unq⟩, hs, hR⟩
  · rcases hτY j b hj with ⟨hjl, h4⟩ | ⟨k, rfl, h4⟩
    · obtain ⟨b0, h5, h6⟩ := freezeL_any _ _ _ _ h4
      have hB := T.bf j b0 h5
      rcases h6 with rfl | rfl
      · refine BufOK.le (X := vs.cx S0 env m) (Y := vs2.cx S0 env2 m1) hfr hmonoX (fun i w => hWbS i (hWb0 i w)) (hτo j hjl) hB (fun hl i hi w => ?_)
        obtain ⟨k, j', h7, h8⟩ := hXl i w
        obtain ⟨b1, h9, h10⟩ := hh k j' h7
        have hjj := T.bfd j j' _ b1 i h5 h9 hl h10 hi h8
        subst hjj
        have := freezeL_in _ _ _ k _ h7 h4
        rw [hl] at this; cases this
      · exact BufOK.le (X := vs.cx S0 env m) (Y := vs2.cx S0 env2 m1) hfr hmonoX (fun i w => hWbS i (hWb0 i w)) (hτo j hjl) hB.dead (fun hl => by cases hl)
    · exact BufOK.le (X := t.cx x (vs.S S0 env) env1 m1) (Y := vs2.cx S0 env2 m1) (Wb := fun _ => False) (Wl := fun _ => False) (Fr2.refl hfr.free) hmonoY (fun _ w => w.elim) (hτn k) (hT.bf k b h4) (fun _ _ _ w => w)
  · have t1' : env2.τ j = some i := t1
    have t2' : env2.τ j' = some i := t2
    have cross : ∀ {j k : Nat} {b b' : Bf}, j < vs.bf.length → (freezeL q.h vs.bf)[j]? = some b → b.live = true → env.τ j = some i → (t.cx x (vs.S S0 env) env1 m1).bf[k]? = some b' → b'.live = true → env1.τ k = some i → False := by
      intro j k b b' hj h4 l1 t1 h4' l2 t2
      obtain ⟨b0, h5, h6⟩ := freezeL_any _ _ _ _ h4
      have l0 : b0.live = true := by rcases h6 with rfl | rfl; exact l1; cases l1
      rcases hwl i ⟨k, b', h4', l2, t2⟩ with w | w | w
      · obtain ⟨k2, j2, h7, h8⟩ := hXl i w
        obtain ⟨b1, h9, h10⟩ := hh k2 j2 h7
        have hjj := T.bfd j j2 b0 b1 i h5 h9 l0 h10 t1 h8
        subst hjj
        have := freezeL_in _ _ _ k2 _ h7 h4
        rw [l1] at this; cases this
      · exact (T.bf j b0 h5).noS t1 (hWbS i (hWb0 i w))
      · have h7 := (T.bf j b0 h5).lt T.free t1
        have h8 : i < m.nxt := h7
        have := hXm' i w
        omega
    rcases hτY j b g1 with ⟨hj, h4⟩ | ⟨k, rfl, h4⟩
    · rw [hτo j hj] at t1'
      rcases hτY j' b' g2 with ⟨hj', h4'⟩ | ⟨k', rfl, h4'⟩
      · rw [hτo j' hj'] at t2'
        obtain ⟨b0, h5, h6⟩ := freezeL_any _ _ _ _ h4
        obtain ⟨b0', h5', h6'⟩ := freezeL_any _ _ _ _ h4'
        have l0 : b0.live = true := by rcases h6 with rfl | rfl; exact l1; cases l1
        have l0' : b0'.live = true := by rcases h6' with rfl | rfl; exact l2; cases l2
        exact T.bfd j j' b0 b0' i h5 h5' l0 l0' t1' t2'
      · rw [hτn] at t2'
        exact (cross hj h4 l1 t1' h4' l2 t2').elim
    · rw [hτn] at t1'
      rcases hτY j' b' g2 with ⟨hj', h4'⟩ | ⟨k', rfl, h4'⟩
      · rw [hτo j' hj'] at t2'
        exact (cross hj' h4' l2 t2' h4 l1 t1').elim
      · rw [hτn] at t2'
        rw [hT.bfd k k' b b' i h4 h4' l1 l2 t1' t2']
  ·
    have fromY : ∀ {k : Nat} {cs0 : List Cl} {own : Bool → Bool}, (bxI (rx q.g vs.bx.length) (vs.bf.length + ·) t.bx x.2.1)[k]? = some cs0 → ((t.cx x (vs.S S0 env) env1 m1).has k = true → env2.β j = env1.β k) → ((∃ o, cs = ownBx o cs0 ∧ (o = true → has1 cs0 = true → ¬ S0 (env2.β j))) ∨ cs = cs0) → BoxOK P (vs2.cx S0 env2 m1) j cs := by
      intro k cs0 own hk he hcs
      obtain ⟨ps, z, rfl, h1⟩ := bxI_get hk
      have hBY := hT.bx k _ h1
      have hasY : has1 (ceI id id ps z) = true → (t.cx x (vs.S S0 env) env1 m1).has k = true := fun w => by
        show hasOf (bxI id id t.bx x.2.1) k = true
        rw [hasOf_get h1]; exact w
      have runle : ∀ {arr : Bool} {e : Ty} {xs : List e.El}, (xs ≠ [] → has1 (ceI id id ps z) = true) → RunOK P (t.cx x (vs.S S0 env) env1 m1) k arr e xs → RunOK P (vs2.cx S0 env2 m1) j arr e xs := fun hq hr =>
        RunOK.le (X := t.cx x (vs.S S0 env) env1 m1) (Y := vs2.cx S0 env2 m1) (Wb := fun _ => False) (Wl := fun _ => False) hT.free hT.rts (Fr2.refl hfr.free) hmonoY (fun i w => (hφ2 i).2 (.inr w)) (fun w => he (hasY (hq w))) hr (fun _ w => w) (fun _ w => w)
      rcases ceI_kinds (rx := rx q.g vs.bx.length) (rb := (vs.bf.length + ·)) (ps := ps) (z := z) with ⟨hr1, hr2⟩ | ⟨hkind, heq⟩ | ⟨mc, ml, hk1, hk2⟩
      · have hcs2 : cs = ceI (rx q.g vs.bx.length) (vs.bf.length + ·) ps z := by
          rcases hcs with ⟨o, h5, _⟩ | h5
          · rw [h5, (ownBx_shape _ _).2.2.2 hr1]
          · exact h5
        rw [hcs2]
        refine BoxOK.of hr1 ?_
        obtain ⟨b, c, e, fr, h2, h3, h4, h5, h6, h8⟩ := hBY.cel hr2
        unfold CelOK
        rw [show (vs2.cx S0 env2 m1).env.β j = env1.β k from he (hasY (has1_cel hr2))]
        exact ⟨b, c, e, fr, h2, h3, h4, h5, h6, ceI_ren hR h8⟩
      · rw [heq] at hBY
        rcases hkind with ⟨e, xs, hk1⟩ | ⟨e, xs, hk1⟩ | hk1
        · rw [hk1] at hBY hcs
          rcases hcs with ⟨o, h5, h6⟩ | h5
          · rw [h5]
            exact ⟨runle (fun w => by rw [heq, hk1]; exact has1_run w) hBY.1, fun o1 o2 => h6 o1 (has1_run o2)⟩
          · rw [h5]
            exact ⟨runle (fun w => by rw [heq, hk1]; exact has1_run w) hBY.1, fun o1 => by cases o1⟩
        · rw [hk1] at hBY hcs
          have : cs = [.ra e xs] := by
            rcases hcs with ⟨o, h5, _⟩ | h5
            · rw [h5]; rfl
            · exact h5
          rw [this]
          exact runle (fun w => by rw [heq, hk1]; exact has1_runA w) hBY
        · rw [hk1] at hcs
          have : cs = [.g] := by
            rcases hcs with ⟨o, h5, _⟩ | h5
            · rw [h5]; rfl
            · exact h5
          rw [this]
          trivial
      · rw [hk2] at hBY
        rw [hk1] at hcs
        have : cs = [.mx mc (ml.map fun u => (u.1, u.2.1, rx q.g vs.bx.length u.2.2))] := by
          rcases hcs with ⟨o, h5, _⟩ | h5
          · rw [h5]; rfl
          · exact h5
        rw [this]
        obtain ⟨b, es, h2, h3, h4, h5, h6, h8⟩ := hBY
        show MapOK P (vs2.cx S0 env2 m1) j mc _
        unfold MapOK
        rw [show (vs2.cx S0 env2 m1).env.β j = env1.β k from he (hasY (by rw [hk2]; rfl))]
        exact ⟨b, es, h2, h3, h4, h5, h6, ents_ren hR h8⟩
    rcases Nat.lt_or_ge j vs.bx.length with hjl | hjl
    · by_cases hin' : ∃ k : Nat, q.g[k]? = some j
      · obtain ⟨k, hk⟩ := hin'
        obtain ⟨cs0, h1, h2⟩ := hin k j hk
        rw [hj] at h2
        simp only [Option.some.injEq] at h2
        refine fromY (own := id) h1 (fun hw => by rw [hβo j hjl, hβ1 k j hk hw]) ?_
        rw [h2]
        unfold keepBx
        split
        · rename_i o e xs ho
          refine .inl ⟨o, rfl, fun o1 hh1 w => ?_⟩
          subst o1
          have hB := T.bx j _ ho
          have hj2 : hasOf vs.bx j = true := by
            refine hho j hjl ?_
            rw [(hhin k j hk).1, (hinY k cs0 h1).1]; exact hh1
          rw [hasOf_get ho] at hj2
          rw [hβo j hjl] at w
          exact hB.2 rfl (has1_ne hj2) w
        · exact .inr rfl
      · have hno : ∀ k : Nat, q.g[k]? ≠ some j := fun k hk => hin' ⟨k, hk⟩
        rw [hout j hjl hno] at hj
        refine BoxOK.le (X := vs.cx S0 env m) (Y := vs2.cx S0 env2 m1) T.free T.rts hfr hle (fun _ => hβo j hjl) (T.bx j cs hj) (fun hh1 w => ?_) (fun hh1 w => ?_)
        · have hjh : hasOf vs.bx j = true := (hasOf_get hj).trans hh1
          rcases hWbX _ w with ⟨k, j', h1, h3, h2⟩ | w
          · have := T.bxd j j' hjl (hg k j' h1) hjh h3 h2.symm
            subst this
            exact hno k h1
          · exact T.φd j hjl hjh w
        · have hjh : hasOf vs.bx j = true := (hasOf_get hj).trans hh1
          obtain ⟨k, j', h1, h2⟩ := hXl _ w
          obtain ⟨b1, h9, h10⟩ := hh k j' h1
          exact (T.bf j' b1 h9).noS h2 (.inr (.inl ⟨j, hjl, hjh, rfl⟩))
    · have hj2 : j < vs2.bx.length := lt_of_get hj
      obtain ⟨cs0, h1, h2⟩ := hnw j hjl hj2
      rw [hj] at h2
      simp only [Option.some.injEq] at h2
      refine fromY (own := id) h1 (fun _ => by rw [hβn j hjl]; congr 1; omega) (.inl ⟨_, h2, fun o1 hh1 w => ?_⟩)
      have hjh : hasOf vs2.bx j = true := by rw [(hhnw j hjl hj2).1, (hinY _ cs0 h1).1]; exact hh1
      rcases hnβ j hjl hj2 hjh with w2 | ⟨k', j', w1, w2, w3, _⟩
      · have := T.slt (env2.β j) (.inl w)
        have this' : env2.β j < m.nxt := this
        omega
      ·
        have hall : ∀ {g : List Nat}, allOwn vs.bx g = true → ∀ (k j : Nat), g[k]? = some j → ∃ e xs, vs.bx[j]? = some [.r true e xs] := by
          intro g
          induction g with
          | nil => intro _ k j h; simp at h
          | cons a g ih =>
            intro h k j hk
            simp only [allOwn, Bool.and_eq_true] at h
            cases k with
            | zero =>
              simp only [List.getElem?_cons_zero, Option.some.injEq] at hk
              subst hk
              have h5 := h.1
              split at h5
              · rename_i o e xs ho; rw [h5] at ho; exact ⟨e, xs, ho⟩
              · cases h5
            | succ k => exact ih h.2 k j (by simpa using hk)
        obtain ⟨e, xs, ho⟩ := hall o1 k' j' w1
        have hB := T.bx j' _ ho
        rw [hasOf_get ho] at w2
        rw [← w3] at w
        exact hB.2 rfl (has1_ne w2) w
  · have hj1 : j < vs2.bx.length := hj
    have hh1 : hasOf vs2.bx j = true := hh
    have w' := (hφ2 _).1 w
    rcases Nat.lt_or_ge j vs.bx.length with hjl | hjl
    · have hjh := hho j hjl hh1
      rw [show (vs2.cx S0 env2 m1).env.β j = env.β j from hβo j hjl] at w'
      rcases w' with w' | w'
      · exact T.φd j hjl hjh w'
      · by_cases hin' : ∃ k : Nat, q.g[k]? = some j
        · obtain ⟨k, hk⟩ := hin'
          rw [(hhin k j hk).1] at hh1
          refine hT.φd k (by rw [hYn]; have := lt_of_get hk; omega) hh1 ?_
          show env1.φ (env1.β k)
          rw [hβ1 k j hk hh1]; exact w'
        · rcases hwb _ (.inr w') with w2 | w2
          · rcases hWbX _ w2 with ⟨k, j', h1, h3, h2⟩ | w2
            · have := T.bxd j j' hjl (hg k j' h1) hjh h3 h2.symm
              subst this
              exact hin' ⟨k, h1⟩
            · exact T.φd j hjl hjh w2
          · have h2 : env.β j < m.nxt := T.slt _ (T.inS j hjl hjh)
            have := hXm' _ w2
            omega
    · rcases w' with w' | w'
      · rcases hnβ j hjl hj1 hh1 with w2 | ⟨k', j', w1, w2, w3, _⟩
        · have h2 : env2.β j < m.nxt := T.slt _ (T.φS _ w')
          omega
        · have w4 : env.φ (env2.β j) := w'
          rw [← w3] at w4
          exact T.φd j' (hg k' j' w1) w2 w4
      · rw [(hhnw j hjl hj1).1] at hh1
        have w4 : env1.φ (env2.β j) := w'
        rw [hβn j hjl, show j - vs.bx.length + q.g.length = q.g.length + (j - vs.bx.length) by omega] at w4
        exact hT.φd _ (by rw [hYn]; omega) hh1 w4
end Go.IM.V