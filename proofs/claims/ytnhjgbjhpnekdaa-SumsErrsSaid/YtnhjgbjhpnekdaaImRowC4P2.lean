/- What the code of a law comes to, and what that tells: part 2. Lemmas alone; no conditions. -/
import Derived.Test.YtnhjgbjhpnekdaaImRowC4P1
/- Sums: the law SumsErrs. -/
set_option linter.unusedVariables false
set_option linter.unusedSimpArgs false
set_option linter.constructorNameAsVariable false
namespace Go.IM.V
open Go Go.IM Go.Proofs

theorem tmod_first {a : Int} (h : 0 ≤ a ∧ a < 18446744073709551616) (m : Int) (hm : 0 < m) (hm2 : m ≤ 4611686018427387904) : 1 ≤ IntKind.wrap .u64 (1 + a.tmod m) ∧ IntKind.wrap .u64 (1 + a.tmod m) ≤ m ∧ IntKind.wrap .u64 (1 + a.tmod m) = 1 + a % m := by
  rw [Int.tmod_eq_emod_of_nonneg h.1]
  have h1 := Int.emod_nonneg a (show m ≠ 0 by omega)
  have h2 := Int.emod_lt_of_pos a hm
  rw [wu64 (by omega) (by omega)]
  omega
theorem L17r_run (l : List Int) (first : Int) (hl : l.length < 2 ^ 30) : ∀ (d i : Nat) (q : List Ev), i + d = l.length → q.length + d < 2 ^ 31 → L17r_3 l first (i : Nat) q = some (((), ()), (((), ()), ((q ++ evF first (l.drop i) i), ()), ()), ()) := by
  intro d
  induction d with
  | zero =>
    intro i q hi hq
    rw [L17r_3_eq]
    simp only [T17r_3, cif]
    rw [if_neg (by omega), show i = l.length from by omega, List.drop_length]
    simp [evF]
  | succ d ih =>
    intro i q hi hq
    have hw : IntKind.wrap .i64 ((i : Int) + 1) = ((i + 1 : Nat) : Int) := by rw [w64 (by omega) (by omega)]; omega
    have hlim : lim = 1099511627776 := rfl
    rw [L17r_3_eq]
    simp only [T17r_3, cif]
    rw [if_pos (by omega), if_pos (by omega), if_pos (by simp; omega), Int.toNat_natCast]
    simp only [Option.bind_some, Sum.elim_inl, hw]
    rw [ih (i + 1) _ (by omega) (by simp; omega), List.drop_eq_getElem_cons (i := i) (by omega)]
    rw [List.getD_eq_getElem?_getD, List.getElem?_eq_getElem (by omega), List.append_assoc]
    have : IntKind.wrap .u64 (((i + 1 : Nat) : Int)) = IntKind.wrap .u64 (IntKind.wrap .i64 ((i : Int) + 1)) := by rw [hw]
    rw [this]
    rfl
theorem F17r_eq (l : List Int) (first : Int) (hl : l.length < 2 ^ 30) : F17r l first = some (((), ()), ((evF first l 0, ()), ()), ()) := by
  unfold F17r
  have := L17r_run l first hl l.length 0 [] (by omega) (by simp; omega)
  rw [show ((0 : Nat) : Int) = 0 from rfl, List.nil_append, List.drop_zero] at this
  rw [show (([] : List (Int × (Int × (Int × (Int × (ByteArray × ((List Int) × (Nat × (Int × Unit)))))))))) = ([] : List Ev) from rfl, this]
  rfl
theorem L18ra_run {es : List Ev} {k : Nat} (hk : k ≤ 6) (hW : Wide es.length k) (f n : Int) : ∀ (d j : Nat), j + d = k → L18r_2 es f n ((2 ^ j : Nat) : Int) [] = some ((), ((es, ()), (f, n, ((2 ^ k : Nat) : Int), [], ()), ()), ()) := by
  intro d
  induction d with
  | zero =>
    intro j hj
    have := hW.le
    have : k = j := by omega
    subst this
    rw [L18r_2_eq]
    simp only [T18r_2, cif]
    rw [if_neg (by omega)]
    rfl
  | succ d ih =>
    intro j hj
    have := hW.lt j (by omega)
    have h6 := pow_le6 (show j ≤ 6 by omega)
    rw [L18r_2_eq]
    simp only [T18r_2, cif]
    rw [if_pos (by omega), dbl (by omega), show 2 * 2 ^ j = 2 ^ (j + 1) from by rw [Nat.pow_succ]; omega]
    simp only [Option.bind_some, Sum.elim_inl]
    exact ih (j + 1) (by omega)
theorem L18rb_run {es : List Ev} {W : Nat} (hn : es.length ≤ W) (hW : W ≤ 64) (hok : EvsOK es) (hr : Rises es) (n : Int) : ∀ (d i : Nat) (f : Int), i + d = es.length → (0 < i ∨ es.length = 0 → f = fst1 es) →
    L18r_6 (es.length : Nat) (i : Nat) f n (W : Nat) es (tab (2 * W) (leaf es W i)) = some (.inr ((), ((fst1 es, n, (W : Nat), (), ()), (es, ()), (tab (2 * W) (leaf es W es.length), ()), ()), ())) := by
  intro d
  induction d with
  | zero =>
    intro i f hi hf
    rw [L18r_6_eq]
    simp only [T18r_6, cif]
    rw [if_neg (by omega), show i = es.length from by omega, hf (by omega)]
    rfl
  | succ d ih =>
    intro i f hi hf
    have hw : IntKind.wrap .i64 ((i : Int) + 1) = ((i + 1 : Nat) : Int) := by rw [w64 (by omega) (by omega)]; omega
    have hw2 : IntKind.wrap .i64 ((W : Int) + (i : Int)) = ((W + i : Nat) : Int) := by rw [w64 (by omega) (by omega)]; omega
    obtain ⟨ok, ol⟩ := hok i (by omega)
    have hs := hr i (by omega)
    have he : ∀ v, v = ofE (es.getD i E0) → (tab (2 * W) (leaf es W i)).set (W + i) v = tab (2 * W) (leaf es W (i + 1)) := by
      rintro v rfl
      rw [tab_set]
      refine tab_congr fun j hj => ?_
      unfold leaf
      by_cases h : j = W + i
      · rw [if_pos h, if_pos (by omega), show j - W = i from by omega]
      · rw [if_neg h]
        by_cases h2 : W ≤ j ∧ j < W + i
        · rw [if_pos h2, if_pos (by omega)]
        · rw [if_neg h2, if_neg (by omega)]
    rw [L18r_6_eq]
    simp only [T18r_6, cif]
    rw [if_pos (by omega), if_pos (by omega), if_pos (by omega), Int.toNat_natCast]
    by_cases h0 : i = 0
    · subst h0
      have hf1 : (es.getD 0 E0).2.1 = fst1 es := by
        cases es with
        | nil => simp at hi
        | cons e r => rfl
      have hz : IntKind.wrap .u64 ((es.getD 0 E0).2.1 + IntKind.wrap .u64 ((0 : Nat) : Int)) = (es.getD 0 E0).2.1 := by rw [hf1, ← hs, hf1]
      rw [show (((0 : Nat) : Int) == 0) = true from rfl]
      simp only [cond_true]
      rw [show ((es.getD 0 E0).2.1 != IntKind.wrap .u64 ((es.getD 0 E0).2.1 + IntKind.wrap .u64 ((0 : Nat) : Int))) = false from by rw [hz]; simp]
      simp only [cond_false]
      rw [show F29 _ = _ from F29_eq (es.getD 0 E0) ok ol]
      simp only [Option.bind_some, hw, hw2, Int.toNat_natCast]
      rw [if_pos (by rw [tab_len]; omega), if_pos (by rw [tab_len]; omega), he _ rfl]
      simp only [Option.bind_some, Sum.elim_inl]
      exact ih 1 _ (by omega) (fun _ => hf1)
    · rw [show ((i : Int) == 0) = false from by rw [beq_eq_false_iff_ne]; omega]
      simp only [cond_false]
      have hf2 := hf (by omega)
      subst hf2
      rw [show ((es.getD i E0).2.1 != IntKind.wrap .u64 (fst1 es + IntKind.wrap .u64 (i : Int))) = false from by rw [← hs]; simp]
      simp only [cond_false]
      rw [show F29 _ = _ from F29_eq (es.getD i E0) ok ol]
      simp only [Option.bind_some, hw, hw2, Int.toNat_natCast]
      rw [if_pos (by rw [tab_len]; omega), if_pos (by rw [tab_len]; omega), he _ rfl]
      simp only [Option.bind_some, Sum.elim_inl]
      exact ih (i + 1) _ (by omega) (fun _ => rfl)
theorem L18rc_run {W : Nat} (hW : W ≤ 64) (f n w : Int) : ∀ (i : Nat) (g : Nat → Int), i < W → L18r_15 (i : Nat) f n w (tab (2 * W) g) = some ((), bxT f n w (tab (2 * W) (upF i g)), ()) := by
  intro i
  induction i with
  | zero =>
    intro g hi
    rw [L18r_15_eq]
    simp only [T18r_15, cif]
    rw [if_neg (by omega)]
    rfl
  | succ i ih =>
    intro g hi
    have hw : IntKind.wrap .i64 (((i + 1 : Nat) : Int) - 1) = (i : Int) := by rw [w64 (by omega) (by omega)]; omega
    have hw2 := dbl' (w := i + 1) (by omega)
    have hw3 : IntKind.wrap .i64 (((2 * (i + 1) : Nat) : Int) + 1) = ((2 * (i + 1) + 1 : Nat) : Int) := by rw [w64 (by omega) (by omega)]; omega
    rw [L18r_15_eq]
    simp only [T18r_15, cif]
    simp only [hw2, hw3, Int.toNat_natCast, tab_len]
    rw [if_pos (by omega), if_pos (by omega), if_pos (by omega), if_pos (by omega), if_pos (by omega), F30_eq]
    simp only [Option.bind_some]
    rw [if_pos (by omega), if_pos (by omega), hw]
    simp only [Option.bind_some, Sum.elim_inl]
    rw [tab_get (by omega), tab_get (by omega), tab_set]
    exact ih _ (by omega)
theorem F18r_eq {es : List Ev} {k : Nat} (hk : k ≤ 6) (hW : Wide es.length k) (hok : EvsOK es) (hr : Rises es) :
    F18r es = some (.inl (((), true, ()), ((es, ()), (fst1 es, (es.length : Nat), ((2 ^ k : Nat) : Int), (), ()), (tree es (2 ^ k), ()), ()), ())) := by
  have h6 := pow_le6 hk
  have hle := hW.le
  have hlim : lim = 1099511627776 := rfl
  have h1 := L18ra_run hk hW 1 (es.length : Nat) k 0 (by omega)
  rw [show ((2 ^ 0 : Nat) : Int) = 1 from rfl] at h1
  unfold F18r
  generalize 2 ^ k = W at *
  rw [h1]
  have hw2 := dbl' (w := W) (by omega)
  have hw3 : IntKind.wrap .i64 (((W : Nat) : Int) - 1) = ((W - 1 : Nat) : Int) := by rw [w64 (by omega) (by omega)]; omega
  simp only [Option.bind_some, hw2, cand, Int.toNat_natCast]
  rw [if_pos ⟨⟨by omega, trivial, by omega⟩, by omega⟩]
  have h2 := L18rb_run (W := W) hle h6.2 hok hr (es.length : Nat) es.length 0 1 (by omega) (fun h => by
    rcases h with h | h
    · omega
    · rw [List.length_eq_zero_iff.1 h]; rfl)
  have hz : List.replicate (2 * W) (0 : Int) = tab (2 * W) (leaf es W 0) := by
    apply List.ext_getElem
    · simp [tab]
    · intro j a b
      simp only [tab, List.getElem_map, List.getElem_range, List.getElem_replicate]
      unfold leaf
      rw [if_neg (by omega)]
  rw [hz]
  rw [show ((0 : Nat) : Int) = 0 from rfl] at h2
  rw [h2]
  simp only [Option.bind_some, Sum.elim_inr]
  rw [hw3, L18rc_run h6.2 _ _ _ _ _ (by omega)]
  rfl
/-- One that does not rise. -/
theorem L18rd_run {es : List Ev} {W p : Nat} (hp : p < es.length) (hp1 : 1 ≤ p) (hn : es.length ≤ W) (hW : W ≤ 64) (hok : ∀ i < p, EvOK (es.getD i E0) ∧ (encE (es.getD i E0)).length < 2 ^ 62) (hr : ∀ i < p, (es.getD i E0).2.1 = IntKind.wrap .u64 (fst1 es + IntKind.wrap .u64 (i : Int)))
    (hbad : (es.getD p E0).2.1 ≠ IntKind.wrap .u64 (fst1 es + IntKind.wrap .u64 (p : Int))) (n : Int) : ∀ (d i : Nat) (f : Int) (L : List Int), i + d = p → (0 < i → f = fst1 es) → L.length = 2 * W →
    ∃ L' : List Int, L18r_6 (es.length : Nat) (i : Nat) f n (W : Nat) es L = some (.inl (((), false, ()), ((fst1 es, n, (W : Nat), (), ()), (es, ()), (L', ()), ()), ())) := by
  intro d
  induction d with
  | zero =>
    intro i f L hi hf hL
    have : i = p := by omega
    subst this
    have hf2 := hf (by omega)
    subst hf2
    refine ⟨L, ?_⟩
    rw [L18r_6_eq]
    simp only [T18r_6, cif]
    rw [if_pos (by omega), if_pos (by omega), if_pos (by omega), Int.toNat_natCast, show ((i : Int) == 0) = false from by rw [beq_eq_false_iff_ne]; omega]
    simp only [cond_false]
    rw [show ((es.getD i E0).2.1 != IntKind.wrap .u64 (fst1 es + IntKind.wrap .u64 (i : Int))) = true from bne_iff_ne.2 hbad]
    rfl
  | succ d ih =>
    intro i f L hi hf hL
    have hw : IntKind.wrap .i64 ((i : Int) + 1) = ((i + 1 : Nat) : Int) := by rw [w64 (by omega) (by omega)]; omega
    have hw2 : IntKind.wrap .i64 ((W : Int) + (i : Int)) = ((W + i : Nat) : Int) := by rw [w64 (by omega) (by omega)]; omega
    obtain ⟨ok, ol⟩ := hok i (by omega)
    have hs := hr i (by omega)
    rw [L18r_6_eq]
    simp only [T18r_6, cif]
    rw [if_pos (by omega), if_pos (by omega), if_pos (by omega), Int.toNat_natCast]
    by_cases h0 : i = 0
    · subst h0
      have hf1 : (es.getD 0 E0).2.1 = fst1 es := by
        cases es with
        | nil => simp at hp
        | cons e r => rfl
      have hz : IntKind.wrap .u64 ((es.getD 0 E0).2.1 + IntKind.wrap .u64 ((0 : Nat) : Int)) = (es.getD 0 E0).2.1 := by rw [hf1, ← hs, hf1]
      rw [show (((0 : Nat) : Int) == 0) = true from rfl]
      simp only [cond_true]
      rw [show ((es.getD 0 E0).2.1 != IntKind.wrap .u64 ((es.getD 0 E0).2.1 + IntKind.wrap .u64 ((0 : Nat) : Int))) = false from by rw [hz]; simp]
      simp only [cond_false]
      rw [show F29 _ = _ from F29_eq (es.getD 0 E0) ok ol]
      simp only [Option.bind_some, hw, hw2, Int.toNat_natCast]
      rw [if_pos (by omega), if_pos (by omega)]
      simp only [Option.bind_some, Sum.elim_inl]
      exact ih 1 _ _ (by omega) (fun _ => hf1) (by rw [List.length_set]; exact hL)
    · rw [show ((i : Int) == 0) = false from by rw [beq_eq_false_iff_ne]; omega]
      simp only [cond_false]
      have hf2 := hf (by omega)
      subst hf2
      rw [show ((es.getD i E0).2.1 != IntKind.wrap .u64 (fst1 es + IntKind.wrap .u64 (i : Int))) = false from by rw [← hs]; simp]
      simp only [cond_false]
      rw [show F29 _ = _ from F29_eq (es.getD i E0) ok ol]
      simp only [Option.bind_some, hw, hw2, Int.toNat_natCast]
      rw [if_pos (by omega), if_pos (by omega)]
      simp only [Option.bind_some, Sum.elim_inl]
      exact ih (i + 1) _ _ (by omega) (fun _ => rfl) (by rw [List.length_set]; exact hL)
theorem F18r_bad {es : List Ev} {p : Nat} (hn : es.length ≤ 64) (hp : p < es.length) (hp1 : 1 ≤ p) (hok : ∀ i < p, EvOK (es.getD i E0) ∧ (encE (es.getD i E0)).length < 2 ^ 62) (hr : ∀ i < p, (es.getD i E0).2.1 = IntKind.wrap .u64 (fst1 es + IntKind.wrap .u64 (i : Int)))
    (hbad : (es.getD p E0).2.1 ≠ IntKind.wrap .u64 (fst1 es + IntKind.wrap .u64 (p : Int))) : F18r es = some (.inr (((), false, ()), ((es, ()), ()), ())) := by
  obtain ⟨k, hk, hW⟩ := wide_ex hn
  have h6 := pow_le6 hk
  have hle := hW.le
  have hlim : lim = 1099511627776 := rfl
  have h1 := L18ra_run hk hW 1 (es.length : Nat) k 0 (by omega)
  rw [show ((2 ^ 0 : Nat) : Int) = 1 from rfl] at h1
  unfold F18r
  generalize 2 ^ k = W at *
  rw [h1]
  have hw2 := dbl' (w := W) (by omega)
  simp only [Option.bind_some, hw2, cand, Int.toNat_natCast]
  rw [if_pos ⟨⟨by omega, trivial, by omega⟩, by omega⟩]
  obtain ⟨L', h2⟩ := L18rd_run hp hp1 hle h6.2 hok hr hbad (es.length : Nat) p 0 1 (List.replicate (2 * W) 0) (by omega) (fun h => by omega) (by simp)
  rw [show ((0 : Nat) : Int) = 0 from rfl] at h2
  rw [h2]
  rfl
/-- What is told when both were built. -/
noncomputable def tailE (xs : List Ev) (a4 : Int) : Option ((Bool × Unit) × Unit × Unit) :=
  (bif (decide (((((xs).length : Nat) : Int) : Int) < 2)) then (some ((true, ()), (), ())) else (bif (decide (((IntKind.wrap .i64 ((((xs).length : Nat) : Int) - 1)) : Int) ≠ 0)) then (bif (decide (0 ≤ ((IntKind.wrap .i64 (1 + (((IntKind.wrap .i64 a4) : Int).tmod (IntKind.wrap .i64 ((((xs).length : Nat) : Int) - 1))))) : Int) ∧ ((IntKind.wrap .i64 (1 + (((IntKind.wrap .i64 a4) : Int).tmod (IntKind.wrap .i64 ((((xs).length : Nat) : Int) - 1))))) : Int) < (((xs).length : Nat) : Int))) then (bif (decide (((IntKind.wrap .i64 (1 + (((IntKind.wrap .i64 a4) : Int).tmod (IntKind.wrap .i64 ((((xs).length : Nat) : Int) - 1))))) : Int).toNat < (xs).length)) then (bif (decide (0 ≤ ((IntKind.wrap .i64 (1 + (((IntKind.wrap .i64 a4) : Int).tmod (IntKind.wrap .i64 ((((xs).length : Nat) : Int) - 1))))) : Int) ∧ ((IntKind.wrap .i64 (1 + (((IntKind.wrap .i64 a4) : Int).tmod (IntKind.wrap .i64 ((((xs).length : Nat) : Int) - 1))))) : Int) < (((xs).length : Nat) : Int))) then (bif (decide (((IntKind.wrap .i64 (1 + (((IntKind.wrap .i64 a4) : Int).tmod (IntKind.wrap .i64 ((((xs).length : Nat) : Int) - 1))))) : Int).toNat < (xs).length)) then ((F18r ((xs).set ((IntKind.wrap .i64 (1 + (((IntKind.wrap .i64 a4) : Int).tmod (IntKind.wrap .i64 ((((xs).length : Nat) : Int) - 1))))) : Int).toNat (((xs).getD ((IntKind.wrap .i64 (1 + (((IntKind.wrap .i64 a4) : Int).tmod (IntKind.wrap .i64 ((((xs).length : Nat) : Int) - 1))))) : Int).toNat E0).1, ((IntKind.wrap .u64 (((xs).getD ((IntKind.wrap .i64 (1 + (((IntKind.wrap .i64 a4) : Int).tmod (IntKind.wrap .i64 ((((xs).length : Nat) : Int) - 1))))) : Int).toNat E0).2.1 + (IntKind.wrap .u64 (1 + (IntKind.wrap .u64 a4))))), (((xs).getD ((IntKind.wrap .i64 (1 + (((IntKind.wrap .i64 a4) : Int).tmod (IntKind.wrap .i64 ((((xs).length : Nat) : Int) - 1))))) : Int).toNat E0).2.2.1, (((xs).getD ((IntKind.wrap .i64 (1 + (((IntKind.wrap .i64 a4) : Int).tmod (IntKind.wrap .i64 ((((xs).length : Nat) : Int) - 1))))) : Int).toNat E0).2.2.2.1, (((xs).getD ((IntKind.wrap .i64 (1 + (((IntKind.wrap .i64 a4) : Int).tmod (IntKind.wrap .i64 ((((xs).length : Nat) : Int) - 1))))) : Int).toNat E0).2.2.2.2.1, (((xs).getD ((IntKind.wrap .i64 (1 + (((IntKind.wrap .i64 a4) : Int).tmod (IntKind.wrap .i64 ((((xs).length : Nat) : Int) - 1))))) : Int).toNat E0).2.2.2.2.2.1, (((xs).getD ((IntKind.wrap .i64 (1 + (((IntKind.wrap .i64 a4) : Int).tmod (IntKind.wrap .i64 ((((xs).length : Nat) : Int) - 1))))) : Int).toNat E0).2.2.2.2.2.2.1, (((xs).getD ((IntKind.wrap .i64 (1 + (((IntKind.wrap .i64 a4) : Int).tmod (IntKind.wrap .i64 ((((xs).length : Nat) : Int) - 1))))) : Int).toNat E0).2.2.2.2.2.2.2.1, ())))))))))).bind fun y192 => (Sum.elim (fun y193 => (some (((!y193.1.2.1), ()), (), ()))) (fun y193 => (some (((!y193.1.2.1), ()), (), ()))) y192)) else none) else none) else none) else none) else none))
theorem tailE_ok {first : Int} (h0 : 1 ≤ first) (h1 : first ≤ 5) (l : List Int) (hl : l.length ≤ 30) (a : Int) (ha : 0 ≤ a ∧ a < 256) : tailE (evF first l 0) a = some (r1 true) := by
  unfold tailE
  rw [evF_len, cif]
  split
  · rfl
  rename_i hn
  obtain ⟨p, hp1, hp2, ep⟩ : ∃ p : Nat, 1 ≤ p ∧ p < l.length ∧ IntKind.wrap .i64 (1 + ((IntKind.wrap .i64 a).tmod (IntKind.wrap .i64 (((l.length : Nat) : Int) - 1)))) = (p : Int) := by
    rw [w64 (n := a) (by omega) (by omega), w64 (n := ((l.length : Nat) : Int) - 1) (by omega) (by omega), Int.tmod_eq_emod_of_nonneg ha.1]
    have g1 := Int.emod_nonneg a (show ((l.length : Nat) : Int) - 1 ≠ 0 by omega)
    have g2 := Int.emod_lt_of_pos a (show 0 < ((l.length : Nat) : Int) - 1 by omega)
    generalize a % (((l.length : Nat) : Int) - 1) = z at *
    rw [w64 (by omega) (by omega)]
    exact ⟨(1 + z).toNat, by omega, by omega, by omega⟩
  have hlen := evF_len first l 0
  have hw1 : IntKind.wrap .i64 (((l.length : Nat) : Int) - 1) = ((l.length : Nat) : Int) - 1 := w64 (by omega) (by omega)
  simp only [ep, cif, Int.toNat_natCast]
  rw [hw1, if_pos (by omega), if_pos (by omega), if_pos (by omega), if_pos (by omega), if_pos (by omega)]
  have hf := fst1_evF (first := first) (by omega) (by omega) l (by omega)
  have hset : ∀ (e : Ev), (∀ i, i ≠ p → ((evF first l 0).set p e).getD i E0 = (evF first l 0).getD i E0) ∧ ((evF first l 0).set p e).getD p E0 = e ∧ fst1 ((evF first l 0).set p e) = first := by
    intro e
    refine ⟨fun i hi => ?_, ?_, ?_⟩
    · rw [List.getD_eq_getElem?_getD, List.getD_eq_getElem?_getD, List.getElem?_set, if_neg (Ne.symm hi)]
    · rw [List.getD_eq_getElem?_getD, List.getElem?_set, if_pos rfl, if_pos (by omega)]; rfl
    · obtain ⟨p', rfl⟩ : ∃ p', p = p' + 1 := ⟨p - 1, by omega⟩
      cases hx : evF first l 0 with
      | nil => rw [hx] at hlen; simp at hlen; omega
      | cons x r => rw [hx] at hf; exact hf
  have key : ∀ e : Ev, e.2.1 ≠ IntKind.wrap .u64 (first + IntKind.wrap .u64 (p : Int)) → F18r ((evF first l 0).set p e) = some (.inr (((), false, ()), (((evF first l 0).set p e, ()), ()), ())) := by
    intro e he
    obtain ⟨s1, s2, s3⟩ := hset e
    refine F18r_bad (p := p) (by rw [List.length_set]; omega) (by rw [List.length_set]; omega) hp1 (fun i hi => ?_) (fun i hi => ?_) ?_
    · rw [s1 i (by omega)]; exact evF_ok first l i (by omega)
    · have := evF_rises (first := first) (by omega) (by omega) l i (by omega)
      rw [hf] at this
      rw [s1 i (by omega), s3]
      exact this
    · rw [s2, s3]; exact he
  have hseq : ((evF first l 0).getD p E0).2.1 = first + p := by
    rw [evF_get _ _ _ _ hp2]
    show IntKind.wrap .u64 (first + IntKind.wrap .u64 ((0 + p : Nat) : Int)) = _
    rw [wu64 (n := ((0 + p : Nat) : Int)) (by omega) (by omega), wu64 (by omega) (by omega)]
    omega
  rw [show F18r _ = _ from key (_, IntKind.wrap .u64 (((evF first l 0).getD p E0).2.1 + IntKind.wrap .u64 (1 + IntKind.wrap .u64 a)), _) (by
    show IntKind.wrap .u64 (((evF first l 0).getD p E0).2.1 + IntKind.wrap .u64 (1 + IntKind.wrap .u64 a)) ≠ _
    rw [hseq, wu64 (n := a) (by omega) (by omega), wu64 (n := 1 + a) (by omega) (by omega), wu64 (n := (p : Int)) (by omega) (by omega), wu64 (by omega) (by omega), wu64 (by omega) (by omega)]
    omega)]
  rfl
theorem F19_no {k k' : Nat} (f f' : Int) (n n' : Nat) (L L' : List Int) (h : f ≠ f' ∨ n ≠ n' ∨ n = 0) : ∃ B, F19 f (n : Nat) ((2 ^ k : Nat) : Int) f' (n' : Nat) ((2 ^ k' : Nat) : Int) L L' = some ((0, 0, false, ()), B, ()) := by
  have e1 : ∀ (f n w : Int) (L : List Int), F32 f n w L = some ((f, ()), bxT f n w L, ()) := fun _ _ _ _ => rfl
  have e2 : ∀ (f n w : Int) (L : List Int), F27 f n w L = some ((n, ()), bxT f n w L, ()) := fun _ _ _ _ => rfl
  unfold F19
  simp only [e1, e2, Option.bind_some]
  by_cases h1 : f = f'
  · rw [show (f != f') = false from by rw [h1]; simp]
    simp only [cond_false]
    by_cases h2 : n = n'
    · have h3 : n = 0 := by rcases h with h | h | h <;> first | exact absurd h1 h | exact absurd h2 h | exact h
      rw [show (((n : Nat) : Int) != ((n' : Nat) : Int)) = false from by rw [h2]; simp]
      simp only [cond_false]
      rw [show (((n : Nat) : Int) == 0) = true from by rw [beq_iff_eq]; omega]
      exact ⟨_, rfl⟩
    · rw [show (((n : Nat) : Int) != ((n' : Nat) : Int)) = true from by rw [bne_iff_ne]; omega]
      exact ⟨_, rfl⟩
  · rw [show (f != f') = true from bne_iff_ne.2 h1]
    exact ⟨_, rfl⟩
theorem F18r_evF {first : Int} (h0 : 0 ≤ first) (h1 : first < 18446744073709551616) (l : List Int) {k : Nat} (hk : k ≤ 6) (hW : Wide l.length k) :
    F18r (evF first l 0) = some (.inl (((), true, ()), ((evF first l 0, ()), (fst1 (evF first l 0), (l.length : Nat), ((2 ^ k : Nat) : Int), (), ()), (tab (2 * 2 ^ k) (tf (evF first l 0) (2 ^ k)), ()), ()), ())) := by
  have := F18r_eq (es := evF first l 0) hk (by rw [evF_len]; exact hW) (evF_ok first l) (evF_rises h0 h1 l)
  rw [this, evF_len]
  rfl
theorem sumsErrs_pure (l m : List Int) (a b c : Int) (ha : 0 ≤ a ∧ a < 18446744073709551616) (hb : 0 ≤ b ∧ b < 18446744073709551616) (hc : 0 ≤ c ∧ c < 256) : F4 l m a b c = some (r1 true) := by
  unfold F4
  rw [F16_eq]
  simp only [Option.bind_some, Bool.not_true, cond_false]
  rw [cif]
  split
  · rfl
  rename_i hl
  rw [cif]
  split
  · rfl
  rename_i hm
  obtain ⟨f0, f1, _⟩ := tmod_first ha 5 (by decide) (by decide)
  obtain ⟨s0, s1, _⟩ := tmod_first hb 5 (by decide) (by decide)
  generalize IntKind.wrap .u64 (1 + a.tmod 5) = first at *
  generalize IntKind.wrap .u64 (1 + b.tmod 5) = second at *
  obtain ⟨k, hk, hW⟩ := wide_ex (n := l.length) (by omega)
  obtain ⟨k', hk', hW'⟩ := wide_ex (n := m.length) (by omega)
  have tl : tailE (evF first l 0) c = some (r1 true) := tailE_ok f0 f1 l (by omega) c hc
  rw [F17r_eq _ _ (by omega)]
  simp only [Option.bind_some]
  rw [F18r_evF (by omega) (by omega) l hk hW]
  simp only [Option.bind_some, Sum.elim_inl]
  rw [F17r_eq _ _ (by omega)]
  simp only [Option.bind_some]
  rw [F18r_evF (by omega) (by omega) m hk' hW']
  simp only [Option.bind_some, Sum.elim_inl, Bool.not_true, cond_false]
  by_cases hlen : l.length = m.length
  · by_cases hpos : 0 < l.length
    · by_cases hfs : first = second
      · subst hfs
        have hkk : F18r (evF first m 0) = some (.inl (((), true, ()), ((evF first m 0, ()), (fst1 (evF first m 0), (m.length : Nat), ((2 ^ k : Nat) : Int), (), ()), (tab (2 * 2 ^ k) (tf (evF first m 0) (2 ^ k)), ()), ()), ())) := F18r_evF (by omega) (by omega) m hk (by rw [← hlen]; exact hW)
        have e := F18r_evF (first := first) (by omega) (by omega) m hk' hW'
        rw [hkk] at e
        simp only [Option.some.injEq, Sum.inl.injEq, Prod.mk.injEq, true_and, and_true] at e
        obtain ⟨e1, e2⟩ := e
        rw [← e1, ← e2, fst1_evF (by omega) (by omega) l hpos, fst1_evF (by omega) (by omega) m (by omega), ← hlen, F19_eq hk hpos (by omega)]
        simp only [Option.bind_some, beq_self_eq_true, cond_true, Bool.not_true, cond_false]
        rw [show (decide (((l.length : Nat) : Int) > 0)) = true from decide_eq_true (by omega)]
        simp only [cond_true]
        split
        · exact tl
        · rw [show ((((1 + k : Nat) : Int)) == 0) = false from by rw [beq_eq_false_iff_ne]; omega]
          exact tl
      · obtain ⟨B, hB⟩ := F19_no (k := k) (k' := k') (fst1 (evF first l 0)) (fst1 (evF second m 0)) l.length m.length (tab (2 * 2 ^ k) (tf (evF first l 0) (2 ^ k))) (tab (2 * 2 ^ k') (tf (evF second m 0) (2 ^ k'))) (.inl (by rw [fst1_evF (by omega) (by omega) l hpos, fst1_evF (by omega) (by omega) m (by omega)]; exact hfs))
        rw [hB]
        simp only [Option.bind_some]
        rw [show (((l.length : Nat) : Int) == ((m.length : Nat) : Int)) = true from by rw [beq_iff_eq]; omega, show (decide (((l.length : Nat) : Int) > 0)) = true from decide_eq_true (by omega), show (first == second) = false from beq_eq_false_iff_ne.2 hfs]
        exact tl
    · obtain ⟨B, hB⟩ := F19_no (k := k) (k' := k') (fst1 (evF first l 0)) (fst1 (evF second m 0)) l.length m.length (tab (2 * 2 ^ k) (tf (evF first l 0) (2 ^ k))) (tab (2 * 2 ^ k') (tf (evF second m 0) (2 ^ k'))) (.inr (.inr (by omega)))
      rw [hB]
      simp only [Option.bind_some]
      rw [show (((l.length : Nat) : Int) == ((m.length : Nat) : Int)) = true from by rw [beq_iff_eq]; omega, show (decide (((l.length : Nat) : Int) > 0)) = false from decide_eq_false (by omega)]
      exact tl
  · obtain ⟨B, hB⟩ := F19_no (k := k) (k' := k') (fst1 (evF first l 0)) (fst1 (evF second m 0)) l.length m.length (tab (2 * 2 ^ k) (tf (evF first l 0) (2 ^ k))) (tab (2 * 2 ^ k') (tf (evF second m 0) (2 ^ k'))) (.inr (.inl hlen))
    rw [hB]
    simp only [Option.bind_some]
    rw [show (((l.length : Nat) : Int) == ((m.length : Nat) : Int)) = false from by rw [beq_eq_false_iff_ne]; omega]
    exact tl
end Go.IM.V
