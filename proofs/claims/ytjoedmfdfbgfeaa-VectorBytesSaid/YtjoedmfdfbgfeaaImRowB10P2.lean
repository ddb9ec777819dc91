/- What the code of a law comes to, and what that tells: part 2. Lemmas alone; no conditions. -/
import Derived.Test.YtjoedmfdfbgfeaaImRowB10P1
/- Vectors: the laws VectorLacks, VectorJoins, VectorOrders. -/
set_option linter.unusedVariables false
set_option linter.unusedSimpArgs false
set_option linter.constructorNameAsVariable false
namespace Go.IM.V
open Go Go.IM Go.Proofs

/-- How much a has that b hasn't, from k on: none, if that is too much. -/
def lk (a b : List Int) : Nat → Nat → Int → Option Int
  | 0, _, s => some s
  | d + 1, k, s => let e := if gv b k < gv a k then gv a k - gv b k else 0
    if s + e < 18446744073709551616 then lk a b d (k + 1) (s + e) else none

theorem L15_run (a b : List Int) (ha : Vok a) (hb : Vok b) (hn : a.length < 2 ^ 62) : ∀ (d k : Nat) (s : Int), k + d = a.length → 0 ≤ s → s < 18446744073709551616 →
    L15_3 b s a (a.length : Nat) (k : Nat) = some (match lk a b d k s with | some x => .inr (r1 x) | none => .inl (r1 18446744073709551615)) := by
  intro d
  induction d with
  | zero =>
    intro k s hk h0 h1
    rw [L15_3_eq]
    simp only [T15_3, cif]
    rw [if_neg (by omega)]
    rfl
  | succ d ih =>
    intro k s hk h0 h1
    have hlt : k < a.length := by omega
    obtain ⟨a0, a1⟩ := ha.gv k
    obtain ⟨b0, b1⟩ := hb.gv k
    rw [L15_3_eq]
    have hw : IntKind.wrap .i64 ((k : Int) + 1) = ((k + 1 : Nat) : Int) := by rw [w64 (by omega) (by omega)]; omega
    simp only [T15_3, cif]
    rw [if_pos (by omega), if_pos (by omega), F18_nat, hw]
    simp only [Option.bind_some, Int.toNat_natCast]
    have he : IntKind.wrap .u64 (a.getD k 0 - if gv b k < a.getD k 0 then gv b k else a.getD k 0) = (if gv b k < gv a k then gv a k - gv b k else 0) := by
      show IntKind.wrap .u64 (gv a k - if gv b k < gv a k then gv b k else gv a k) = _
      split
      · rw [wu64 (by omega) (by omega)]
      · rw [wu64 (by omega) (by omega)]; omega
    rw [he]
    have hr : 0 ≤ (if gv b k < gv a k then gv a k - gv b k else 0) ∧ (if gv b k < gv a k then gv a k - gv b k else 0) < 18446744073709551616 := by split <;> omega
    simp only [lk]
    generalize (if gv b k < gv a k then gv a k - gv b k else 0) = e at hr ⊢
    by_cases hov : s + e < 18446744073709551616
    · rw [wu64 (by omega) hov, if_neg (by omega), if_pos hov]
      simp only [Option.bind_some, Sum.elim_inl]
      exact ih (k + 1) (s + e) (by omega) (by omega) hov
    · rw [wu64_mod, if_pos (by omega), if_neg hov]
      rfl
def lack (a b : List Int) : Int := match lk a b a.length 0 0 with | some x => x | none => 18446744073709551615
theorem F15_eq (a b : List Int) (ha : Vok a) (hb : Vok b) (hn : a.length < 2 ^ 62) : F15 a b = some (r1 (lack a b)) := by
  unfold F15 lack
  have := L15_run a b ha hb hn a.length 0 0 (by omega) (by omega) (by omega)
  rw [show ((0 : Nat) : Int) = 0 from rfl] at this
  rw [this]
  cases lk a b a.length 0 0 <;> rfl

theorem L3_run (a b : List Int) (ha : Vok a) (hb : Vok b) (hn : a.length < 2 ^ 62) : ∀ (d k : Nat) (s : Int) (f : Bool), k + d = a.length → 0 ≤ s → s < 18446744073709551616 →
    ∃ s' f', L3_6 a b s f (k : Nat) = some ((s', f', ()), (), ()) ∧ (f = true → f' = true) ∧ (f = false → match lk a b d k s with | some x => s' = x ∧ f' = false | none => f' = true) := by
  intro d
  induction d with
  | zero =>
    intro k s f hk h0 h1
    refine ⟨s, f, ?_, id, fun h => ⟨rfl, h⟩⟩
    rw [L3_6_eq]
    simp only [T3_6, cif]
    rw [if_neg (by omega)]
    rfl
  | succ d ih =>
    intro k s f hk h0 h1
    have hlt : k < a.length := by omega
    obtain ⟨a0, a1⟩ := ha.gv k
    obtain ⟨b0, b1⟩ := hb.gv k
    have hw : IntKind.wrap .i64 ((k : Int) + 1) = ((k + 1 : Nat) : Int) := by rw [w64 (by omega) (by omega)]; omega
    have hgd : a.getD k 0 = gv a k := rfl
    rw [L3_6_eq]
    simp only [T3_6, cif]
    rw [if_pos (by omega), F14_nat, hw]
    simp only [Option.bind_some, Int.toNat_natCast, hgd]
    rw [if_pos (by omega)]
    simp only [lk]
    by_cases hg : gv b k < gv a k
    · rw [if_pos hg, if_pos hg, if_pos (by omega), wu64 (n := gv a k - gv b k) (by omega) (by omega)]
      have hs : 0 ≤ IntKind.wrap .u64 (s + (gv a k - gv b k)) ∧ IntKind.wrap .u64 (s + (gv a k - gv b k)) < 18446744073709551616 := by rw [wu64_mod]; omega
      cases f with
      | true =>
        obtain ⟨s', f', h2, h3, _⟩ := ih (k + 1) _ true (by omega) hs.1 hs.2
        refine ⟨s', f', ?_, h3, fun h => by cases h⟩
        simp only [cond_true, Option.bind_some, Sum.elim_inl]
        exact h2
      | false =>
        simp only [cond_false]
        rw [if_pos (by omega)]
        simp only [Option.bind_some, Sum.elim_inl]
        by_cases hov : s + (gv a k - gv b k) < 18446744073709551616
        · rw [wu64 (by omega) hov, decide_eq_false (by omega), if_pos hov]
          obtain ⟨s', f', h2, _, h4⟩ := ih (k + 1) (s + (gv a k - gv b k)) false (by omega) (by omega) hov
          exact ⟨s', f', h2, (fun h => by cases h), fun _ => h4 rfl⟩
        · rw [decide_eq_true (by rw [wu64_mod]; omega), if_neg hov]
          obtain ⟨s', f', h2, h3, _⟩ := ih (k + 1) _ true (by omega) hs.1 hs.2
          exact ⟨s', f', h2, (fun h => by cases h), fun _ => h3 rfl⟩
    · rw [if_neg hg, if_neg hg, Int.add_zero, if_pos h1]
      simp only [Option.bind_some, Sum.elim_inl]
      exact ih (k + 1) s f (by omega) h0 h1

theorem Vok_ok {v : List Int} (h : okE (.l (.i .u64)) v) : Vok v := fun x hx => ok_u64 (h.2 x hx)
theorem vok2 : Vok [1, 2] ∧ Vok [3] ∧ Vok [3, 2] ∧ Vok [1] := by
  refine ⟨?_, ?_, ?_, ?_⟩ <;> (intro x hx; simp at hx; omega)
theorem F13_eq : F13 = some (r1 true) := by
  unfold F13
  rw [F16_eq _ _ (by decide) (by decide)]
  have hj : join [1, 2] [3] = [3, 2] := by decide
  simp only [Option.bind_some, hj]
  rw [F21_eq _ _ (by decide) (by decide)]
  have hw : (within [3, 2] [3, 2] && within [3, 2] [3, 2]) = true := by decide
  simp only [Option.bind_some, hw, cond_true]
  rw [F15_eq _ _ vok2.2.2.1 vok2.2.2.2 (by decide)]
  have hl : lack [3, 2] [1] = 4 := by decide
  simp only [Option.bind_some, hl]
  rfl

theorem lacks_pure (a b : List Int) (ha : okE (.l (.i .u64)) a) (hb : okE (.l (.i .u64)) b) : F3 a b = some (r1 true) := by
  unfold F3
  rw [F13_eq]
  simp only [Option.bind_some, Bool.not_true, cond_false, cif]
  split
  · rfl
  · split
    · rfl
    · obtain ⟨s', f', h1, _, h3⟩ := L3_run a b (Vok_ok ha) (Vok_ok hb) (by omega) a.length 0 0 false (by omega) (by omega) (by omega)
      rw [show ((0 : Nat) : Int) = 0 from rfl] at h1
      rw [h1, F15_eq a b (Vok_ok ha) (Vok_ok hb) (by omega)]
      simp only [Option.bind_some]
      have h3 := h3 rfl
      unfold lack
      cases hl : lk a b a.length 0 0 with
      | none => rw [hl] at h3; dsimp only at h3; subst h3; rfl
      | some x =>
        rw [hl] at h3
        obtain ⟨rfl, rfl⟩ := h3
        simp

theorem mxmn (x y : Int) : mnI x y = (if x > y then y else x) ∧ mxI x y = (if x > y then x else y) := by
  unfold mnI mxI
  refine ⟨rfl, ?_⟩
  by_cases h : x > y
  · rw [if_neg (by omega), if_pos h]
  · rw [if_neg h]; split <;> omega
theorem L4_run (a b : List Int) : ∀ (d k : Nat), k + d = 66 → L4_6 a b (join a b) (meet a b) (k : Nat) = some (.inr ((), (), ())) := by
  intro d
  induction d with
  | zero =>
    intro k hk
    rw [L4_6_eq]
    simp only [T4_6, cif]
    rw [if_neg (by omega)]
    rfl
  | succ d ih =>
    intro k hk
    have hw : IntKind.wrap .i64 ((k : Int) + 1) = ((k + 1 : Nat) : Int) := by rw [w64 (by omega) (by omega)]; omega
    obtain ⟨h1, h2⟩ := mxmn (gv a k) (gv b k)
    rw [L4_6_eq]
    simp only [T4_6, cif]
    rw [if_pos (by omega), F14_nat, F14_nat, F18_nat, F18_nat, gv_join, gv_meet, hw, h1, h2]
    simp only [Option.bind_some]
    by_cases hg : gv a k > gv b k
    · simp only [if_pos hg, bne_self_eq_false, cond_false, Option.bind_some, Sum.elim_inl]
      exact ih (k + 1) (by omega)
    · simp only [if_neg hg, bne_self_eq_false, cond_false, Option.bind_some, Sum.elim_inl]
      exact ih (k + 1) (by omega)

theorem joins_pure (a b : List Int) : F4 a b = some (r1 true) := by
  unfold F4
  rw [F13_eq]
  simp only [Option.bind_some, Bool.not_true, cond_false, cif]
  split
  · rfl
  · split
    · rfl
    · rw [F16_eq a b (by omega) (by omega), F17_eq a b (by omega) (by omega)]
      simp only [Option.bind_some]
      have hl := L4_run a b 66 0 (by omega)
      rw [show ((0 : Nat) : Int) = 0 from rfl] at hl
      rw [hl]
      simp only [Option.bind_some, Sum.elim_inr]
      have key : ∀ v : List Int, v.length < 2 ^ 60 → v.length = 0 ∨ gv v (v.length - 1) ≠ 0 → ((((v.length : Nat) : Int) == 0) = true) ∨ ((((v.length : Nat) : Int) == 0) = false ∧ (0 ≤ IntKind.wrap .i64 (((v.length : Nat) : Int) - 1) ∧ IntKind.wrap .i64 (((v.length : Nat) : Int) - 1) < ((v.length : Nat) : Int)) ∧ (v.getD (IntKind.wrap .i64 (((v.length : Nat) : Int) - 1)).toNat 0 != 0) = true) := by
        intro v hv h
        rcases Nat.eq_zero_or_pos v.length with h0 | h0
        · exact .inl (by simp [h0])
        · refine .inr ⟨by simp; intro h1; rw [h1] at h0; simp at h0, ?_⟩
          rw [w64 (by omega) (by omega), show (((v.length : Nat) : Int) - 1).toNat = v.length - 1 by omega]
          refine ⟨by omega, ?_⟩
          rcases h with h | h
          · omega
          · simpa [gv] using h
      have j1 := join_len a b
      have m1 := meet_len a b
      rcases key (join a b) (by omega) (trim_last _) with j | ⟨j, j2, j3⟩ <;> rcases key (meet a b) (by omega) (trim_last _) with m | ⟨m, m2, m3⟩
      · simp only [j, m, cond_true]
      · simp only [j, m, cond_true, cond_false]
        rw [if_pos m2]
        simp only [m3]
      · simp only [j, m, cond_true, cond_false]
        rw [if_pos j2]
        simp only [j3, cond_true]
      · simp only [j, m, cond_false]
        rw [if_pos j2]
        simp only [j3, cond_true]
        rw [if_pos m2]
        simp only [m3]

theorem within_trans {a b c : List Int} (hb : Vok b) (hc : Vok c) (h : within a b = true) (k : within b c = true) : within a c = true := by
  rw [within_iff] at h k ⊢
  intro i hi
  have h1 := h i hi
  rcases Nat.lt_or_ge i b.length with q | q
  · exact Int.le_trans h1 (k i q)
  · rw [gv_ge q] at h1
    have := (hc.gv i).1
    omega
theorem within_join (a b : List Int) : within a (join a b) = true := by
  rw [within_iff]
  intro i _
  rw [gv_join]
  unfold mxI
  split <;> omega
theorem within_meet (a b : List Int) : within (meet a b) b = true := by
  rw [within_iff]
  intro i _
  rw [gv_meet]
  unfold mnI
  split <;> omega
theorem orders_pure (a b c : List Int) (hb : okE (.l (.i .u64)) b) (hc : okE (.l (.i .u64)) c) : F5 a b c = some (r1 true) := by
  unfold F5
  rw [F13_eq]
  simp only [Option.bind_some, Bool.not_true, cond_false, cif]
  split
  · rfl
  · split
    · rfl
    · split
      · rfl
      · have j1 := join_len a b
        have m1 := meet_len a b
        have ht := within_trans (a := a) (Vok_ok hb) (Vok_ok hc)
        rw [F19_eq a b (by omega), F19_eq b a (by omega), F20_eq a b (by omega), F21_eq a b (by omega) (by omega), F22_eq a b (by omega) (by omega), F16_eq a b (by omega) (by omega), F17_eq a b (by omega) (by omega), F19_eq b c (by omega), F19_eq a c (by omega)]
        simp only [Option.bind_some]
        rw [F19_eq a (join a b) (by omega), F19_eq (meet a b) b (by omega), within_join, within_meet]
        cases h1 : within a b <;> cases h2 : within b a <;> cases h3 : within b c <;> cases h4 : within a c <;> first | rfl | (have := ht h1 h3; rw [h4] at this; cases this)
end Go.IM.V

/- Vectors as bytes: the laws VectorReads, VectorBytes. -/
set_option linter.unusedVariables false
set_option linter.unusedSimpArgs false
set_option linter.constructorNameAsVariable false
namespace Go.IM.V
open Go Go.IM Go.Proofs

def dgs : List Int → List Int
  | [] => []
  | n :: l => dg n ++ dgs l
theorem dgs_len : ∀ l, (dgs l).length ≤ 10 * l.length
  | [] => by simp [dgs]
  | n :: l => by have := dgs_len l; have := dg_len n; simp only [dgs, List.length_append, List.length_cons]; omega
theorem dgs_byte : ∀ {l : List Int}, Vok l → Bys (dgs l)
  | [], _ => fun x hx => by cases hx
  | n :: l, h => (dg_byte (h n (List.mem_cons_self ..)).1 (h n (List.mem_cons_self ..)).2).app (dgs_byte fun x hx => h x (List.mem_cons_of_mem _ hx))
/-- A vector's bytes. -/
def encL (l : List Int) : List Int := dg l.length ++ dgs l
def encV (v : List Int) : List Int := encL (trim v)
theorem encL_len (l : List Int) : (encL l).length ≤ 10 + 10 * l.length := by
  unfold encL; have := dgs_len l; have := dg_len l.length; simp; omega
theorem trim_sub (a : List Int) : ∀ x ∈ trim a, x ∈ a := fun x hx => List.mem_of_mem_take hx
theorem trim_le (a : List Int) : (trim a).length ≤ a.length := by rw [trim_len]; exact trimN_le _ _

theorem L34_run (v : List Int) (hv : Vok v) (hl : v.length < 2 ^ 30) : ∀ (d k : Nat) (q : List Int), k + d = v.length → q.length + 10 * d + 10 < lim → L34_4 v (v.length : Nat) (k : Nat) q = some (((), ()), (), (q ++ dgs (v.drop k), ())) := by
  intro d
  induction d with
  | zero =>
    intro k q hk hq
    rw [L34_4_eq]
    simp only [T34_4, cif]
    rw [if_neg (by omega), List.drop_eq_nil_of_le (by omega)]
    simp [dgs]
  | succ d ih =>
    intro k q hk hq
    have hlt : k < v.length := by omega
    obtain ⟨a0, a1⟩ := hv _ (List.getElem_mem hlt)
    have hg : v.getD (k : Int).toNat 0 = v[k] := by rw [Int.toNat_natCast, List.getD_eq_getElem?_getD, List.getElem?_eq_getElem hlt]; rfl
    have hw : IntKind.wrap .i64 ((k : Int) + 1) = ((k + 1 : Nat) : Int) := by rw [w64 (by omega) (by omega)]; omega
    rw [L34_4_eq]
    simp only [T34_4, cif, hg, hw]
    rw [if_pos (by omega), if_pos (by omega), F56_eq _ _ a0 a1 (by omega)]
    simp only [Option.bind_some, Sum.elim_inl]
    have := dg_len v[k]
    rw [ih (k + 1) _ (by omega) (by simp; omega), List.drop_eq_getElem_cons hlt]
    simp [dgs]
theorem F34_eq (v q : List Int) (hv : Vok v) (hl : v.length < 2 ^ 30) (hq : q.length + 10 * v.length + 30 < lim) : F34 v q = some (ro (q ++ encV v)) := by
  unfold F34
  have h1 := trim_le v
  have h2 := dg_len (trim v).length
  rw [F55_eq v (by omega)]
  simp only [Option.bind_some]
  rw [wu64 (by omega) (by omega), F56_eq _ _ (by omega) (by omega) (by omega)]
  simp only [Option.bind_some]
  have := L34_run (trim v) (fun x hx => hv x (trim_sub v x hx)) (by omega) (trim v).length 0 (q ++ dg (trim v).length) (by omega) (by simp; omega)
  rw [show ((0 : Nat) : Int) = 0 from rfl] at this
  rw [this]
  simp [encV, encL]
theorem F35_eq (v : List Int) (hv : Vok v) (hl : v.length < 2 ^ 30) : F35 v = some (ro (encV v)) := by
  unfold F35
  rw [F34_eq v [] hv hl (by show 0 + 10 * v.length + 30 < 1099511627776; omega)]
  simp only [Option.bind_some, List.nil_append]
theorem L37a_run (p a : List Int) (hn : a.length < 2 ^ 39) : ∀ k, k ≤ a.length → L37_2 p a (k : Nat) = some (r1 ((trimN a k : Nat) : Int)) := by
  intro k
  induction k with
  | zero =>
    intro _
    rw [L37_2_eq]
    simp only [T37_2, cif]
    rw [if_neg (by omega)]
    rfl
  | succ k ih =>
    intro hk
    rw [L37_2_eq]
    have hw : IntKind.wrap .i64 (((k + 1 : Nat) : Int) - 1) = (k : Int) := by rw [w64 (by omega) (by omega)]; omega
    simp only [T37_2, cif]
    rw [hw, if_pos (by omega), if_pos (by omega)]
    simp only [Int.toNat_natCast]
    by_cases h : gv a k = 0
    · have hb : (a.getD k 0 == 0) = true := by simpa using h
      rw [hb]
      simp only [cond_true, Option.bind_some, Sum.elim_inl]
      rw [ih (by omega)]
      simp only [trimN]
      rw [if_pos h]
    · have hb : (a.getD k 0 == 0) = false := by simpa using h
      rw [hb]
      simp only [cond_false, Option.bind_some, Sum.elim_inr, trimN]
      rw [if_neg h]
theorem L37b_run (v : List Int) (n : Nat) (hn : n ≤ v.length) (hv : Vok v) (hl : v.length < 2 ^ 30) : ∀ (d k : Nat) (q : List Int), k + d = n → q.length + 10 * d + 10 < lim → L37_6 v (n : Nat) (k : Nat) q = some (((), ()), (), (q ++ dgs ((v.take n).drop k), ())) := by
  intro d
  induction d with
  | zero =>
    intro k q hk hq
    rw [L37_6_eq]
    simp only [T37_6, cif]
    rw [if_neg (by omega), List.drop_eq_nil_of_le (by simp; omega)]
    simp [dgs]
  | succ d ih =>
    intro k q hk hq
    have hlt : k < v.length := by omega
    obtain ⟨a0, a1⟩ := hv _ (List.getElem_mem hlt)
    have hg : v.getD (k : Int).toNat 0 = v[k] := by rw [Int.toNat_natCast, List.getD_eq_getElem?_getD, List.getElem?_eq_getElem hlt]; rfl
    have hw : IntKind.wrap .i64 ((k : Int) + 1) = ((k + 1 : Nat) : Int) := by rw [w64 (by omega) (by omega)]; omega
    rw [L37_6_eq]
    simp only [T37_6, cif, hg, hw]
    rw [if_pos (by omega), if_pos (by omega), F57_eq _ _ a0 a1 (by omega)]
    simp only [Option.bind_some, Sum.elim_inl]
    have := dg_len v[k]
    rw [ih (k + 1) _ (by omega) (by simp; omega), List.drop_eq_getElem_cons (l := v.take n) (i := k) (by simp; omega)]
    simp [dgs]
theorem F37_eq (v : List Int) (hv : Vok v) (hl : v.length < 2 ^ 30) : F37 [] v = some (ro (encV v)) := by
  unfold F37
  rw [L37a_run [] v (by omega) v.length (Nat.le_refl _)]
  have h1 := trimN_le v v.length
  have h2 := dg_len (trimN v v.length)
  simp only [Option.bind_some]
  rw [wu64 (by omega) (by omega), F57_eq _ _ (by omega) (by omega) (by show 0 + 10 < 1099511627776; omega)]
  simp only [Option.bind_some]
  have := L37b_run v (trimN v v.length) h1 hv hl (trimN v v.length) 0 ([] ++ dg (trimN v v.length)) (by omega) (by show _ < 1099511627776; simp; omega)
  rw [show ((0 : Nat) : Int) = 0 from rfl] at this
  rw [this]
  simp [encV, encL, trim_len]
  rfl

/-- Numbers that are small. -/
def Sml (v : List Int) : Prop := ∀ x ∈ v, 0 ≤ x ∧ x ≤ 9223372036854775807
theorem L32_run (v : List Int) (hv : Vok v) (hl : v.length ≤ maxLen) : ∀ (d k : Nat), k + d = v.length → (∀ i, i < k → gv v i ≤ 9223372036854775807) →
    (L32_2 v (k : Nat) = some (.inl (r1 false)) ∨ (L32_2 v (k : Nat) = some (.inr ((), (), ())) ∧ Sml v)) := by
  intro d
  induction d with
  | zero =>
    intro k hk hs
    right
    rw [L32_2_eq]
    simp only [T32_2, cif]
    rw [if_neg (by omega)]
    refine ⟨rfl, fun x hx => ?_⟩
    obtain ⟨i, hi, rfl⟩ := List.getElem_of_mem hx
    have := hs i (by omega)
    rw [gv, List.getD_eq_getElem?_getD, List.getElem?_eq_getElem hi] at this
    exact ⟨(hv _ hx).1, this⟩
  | succ d ih =>
    intro k hk hs
    have hlt : k < v.length := by omega
    have hml : maxLen = 9223372036854775807 := rfl
    have hw : IntKind.wrap .i64 ((k : Int) + 1) = ((k + 1 : Nat) : Int) := by rw [w64 (by omega) (by omega)]; omega
    rw [L32_2_eq]
    simp only [T32_2, cif, hw, Int.toNat_natCast]
    rw [if_pos (by omega), if_pos (by omega)]
    by_cases h : v.getD k 0 > 9223372036854775807
    · rw [if_pos h]; exact .inl rfl
    · rw [if_neg h]
      simp only [Option.bind_some, Sum.elim_inl]
      refine ih (k + 1) (by omega) fun i hi => ?_
      rcases Nat.lt_or_ge i k with q | q
      · exact hs i q
      · obtain rfl : i = k := by omega
        show v.getD i 0 ≤ _
        omega
theorem F32_eq (v : List Int) (h : okE (.l (.i .u64)) v) : F32 v = some (r1 false) ∨ (F32 v = some (r1 true) ∧ Sml v ∧ v.length ≤ 64) := by
  unfold F32
  have := L32_run v (Vok_ok h) h.1 v.length 0 (by omega) (fun i hi => by omega)
  rw [show ((0 : Nat) : Int) = 0 from rfl] at this
  rcases this with e | ⟨e, hs⟩
  · rw [e]; exact .inl rfl
  · rw [e]
    simp only [Option.bind_some, Sum.elim_inr]
    by_cases hl : ((v.length : Nat) : Int) ≤ 64
    · rw [decide_eq_true hl]; exact .inr ⟨rfl, hs, by omega⟩
    · rw [decide_eq_false hl]; exact .inl rfl

/-! ### Read -/
def rdN : Nat → List Int → (List Int × List Int) ⊕ (Int × List Int)
  | 0, xs => .inl ([], xs)
  | k + 1, xs => match tnum 9223372036854775807 xs with
    | .inr e => .inr (e, xs)
    | .inl (n, r) => match rdN k r with
      | .inl (l, r') => .inl (n :: l, r')
      | .inr e => .inr e
theorem tnum_byte {xs rest : List Int} {n most : Int} (hb : Bys xs) (h : tnum most xs = .inl (n, rest)) : Bys rest := by
  obtain ⟨h1, _⟩ := tnum_some hb h
  intro x hx
  exact hb x (by rw [h1]; exact List.mem_append.2 (.inr hx))
theorem L53_run : ∀ (d k n : Nat) (xs q : List Int), k + d = n → n ≤ 64 → Bys xs → q.length + d < 1000000 →
    L53_3 (n : Nat) (k : Nat) xs q = some (match rdN d xs with | .inl (l, r) => .inr (((), ()), ((r, ()), ()), (q ++ l, ())) | .inr (e, r) => .inl (tie e r)) := by
  intro d
  induction d with
  | zero =>
    intro k n xs q hk hn hb hq
    rw [L53_3_eq]
    simp only [T53_3, cif]
    rw [if_neg (by omega)]
    simp [rdN]
  | succ d ih =>
    intro k n xs q hk hn hb hq
    rw [L53_3_eq]
    simp only [T53_3, cif]
    rw [if_pos (by omega), F68_eq _ _ hb]
    unfold rdN
    cases h : tnum 9223372036854775807 xs with
    | inr e => rfl
    | inl p =>
      obtain ⟨m, r⟩ := p
      have hw : IntKind.wrap .u64 ((k : Int) + 1) = ((k + 1 : Nat) : Int) := by rw [wu64 (by omega) (by omega)]; omega
      simp only [Option.bind_some, Sum.elim_inl, hw]
      rw [if_pos (by show _ < 1099511627776; simp; omega)]
      simp only [Option.bind_some, Sum.elim_inl]
      rw [ih (k + 1) n r (q ++ [m]) (by omega) hn (tnum_byte hb h) (by simp; omega)]
      cases h2 : rdN d r with
      | inr e => rfl
      | inl p => obtain ⟨l, r'⟩ := p; simp
def rdV (xs : List Int) : (List Int × List Int) ⊕ (Int × List Int) :=
  match tnum 64 xs with
  | .inr e => .inr (e, xs)
  | .inl (n, r) => rdN n.toNat r
theorem F53_eq (xs : List Int) (hb : Bys xs) : F53 xs = some (match rdV xs with | .inl (l, r) => .inl (tin l r) | .inr (e, r) => .inr (tie e r)) := by
  unfold F53 rdV
  rw [F68_eq _ _ hb]
  cases h : tnum 64 xs with
  | inr e => rfl
  | inl p =>
    obtain ⟨n, r⟩ := p
    obtain ⟨h1, h2, h3, h4⟩ := tnum_some hb h
    simp only [Option.bind_some, Sum.elim_inl]
    have := L53_run n.toNat 0 n.toNat r [] (by omega) (by omega) (tnum_byte hb h) (by simp; omega)
    rw [show ((0 : Nat) : Int) = 0 from rfl, Int.toNat_of_nonneg h2] at this
    rw [this]
    cases h5 : rdN n.toNat r with
    | inr e => rfl
    | inl p => obtain ⟨l, r'⟩ := p; rfl
theorem rdN_app : ∀ (l rest : List Int), Sml l → rdN l.length (dgs l ++ rest) = .inl (l, rest)
  | [], rest, _ => rfl
  | n :: l, rest, h => by
    obtain ⟨h0, h1⟩ := h n (List.mem_cons_self ..)
    show rdN (l.length + 1) (dg n ++ dgs l ++ rest) = _
    unfold rdN
    rw [List.append_assoc, tnum_app h0 (by omega) h1]
    simp only
    rw [rdN_app l rest fun x hx => h x (List.mem_cons_of_mem _ hx)]
theorem rdV_app (l rest : List Int) (h : Sml l) (hl : l.length ≤ 64) : rdV (encL l ++ rest) = .inl (l, rest) := by
  unfold rdV encL
  rw [List.append_assoc, tnum_app (by omega) (by omega) (by omega)]
  simp only [Int.toNat_natCast]
  exact rdN_app l rest h
theorem rdN_some : ∀ (k : Nat) (xs l rest : List Int), Bys xs → rdN k xs = .inl (l, rest) → xs = dgs l ++ rest ∧ l.length = k ∧ Sml l ∧ Bys rest
  | 0, xs, l, rest, hb, h => by cases h; exact ⟨rfl, rfl, fun x hx => (by cases hx), hb⟩
  | k + 1, xs, l, rest, hb, h => by
    unfold rdN at h
    cases h1 : tnum 9223372036854775807 xs with
    | inr e => rw [h1] at h; cases h
    | inl p =>
      obtain ⟨n, r⟩ := p
      rw [h1] at h
      dsimp only at h
      cases h2 : rdN k r with
      | inr e => rw [h2] at h; cases h
      | inl p =>
        obtain ⟨l', r'⟩ := p
        rw [h2] at h
        cases h
        obtain ⟨g1, g2, g3, g4⟩ := tnum_some hb h1
        obtain ⟨k1, k2, k3, k4⟩ := rdN_some k r l' rest (tnum_byte hb h1) h2
        refine ⟨?_, by simp [k2], fun x hx => ?_, k4⟩
        · rw [g1, k1]; simp [dgs]
        · rcases List.mem_cons.1 hx with rfl | hx
          · exact ⟨g2, g4⟩
          · exact k3 x hx
theorem rdV_some {xs l rest : List Int} (hb : Bys xs) (h : rdV xs = .inl (l, rest)) : xs = encL l ++ rest ∧ Sml l ∧ l.length ≤ 64 ∧ Bys rest := by
  unfold rdV at h
  cases h1 : tnum 64 xs with
  | inr e => rw [h1] at h; cases h
  | inl p =>
    obtain ⟨n, r⟩ := p
    rw [h1] at h
    obtain ⟨g1, g2, g3, g4⟩ := tnum_some hb h1
    obtain ⟨k1, k2, k3, k4⟩ := rdN_some n.toNat r l rest (tnum_byte hb h1) h
    refine ⟨?_, k3, by omega, k4⟩
    unfold encL
    rw [k2, Int.toNat_of_nonneg g2, g1, k1, List.append_assoc]
theorem rdN_err : ∀ {k : Nat} {xs r : List Int} {e : Int}, rdN k xs = .inr (e, r) → e = 4 ∨ e = 5 ∨ e = 6
  | 0, xs, r, e, h => by cases h
  | k + 1, xs, r, e, h => by
    unfold rdN at h
    cases h1 : tnum 9223372036854775807 xs with
    | inr e => rw [h1] at h; cases h; exact tnum_err h1
    | inl p =>
      obtain ⟨n, r'⟩ := p
      rw [h1] at h
      dsimp only at h
      cases h2 : rdN k r' with
      | inr p => rw [h2] at h; cases h; exact rdN_err h2
      | inl p => rw [h2] at h; cases h
theorem rdV_err {xs r : List Int} {e : Int} (h : rdV xs = .inr (e, r)) : e = 4 ∨ e = 5 ∨ e = 6 := by
  unfold rdV at h
  cases h1 : tnum 64 xs with
  | inr e => rw [h1] at h; cases h; exact tnum_err h1
  | inl p => rw [h1] at h; exact rdN_err h

theorem Sml.vok {v : List Int} (h : Sml v) : Vok v := fun x hx => by have := h x hx; omega
theorem Sml.trim {v : List Int} (h : Sml v) : Sml (trim v) := fun x hx => h x (trim_sub v x hx)
theorem same_trim (v : List Int) : (within (trim v) v && within v (trim v)) = true := by
  rw [Bool.and_eq_true, within_iff, within_iff]
  exact ⟨fun k _ => by rw [gv_trim]; omega, fun k _ => by rw [gv_trim]; omega⟩
theorem encL_byte {l : List Int} (h : Vok l) (hl : l.length < 2 ^ 63) : Bys (encL l) := (dg_byte (by omega) (by omega)).app (dgs_byte h)

theorem reads_pure (a b : List Int) (ha : okE (.l (.i .u64)) a) (hb : okE (.l (.i .u64)) b) : F9 a b = some (r1 true) := by
  unfold F9
  simp only [F13_eq, Option.bind_some, Bool.not_true, cond_false]
  rcases F32_eq a ha with e | ⟨e, sa, la⟩
  · rw [e]; rfl
  rw [e]
  simp only [Option.bind_some, Bool.not_true, cond_false]
  rcases F32_eq b hb with e | ⟨e, sb, lb⟩
  · rw [e]; rfl
  rw [e]
  simp only [Option.bind_some, Bool.not_true, cond_false]
  have ta := trim_le a
  have tb := trim_le b
  have el := encL_len (trim a)
  rw [F35_eq a sa.vok (by omega)]
  simp only [Option.bind_some]
  rw [F34_eq b _ sb.vok (by omega) (by show _ < 1099511627776; show (encL (trim a)).length + _ + _ < _; omega)]
  simp only [Option.bind_some]
  have by1 : Bys (encV b) := encL_byte sb.trim.vok (by omega)
  have hF33 : F33 (encV a ++ encV b) [] [] = some ((0, ()), ((trim a, ()), (trim b, ()), ()), ()) := by
    unfold F33 F52
    simp only [Option.bind_some]
    have by2 : Bys (encV a ++ encV b) := (encL_byte sa.trim.vok (by omega)).app by1
    rw [F53_eq _ by2, show rdV (encV a ++ encV b) = _ from rdV_app (trim a) (encV b) sa.trim (by omega)]
    simp only [Option.bind_some, Sum.elim_inl]
    rw [F53_eq _ by1, show rdV (encV b) = .inl (trim b, []) from by have := rdV_app (trim b) [] sb.trim (by omega); rwa [List.append_nil] at this]
    simp only [Option.bind_some, Sum.elim_inl]
    rw [F54_eq]
    rfl
  rw [hF33]
  simp only [Option.bind_some, beq_self_eq_true, cond_true]
  rw [F21_eq _ _ (by omega) (by omega), same_trim]
  simp only [Option.bind_some, cond_true]
  rw [F21_eq _ _ (by omega) (by omega), same_trim]
  rfl
end Go.IM.V

/- Vectors as bytes: the law VectorBytes. -/
set_option linter.unusedVariables false
set_option linter.unusedSimpArgs false
set_option linter.constructorNameAsVariable false
namespace Go.IM.V
open Go Go.IM Go.Proofs

theorem trim_self {a : List Int} (h : a.length = 0 ∨ gv a (a.length - 1) ≠ 0) : trim a = a := by
  unfold trim
  have : trimN a a.length = a.length := by
    cases hn : a.length with
    | zero => rfl
    | succ n =>
      rw [hn] at h
      rcases h with h | h
      · omega
      · simp only [trimN]; rw [if_neg (show ¬ gv a n = 0 from h)]
  rw [this, List.take_length]
theorem trim_idem (a : List Int) : trim (trim a) = trim a := trim_self (trim_last a)
theorem trim_of_len {a : List Int} (h : (trim a).length = a.length) : trim a = a := by
  unfold trim at h ⊢
  rw [List.length_take] at h
  have := trimN_le a a.length
  rw [show trimN a a.length = a.length from by omega, List.take_length]
/-- A vector of some bytes. -/
def vecOf (xs : List Int) : List Int × Int :=
  match rdV xs with
  | .inr (e, _) => ([], e)
  | .inl (l, r) => if r ≠ [] then ([], 4) else if (trim l).length ≠ l.length then ([], 4) else (l, 0)
theorem F36_eq (xs : List Int) (hb : Bys xs) : F36 xs = some (((vecOf xs).1, (vecOf xs).2, ()), (), ()) := by
  unfold F36 F52 vecOf
  simp only [Option.bind_some]
  rw [F53_eq xs hb]
  cases h : rdV xs with
  | inr p => obtain ⟨e, r⟩ := p; rfl
  | inl p =>
    obtain ⟨l, r⟩ := p
    obtain ⟨h1, h2, h3, h4⟩ := rdV_some hb h
    simp only [Option.bind_some, Sum.elim_inl]
    rw [F54_eq]
    cases r with
    | cons b r => rfl
    | nil =>
      simp only [Option.bind_some, Sum.elim_inl]
      rw [F55_eq l (by omega)]
      simp only [Option.bind_some, Bool.cond_eq_ite, bne_iff_ne, ne_eq]
      by_cases c : (trim l).length = l.length
      · rw [if_neg (by omega), if_neg (by simp), if_neg (by omega)]
      · rw [if_pos (by omega), if_neg (by simp), if_pos (by omega)]
theorem vecOf_ok {xs : List Int} (hb : Bys xs) (h : (vecOf xs).2 = 0) : encV (vecOf xs).1 = xs ∧ Sml (vecOf xs).1 ∧ (vecOf xs).1.length ≤ 64 := by
  unfold vecOf at h ⊢
  cases hr : rdV xs with
  | inr p => rw [hr] at h; obtain ⟨e, r⟩ := p; rcases rdV_err hr with rfl | rfl | rfl <;> cases h
  | inl p =>
    obtain ⟨l, r⟩ := p
    rw [hr] at h
    obtain ⟨h1, h2, h3, h4⟩ := rdV_some hb hr
    dsimp only at h ⊢
    by_cases c : r = []
    · subst c
      rw [if_neg (by simp)] at h ⊢
      by_cases c : (trim l).length = l.length
      · rw [if_neg (by omega)]
        refine ⟨?_, h2, h3⟩
        unfold encV
        rw [trim_of_len c, h1, List.append_nil]
      · rw [if_pos (by omega)] at h; cases h
    · rw [if_pos c] at h; cases h
theorem vecOf_err {xs : List Int} (h : (vecOf xs).2 ≠ 0) : (vecOf xs).1 = [] ∧ ((vecOf xs).2 = 4 ∨ (vecOf xs).2 = 5 ∨ (vecOf xs).2 = 6) := by
  unfold vecOf at h ⊢
  cases hr : rdV xs with
  | inr p => obtain ⟨e, r⟩ := p; exact ⟨rfl, rdV_err hr⟩
  | inl p =>
    obtain ⟨l, r⟩ := p
    rw [hr] at h
    dsimp only at h ⊢
    split at h
    · rename_i c; rw [if_pos c]; exact ⟨rfl, .inl rfl⟩
    · rename_i c
      rw [if_neg c]
      split at h
      · rename_i c; rw [if_pos c]; exact ⟨rfl, .inl rfl⟩
      · exact (h rfl).elim
theorem vecOf_enc {v : List Int} (h : Sml v) (hl : v.length ≤ 64) : vecOf (encV v) = (trim v, 0) := by
  unfold vecOf
  have := trim_le v
  have e := rdV_app (trim v) [] h.trim (by omega)
  rw [List.append_nil] at e
  rw [show rdV (encV v) = _ from e]
  dsimp only
  rw [if_neg (by simp), trim_idem, if_neg (by simp)]
theorem strL_app (a b : List Int) : strL (a ++ b) = strL a ++ strL b := by
  unfold strL
  apply ByteArray.ext
  simp
theorem strL_size (a : List Int) : (strL a).size = a.length := by unfold strL; show (Array.size _) = _; simp

theorem bytes_pure (v p : List Int) (hv : okE (.l (.i .u64)) v) (hp : okE (.l (.i .u8)) p) : F10 v p = some (r1 true) := by
  have hb : Bys p := fun x hx => ok_u8 (hp.2 x hx)
  unfold F10
  simp only [F13_eq, Option.bind_some, Bool.not_true, cond_false, cif]
  split
  · rfl
  split
  · rfl
  rename_i l1 l2
  rcases F32_eq v hv with e | ⟨e, sv, lv⟩
  · rw [e]; rfl
  rw [e]
  have tl := trim_le v
  have el := encL_len (trim v)
  have by1 : Bys (encV v) := encL_byte sv.trim.vok (by omega)
  have e34 : F34 v [97, 98] = some (ro ([97, 98] ++ encV v)) := F34_eq v _ sv.vok (by omega) (by show _ < 1099511627776; simp; omega)
  have hs : (strL ([97, 98] ++ encV v)).toList == ((⟨#[97, 98]⟩ : ByteArray) ++ strL (encV v)).toList := by
    rw [strL_app, show strL [97, 98] = ⟨#[97, 98]⟩ from by decide +kernel, beq_self_eq_true]
  have hz : (⟨#[97, 98]⟩ : ByteArray).size + (strL (encV v)).size ≤ 9223372036854775807 := by
    rw [strL_size]; show 2 + (encL (trim v)).length ≤ _; omega
  have h2 : 0 < ([97, 98] : List Int).length := by decide
  simp only [Option.bind_some, Bool.not_true, cond_false, F35_eq v sv.vok (by omega), F36_eq _ by1, F36_eq p hb, vecOf_enc sv lv, F37_eq v sv.vok (by omega), beq_self_eq_true, cond_true, F21_eq (trim v) v (by omega) (by omega), same_trim, e34, hs, if_pos h2, if_pos hz]
  by_cases h0 : (vecOf p).2 = 0
  · obtain ⟨h3, h4, h5⟩ := vecOf_ok hb h0
    rw [h0]
    simp only [beq_self_eq_true, cond_true, F35_eq _ h4.vok (by omega), h3, Option.bind_some, Bool.not_true, cond_false, bne_self_eq_false]
    exact if_pos h2
  · obtain ⟨h3, h4⟩ := vecOf_err h0
    rw [h3]
    rcases h4 with h4 | h4 | h4 <;> rw [h4] <;> rfl
end Go.IM.V
